/- Blocks that are apart: their order makes no difference. Plain. No conditions. -/
import Derived.Test.YtgiceeholamphaaRun
namespace Go.Proofs.Ytgiceeholamphaa
open Go.ChangeShapes Go.WideShapes Go.ChangeAt Go.RowKit Go.Maps

abbrev FS := ByteArray → Option Int
/-- What a step writes. -/
inductive Wr where
  | put (s : ByteArray) (v : Int)
  | inc (s : ByteArray) (v : Int)
def Wr.name : Wr → ByteArray
  | .put s _ => s
  | .inc s _ => s
def Wr.app : Wr → FS → FS
  | .put s v => fun f => upd f s v
  | .inc s v => fun f => upd f s (wrap64 ((f s).getD 0 + v))
def apps : List Wr → FS → FS
  | [], f => f
  | x :: l, f => apps l (x.app f)
theorem apps_append (a b : List Wr) (f : FS) : apps (a ++ b) f = apps b (apps a f) := by
  induction a generalizing f with
  | nil => rfl
  | cons x a ih => exact ih _
theorem app_other (x : Wr) (f : FS) {s : ByteArray} (h : s ≠ x.name) : x.app f s = f s := by
  cases x <;> exact upd_other _ _ h
theorem app_agree (x : Wr) {f g : FS} {s : ByteArray} (h : f s = g s) : x.app f s = x.app g s := by
  by_cases e : s = x.name
  · cases x with
    | put t v => subst e; simp [Wr.app, upd_same]
    | inc t v => subst e; simp only [Wr.app, upd_same] at *; rw [h]
  · rw [app_other x f e, app_other x g e, h]
theorem apps_agree (l : List Wr) {f g : FS} {s : ByteArray} (h : f s = g s) : apps l f s = apps l g s := by
  induction l generalizing f g with
  | nil => exact h
  | cons x l ih => exact ih (app_agree x h)
theorem apps_other (l : List Wr) (f : FS) {s : ByteArray} (h : ∀ x ∈ l, s ≠ x.name) : apps l f s = f s := by
  induction l generalizing f with
  | nil => rfl
  | cons x l ih => exact (ih _ fun y hy => h y (List.mem_cons_of_mem _ hy)).trans (app_other x f (h x (by simp)))
theorem app_comm (x y : Wr) (f : FS) (h : x.name ≠ y.name ∨ ∃ s a b, x = .inc s a ∧ y = .inc s b) : x.app (y.app f) = y.app (x.app f) := by
  funext t
  rcases h with h | ⟨s, a, b, rfl, rfl⟩
  · by_cases e : t = x.name
    · have e2 : t ≠ y.name := fun e3 => h (e.symm.trans e3)
      rw [app_other y _ e2]
      exact app_agree x (app_other y f e2)
    · rw [app_other x _ e]
      exact (app_agree y (app_other x f e)).symm
  · by_cases e : t = s
    · subst e
      simp only [Wr.app, upd_same, Option.getD_some]
      congr 1
      simp only [wrap64]
      omega
    · simp only [Wr.app, upd_other _ _ e]
theorem apps_comm1 (x : Wr) (l : List Wr) (f : FS) (h : ∀ y ∈ l, ∀ g, x.app (y.app g) = y.app (x.app g)) : apps l (x.app f) = x.app (apps l f) := by
  induction l generalizing f with
  | nil => rfl
  | cons y l ih =>
    show apps l (y.app (x.app f)) = _
    rw [← h y (by simp) f]
    exact ih (y.app f) fun z hz => h z (List.mem_cons_of_mem _ hz)
theorem apps_comm (a b : List Wr) (f : FS) (h : ∀ x ∈ a, ∀ y ∈ b, ∀ g, x.app (y.app g) = y.app (x.app g)) : apps b (apps a f) = apps a (apps b f) := by
  induction a generalizing f with
  | nil => rfl
  | cons x a ih =>
    show apps b (apps a (x.app f)) = apps a (x.app (apps b f))
    rw [ih (x.app f) fun y hy => h y (List.mem_cons_of_mem _ hy), apps_comm1 x b f (h x (by simp))]

/-! ### What a program writes, and in how many steps: without a limit -/
abbrev EvN := List Wr × Nat
def seqE (g h : FS → EvN) : FS → EvN := fun f => ((g f).1 ++ (h (apps (g f).1 f)).1, (g f).2 + (h (apps (g f).1 f)).2)
def skipE : FS → EvN := fun _ => ([], 0)
def iterE (g : FS → EvN) : Nat → FS → EvN
  | 0 => skipE
  | n + 1 => seqE g (iterE g n)
def oneE (g : FS → EvN) : FS → EvN := fun f => ((g f).1, (g f).2 + 1)
/-- r does what g says, within the steps that are left. -/
def Tot (r : St → Option St) (g : FS → EvN) : Prop := ∀ f n, r (f, n) = if (g f).2 ≤ n then some (apps (g f).1 f, n - (g f).2) else none
/-- What g writes lies in A, D; it looks at R alone. -/
structure Frm (g : FS → EvN) (A D R : List ByteArray) : Prop where
  writes : ∀ f, ∀ x ∈ (g f).1, (∃ s v, x = .put s v ∧ s ∈ A) ∨ (∃ s v, x = .inc s v ∧ s ∈ D)
  reads : ∀ f f' : FS, (∀ s ∈ R, f s = f' s) → g f = g f'
theorem Tot.seq {r r' : St → Option St} {g g' : FS → EvN} (h : Tot r g) (h' : Tot r' g') : Tot (fun st => (r st).bind r') (seqE g g') := fun f n => by
  show (r (f, n)).bind r' = _
  rw [h f n]
  by_cases c : (g f).2 ≤ n
  · rw [if_pos c]
    show r' (apps (g f).1 f, n - (g f).2) = _
    rw [h']
    by_cases c' : (g' (apps (g f).1 f)).2 ≤ n - (g f).2
    · rw [if_pos c', if_pos (by simp only [seqE]; omega)]
      simp only [seqE, apps_append]
      congr 2
      omega
    · rw [if_neg c', if_neg (by simp only [seqE]; omega)]
  · rw [if_neg c, if_neg (by simp only [seqE]; omega)]
    rfl
theorem Tot.skip : Tot some skipE := fun f n => by simp [skipE, apps]
theorem Tot.iter {r : St → Option St} {g : FS → EvN} (h : Tot r g) : ∀ n, Tot (iterO r n) (iterE g n)
  | 0 => Tot.skip
  | n + 1 => h.seq (Tot.iter h n)
theorem Tot.one {r : St → Option St} {g : FS → EvN} (h : Tot r g) : Tot (fun st => if st.2 = 0 then none else r (st.1, st.2 - 1)) (oneE g) := fun f n => by
  show (if n = 0 then none else r (f, n - 1)) = _
  by_cases c : n = 0
  · rw [if_pos c, if_neg (by simp only [oneE]; omega)]
  · rw [if_neg c, h]
    by_cases c' : (g f).2 ≤ n - 1
    · rw [if_pos c', if_pos (by simp only [oneE]; omega)]
      simp only [oneE]
      congr 2
      omega
    · rw [if_neg c', if_neg (by simp only [oneE]; omega)]
section
variable {g g' : FS → EvN} {A D R A' D' R' : List ByteArray}
theorem Frm.mono (h : Frm g A D R) (hA : ∀ s ∈ A, s ∈ A') (hD : ∀ s ∈ D, s ∈ D') (hR : ∀ s ∈ R, s ∈ R') : Frm g A' D' R' :=
  ⟨fun f x hx => (h.writes f x hx).imp (fun ⟨s, v, e, m⟩ => ⟨s, v, e, hA s m⟩) (fun ⟨s, v, e, m⟩ => ⟨s, v, e, hD s m⟩), fun f f' hf => h.reads f f' fun s hs => hf s (hR s hs)⟩
theorem Frm.seq (h : Frm g A D R) (h' : Frm g' A D R) : Frm (seqE g g') A D R := by
  refine ⟨fun f x hx => ?_, fun f f' hf => ?_⟩
  · rcases List.mem_append.1 hx with hx | hx
    · exact h.writes f x hx
    · exact h'.writes _ x hx
  · have e1 := h.reads f f' hf
    have e2 := h'.reads (apps (g f).1 f) (apps (g f).1 f') fun s hs => apps_agree _ (hf s hs)
    simp only [seqE, ← e1, e2]
theorem Frm.skip : Frm skipE A D R := ⟨fun f x hx => (by cases hx), fun _ _ _ => rfl⟩
theorem Frm.iter (h : Frm g A D R) : ∀ n, Frm (iterE g n) A D R
  | 0 => Frm.skip
  | n + 1 => h.seq (Frm.iter h n)
theorem Frm.one (h : Frm g A D R) : Frm (oneE g) A D R := ⟨h.writes, fun f f' hf => by simp only [oneE, h.reads f f' hf]⟩
/-- Two that are apart. -/
structure Apt (A D R A' D' R' : List ByteArray) : Prop where
  aa : ∀ s ∈ A, s ∉ A'
  ad : ∀ s ∈ A, s ∉ D'
  ar : ∀ s ∈ A, s ∉ R'
  da : ∀ s ∈ D, s ∉ A'
  dr : ∀ s ∈ D, s ∉ R'
  ra : ∀ s ∈ R, s ∉ A'
  rd : ∀ s ∈ R, s ∉ D'
theorem Apt.symm (h : Apt A D R A' D' R') : Apt A' D' R' A D R :=
  ⟨fun s a b => h.aa s b a, fun s a b => h.da s b a, fun s a b => h.ra s b a, fun s a b => h.ad s b a, fun s a b => h.rd s b a, fun s a b => h.ar s b a, fun s a b => h.dr s b a⟩
theorem Tot.comm {r r' : St → Option St} (h : Tot r g) (h' : Tot r' g') (k : Frm g A D R) (k' : Frm g' A' D' R') (ha : Apt A D R A' D' R') (st : St) : (r st).bind r' = (r' st).bind r := by
  obtain ⟨f, n⟩ := st
  have e1 := h.seq h' f n
  have e2 := h'.seq h f n
  refine e1.trans (Eq.trans ?_ e2.symm)
  have q1 : g' (apps (g f).1 f) = g' f := k'.reads _ _ fun s hs => apps_other _ _ fun x hx e => by
    rcases k.writes f x hx with ⟨t, v, rfl, m⟩ | ⟨t, v, rfl, m⟩
    · exact ha.ar t m (by have e : s = t := e; rw [← e]; exact hs)
    · exact ha.dr t m (by have e : s = t := e; rw [← e]; exact hs)
  have q2 : g (apps (g' f).1 f) = g f := k.reads _ _ fun s hs => apps_other _ _ fun x hx e => by
    rcases k'.writes f x hx with ⟨t, v, rfl, m⟩ | ⟨t, v, rfl, m⟩
    · exact ha.ra s hs (by have e : s = t := e; rw [e]; exact m)
    · exact ha.rd s hs (by have e : s = t := e; rw [e]; exact m)
  have q3 : apps (g' f).1 (apps (g f).1 f) = apps (g f).1 (apps (g' f).1 f) := apps_comm _ _ f fun x hx y hy w => by
    refine app_comm x y w ?_
    rcases k.writes f x hx with ⟨t, v, rfl, m⟩ | ⟨t, v, rfl, m⟩ <;> rcases k'.writes f y hy with ⟨u, z, rfl, m'⟩ | ⟨u, z, rfl, m'⟩
    · exact .inl fun e => ha.aa t m (by have e : t = u := e; rw [e]; exact m')
    · exact .inl fun e => ha.ad t m (by have e : t = u := e; rw [e]; exact m')
    · exact .inl fun e => ha.da t m (by have e : t = u := e; rw [e]; exact m')
    · by_cases e : t = u
      · subst e; exact .inr ⟨t, v, z, rfl, rfl⟩
      · exact .inl e
  simp only [seqE, apps_append, q1, q2, q3, Nat.add_comm (g f).2]
end
theorem ev_reads : ∀ (e : ExprR) (f f' : FS), (∀ s ∈ e.names, f s = f' s) → e.ev f = e.ev f' := by
  refine ExprR.ind fun e ih f f' hf => ?_
  have hL : ∀ l : List ExprR, (∀ k ∈ l, ∀ f f' : FS, (∀ s ∈ k.names, f s = f' s) → k.ev f = k.ev f') → (∀ s ∈ namesE l, f s = f' s) → evs f l = evs f' l := fun l h => by
    induction l with
    | nil => intro _; rfl
    | cons k l ihl =>
      intro hs
      simp only [namesE, List.mem_append] at hs
      simp only [evs]
      rw [h k (by simp) f f' fun s hk => hs s (.inl hk), ihl (fun z hz => h z (List.mem_cons_of_mem _ hz)) fun s hk => hs s (.inr hk)]
  rw [e.names_eq] at hf
  simp only [List.mem_append] at hf
  rw [e.ev_eq, e.ev_eq]
  split
  · rfl
  · split
    · rename_i k2
      rw [hf e.name (.inl (by rw [if_pos k2]; simp))]
    · rw [hL e.kids ih fun s hs => hf s (.inr hs)]
/-- What a list of statements, of blocks writes. -/
structure Does (r : St → Option St) (A D R : List ByteArray) : Prop where
  has : ∃ g, Tot r g ∧ Frm g A D R
theorem Does.mono {r : St → Option St} {A D R A' D' R' : List ByteArray} (h : Does r A D R) (hA : ∀ s ∈ A, s ∈ A') (hD : ∀ s ∈ D, s ∈ D') (hR : ∀ s ∈ R, s ∈ R') : Does r A' D' R' := by
  obtain ⟨g, h1, h2⟩ := h.has
  exact ⟨g, h1, h2.mono hA hD hR⟩
theorem Does.comm {r r' : St → Option St} {A D R A' D' R' : List ByteArray} (h : Does r A D R) (h' : Does r' A' D' R') (ha : Apt A D R A' D' R') (st : St) : (r st).bind r' = (r' st).bind r := by
  obtain ⟨g, h1, h2⟩ := h.has
  obtain ⟨g', h3, h4⟩ := h'.has
  exact h1.comm h3 h2 h4 ha st
theorem Does.seq {r r' : St → Option St} {A D R : List ByteArray} (h : Does r A D R) (h' : Does r' A D R) : Does (fun st => (r st).bind r') A D R := by
  obtain ⟨g, h1, h2⟩ := h.has
  obtain ⟨g', h3, h4⟩ := h'.has
  exact ⟨_, h1.seq h3, h2.seq h4⟩
theorem does_listS : ∀ l : List StatR, (∀ x ∈ l, Does x.run x.assigns x.adds x.reads) → Does (runS l) (assignsS l) (addsS l) (readsS l)
  | [], _ => ⟨skipE, by rw [runS_nil]; exact Tot.skip, Frm.skip⟩
  | x :: l, h => by
    have h1 := (h x (by simp)).mono (A' := assignsS (x :: l)) (D' := addsS (x :: l)) (R' := readsS (x :: l)) (fun s hs => by simp only [assignsS, List.mem_append]; exact .inl hs) (fun s hs => by simp only [addsS, List.mem_append]; exact .inl hs) (fun s hs => by simp only [readsS, List.mem_append]; exact .inl hs)
    have h2 := (does_listS l fun y hy => h y (List.mem_cons_of_mem _ hy)).mono (A' := assignsS (x :: l)) (D' := addsS (x :: l)) (R' := readsS (x :: l)) (fun s hs => by simp only [assignsS, List.mem_append]; exact .inr hs) (fun s hs => by simp only [addsS, List.mem_append]; exact .inr hs) (fun s hs => by simp only [readsS, List.mem_append]; exact .inr hs)
    have e : runS (x :: l) = fun st => (x.run st).bind (runS l) := funext fun st => runS_cons x l st
    rw [e]
    exact h1.seq h2
theorem does_listB : ∀ l : List BlockR, (∀ b ∈ l, Does (runS b.l) (assignsS b.l) (addsS b.l) (readsS b.l)) → Does (runB l) (assignsB l) (addsB l) (readsB l)
  | [], _ => ⟨skipE, by rw [runB_nil]; exact Tot.skip, Frm.skip⟩
  | x :: l, h => by
    have h1 := (h x (by simp)).mono (A' := assignsB (x :: l)) (D' := addsB (x :: l)) (R' := readsB (x :: l)) (fun s hs => by simp only [assignsB, List.mem_append, BlockR.assigns_eq]; exact .inl hs) (fun s hs => by simp only [addsB, List.mem_append, BlockR.adds_eq]; exact .inl hs) (fun s hs => by simp only [readsB, List.mem_append, BlockR.reads_eq]; exact .inl hs)
    have h2 := (does_listB l fun y hy => h y (List.mem_cons_of_mem _ hy)).mono (A' := assignsB (x :: l)) (D' := addsB (x :: l)) (R' := readsB (x :: l)) (fun s hs => by simp only [assignsB, List.mem_append]; exact .inr hs) (fun s hs => by simp only [addsB, List.mem_append]; exact .inr hs) (fun s hs => by simp only [readsB, List.mem_append]; exact .inr hs)
    have e : runB (x :: l) = fun st => (runS x.l st).bind (runB l) := funext fun st => runB_cons x l st
    rw [e]
    exact h1.seq h2
theorem does_stat : ∀ x : StatR, Does x.run x.assigns x.adds x.reads := by
  refine StatR.ind fun x ih => ?_
  have hB : ∀ b ∈ x.blocks, Does (runS b.l) (assignsS b.l) (addsS b.l) (readsS b.l) := fun b hb => does_listS b.l (ih b hb)
  have hAll : Does (runB x.blocks) (assignsB x.blocks) (addsB x.blocks) (readsB x.blocks) := does_listB _ hB
  have sA : ∀ s ∈ assignsB x.blocks, s ∈ x.assigns := fun s hs => by rw [x.assigns_eq]; exact List.mem_append_right _ hs
  have sD : ∀ s ∈ addsB x.blocks, s ∈ x.adds := fun s hs => by rw [x.adds_eq]; exact List.mem_append_right _ hs
  have sR : ∀ s ∈ readsB x.blocks, s ∈ x.reads := fun s hs => by rw [x.reads_eq]; exact List.mem_append_right _ hs
  have sE : ∀ s ∈ x.e.names, s ∈ x.reads := fun s hs => by rw [x.reads_eq]; exact List.mem_append_left _ hs
  have hHead : Does (headRun x.blocks) x.assigns x.adds x.reads := by
    cases hb : x.blocks with
    | nil =>
      have e : headRun [] = some := by rw [headRun]
      rw [e]
      exact ⟨skipE, Tot.skip, Frm.skip⟩
    | cons b l =>
      rw [headRun_cons]
      refine (hB b (by rw [hb]; simp)).mono (fun s hs => sA s ?_) (fun s hs => sD s ?_) (fun s hs => sR s ?_) <;> rw [hb]
      · simp only [assignsB, BlockR.assigns_eq, List.mem_append]; exact .inl hs
      · simp only [addsB, BlockR.adds_eq, List.mem_append]; exact .inl hs
      · simp only [readsB, BlockR.reads_eq, List.mem_append]; exact .inl hs
  have hTail : Does (tailRun x.blocks) x.assigns x.adds x.reads := by
    cases hb : x.blocks with
    | nil =>
      have e : tailRun [] = some := by rw [tailRun]
      rw [e]
      exact ⟨skipE, Tot.skip, Frm.skip⟩
    | cons b l =>
      rw [tailRun_cons]
      refine (does_listB l fun c hc => hB c (by rw [hb]; exact List.mem_cons_of_mem _ hc)).mono (fun s hs => sA s ?_) (fun s hs => sD s ?_) (fun s hs => sR s ?_) <;> rw [hb]
      · simp only [assignsB, List.mem_append]; exact .inr hs
      · simp only [addsB, List.mem_append]; exact .inr hs
      · simp only [readsB, List.mem_append]; exact .inr hs
  by_cases h3 : x.kind ≤ 3
  · by_cases k1 : x.kind = 1
    · refine ⟨oneE fun f => ([.put x.name (x.e.ev f)], 0), fun f n => ?_, fun f y hy => ?_, fun f f' hf => ?_⟩
      · rw [x.run_eq, if_pos h3]
        simp only [oneE, Nat.zero_add]
        by_cases c : n = 0
        · rw [if_pos c, if_neg (by omega)]
        · rw [if_neg c, if_pos k1, if_pos (by omega)]; rfl
      · simp only [oneE, List.mem_singleton] at hy
        subst hy
        exact .inl ⟨_, _, rfl, by rw [x.assigns_eq, if_pos k1]; simp⟩
      · simp only [oneE, ev_reads x.e f f' fun s hs => hf s (sE s hs)]
    by_cases k2 : x.kind = 2
    · refine ⟨oneE fun f => ([.inc x.name (x.e.ev f)], 0), fun f n => ?_, fun f y hy => ?_, fun f f' hf => ?_⟩
      · rw [x.run_eq, if_pos h3]
        simp only [oneE, Nat.zero_add]
        by_cases c : n = 0
        · rw [if_pos c, if_neg (by omega)]
        · rw [if_neg c, if_neg k1, if_pos k2, if_pos (by omega)]; rfl
      · simp only [oneE, List.mem_singleton] at hy
        subst hy
        exact .inr ⟨_, _, rfl, by rw [x.adds_eq, if_pos k2]; simp⟩
      · simp only [oneE, ev_reads x.e f f' fun s hs => hf s (sE s hs)]
    obtain ⟨g1, t1, q1⟩ := hHead.has
    obtain ⟨g2, t2, q2⟩ := hTail.has
    refine ⟨fun f => if 0 < x.e.ev f then oneE g1 f else oneE g2 f, fun f n => ?_, fun f y hy => ?_, fun f f' hf => ?_⟩
    · rw [x.run_eq, if_pos h3, if_neg k1, if_neg k2]
      by_cases c : 0 < x.e.ev f
      · simp only [if_pos c]
        exact t1.one f n
      · simp only [if_neg c]
        exact t2.one f n
    · by_cases c : 0 < x.e.ev f
      · simp only [if_pos c] at hy
        exact q1.one.writes f y hy
      · simp only [if_neg c] at hy
        exact q2.one.writes f y hy
    · simp only [ev_reads x.e f f' fun s hs => hf s (sE s hs), q1.one.reads f f' hf, q2.one.reads f f' hf]
  · by_cases k4 : x.kind = 4
    · obtain ⟨g1, t1, q1⟩ := hHead.has
      have e : x.run = iterO (headRun x.blocks) x.n.toNat := funext fun st => by rw [x.run_eq, if_neg h3, if_pos k4]
      rw [e]
      exact ⟨_, t1.iter _, q1.iter _⟩
    · have e : x.run = runB x.blocks := funext fun st => by rw [x.run_eq, if_neg h3, if_neg k4]
      rw [e]
      exact hAll.mono sA sD sR
theorem does_block (b : BlockR) : Does (runS b.l) (assignsS b.l) (addsS b.l) (readsS b.l) := does_listS b.l fun x _ => does_stat x
/-- Blocks that are apart, two by two: in whatever order. -/
def aptB (a b : BlockR) : Prop := Apt (assignsS a.l) (addsS a.l) (readsS a.l) (assignsS b.l) (addsS b.l) (readsS b.l)
theorem aptB_symm {a b : BlockR} (h : aptB a b) : aptB b a := Apt.symm h
theorem runB_perm {l m : List BlockR} (h : l.Perm m) (ha : l.Pairwise aptB) : runB l = runB m := by
  induction h with
  | nil => rfl
  | @cons x l m h ih =>
    funext st
    rw [runB_cons, runB_cons, ih (List.pairwise_cons.1 ha).2]
  | @swap x y l =>
    funext st
    have h1 : aptB y x := (List.pairwise_cons.1 ha).1 x (by simp)
    rw [runB_cons, runB_cons]
    have e : ∀ (a b : BlockR) (s : St), (runS a.l s).bind (runB (b :: l)) = ((runS a.l s).bind (runS b.l)).bind (runB l) := fun a b s => by
      cases runS a.l s with
      | none => rfl
      | some t => exact runB_cons b l t
    rw [e, e, (does_block y).comm (does_block x) h1]
  | trans h1 h2 ih1 ih2 =>
    exact (ih1 ha).trans (ih2 ((h1.pairwise_iff fun h => aptB_symm h).1 ha))
/-- Blocks that mean the same one by one. -/
theorem runB_same : ∀ {l m : List BlockR}, l.length = m.length → (∀ i (h : i < l.length) (h' : i < m.length), runS l[i].l = runS m[i].l) → runB l = runB m
  | [], [], _, _ => rfl
  | [], _ :: _, h, _ => by simp at h
  | _ :: _, [], h, _ => by simp at h
  | a :: l, b :: m, hl, h => by
    funext st
    have h0 := h 0 (by simp) (by simp)
    simp only [List.getElem_cons_zero] at h0
    have hi := runB_same (l := l) (m := m) (by simpa using hl) fun i h1 h2 => by
      have := h (i + 1) (by simpa using h1) (by simpa using h2)
      simpa using this
    rw [runB_cons, runB_cons, h0, hi]
theorem runS_same : ∀ {l m : List StatR}, l.length = m.length → (∀ i (h : i < l.length) (h' : i < m.length), l[i].run = m[i].run) → runS l = runS m
  | [], [], _, _ => rfl
  | [], _ :: _, h, _ => by simp at h
  | _ :: _, [], h, _ => by simp at h
  | a :: l, b :: m, hl, h => by
    funext st
    have h0 := h 0 (by simp) (by simp)
    simp only [List.getElem_cons_zero] at h0
    have hi := runS_same (l := l) (m := m) (by simpa using hl) fun i h1 h2 => by
      have := h (i + 1) (by simpa using h1) (by simpa using h2)
      simpa using this
    rw [runS_cons, runS_cons, h0, hi]
end Go.Proofs.Ytgiceeholamphaa
