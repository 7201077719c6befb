/- A sync.WaitGroup under which goroutine 0 starts workers and waits for them: the protocol. No program; no conditions but those named. -/
import Derived.Test.YticdjkkcfdbdcaaAtom
namespace Go.Proofs.Yticdjkkcfdbdcaa
open Go.Conc Go.ConcN
/-- What goroutine 0 is about: 'sp r s': r are still to be started (s: 3 ahead of Add, 2 deaf, 1 the count is raised, 0 hearing again); then Wait. -/
inductive MT where
  | sp (r s : Nat)
  | anch | w2 (v : Nat) | w3a | w3 | w4 | ke | acq | ret
def MT.isOpen : MT → Prop | .sp _ _ | .anch | .w2 _ => True | _ => False
def MT.isW3 : MT → Prop | .w3a | .w3 => True | _ => False
def MT.isFin : MT → Prop | .w4 | .ke | .acq | .ret => True | _ => False
def MT.pend : MT → Nat | .sp _ s => if s ≤ 1 then 1 else 0 | _ => 0
def MT.deaf : MT → Nat | .sp _ s => if s = 3 ∨ s = 0 then 0 else 1 | .acq | .ret => 0 | _ => 1
/-- A goroutine's state: at work (x: the family's own), behind its release (6 hearing, 5 deaf and ahead of its add, 4, 3, 2 the last one's way to the semaphore), gone. -/
inductive WSt (τ : Type) where
  | main (m : MT)
  | work (x : τ)
  | st (k : Nat)
  | gone
section
variable {τ : Type}
def WSt.cv : WSt τ → Nat | .work _ => 1 | .st k => if 5 ≤ k then 1 else 0 | _ => 0
def WSt.isOpen : WSt τ → Prop | .st k => k = 6 ∨ k = 5 | _ => True
def WSt.deaf : WSt τ → Option Nat | .main m => some m.deaf | .work _ => some 0 | .st k => some (if k = 6 then 0 else 1) | .gone => none
def WSt.rel : WSt τ → Prop | .st _ | .gone => True | _ => False
def WSt.isMain : WSt τ → Prop | .main _ => True | _ => False
def WSt.x : WSt τ → Option τ | .work x => some x | _ => none
end
abbrev KKn : Int := 4294967296
def stW (Wg : Nat) : Addr := ⟨Wg, 0, none⟩
def smW (Wg : Nat) : Addr := ⟨Wg, 1, none⟩
def WgIs (ty : TypeId) (Wg : Nat) (w : World) (st sm : Int) : Prop := w.heap[Wg]? = some (.cells #[.int .u64 st, .int .u32 sm] ty)
def WgLoc (Wg : Nat) (l : Loc) : Prop := ∃ o s, l = .cell ⟨Wg, o, s⟩
section
variable {τ : Type} (ty : TypeId) (Wg m0 p0 : Nat) (Shun : Loc → Prop)
def Vn (n : Nat) (S : Nat → WSt τ) : Nat := sumTo n fun i => (S i).cv
def AllGone (n : Nat) (S : Nat → WSt τ) : Prop := ∀ i, i < n → i ≠ 0 → S i = .gone
inductive Mode (n : Nat) (S : Nat → WSt τ) : MT → Int → Int → Prop
  | opn {tg : MT} (h : tg.isOpen) (ho : ∀ i, i < n → (S i).isOpen) (hv : ∀ v, tg = .w2 v → Vn n S ≤ v ∧ 1 ≤ v) : Mode n S tg (((Vn n S + tg.pend : Nat) : Int) * KKn) 0
  | reg {tg : MT} (h : tg.isW3) (ho : ∀ i, i < n → (S i).isOpen) (hv : 1 ≤ Vn n S) : Mode n S tg (((Vn n S : Nat) : Int) * KKn + 1) 0
  | last {tg : MT} (L k : Nat) (h : tg.isW3) (hL : L < n) (hL0 : L ≠ 0) (hS : S L = .st k) (hk : k = 4 ∨ k = 3 ∨ k = 2) (hg : ∀ i, i < n → i ≠ 0 → i ≠ L → S i = .gone) : Mode n S tg (if k = 2 then 0 else 1) 0
  | sema (hg : AllGone n S) (tg : MT) (h : tg.isW3) : Mode n S tg 0 1
  | fin {tg : MT} (h : tg.isFin) (hg : AllGone n S) : Mode n S tg 0 0
/-- Goroutine i has released at r; what it did since is atomic, on the group's cells. -/
structure Rel' (t : Trace) (i r : Nat) : Prop where
  rel : RelBy (stW Wg) t i r
  late : ∀ p, r < p → t.g? p = some i → ∀ a, touchAt t p = some a → WgLoc Wg a.loc ∧ a.kind = .atomic
def Acqd (n : Nat) (t : Trace) : Prop :=
  ∃ q, t.act? q = some (.mark (.acquire (stW Wg))) ∧ t.g? q = some 0 ∧ t.heard q ∧ ∀ i, m0 ≤ i → i < n → ∃ r, Rel' Wg t i r ∧ r < q
structure WgInv (n : Nat) (S : Nat → WSt τ) (w : World) (t : Trace) : Prop where
  pos : 0 < m0 ∧ m0 ≤ n ∧ p0 ≤ t.size
  mode : ∃ tg st sm, S 0 = .main tg ∧ WgIs ty Wg w st sm ∧ Mode n S tg st sm ∧ (tg = .ret → Acqd Wg m0 n t)
  notMain : ∀ i, i < n → i ≠ 0 → ¬ (S i).isMain
  olds : ∀ i, i < m0 → i ≠ 0 → S i = .gone
  deaf : ∀ i, i < n → ∀ d, (S i).deaf = some d → Deaf t i = d
  rel : ∀ i, m0 ≤ i → i < n → (S i).rel → ∃ r, Rel' Wg t i r
  norel : NoRelease (stW Wg) t
  old : ∀ p, p < p0 → ∀ a, touchAt t p = some a → a.loc.isMemory = true → Knows t 0 p ∨ (Shun a.loc ∧ a.kind = .atomic)
  over : ∀ p g, p < p0 → t.g? p = some g → g ≠ 0 → t.counts p → ∃ j, t.g? j = some 0 ∧ HappensBefore t p j
  new : ∀ p op, p0 ≤ p → t[p]? = some op → op.g = 0 ∨ (m0 ≤ op.g ∧ op.g < n) ∨ op.act.touch? = none
end
theorem touchAt_app {t u : Trace} {p : Nat} (h : p < t.size) : touchAt (t ++ u) p = touchAt t p := touchAt_old h
section
variable {τ : Type} {ty : TypeId} {Wg m0 p0 : Nat} {Shun : Loc → Prop} {n : Nat} {S : Nat → WSt τ} {w w' : World} {t u : Trace} {i : Nat}
/-- Another's operations. -/
theorem Rel'.other {r : Nat} (h : Rel' Wg t i r) {j : Nat} (hj : j ≠ i) (hu : ∀ op ∈ u, op.g = j) : Rel' Wg (t ++ u) i r := by
  have key : ∀ p op, t.size ≤ p → (t ++ u)[p]? = some op → op.g = j := fun p op hp ho => by
    rcases getElem?_append_cases ho with ⟨hl, _⟩ | ⟨_, hm⟩
    · omega
    · exact hu op hm
  refine ⟨h.rel.app fun p hp hg => ?_, fun p hp hg a ha => ?_⟩
  · unfold Trace.g? at hg
    obtain ⟨op, ho, hog⟩ := Option.map_eq_some_iff.1 hg
    exact absurd (hog.symm.trans (key p op hp ho)) (fun e => hj e.symm)
  · rcases Nat.lt_or_ge p t.size with hl | hl
    · exact h.late p hp (by rw [← g?_old (u := u) hl]; exact hg) a (by rw [← touchAt_app (u := u) hl]; exact ha)
    · unfold Trace.g? at hg
      obtain ⟨op, ho, hog⟩ := Option.map_eq_some_iff.1 hg
      exact absurd (hog.symm.trans (key p op hl ho)) (fun e => hj e.symm)
theorem sw_lt {p r k : Nat} (h1 : r ≠ p) (h2 : r ≠ p + 1) (h : r < k) : r < sw p k := by
  unfold sw
  split <;> (try split) <;> omega
theorem sw_act' (t : Trace) (a b x y : MemOp) (k : Nat) : Trace.act? (t ++ #[a, b, x, y]) (sw (t.size + 1) k) = Trace.act? (t ++ #[a, x, b, y]) k := sw_act t a x b y k
theorem sw_g' (t : Trace) (a b x y : MemOp) (k : Nat) : Trace.g? (t ++ #[a, b, x, y]) (sw (t.size + 1) k) = Trace.g? (t ++ #[a, x, b, y]) k := sw_g t a x b y k
theorem sw_counts {a b x y : MemOp} (hb : CommOp b.act) (hx : CommOp x.act) {k : Nat} (h : Trace.counts (t ++ #[a, x, b, y]) k) : Trace.counts (t ++ #[a, b, x, y]) (sw (t.size + 1) k) := by
  obtain ⟨z, h1, h2, h3⟩ := h
  exact ⟨z, by rw [sw_act']; exact h1, h2, h3.imp id (sw_heard hx hb)⟩
/-- Two words of a hand-over change places. -/
theorem Rel'.swap {a b x y : MemOp} (hb : CommOp b.act) (hx : CommOp x.act) {r : Nat} (h : Rel' Wg (t ++ #[a, b, x, y]) i r) : Rel' Wg (t ++ #[a, x, b, y]) i r := by
  obtain ⟨e, n1, n2⟩ := sw_fix hb hx (.inr ⟨_, rfl⟩) h.rel.act
  have q1 := sw_act t a b x y r
  have q2 := sw_g t a b x y r
  have q3 := sw_heard hb hx h.rel.heard
  rw [e] at q1 q2 q3
  refine ⟨⟨q1.trans h.rel.act, q2.trans h.rel.g, q3, fun k hk hg hc => ?_⟩, fun p hp hg z hz => ?_⟩
  · exact h.rel.after _ (sw_lt n1 n2 hk) ((sw_g' t a b x y k).trans hg) (sw_counts hb hx hc)
  · rw [sw_touch] at hz
    exact h.late _ (sw_lt n1 n2 hp) ((sw_g' t a b x y p).trans hg) z hz
theorem WgInv.swap {a b x y : MemOp} (hb : CommOp b.act) (hx : CommOp x.act) (hg : b.g ≠ x.g) (ha : CommOp a.act) (hy : CommOp y.act) (hp : p0 ≤ t.size) (h : WgInv ty Wg m0 p0 Shun n S w (t ++ #[a, b, x, y])) : WgInv ty Wg m0 p0 Shun n S w (t ++ #[a, x, b, y]) where
  pos := ⟨h.pos.1, h.pos.2.1, by rw [Array.size_append]; omega⟩
  mode := by
    obtain ⟨tg, st, sm, h1, h2, h3, h4⟩ := h.mode
    refine ⟨tg, st, sm, h1, h2, h3, fun e => ?_⟩
    obtain ⟨q, q1, q2, q3, q4⟩ := h4 e
    obtain ⟨e1, n1, n2⟩ := sw_fix hb hx (.inr ⟨_, rfl⟩) q1
    have r1 := sw_act t a b x y q
    have r2 := sw_g t a b x y q
    have r3 := sw_heard hb hx q3
    rw [e1] at r1 r2 r3
    refine ⟨q, r1.trans q1, r2.trans q2, r3, fun i hi hin => ?_⟩
    obtain ⟨r, hr, hrq⟩ := q4 i hi hin
    exact ⟨r, hr.swap hb hx, hrq⟩
  notMain := h.notMain
  olds := h.olds
  deaf i hi d hd := by
    have h1 := h.deaf i hi d hd
    rw [Deaf_comm] at h1 ⊢
    · exact h1
    · intro op hop
      simp only [List.mem_toArray, List.mem_cons, List.not_mem_nil, or_false] at hop
      rcases hop with rfl | rfl | rfl | rfl <;> assumption
    · intro op hop
      simp only [List.mem_toArray, List.mem_cons, List.not_mem_nil, or_false] at hop
      rcases hop with rfl | rfl | rfl | rfl <;> assumption
  rel i h1 h2 h3 := by
    obtain ⟨r, hr⟩ := h.rel i h1 h2 h3
    exact ⟨r, hr.swap hb hx⟩
  norel k hk := h.norel _ ((sw_act' t a b x y k).trans hk)
  old p hp0 z hz hm := by
    have e : sw (t.size + 1) p = p := by unfold sw; rw [if_neg (by omega), if_neg (by omega)]
    rw [sw_touch, e] at hz
    refine (h.old p hp0 z hz hm).imp (fun hk => ?_) id
    have := sw_knows hb hx hg hk
    rwa [e] at this
  over p g hp0 hg1 hg0 hc := by
    have e : sw (t.size + 1) p = p := by unfold sw; rw [if_neg (by omega), if_neg (by omega)]
    have q1 := sw_g' t a b x y p
    have q2 := sw_counts hb hx hc
    rw [e] at q1 q2
    obtain ⟨j, j1, j2⟩ := h.over p g hp0 (q1.trans hg1) hg0 q2
    have := sw_hb hb hx hg j2
    rw [e] at this
    exact ⟨_, (sw_g t a b x y j).trans j1, this⟩
  new p op hp0 ho := by
    refine h.new (sw (t.size + 1) p) op ?_ ((sw_get t a x b y p).trans ho)
    unfold sw
    split <;> (try split) <;> omega
/-- Operations of its own: atomic on the group's cells and deaf, or touching nothing. -/
theorem Rel'.own {r : Nat} (h : Rel' Wg t i r) (hu : ∀ p op, t.size ≤ p → (t ++ u)[p]? = some op → op.g = i → ∀ a, op.act.touch? = some a → WgLoc Wg a.loc ∧ a.kind = .atomic ∧ ¬ (t ++ u).heard p) : Rel' Wg (t ++ u) i r := by
  refine ⟨h.rel.app fun p hp hg hc => ?_, fun p hp hg a ha => ?_⟩
  · unfold Trace.g? at hg
    obtain ⟨op, ho, hog⟩ := Option.map_eq_some_iff.1 hg
    obtain ⟨x, hx, _, hk⟩ := hc
    have hx' : op.act.touch? = some x := by simpa [Trace.act?, ho] using hx
    obtain ⟨_, h2, h3⟩ := hu p op hp ho hog x hx'
    rcases hk with hk | hk
    · exact hk h2
    · exact h3 hk
  · rcases Nat.lt_or_ge p t.size with hl | hl
    · exact h.late p hp (by rw [← g?_old (u := u) hl]; exact hg) a (by rw [← touchAt_app (u := u) hl]; exact ha)
    · unfold Trace.g? at hg
      obtain ⟨op, ho, hog⟩ := Option.map_eq_some_iff.1 hg
      have hx' : op.act.touch? = some a := by simpa [touchAt, Trace.act?, ho] using ha
      exact ⟨(hu p op hl ho hog a hx').1, (hu p op hl ho hog a hx').2.1⟩
theorem Acqd.app (h : Acqd Wg m0 n t) (hu : ∀ j r, m0 ≤ j → j < n → Rel' Wg t j r → Rel' Wg (t ++ u) j r) : Acqd Wg m0 n (t ++ u) := by
  obtain ⟨q, h1, h2, h3, h4⟩ := h
  have hq := lt_of_act? h1
  exact ⟨q, by rw [act?_old hq]; exact h1, by rw [g?_old hq]; exact h2, (heard_old hq).2 h3, fun j hj hjn => let ⟨r, hr, hrq⟩ := h4 j hj hjn; ⟨r, hu j r hj hjn hr, hrq⟩⟩
theorem counts_app {p : Nat} (h : p < t.size) : (t ++ u).counts p ↔ t.counts p := counts_old h
theorem g?_lt {p g : Nat} (h : t.g? p = some g) : p < t.size := by
  unfold Trace.g? at h
  obtain ⟨z, hz, _⟩ := Option.map_eq_some_iff.1 h
  exact lt_size_of_getElem? hz
/-- WHATEVER STEP OF i's. -/
theorem WgInv.step (h : WgInv ty Wg m0 p0 Shun n S w t) (hi : i < n) (hi0 : i = 0 ∨ m0 ≤ i) (hu : ∀ op ∈ u, op.g = i) (hnr : ∀ op ∈ u, op.act ≠ .mark (.release (stW Wg))) {s' : WSt τ} {tg : MT} {st sm : Int}
    (h0 : upd S i s' 0 = .main tg) (hw : WgIs ty Wg w' st sm) (hm : Mode n (upd S i s') tg st sm) (hacq : tg = .ret → Acqd Wg m0 n (t ++ u)) (hmn : i ≠ 0 → ¬ s'.isMain) (hd : ∀ d, s'.deaf = some d → Deaf (t ++ u) i = d)
    (hrel : i ≠ 0 → s'.rel → ∃ r, Rel' Wg (t ++ u) i r) : WgInv ty Wg m0 p0 Shun n (upd S i s') w' (t ++ u) := by
  refine ⟨⟨h.pos.1, h.pos.2.1, by simp; have := h.pos.2.2; omega⟩, ⟨tg, st, sm, h0, hw, hm, hacq⟩, fun j hj hj0 => ?_, fun j hj hj0 => ?_, fun j hj d hdj => ?_, fun j hj hjn hr => ?_, h.norel.app hnr, fun p hp a ha hmem => ?_, fun p g hp hg hg0 hc => ?_, fun p op hp ho => ?_⟩
  · by_cases e : j = i
    · subst e; rw [upd_same]; exact hmn hj0
    · rw [upd_ne S _ e]; exact h.notMain j hj hj0
  · have e : j ≠ i := by omega
    rw [upd_ne S _ e]; exact h.olds j hj hj0
  · by_cases e : j = i
    · subst e; rw [upd_same] at hdj; exact hd d hdj
    · rw [upd_ne S _ e] at hdj
      rw [Deaf_other t (fun x => e x.symm) u hu]; exact h.deaf j hj d hdj
  · by_cases e : j = i
    · subst e; rw [upd_same] at hr; exact hrel (by have := h.pos.1; omega) hr
    · rw [upd_ne S _ e] at hr
      obtain ⟨r, hr'⟩ := h.rel j hj hjn hr
      exact ⟨r, hr'.other (fun x => e x.symm) hu⟩
  · have hl : p < t.size := by have := h.pos.2.2; omega
    rw [touchAt_app hl] at ha
    exact (h.old p hp a ha hmem).imp (·.app u) id
  · have hl : p < t.size := by have := h.pos.2.2; omega
    rw [g?_old hl] at hg
    obtain ⟨j, hj, hb⟩ := h.over p g hp hg hg0 ((counts_app hl).1 hc)
    exact ⟨j, by rw [g?_old (g?_lt hj)]; exact hj, hb_app u hb⟩
  · rcases getElem?_append_cases ho with ⟨hl, ho'⟩ | ⟨_, hm⟩
    · exact h.new p op hp ho'
    · rw [hu op hm]
      rcases hi0 with e | e
      · exact .inl e
      · exact .inr (.inl ⟨e, hi⟩)
theorem upd_self {α : Type} (f : Nat → α) (i : Nat) : upd f i (f i) = f := by
  funext j
  by_cases e : j = i
  · subst e; rw [upd_same]
  · rw [upd_ne f _ e]
/-- Nothing is listed, the group stands. -/
theorem WgInv.still (h : WgInv ty Wg m0 p0 Shun n S w t) (hw : w'.heap[Wg]? = w.heap[Wg]?) : WgInv ty Wg m0 p0 Shun n S w' t := by
  obtain ⟨tg, st, sm, h1, h2, h3⟩ := h.mode
  exact ⟨h.pos, ⟨tg, st, sm, h1, hw.trans h2, h3⟩, h.notMain, h.olds, h.deaf, h.rel, h.norel, h.old, h.over, h.new⟩
/-- Operations of one who is at work, or of goroutine 0, that leave the group and say no word of the library's. -/
theorem WgInv.plain (h : WgInv ty Wg m0 p0 Shun n S w t) (hi : i < n) (hr : ¬ (S i).rel) (hu : ∀ op ∈ u, op.g = i ∧ op.act ≠ .mark (.release (stW Wg))) (hd : Deaf (t ++ u) i = Deaf t i) (hw : w'.heap[Wg]? = w.heap[Wg]?) : WgInv ty Wg m0 p0 Shun n S w' (t ++ u) := by
  obtain ⟨tg, st, sm, h1, h2, h3, h4⟩ := h.mode
  have hi0 : i = 0 ∨ m0 ≤ i := by
    by_cases e : i = 0
    · exact .inl e
    · right
      rcases Nat.lt_or_ge i m0 with hl | hl
      · exact absurd (by rw [h.olds i hl e]; trivial) hr
      · exact hl
  have := h.step (w' := w') (s' := S i) hi hi0 (fun op hop => (hu op hop).1) (fun op hop => (hu op hop).2) (tg := tg) (st := st) (sm := sm) (by rw [upd_self]; exact h1) (hw.trans h2) (by rw [upd_self]; exact h3)
    (fun e => (h4 e).app fun j r hj hjn hr' => by
      by_cases ej : j = i
      · subst ej
        subst e
        -- at 'ret' all are gone
        cases h3 with
        | fin hf hg => exact absurd (by rw [hg j hjn (by have := h.pos.1; omega)]; trivial) hr
        | opn hf _ _ => exact hf.elim
        | reg hf _ _ => exact hf.elim
        | last _ _ hf _ _ _ _ _ => exact hf.elim
        | sema _ _ hf => exact hf.elim
      · exact hr'.other (fun x => ej x.symm) (fun op hop => (hu op hop).1)) (fun hne => h.notMain i hi hne) (fun d hd' => by rw [hd]; exact h.deaf i hi d hd') (fun _ hr' => absurd hr' hr)
  rw [upd_self] at this
  exact this
/-- One that is gone slips. -/
theorem WgInv.mute (h : WgInv ty Wg m0 p0 Shun n S w t) (hi : i < n) (hi0 : i ≠ 0) (hg : S i = .gone) (hu : ∀ op ∈ u, op.g = i ∧ op.act.touch? = none ∧ op.act ≠ .mark (.release (stW Wg))) : WgInv ty Wg m0 p0 Shun n S w (t ++ u) := by
  have hown : ∀ r, Rel' Wg t i r → Rel' Wg (t ++ u) i r := fun r hr => hr.own fun p op hp ho _ a ha => by
    rcases getElem?_append_cases ho with ⟨hl, _⟩ | ⟨_, hm⟩
    · omega
    · rw [(hu op hm).2.1] at ha; cases ha
  have hany : ∀ j r, Rel' Wg t j r → Rel' Wg (t ++ u) j r := fun j r hr => by
    by_cases e : j = i
    · subst e; exact hown r hr
    · exact hr.other (fun x => e x.symm) (fun op hop => (hu op hop).1)
  obtain ⟨tg, st, sm, h1, h2, h3, h4⟩ := h.mode
  refine ⟨⟨h.pos.1, h.pos.2.1, by simp; have := h.pos.2.2; omega⟩, ⟨tg, st, sm, h1, h2, h3, fun e => (h4 e).app fun j r _ _ hr => hany j r hr⟩, h.notMain, h.olds, fun j hj d hd => ?_, fun j hj hjn hr => ?_, h.norel.app (fun op hop => (hu op hop).2.2), fun p hp a ha hmem => ?_, fun p g hp hg hg0 hc => ?_, fun p op hp ho => ?_⟩
  · by_cases e : j = i
    · subst e; rw [hg] at hd; cases hd
    · rw [Deaf_other t (fun x => e x.symm) u (fun op hop => (hu op hop).1)]; exact h.deaf j hj d hd
  · obtain ⟨r, hr'⟩ := h.rel j hj hjn hr
    exact ⟨r, hany j r hr'⟩
  · have hl : p < t.size := by have := h.pos.2.2; omega
    rw [touchAt_app hl] at ha
    exact (h.old p hp a ha hmem).imp (·.app u) id
  · have hl : p < t.size := by have := h.pos.2.2; omega
    rw [g?_old hl] at hg
    obtain ⟨j, hj, hb⟩ := h.over p g hp hg hg0 ((counts_app hl).1 hc)
    exact ⟨j, by rw [g?_old (g?_lt hj)]; exact hj, hb_app u hb⟩
  · rcases getElem?_append_cases ho with ⟨hl, ho'⟩ | ⟨_, hm⟩
    · exact h.new p op hp ho'
    · exact .inr (.inr (hu op hm).2.1)
theorem Vn_spawn (n : Nat) (S : Nat → WSt τ) (m m' : MT) (h0 : S 0 = .main m) (hn : 0 < n) (x : τ) : Vn (n + 1) (upd (upd S 0 (.main m')) n (.work x)) = Vn n S + 1 := by
  unfold Vn
  simp only [sumTo]
  rw [upd_same]
  have : sumTo n (fun i => (upd (upd S 0 (.main m')) n (.work x) i).cv) = sumTo n (fun i => (S i).cv) := sumTo_congr fun i hi => by
    rw [upd_ne _ _ (by omega : i ≠ n)]
    by_cases e : i = 0
    · subst e; rw [upd_same, h0]; rfl
    · rw [upd_ne _ _ e]
  rw [this]; rfl
/-- A go statement. -/
theorem WgInv.spawn {r : Nat} (h : WgInv ty Wg m0 p0 Shun n S w t) (h0 : S 0 = .main (.sp (r + 1) 0)) (hab : Deaf t n = 0) {a b : MemOp} (ha : a.g = 0 ∧ a.act = .go n) (hb : b.g = n ∧ b.act = .start) (hw : w'.heap[Wg]? = w.heap[Wg]?) (x : τ) :
    WgInv ty Wg m0 p0 Shun (n + 1) (upd (upd S 0 (.main (.sp r 3))) n (.work x)) w' (t ++ #[a, b]) := by
  have hn : 0 < n := by have := h.pos; omega
  have eab : t ++ #[a, b] = (t ++ #[a]) ++ #[b] := by apply Array.ext'; simp
  have hda : ∀ j, Deaf (t ++ #[a, b]) j = Deaf t j := fun j => by
    rw [eab, Deaf_push, Deaf_push]
    simp [deafStep, ha.2, hb.2]
  have hget : ∀ j, j < n → j ≠ 0 → upd (upd S 0 (.main (.sp r 3))) n (.work x) j = S j := fun j hj hj0 => by rw [upd_ne _ _ (by omega), upd_ne _ _ hj0]
  have h00 : upd (upd S 0 (.main (.sp r 3))) n (.work x) 0 = .main (.sp r 3) := by rw [upd_ne _ _ (by omega), upd_same]
  have hnn : upd (upd S 0 (.main (.sp r 3))) n (.work x) n = .work x := upd_same _ _ _
  have hRel : ∀ j, j < n → j ≠ 0 → ∀ r, Rel' Wg t j r → Rel' Wg (t ++ #[a, b]) j r := fun j hj hj0 r hr => by
    rw [eab]
    exact (hr.other (j := 0) (fun e => hj0 e.symm) (fun op hop => by simp at hop; rw [hop]; exact ha.1)).other (j := n) (by omega) (fun op hop => by simp at hop; rw [hop]; exact hb.1)
  have hnt : ∀ op ∈ #[a, b], op.act.touch? = none ∧ op.act ≠ .mark (.release (stW Wg)) ∧ (op.g = 0 ∨ op.g = n) := by
    intro op hop
    simp only [List.mem_toArray, List.mem_cons, List.not_mem_nil, or_false] at hop
    rcases hop with rfl | rfl
    · rw [ha.2]; exact ⟨rfl, by simp, .inl ha.1⟩
    · rw [hb.2]; exact ⟨rfl, by simp, .inr hb.1⟩
  obtain ⟨tg, st, sm, h1, h2, h3, _⟩ := h.mode
  obtain rfl : tg = .sp (r + 1) 0 := by rw [h0] at h1; cases h1; rfl
  have hm : Mode (n + 1) (upd (upd S 0 (.main (.sp r 3))) n (.work x)) (.sp r 3) st sm := by
    cases h3 with
    | opn hf ho hv =>
      have e := Vn_spawn n S _ (.sp r 3) h0 hn x
      have := Mode.opn (n := n + 1) (S := upd (upd S 0 (.main (.sp r 3))) n (.work x)) (tg := .sp r 3) trivial (fun j hj => by
        by_cases e1 : j = n
        · subst e1; rw [hnn]; trivial
        · by_cases e2 : j = 0
          · subst e2; rw [h00]; trivial
          · rw [hget j (by omega) e2]; exact ho j (by omega)) (fun v hv => by cases hv)
      rw [e] at this
      simpa [MT.pend] using this
    | reg hf _ _ => exact hf.elim
    | last _ _ hf _ _ _ _ _ => exact hf.elim
    | sema _ _ hf => exact hf.elim
    | fin hf _ => exact hf.elim
  refine ⟨⟨h.pos.1, by have := h.pos; omega, by simp; have := h.pos.2.2; omega⟩, ⟨_, st, sm, h00, hw.trans h2, hm, fun e => by cases e⟩, fun j hj hj0 => ?_, fun j hj hj0 => ?_, fun j hj d hd => ?_, fun j hj hjn hr => ?_, h.norel.app (fun op hop => (hnt op hop).2.1), fun p hp c hc hmem => ?_, fun p g hp hg hg0 hc => ?_, fun p op hp ho => ?_⟩
  · by_cases e1 : j = n
    · subst e1; rw [hnn]; exact id
    · rw [hget j (by omega) hj0]; exact h.notMain j (by omega) hj0
  · have : j < n := by have := h.pos; omega
    rw [hget j this hj0]; exact h.olds j hj hj0
  · rw [hda]
    by_cases e1 : j = n
    · subst e1; rw [hnn] at hd; cases hd; exact hab
    · by_cases e2 : j = 0
      · subst e2
        rw [h00] at hd
        cases hd
        exact h.deaf 0 hn 0 (by rw [h0]; rfl)
      · rw [hget j (by omega) e2] at hd; exact h.deaf j (by omega) d hd
  · by_cases e1 : j = n
    · subst e1; rw [hnn] at hr; exact hr.elim
    · have hj0 : j ≠ 0 := by have := h.pos; omega
      rw [hget j (by omega) hj0] at hr
      obtain ⟨r', hr'⟩ := h.rel j hj (by omega) hr
      exact ⟨r', hRel j (by omega) hj0 r' hr'⟩
  · have hl : p < t.size := by have := h.pos.2.2; omega
    rw [touchAt_app hl] at hc
    exact (h.old p hp c hc hmem).imp (·.app _) id
  · have hl : p < t.size := by have := h.pos.2.2; omega
    rw [g?_old hl] at hg
    obtain ⟨j, hj, hb'⟩ := h.over p g hp hg hg0 ((counts_app hl).1 hc)
    exact ⟨j, by rw [g?_old (g?_lt hj)]; exact hj, hb_app _ hb'⟩
  · rcases getElem?_append_cases ho with ⟨hl, ho'⟩ | ⟨_, hm⟩
    · rcases h.new p op hp ho' with x | ⟨x, y⟩ | x
      · exact .inl x
      · exact .inr (.inl ⟨x, by omega⟩)
      · exact .inr (.inr x)
    · exact .inr (.inr (hnt op hm).1)
/-- Behind the wait: all the others have gone, and goroutine 0 knows what was done. -/
theorem WgInv.past {K : Nat → LK} (h : WgInv ty Wg m0 p0 Shun n S w t) (h0 : S 0 = .main .ret) (hl : Lic n K w t) : Past (fun l => Shun l ∨ WgLoc Wg l) w.heap.size t ∧ AllGone n S := by
  obtain ⟨tg, st, sm, h1, h2, h3, h4⟩ := h.mode
  obtain rfl : tg = .ret := by rw [h0] at h1; cases h1; rfl
  have hg : AllGone n S := by
    cases h3 with
    | fin _ hg => exact hg
    | opn hf _ _ => exact hf.elim
    | reg hf _ _ => exact hf.elim
    | last _ _ hf _ _ _ _ _ => exact hf.elim
    | sema _ _ hf => exact hf.elim
  obtain ⟨q, hq1, hq2, hq3, hq4⟩ := h4 rfl
  have edge : ∀ i r, Rel' Wg t i r → r < q → HappensBefore t r q := fun i r hr hrq => .single (.inr ⟨.marked hrq (.inr hr.rel.act) hq1 (fun k _ _ => h.norel k), hr.rel.heard, hq3⟩)
  obtain ⟨zq, hzq, hzg⟩ := Option.map_eq_some_iff.1 (show (t[q]?).map (·.g) = some 0 from hq2)
  have know : ∀ p g, p0 ≤ p → t.g? p = some g → g ≠ 0 → ∀ a, touchAt t p = some a → (∃ r, Rel' Wg t g r ∧ HappensBefore t p q) ∨ (∃ r, Rel' Wg t g r ∧ r < p) := fun p g hp hpg hg0 a ha => by
    obtain ⟨op, hop, hopg⟩ := Option.map_eq_some_iff.1 (show (t[p]?).map (·.g) = some g from hpg)
    have hx' : op.act.touch? = some a := by simpa [touchAt, Trace.act?, hop] using ha
    rcases h.new p op hp hop with e | ⟨e1, e2⟩ | e
    · exact absurd (hopg.symm.trans e) hg0
    · rw [hopg] at e1 e2
      obtain ⟨r, hr, hrq⟩ := hq4 g e1 e2
      rcases Nat.lt_or_ge r p with hlt | hge
      · exact .inr ⟨r, hr, hlt⟩
      · refine .inl ⟨r, hr, ?_⟩
        rcases Nat.lt_or_ge p r with h5 | h5
        · exact .trans (.single (.inl ⟨h5, g, hpg, hr.rel.g⟩)) (edge g r hr hrq)
        · obtain rfl : p = r := by omega
          exact edge g p hr hrq
    · rw [e] at hx'; cases hx'
  refine ⟨⟨hl.race, fun p a ha hmem => ?_, fun p g hpg hg0 hc => ?_, h.deaf 0 (by have := h.pos; omega) 0 (by rw [h0]; rfl), hl.seen⟩, hg⟩
  · rcases Nat.lt_or_ge p p0 with hp | hp
    · exact (h.old p hp a ha hmem).imp id (fun x => ⟨.inl x.1, x.2⟩)
    · obtain ⟨op, hop, hopa⟩ := touch_of ha
      by_cases e : op.g = 0
      · have := knows_own hop
        rw [e] at this
        exact .inl this
      · rcases know p op.g hp (by simp [Trace.g?, hop]) e a ha with ⟨r, hr, hb⟩ | ⟨r, hr, hrp⟩
        · exact .inl ⟨q, zq, hzq, hzg, .inr hb⟩
        · have := hr.late p hrp (by simp [Trace.g?, hop]) a ha
          exact .inr ⟨.inr this.1, this.2⟩
  · rcases Nat.lt_or_ge p p0 with hp | hp
    · exact h.over p g hp hpg hg0 hc
    · have hc' := hc
      obtain ⟨a, ha, _⟩ := hc'
      rcases know p g hp hpg hg0 a ha with ⟨r, hr, hb⟩ | ⟨r, hr, hrp⟩
      · exact ⟨q, hq2, hb⟩
      · exact absurd hc (hr.rel.after p hrp hpg)
/-- The beginning. -/
theorem WgInv.start {r : Nat} {P : Program} {gs : Array Goroutine} {q : Nat → Nat} (hP : Past Shun w.heap.size t) (hL : Leavers P t gs q) (hpos : 0 < gs.size) (hw : WgIs ty Wg w 0 0) (hnr : NoRelease (stW Wg) t) :
    WgInv ty Wg gs.size t.size Shun gs.size (fun i => if i = 0 then (.main (.sp r 3) : WSt τ) else .gone) w t := by
  have hV : Vn gs.size (fun i => if i = 0 then (.main (.sp r 3) : WSt τ) else .gone) = 0 := by
    unfold Vn
    have : sumTo gs.size (fun i => (if i = 0 then (.main (.sp r 3) : WSt τ) else .gone).cv) = sumTo gs.size (fun _ => 0) := sumTo_congr fun i _ => by by_cases e : i = 0 <;> simp [e, WSt.cv]
    rw [this]
    generalize gs.size = m
    induction m with
    | zero => rfl
    | succ m ih => simp [sumTo, ih]
  refine ⟨⟨hpos, Nat.le_refl _, Nat.le_refl _⟩, ⟨.sp r 3, 0, 0, by simp, hw, ?_, fun e => by cases e⟩, fun i _ hi0 => by simp [hi0, WSt.isMain], fun i _ hi0 => by simp [hi0], fun i hi d hd => ?_, fun i hi hi2 _ => by omega, hnr, fun p _ a ha hm => hP.known p a ha hm, fun p g _ hg hg0 hc => hP.over p g hg hg0 hc, fun p op hp ho => ?_⟩
  · have := Mode.opn (n := gs.size) (S := fun i => if i = 0 then (.main (.sp r 3) : WSt τ) else .gone) (tg := .sp r 3) trivial (fun i _ => by by_cases e : i = 0 <;> simp [e, WSt.isOpen]) (fun v hv => by cases hv)
    rw [hV] at this
    simpa [MT.pend] using this
  · by_cases e : i = 0
    · subst e
      simp only [if_true, WSt.deaf, MT.deaf, true_or, Option.some.injEq] at hd
      rw [hP.hears, ← hd]
    · simp [e, WSt.deaf] at hd
  · have := lt_size_of_getElem? ho; omega
end
end Go.Proofs.Yticdjkkcfdbdcaa

/- The rules for a group: the worker's Done, goroutine 0's Add, go, Wait. No program; no conditions but those named. -/
namespace Go.Proofs.Yticdjkkcfdbdcaa
open Go.Conc Go.ConcN
theorem loc_of_ofEvent' {e : Event} {m : Mark} (h : MemAct.ofEvent e = .mark m) : e.loc = .mark m := by
  obtain ⟨loc, wr, sy⟩ := e
  cases loc with
  | mark m' => simp [MemAct.ofEvent] at h; rw [h]
  | obj c => cases wr <;> cases sy <;> simp [MemAct.ofEvent] at h
  | _ => simp [MemAct.ofEvent] at h
/-- At most the group's block turns. -/
structure WgTurn (Wg : Nat) (w w' : World) : Prop where
  size : w'.heap.size = w.heap.size
  tape : w'.tape = w.tape
  os : w'.os = w.os
  output : w'.output = w.output
  block : ∀ b : Nat, b ≠ Wg → w'.heap[b]? = w.heap[b]?
/-- A family's own protocol, beside the group. -/
structure Fam where
  τ : Type
  G : Nat → (Nat → Option τ) → (Nat → LK) → World → Trace → Prop
  GR : Nat → World → World → Prop
  Q : Nat → τ → LK → World → Prop
  idle : τ → Nat → Prop
structure Fam.Ok (fm : Fam) (Wg : Nat) : Prop where
  refl : ∀ i w, fm.GR i w w
  trans : ∀ i a b c, fm.GR i a b → fm.GR i b c → fm.GR i a c
  at_ : ∀ i w d, fm.GR i w (w.at d)
  gAt : ∀ n T K w t d, fm.G n T K w t → fm.G n T K (w.at d) t
  mute : ∀ n T K w t i (u : Trace), fm.G n T K w t → T i = none → (∀ op ∈ u, op.g = i ∧ op.act.touch? = none ∧ ∀ a, op.act ≠ .mark (.release a)) → fm.G n T K w (t ++ u)
  own : ∀ n T K w w' t i es fn pos, fm.G n T K w t → Lic n K w t → i < n → (i = 0 ∨ T i ≠ none) → Own (K i) w w' es → fm.G n T (upd K i ((K i).grow w.heap.size w'.heap.size)) w' (t ++ MemOp.ofEvents i fn pos es) ∧ ∀ j, j < n → j ≠ i → fm.GR j w w'
  wg : ∀ n T K (w w' : World) t i (u : Trace), fm.G n T K w t → Lic n K w t → i < n → (∀ i, i < n → ∀ l, (K i).W l ∨ (K i).R l → ¬ WgLoc Wg l) → WgTurn Wg w w' → (∃ c e f, w.heap[Wg]? = some (.cells c e f)) → (∀ o, w.heap[Wg]? = some o → ∃ o', w'.heap[Wg]? = some o' ∧ Alike o o') → (∀ op ∈ u, op.g = i ∧ (∀ a, op.act ≠ .mark (.release a)) ∧ ∀ a, op.act.touch? = some a → WgLoc Wg a.loc) → fm.G n T K w' (t ++ u) ∧ ∀ j, j < n → j ≠ i → fm.GR j w w'
  leave : ∀ n T K w t i x, fm.G n T K w t → Lic n K w t → i < n → T i = some x → fm.Q i x (K i) w → fm.G n (upd T i none) K w t
  live : ∀ n T K w t, fm.G n T K w t → Lic n K w t → (∃ i, i < n ∧ T i ≠ none) → ∃ i, i < n ∧ T i ≠ none ∧ ∀ x, T i = some x → ∀ c, fm.idle x c → ¬ ChanMt w c
  noC : ∀ n T K w t i j x c, fm.G n T K w t → i < n → j < n → T j = some x → fm.idle x c → ¬ (K i).W (.obj c)
  swap : (∃ x c, fm.idle x c) → ∀ n T K w t (a b x y : MemOp), (∃ T0 K0 w0, fm.G n T0 K0 w0 t) → fm.G n T K w (t ++ #[a, b, x, y]) → b.g ≠ x.g → CommOp a.act → CommOp b.act → CommOp x.act → CommOp y.act → (∃ c k, b.act = .sendDone c k) → (∃ c k cap, x.act = .recv c k cap) → fm.G n T K w (t ++ #[a, x, b, y])
theorem sumTo_zero (m : Nat) : sumTo m (fun _ => 0) = 0 := by
  induction m with
  | zero => rfl
  | succ m ih => simp [sumTo, ih]
section
variable (P : Program) (fm : Fam) (ty : TypeId) (Wg m0 p0 tot : Nat) (Shun : Loc → Prop) (Anc : Goroutine → World → Prop)
def SpOk {τ : Type} (s : WSt τ) : Prop := ∀ r k, s = .main (.sp r k) → k < 3 → 1 ≤ r
def leftW {τ : Type} : WSt τ → Nat | .main (.sp r _) => r | _ => 0
def wgProto : Proto P where
  σ := WSt fm.τ
  F n S K w t := WgInv ty Wg m0 p0 Shun n S w t ∧ fm.G n (fun i => (S i).x) K w t ∧ (∀ i, i < n → S i ≠ .gone → ∀ l, WgLoc Wg l → (K i).A l) ∧ (n + leftW (S 0) = m0 + tot ∧ tot ≤ 16) ∧ SpOk (S 0)
  FR i w w₁ := fm.GR i w w₁ ∧ (i = 0 → ∀ st sm, WgIs ty Wg w st sm → ∃ st' sm', WgIs ty Wg w₁ st' sm' ∧ st' ≤ st)
  blk _ S w i := i = 0 ∧ S 0 = .main .w3 ∧ ∃ st, WgIs ty Wg w st 0
  gone s := s = .gone
  left _ S := leftW (S 0)
  End s g w := s = .main .ret ∧ Anc g w
  idle s c := ∃ x, s = .work x ∧ fm.idle x c
end
section
variable {P : Program} {fm : Fam} {ty : TypeId} {Wg m0 p0 tot : Nat} {Shun : Loc → Prop} {Anc : Goroutine → World → Prop}
theorem wg_ok (ok : fm.Ok Wg) : (wgProto P fm ty Wg m0 p0 tot Shun Anc).Ok where
  refl i w := ⟨ok.refl i w, fun _ st sm h => ⟨st, sm, h, Int.le_refl _⟩⟩
  trans i a b c h h' := ⟨ok.trans i a b c h.1 h'.1, fun e st sm hw => by
    obtain ⟨s1, m1, h1, l1⟩ := h.2 e st sm hw
    obtain ⟨s2, m2, h2, l2⟩ := h'.2 e s1 m1 h1
    exact ⟨s2, m2, h2, Int.le_trans l2 l1⟩⟩
  frAt i w d := ⟨ok.at_ i w d, fun _ st sm h => ⟨st, sm, h, Int.le_refl _⟩⟩
  fAt n S K w t d h := ⟨h.1.still rfl, ok.gAt _ _ _ _ _ _ h.2.1, h.2.2⟩
  blkAt n S w i d h := h
  mute n S K w t i fn pos es h hl hi hi0 hg hm := by
    have hu : ∀ op ∈ MemOp.ofEvents i fn pos es, op.g = i ∧ op.act.touch? = none ∧ ∀ a, op.act ≠ .mark (.release a) := fun op hop => by
      obtain ⟨e, he, rfl⟩ := Go.Conc.mem_ofEvents hop
      refine ⟨rfl, touch_mute (hm e he), fun a hx => ?_⟩
      have := hm e he
      obtain ⟨loc, wr, sy⟩ := e
      cases loc <;> simp_all [Event.mute, MemAct.ofEvent]
    exact ⟨h.1.mute hi hi0 hg (fun op hop => ⟨(hu op hop).1, (hu op hop).2.1, (hu op hop).2.2 _⟩), ok.mute _ _ _ _ _ i _ h.2.1 (by show (S i).x = none; rw [show S i = .gone from hg]; rfl) hu, h.2.2⟩
  live n S K w t h hl := by
    obtain ⟨tg, st, sm, h1, h2, h3, _⟩ := h.1.mode
    have hn : 0 < n := by have := h.1.pos; omega
    by_cases hw : tg = .w3 ∧ sm = 0
    · obtain ⟨rfl, rfl⟩ := hw
      have ne : ∀ i, i ≠ 0 → ¬ (wgProto P fm ty Wg m0 p0 tot Shun Anc).blk n S w i := fun i hi hb => hi hb.1
      have ns : ∀ i k, S i = .st k → ∀ c, (wgProto P fm ty Wg m0 p0 tot Shun Anc).idle (S i) c → ¬ ChanMt w c := fun i k e c => by
        rintro ⟨x, hx, _⟩
        rw [show S i = .st k from e] at hx
        cases hx
      generalize hsm : (0 : Int) = z at h3
      cases h3 with
      | opn hf _ _ => exact hf.elim
      | reg _ _ hv =>
        have : ∃ i, i < n ∧ (S i).cv ≠ 0 := by
          refine Classical.byContradiction fun hx => ?_
          have hz : Vn n S = 0 := by
            unfold Vn
            have : sumTo n (fun i => (S i).cv) = sumTo n (fun _ => 0) := sumTo_congr fun i hi => Classical.byContradiction fun hc => hx ⟨i, hi, hc⟩
            rw [this, sumTo_zero]
          omega
        obtain ⟨i, hi, hc⟩ := this
        have hi0 : i ≠ 0 := fun e => by subst e; rw [h1] at hc; exact hc rfl
        cases hSi : S i with
        | main m => exact absurd (by rw [hSi]; trivial) (h.1.notMain i hi hi0)
        | gone => rw [hSi] at hc; exact absurd rfl hc
        | st k => exact ⟨i, hi, (fun hg => by rw [show S i = .gone from hg] at hSi; cases hSi), ne i hi0, ns i k hSi⟩
        | work x =>
          obtain ⟨j, hj, hj2, hj3⟩ := ok.live n (fun i => (S i).x) K w t h.2.1 hl ⟨i, hi, by show (S i).x ≠ none; rw [hSi]; simp [WSt.x]⟩
          have hj2 : (S j).x ≠ none := hj2
          have hj0 : j ≠ 0 := fun e => by subst e; rw [h1] at hj2; exact hj2 rfl
          refine ⟨j, hj, fun hg => ?_, ne j hj0, fun c => ?_⟩
          · rw [show S j = .gone from hg] at hj2; exact hj2 rfl
          · rintro ⟨y, hy, hid⟩
            exact hj3 y (by show (S j).x = some y; rw [show S j = .work y from hy]; rfl) c hid
      | last L k _ hL hL0 hS _ _ => exact ⟨L, hL, (fun hg => by rw [show S L = .gone from hg] at hS; cases hS), ne L hL0, ns L k hS⟩
      | sema _ _ _ => cases hsm
      | fin hf _ => exact hf.elim
    · refine ⟨0, hn, fun hg => ?_, fun hb => ?_, fun c => ?_⟩
      · rw [show S 0 = .gone from hg] at h1; cases h1
      · obtain ⟨_, hb1, s2, hb2⟩ := hb
        rw [h1] at hb1
        cases hb1
        have : WgIs ty Wg w s2 0 := hb2
        unfold WgIs at h2 this
        rw [h2] at this
        simp only [Option.some.injEq, Obj.cells.injEq, Array.mk.injEq, List.cons.injEq, Value.int.injEq, true_and, and_true] at this
        exact hw ⟨rfl, this.2⟩
      · rintro ⟨x, hx, _⟩
        rw [show S 0 = .main tg from h1] at hx
        cases hx
  swap hid n S K w t a b x y hpre h hg ha hb hx hy hb2 hx2 := by
    obtain ⟨S0, K0, w0, hpre⟩ := hpre
    obtain ⟨s, c, z, _, hz⟩ := hid
    exact ⟨h.1.swap hb hx hg ha hy hpre.1.pos.2.2, ok.swap ⟨z, c, hz⟩ _ _ _ _ _ _ _ _ _ ⟨_, _, _, hpre.2.1⟩ h.2.1 hg ha hb hx hy hb2 hx2, h.2.2⟩
theorem WgTurn.refl (Wg : Nat) (w : World) : WgTurn Wg w w := ⟨rfl, rfl, rfl, rfl, fun _ _ => rfl⟩
theorem cell_block {w w' : World} {a : Addr} (h : w'.heap[a.block]? = w.heap[a.block]?) : w'.cell? a = w.cell? a := by simp only [World.cell?, h]
theorem WgTurn.rely {n : Nat} {K : Nat → LK} {w w' : World} {t : Trace} (hl : Lic n K w t) (hn : 0 < n) (h0 : ∀ l, WgLoc Wg l → (K 0).A l) (ht : WgTurn Wg w w') {st sm st' sm' : Int} (h1 : WgIs ty Wg w st sm) (h2 : WgIs ty Wg w' st' sm') {j : Nat} (hj : j < n) : Rely (K j) w w' where
  size := by rw [ht.size]; exact Nat.le_refl _
  tape := ht.tape
  os := ht.os
  output := ht.output
  shape := fun b o ho => by
    by_cases e : b = Wg
    · subst e
      unfold WgIs at h1 h2
      rw [h1] at ho
      cases ho
      exact ⟨_, h2, by simp [Alike]⟩
    · exact ⟨o, (ht.block b e).trans ho, .refl o⟩
  cell := fun a ha => by
    have e : a.block ≠ Wg := fun e => hl.wa j 0 hj hn (.cell a) ha (h0 _ ⟨a.off, a.spot, by subst e; rfl⟩)
    exact cell_block (ht.block _ e)
  obj := fun b o ho hnc _ => by
    by_cases e : b = Wg
    · subst e
      unfold WgIs at h1
      rw [h1] at ho
      cases ho
      exact absurd rfl (hnc _ _ _)
    · exact (ht.block b e).trans ho
/-- A row of cells none of which is one's own stands. -/
theorem Chg.row {k : LK} {w w' : World} (h : Chg k w w') {b : Nat} {c : Array Value} {e : TypeId} {f : Nat × Nat} (hb : w.heap[b]? = some (.cells c e f)) (hn : ∀ o, ¬ k.W (.cell ⟨b, o, none⟩)) : w'.heap[b]? = some (.cells c e f) := by
  have hlt : b < w.heap.size := (Array.getElem?_eq_some_iff.1 hb).1
  obtain ⟨o₁, h1, h2⟩ := h.shape b _ hb
  cases o₁ with
  | cells c' e' f' =>
    obtain ⟨hs, rfl, rfl⟩ := h2
    have : c' = c := by
      apply Array.ext_getElem?
      intro o
      have := h.cell ⟨b, o, none⟩ hlt (hn o)
      simpa [World.cell?, h1, hb] using this
    rw [h1, this]
  | _ => exact h2.elim
theorem Rely.row {k : LK} {w w' : World} (h : Rely k w w') {b : Nat} {c : Array Value} {e : TypeId} {f : Nat × Nat} (hb : w.heap[b]? = some (.cells c e f)) (hn : ∀ o, k.W (.cell ⟨b, o, none⟩) ∨ k.R (.cell ⟨b, o, none⟩)) : w'.heap[b]? = some (.cells c e f) := by
  obtain ⟨o₁, h1, h2⟩ := h.shape b _ hb
  cases o₁ with
  | cells c' e' f' =>
    obtain ⟨hs, rfl, rfl⟩ := h2
    have : c' = c := by
      apply Array.ext_getElem?
      intro o
      have := h.cell ⟨b, o, none⟩ (hn o)
      simpa [World.cell?, h1, hb] using this
    rw [h1, this]
  | _ => exact h2.elim
def EvSync (Wg i : Nat) (e : Event) : Prop :=
  (∀ a, (MemAct.ofEvent e).touch? = some a → WgLoc Wg a.loc ∧ a.kind ≠ .plain ∧ (a.kind = .said → i = 0)) ∧ (∀ B, Wg < B → (MemAct.ofEvent e).low B) ∧ ∀ a, MemAct.ofEvent e ≠ .mark (.release a)
theorem WgIs.lt {w : World} {st sm : Int} (h : WgIs ty Wg w st sm) : Wg < w.heap.size := (Array.getElem?_eq_some_iff.1 h).1
theorem WgIs.inj {w : World} {st sm st' sm' : Int} (h : WgIs ty Wg w st sm) (h' : WgIs ty Wg w st' sm') : st' = st ∧ sm' = sm := by
  unfold WgIs at h h'
  rw [h] at h'
  simp only [Option.some.injEq, Obj.cells.injEq, Array.mk.injEq, List.cons.injEq, Value.int.injEq, true_and, and_true] at h'
  exact ⟨h'.1.symm, h'.2.symm⟩
/-- THE RULE FOR A STEP ON THE GROUP, or for waiting at its semaphore. -/
theorem wp_sync_or (ok : fm.Ok Wg) {i : Nat} {k : LK} {s : WSt fm.τ} {g : Goroutine} {w : World} (hal : s ≠ .gone) (hr : g.status = .running) (ho : g.offers = none)
    (h : ∀ (w₁ : World) (n : Nat) (S : Nat → WSt fm.τ) (K : Nat → LK) (t : Trace), Sit (wgProto P fm ty Wg m0 p0 tot Shun Anc) i k s w w₁ n S K t → (i = 0 ∧ S 0 = .main .w3 ∧ (∃ st, WgIs ty Wg w₁ st 0) ∧ stepG P (i == 0) g w₁ = .go { g with status := .blocked } w₁ #[]) ∨ ∃ (g' : Goroutine) (w' : World) (es : Array Event) (s' : WSt fm.τ) (st sm st' sm' : Int),
      stepG P (i == 0) g w₁ = .go g' w' es ∧ WgTurn Wg w₁ w' ∧ WgIs ty Wg w₁ st sm ∧ WgIs ty Wg w' st' sm' ∧ (i ≠ 0 → st' ≤ st) ∧ (∀ e ∈ es, EvSync Wg i e) ∧ WgInv ty Wg m0 p0 Shun n (upd S i s') w' (t ++ MemOp.ofEvents i g.frame.fn g.frame.place es) ∧
      (s'.x = s.x ∨ (s'.x = none ∧ ∃ x, s.x = some x ∧ fm.Q i x k w')) ∧ leftW (upd S i s' 0) = leftW (S 0) ∧ SpOk (upd S i s' 0) ∧ (i ≠ 0 → sm = 0 → sm' ≠ 0 → mayWake P g = true) ∧
      ((s' ≠ .gone ∧ WP (wgProto P fm ty Wg m0 p0 tot Shun Anc) i k s' g' w') ∨ (s' = .gone ∧ i ≠ 0 ∧ ∃ q, QuitsD P q (Deaf (t ++ MemOp.ofEvents i g.frame.fn g.frame.place es) i) g'))) : WP (wgProto P fm ty Wg m0 p0 tot Shun Anc) i k s g w := by
  refine WP.step hr ho fun w₁ n (S : Nat → WSt fm.τ) K t hs => ?_
  rcases h w₁ n S K t hs with ⟨e1, e2, e3, e4⟩ | ⟨g', w', es, s', st, sm, st', sm', hstep, ht, hw, hw', hle, hes, hinv, hx, hleft, hsp, hwake, hc⟩
  · exact .wait e4 ⟨e1, e2, e3⟩
  obtain ⟨hi, hk, hss, _, _, hlic, hf1, hf2, hf3, hf4⟩ := hs
  replace hss : S i = s := hss
  have hn : 0 < n := by omega
  have hlt := hw.lt
  have h0 : S 0 ≠ .gone := by
    obtain ⟨tg, _, _, e, _⟩ := hf1.mode
    intro x
    rw [x] at e
    cases e
  have hA0 := hf3 0 hn h0
  have hAi := hf3 i hi (by rw [hss]; exact hal)
  have hu : ∀ op ∈ MemOp.ofEvents i g.frame.fn g.frame.place es, SyncOk K i w'.heap.size op := fun op hop => by
    obtain ⟨e, he, rfl⟩ := Go.Conc.mem_ofEvents hop
    exact ⟨rfl, (hes e he).2.1 _ (by rw [ht.size]; exact hlt), fun b hb => ⟨hAi _ ((hes e he).1 b hb).1, ((hes e he).1 b hb).2⟩⟩
  have hg := ok.wg n (fun i => (S i).x) K w₁ w' t i (MemOp.ofEvents i g.frame.fn g.frame.place es) hf2 hlic hi (fun j hj l hl hw => hlic.wa j 0 hj hn l hl (hA0 l hw)) ht ⟨_, _, _, hw⟩ (fun o ho => ⟨_, hw', by
    have e : w₁.heap[Wg]? = some (.cells #[.int .u64 st, .int .u32 sm] ty) := hw
    rw [e] at ho; cases ho; simp [Alike]⟩) (fun op hop => by
    obtain ⟨e, he, rfl⟩ := Go.Conc.mem_ofEvents hop
    exact ⟨rfl, (hes e he).2.2, fun a ha => ((hes e he).1 a ha).1⟩)
  have hgx : fm.G n (fun j => (upd S i s' j).x) K w' (t ++ MemOp.ofEvents i g.frame.fn g.frame.place es) := by
    rcases hx with hx | ⟨hx, x, hsx, hQ⟩
    · have : (fun j => (upd S i s' j).x) = fun j => (S j).x := by
        funext j
        by_cases e : j = i
        · subst e; rw [upd_same, hx, hss]
        · rw [upd_ne S _ e]
      rw [this]; exact hg.1
    · have : (fun j => (upd S i s' j).x) = upd (fun j => (S j).x) i none := by
        funext j
        by_cases e : j = i
        · subst e; rw [upd_same, upd_same, hx]
        · rw [upd_ne S _ e, upd_ne _ _ e]
      rw [this]; exact ok.leave _ _ _ _ _ _ x hg.1 (hlic.sync hi (by rw [ht.size]; exact Nat.le_refl _) hu) hi (by show (S i).x = _; rw [hss]; exact hsx) (by rw [hk]; exact hQ)
  have hKi : upd K i k = K := by rw [← hk]; exact upd_self K i
  have kept : Kept (wgProto P fm ty Wg m0 p0 tot Shun Anc) i (mayWake P g = true) w₁ n S K w' (t ++ MemOp.ofEvents i g.frame.fn g.frame.place es) k s' := by
    refine ⟨by rw [hKi]; exact hlic.sync hi (by rw [ht.size]; exact Nat.le_refl _) hu, ⟨hinv, by rw [hKi]; exact hgx, fun j hj hj2 l hl => ?_, ⟨(congrArg (n + ·) hleft).trans hf4.1.1, hf4.1.2⟩, hsp⟩, fun j hj _ => ht.rely hlic hn hA0 hw hw' hj, fun j hj hji => ⟨hg.2 j hj hji, fun e st2 sm2 h2 => ?_⟩, fun j hj hji hb => ?_, Nat.le_of_eq hleft⟩
    · rw [hKi]
      by_cases e : j = i
      · subst e; exact hAi l hl
      · exact hf3 j hj (fun x => hj2 ((upd_ne S s' e).trans x)) l hl
    · obtain ⟨rfl, rfl⟩ := hw.inj h2
      exact ⟨st', sm', hw', hle (fun x => hji (e.trans x.symm))⟩
    · obtain ⟨hb1, hb2, st2, hb3⟩ := hb
      obtain ⟨rfl, e⟩ := hw.inj hb3
      subst e
      by_cases e : sm' = 0
      · subst e
        exact .inl ⟨hb1, (upd_ne S s' (by omega)).trans hb2, st', hw'⟩
      · exact .inr (hwake (by omega) rfl e)
  have chk : ChKept (wgProto P fm ty Wg m0 p0 tot Shun Anc) i (mayWake P g = true) w₁ n S w' fun _ => False := fun j c hj hji _ _ ⟨cap, s5, r5, tm, hm⟩ => by
    refine .inl ⟨cap, s5, r5, tm, (ht.block c fun e => ?_).trans hm⟩
    subst e
    rw [show w₁.heap[c]? = _ from hw] at hm
    cases hm
  rcases hc with ⟨hc1, hc2⟩ | ⟨hc1, hc2, q, hc3⟩
  · exact .go g' w' es k s' hstep hc2.running.1 hc2.running.2 kept chk hc1 hc2
  · exact .bye g' w' es k s' hstep kept chk hc1 hc2 q hc3
/-- THE RULE FOR A STEP ON THE GROUP. -/
theorem wp_sync (ok : fm.Ok Wg) {i : Nat} {k : LK} {s : WSt fm.τ} {g : Goroutine} {w : World} (hal : s ≠ .gone) (hr : g.status = .running) (ho : g.offers = none)
    (h : ∀ (w₁ : World) (n : Nat) (S : Nat → WSt fm.τ) (K : Nat → LK) (t : Trace), Sit (wgProto P fm ty Wg m0 p0 tot Shun Anc) i k s w w₁ n S K t → ∃ (g' : Goroutine) (w' : World) (es : Array Event) (s' : WSt fm.τ) (st sm st' sm' : Int),
      stepG P (i == 0) g w₁ = .go g' w' es ∧ WgTurn Wg w₁ w' ∧ WgIs ty Wg w₁ st sm ∧ WgIs ty Wg w' st' sm' ∧ (i ≠ 0 → st' ≤ st) ∧ (∀ e ∈ es, EvSync Wg i e) ∧ WgInv ty Wg m0 p0 Shun n (upd S i s') w' (t ++ MemOp.ofEvents i g.frame.fn g.frame.place es) ∧
      (s'.x = s.x ∨ (s'.x = none ∧ ∃ x, s.x = some x ∧ fm.Q i x k w')) ∧ leftW (upd S i s' 0) = leftW (S 0) ∧ SpOk (upd S i s' 0) ∧ (i ≠ 0 → sm = 0 → sm' ≠ 0 → mayWake P g = true) ∧
      ((s' ≠ .gone ∧ WP (wgProto P fm ty Wg m0 p0 tot Shun Anc) i k s' g' w') ∨ (s' = .gone ∧ i ≠ 0 ∧ ∃ q, QuitsD P q (Deaf (t ++ MemOp.ofEvents i g.frame.fn g.frame.place es) i) g'))) : WP (wgProto P fm ty Wg m0 p0 tot Shun Anc) i k s g w :=
  wp_sync_or ok hal hr ho fun w₁ n S K t hs => .inr (h w₁ n S K t hs)
/-- THE RULE FOR A STEP OF ITS OWN: of goroutine 0, or of one at work. -/
theorem wp_own (ok : fm.Ok Wg) {i : Nat} {k : LK} {s : WSt fm.τ} {g : Goroutine} {w : World} (hal : ¬ s.rel) (hr : g.status = .running) (ho : g.offers = none)
    (h : ∀ w₁, Rely k w w₁ → fm.GR i w w₁ → ∃ (g' : Goroutine) (w' : World) (es : Array Event), stepG P (i == 0) g w₁ = .go g' w' es ∧ Own k w₁ w' es ∧ WP (wgProto P fm ty Wg m0 p0 tot Shun Anc) i (k.grow w₁.heap.size w'.heap.size) s g' w') : WP (wgProto P fm ty Wg m0 p0 tot Shun Anc) i k s g w := by
  refine WP.step hr ho fun w₁ n (S : Nat → WSt fm.τ) K t hs => ?_
  obtain ⟨hi, hk, hss, hrel, hfr, hlic, hf1, hf2, hf3, hf4⟩ := hs
  obtain ⟨g', w', es, hstep, hown, hc⟩ := h w₁ hrel hfr.1
  replace hss : S i = s := hss
  subst hk
  have hn : 0 < n := by omega
  have h0 : S 0 ≠ .gone := by
    obtain ⟨tg, _, _, e, _⟩ := hf1.mode
    intro x
    rw [x] at e
    cases e
  have hA0 := hf3 0 hn h0
  obtain ⟨tg, st, sm, h1, hw, _⟩ := hf1.mode
  have hwg : w'.heap[Wg]? = w₁.heap[Wg]? := by
    rw [show w₁.heap[Wg]? = _ from hw]
    exact hown.chg.row hw (fun o hx => hlic.wa i 0 hi hn _ (.inl hx) (hA0 _ ⟨o, none, rfl⟩))
  have hSi : @upd ((wgProto P fm ty Wg m0 p0 tot Shun Anc)).σ S i s = S := by rw [← hss]; exact upd_self S i
  have hu : ∀ op ∈ MemOp.ofEvents i g.frame.fn g.frame.place es, op.g = i ∧ op.act ≠ .mark (.release (stW Wg)) := fun op hop => by
    obtain ⟨e, he, rfl⟩ := Go.Conc.mem_ofEvents hop
    refine ⟨rfl, fun hx => ?_⟩
    have := loc_of_ofEvent' hx
    rcases hown.evs e he with h | ⟨_, h, _⟩
    · rw [h] at this; cases this
    · rw [this] at h; exact h
  have hTi : i = 0 ∨ (S i).x ≠ none := by
    by_cases e : i = 0
    · exact .inl e
    · right
      have h5 := hf1.notMain i hi e
      rw [hss] at h5 ⊢
      cases s with
      | main m => exact absurd trivial h5
      | work x => simp [WSt.x]
      | st k => exact absurd trivial hal
      | gone => exact absurd trivial hal
  have hg := ok.own n (fun i => (S i).x) K w₁ w' t i es g.frame.fn g.frame.place hf2 hlic hi hTi hown
  have hd : Deaf (t ++ MemOp.ofEvents i g.frame.fn g.frame.place es) i = Deaf t i := by
    rw [Deaf_own]; exact deafBehind_still (fun e he => (hown.evs e he).still) _
  refine .go g' w' es ((K i).grow w₁.heap.size w'.heap.size) s hstep hc.running.1 hc.running.2 ⟨hlic.own hi hown _ _, ?_, fun j hj hji => hown.chg.rely hlic hi hj (fun e => hji e.symm), fun j hj hji => ⟨hg.2 j hj hji, fun _ st2 sm2 h2 => ⟨st2, sm2, hwg.trans h2, Int.le_refl _⟩⟩, fun j hj hji hb => .inl ?_, ?_⟩ (fun j c hj hji ⟨x, hx, hid⟩ _ ⟨cap, s5, r5, tm, hm⟩ => .inl ⟨cap, s5, r5, tm, hown.chg.obj c _ hm (fun _ _ _ e => by cases e) (ok.noC n (fun i => (S i).x) K w₁ t i j x c hf2 hi hj (by show (S j).x = some x; rw [show S j = .work x from hx]; rfl) hid)⟩) (fun e => hal (by rw [e]; trivial)) hc
  · rw [hSi]
    refine ⟨hf1.plain hi (by rw [hss]; exact hal) hu hd hwg, hg.1, fun j hj hj2 l hl => ?_, hf4⟩
    by_cases e : j = i
    · subst e; rw [upd_same]; exact hf3 j hj hj2 l hl
    · rw [upd_ne _ _ e]; exact hf3 j hj hj2 l hl
  · rw [hSi]
    obtain ⟨hb1, hb2, st2, hb3⟩ := hb
    exact ⟨hb1, hb2, st2, hwg.trans hb3⟩
  · rw [hSi]; exact Nat.le_refl _
end
end Go.Proofs.Yticdjkkcfdbdcaa
namespace Go.Proofs.Yticdjkkcfdbdcaa
open Go.Conc Go.ConcN
/-- One step that says one word. -/
def ES (P : Program) (main : Bool) (g : Goroutine) (e : Event) (g' : Goroutine) : Prop := g.status = .running ∧ g'.offers = none ∧ ∀ w, stepG P main g w = .go g' w #[e]
/-- Steps that say nothing, whatever the world, the group's block standing as a row of two cells. -/
inductive QR (P : Program) (ty : TypeId) (Wg : Nat) (main : Bool) : Goroutine → Goroutine → Prop
  | refl (g : Goroutine) : QR P ty Wg main g g
  | step {g g1 g2 : Goroutine} (hr : g.status = .running) (ho : g1.offers = none) (h : ∀ w : World, w.shape? Wg = some (ty, 2) → stepG P main g w = .go g1 w #[]) (t : QR P ty Wg main g1 g2) : QR P ty Wg main g g2
/-- One step on the group's cells. -/
def Turns (P : Program) (main : Bool) (ty : TypeId) (Wg : Nat) (g : Goroutine) (st sm st' sm' : Int) (es : Array Event) (g' : Goroutine) : Prop :=
  ∀ w, WgIs ty Wg w st sm → ∃ w', stepG P main g w = .go g' w' es ∧ WgIs ty Wg w' st' sm' ∧ WgTurn Wg w w'
def mkE (m : Mark) : Event := ⟨.mark m, false, true⟩
def rdE (a : Addr) : Event := ⟨.cell a, false, true⟩
def wrE (a : Addr) : Event := ⟨.cell a, true, true⟩
theorem ES.step {P : Program} {main : Bool} {g g' : Goroutine} {e : Event} (h : ES P main g e g') : g.status = .running ∧ g'.offers = none ∧ ∀ w, stepG P main g w = .go g' w #[e] := h
section
variable {P : Program} {fm : Fam} {ty : TypeId} {Wg m0 p0 tot : Nat} {Shun : Loc → Prop} {Anc : Goroutine → World → Prop}
theorem WgInv.most {n : Nat} {S : Nat → WSt fm.τ} {w : World} {t : Trace} (h : WgInv ty Wg m0 p0 Shun n S w t) : Vn n S ≤ n - m0 := by
  obtain ⟨tg, _, _, h0, _⟩ := h.mode
  have key : ∀ j, j ≤ n → sumTo j (fun i => (S i).cv) ≤ j - m0 := by
    intro j
    induction j with
    | zero => intro _; simp [sumTo]
    | succ j ih =>
      intro hj
      have := ih (by omega)
      have h1 : (S j).cv ≤ 1 := by cases S j <;> simp only [WSt.cv] <;> (try split) <;> omega
      simp only [sumTo]
      rcases Nat.lt_or_ge j m0 with hl | hl
      · have h2 : (S j).cv = 0 := by
          by_cases e : j = 0
          · subst e; rw [h0]; rfl
          · rw [h.olds j hl e]; rfl
        omega
      · omega
  exact key n (Nat.le_refl _)
theorem Vn_upd {n : Nat} (S : Nat → WSt fm.τ) {i : Nat} (hi : i < n) (s' : WSt fm.τ) : Vn n (upd S i s') + (S i).cv = Vn n S + s'.cv := sumTo_upd S s' WSt.cv hi
theorem Mode.counted {n : Nat} {S : Nat → WSt fm.τ} {tg : MT} {st sm : Int} (h : Mode n S tg st sm) {i : Nat} (hi : i < n) (hi0 : i ≠ 0) (hc : (S i).cv = 1) :
    (tg.isOpen ∧ (∀ j, j < n → (S j).isOpen) ∧ st = ((Vn n S + tg.pend : Nat) : Int) * KKn ∧ sm = 0 ∧ ∀ v, tg = .w2 v → Vn n S ≤ v ∧ 1 ≤ v) ∨ (tg.isW3 ∧ (∀ j, j < n → (S j).isOpen) ∧ 1 ≤ Vn n S ∧ st = ((Vn n S : Nat) : Int) * KKn + 1 ∧ sm = 0) := by
  cases h with
  | opn h ho hv => exact .inl ⟨h, ho, rfl, rfl, hv⟩
  | reg h ho hv => exact .inr ⟨h, ho, hv, rfl, rfl⟩
  | last L k _ hL hL0 hS hk hg =>
    by_cases e : i = L
    · subst e; rw [hS] at hc; simp only [WSt.cv] at hc; split at hc <;> omega
    · rw [hg i hi hi0 e] at hc; simp [WSt.cv] at hc
  | sema hg _ _ => rw [hg i hi hi0] at hc; simp [WSt.cv] at hc
  | fin _ hg => rw [hg i hi hi0] at hc; simp [WSt.cv] at hc
/-- A counted one that stays counted. -/
theorem Mode.swap {n : Nat} {S : Nat → WSt fm.τ} {tg : MT} {st sm : Int} (h : Mode n S tg st sm) {i : Nat} (hi : i < n) (hi0 : i ≠ 0) (hc : (S i).cv = 1) {s' : WSt fm.τ} (hc' : s'.cv = 1) (ho' : s'.isOpen) : Mode n (upd S i s') tg st sm := by
  have hV : Vn n (upd S i s') = Vn n S := by have := Vn_upd S hi s'; omega
  have hop : (∀ j, j < n → (S j).isOpen) → ∀ j, j < n → (upd S i s' j).isOpen := fun ho j hj => by
    by_cases e : j = i
    · subst e; rw [upd_same]; exact ho'
    · rw [upd_ne S _ e]; exact ho j hj
  rcases h.counted hi hi0 hc with ⟨h1, h2, rfl, rfl, h5⟩ | ⟨h1, h2, h3, rfl, rfl⟩
  · have := Mode.opn (S := upd S i s') h1 (hop h2) (fun v hv => by rw [hV]; exact h5 v hv)
    rw [hV] at this
    exact this
  · have := Mode.reg (S := upd S i s') h1 (hop h2) (by rw [hV]; exact h3)
    rw [hV] at this
    exact this
/-- Steps that say nothing. -/
theorem wp_still (ok : fm.Ok Wg) {i : Nat} {k : LK} {s : WSt fm.τ} (hal : s ≠ .gone) {g g' : Goroutine} {w : World} (ho : g.offers = none) (h : QR P ty Wg (i == 0) g g') (hc : WP (wgProto P fm ty Wg m0 p0 tot Shun Anc) i k s g' w) : WP (wgProto P fm ty Wg m0 p0 tot Shun Anc) i k s g w := by
  induction h generalizing w with
  | refl => exact hc
  | @step g g1 g2 hr ho1 hstep _ ih =>
    refine wp_sync ok hal hr ho fun w₁ n S K t hs => ?_
    obtain ⟨hi, hk, hss, hrel, hfr, hlic, hf1, hf2, hf3, hf4, hf5⟩ := hs
    replace hss : S i = s := hss
    obtain ⟨tg, st, sm, h1, hw, hm, hacq⟩ := hf1.mode
    have hSi : upd S i s = S := by rw [← hss]; exact upd_self S i
    have hsh : w₁.shape? Wg = some (ty, 2) := by
      have h' : w₁.heap[Wg]? = some (.cells #[.int .u64 st, .int .u32 sm] ty) := hw
      simp [World.shape?, h']
    refine ⟨g1, w₁, #[], s, st, sm, st, sm, hstep w₁ hsh, .refl _ _, hw, hw, fun _ => Int.le_refl _, by simp, ?_, .inl rfl, by rw [hSi], by rw [hSi]; exact hf5, fun _ e1 e2 => absurd e1 e2, .inl ⟨hal, ih ho1 (WP.rely (wg_ok ok) hc hrel hfr)⟩⟩
    rw [hSi, ofEvents_none, Array.append_empty]
    exact hf1
theorem evSync_mark {i : Nat} (m : Mark) (hl : ∀ B, Wg < B → (MemAct.mark m).low B) (ht : ∀ a, (MemAct.mark m).touch? = some a → WgLoc Wg a.loc ∧ a.kind ≠ .plain ∧ (a.kind = .said → i = 0)) (hn : ∀ a, m ≠ .release a) : EvSync Wg i (mkE m) := ⟨ht, hl, fun a => by simp [mkE, MemAct.ofEvent, hn a]⟩
theorem evSync_cell {i : Nat} (o : Nat) (wr : Bool) : EvSync Wg i ⟨.cell ⟨Wg, o, none⟩, wr, true⟩ := by
  refine ⟨fun a ha => ?_, fun B hB => hB, fun a => by simp [MemAct.ofEvent]⟩
  simp only [MemAct.ofEvent, MemAct.touch?, Option.some.injEq] at ha
  subst ha
  exact ⟨⟨o, none, rfl⟩, by simp, by simp⟩
/-- The operations behind t of a step of i's that says one word. -/
theorem one_op (i : Nat) (fn : FuncId) (pos : String) (e : Event) : MemOp.ofEvents i fn pos #[e] = #[{ g := i, fn, pos, act := .ofEvent e }] := by simp [ofEvents_eq]
theorem at_end (t : Trace) (y : MemOp) : (t ++ #[y])[t.size]? = some y := by simp
/-- A word of a worker's: work → 6 → 5. -/
theorem wp_release (ok : fm.Ok Wg) {i : Nat} (hi0 : i ≠ 0) {k : LK} {x : fm.τ} {g g' : Goroutine} {w : World} (ho : g.offers = none) (h : ES P false g (mkE (.releaseMerge (stW Wg))) g') (hQ : ∀ w₁, Rely k w w₁ → fm.GR i w w₁ → fm.Q i x k w₁) (hc : WP (wgProto P fm ty Wg m0 p0 tot Shun Anc) i k (.st 6) g' w) : WP (wgProto P fm ty Wg m0 p0 tot Shun Anc) i k (.work x) g w := by
  obtain ⟨h1, h2, h3⟩ := h.step
  have hb : (i == 0) = false := by simpa using hi0
  refine wp_sync ok (by simp) h1 ho fun w₁ n S K t hs => ?_
  obtain ⟨hi, hk, hss, hrel, hfr, hlic, hf1, hf2, hf3, hf4, hf5⟩ := hs
  replace hss : S i = .work x := hss
  obtain ⟨tg, st, sm, h0, hw, hm, hacq⟩ := hf1.mode
  have hS0 : upd S i (.st 6) 0 = S 0 := upd_ne S _ (fun e => hi0 e.symm)
  have hcv : (S i).cv = 1 := by rw [hss]; rfl
  have hd : Deaf t i = 0 := hf1.deaf i hi 0 (by rw [hss]; rfl)
  have hmi : m0 ≤ i := by
    rcases Nat.lt_or_ge i m0 with hl | hl
    · have := hf1.olds i hl hi0; rw [hss] at this; cases this
    · exact hl
  have hes : ∀ e ∈ #[mkE (.releaseMerge (stW Wg))], EvSync Wg i e := fun e he => by
    simp at he; subst he
    exact evSync_mark _ (fun B hB => hB) (fun a ha => by simp [MemAct.touch?] at ha) (by simp)
  refine ⟨g', w₁, #[mkE (.releaseMerge (stW Wg))], .st 6, st, sm, st, sm, by rw [hb]; exact h3 w₁, .refl _ _, hw, hw, fun _ => Int.le_refl _, hes, ?_, .inr ⟨rfl, x, rfl, hQ w₁ hrel hfr.1⟩, by rw [hS0], by rw [hS0]; exact hf5, fun _ e1 e2 => absurd e1 e2, .inl ⟨by simp, WP.rely (wg_ok ok) hc hrel hfr⟩⟩
  rw [one_op]
  refine hf1.step hi (.inr hmi) (fun op hop => by simp at hop; rw [hop]) (fun op hop => by simp at hop; rw [hop]; simp [mkE, MemAct.ofEvent]) (hS0.trans h0) hw (hm.swap hi hi0 hcv rfl (.inl rfl)) (fun e => ?_) (fun _ => id) (fun d hdd => ?_) (fun _ _ => ?_)
  · subst e
    rcases hm.counted hi hi0 hcv with ⟨y, _⟩ | ⟨y, _⟩ <;> exact y.elim
  · simp only [WSt.deaf, if_true, Option.some.injEq] at hdd
    subst hdd
    rw [Deaf_push, hd]; simp [deafStep, mkE, MemAct.ofEvent]
  · refine ⟨t.size, ⟨by rw [act?_of (at_end t _)]; rfl, by simp [Trace.g?], ⟨i, by simp [Trace.g?], by rw [deaf_old (Nat.le_refl _)]; exact hd⟩, fun p hp hg => ?_⟩, fun p hp hg => ?_⟩
    · have := g?_lt hg; simp at this; omega
    · have := g?_lt hg; simp at this; omega
theorem wp_deafen (ok : fm.Ok Wg) {i : Nat} (hi0 : i ≠ 0) {k : LK} {g g' : Goroutine} {w : World} (ho : g.offers = none) (h : ES P false g (mkE .disable) g') (hc : WP (wgProto P fm ty Wg m0 p0 tot Shun Anc) i k (.st 5) g' w) : WP (wgProto P fm ty Wg m0 p0 tot Shun Anc) i k (.st 6) g w := by
  obtain ⟨h1, h2, h3⟩ := h.step
  have hb : (i == 0) = false := by simpa using hi0
  refine wp_sync ok (by simp) h1 ho fun w₁ n S K t hs => ?_
  obtain ⟨hi, hk, hss, hrel, hfr, hlic, hf1, hf2, hf3, hf4, hf5⟩ := hs
  replace hss : S i = .st 6 := hss
  obtain ⟨tg, st, sm, h0, hw, hm, hacq⟩ := hf1.mode
  have hS0 : upd S i (.st 5) 0 = S 0 := upd_ne S _ (fun e => hi0 e.symm)
  have hcv : (S i).cv = 1 := by rw [hss]; rfl
  have hd : Deaf t i = 0 := hf1.deaf i hi 0 (by rw [hss]; rfl)
  have hmi : m0 ≤ i := by
    rcases Nat.lt_or_ge i m0 with hl | hl
    · have := hf1.olds i hl hi0; rw [hss] at this; cases this
    · exact hl
  have hes : ∀ e ∈ #[mkE .disable], EvSync Wg i e := fun e he => by
    simp at he; subst he
    exact evSync_mark _ (fun B hB => trivial) (fun a ha => by simp [MemAct.touch?] at ha) (by simp)
  refine ⟨g', w₁, #[mkE .disable], .st 5, st, sm, st, sm, by rw [hb]; exact h3 w₁, .refl _ _, hw, hw, fun _ => Int.le_refl _, hes, ?_, .inl (by rfl), by rw [hS0], by rw [hS0]; exact hf5, fun _ e1 e2 => absurd e1 e2, .inl ⟨by simp, WP.rely (wg_ok ok) hc hrel hfr⟩⟩
  rw [one_op]
  refine hf1.step hi (.inr hmi) (fun op hop => by simp at hop; rw [hop]) (fun op hop => by simp at hop; rw [hop]; simp [mkE, MemAct.ofEvent]) (hS0.trans h0) hw (hm.swap hi hi0 hcv rfl (.inr rfl)) (fun e => ?_) (fun _ => id) (fun d hdd => ?_) (fun _ _ => ?_)
  · subst e
    rcases hm.counted hi hi0 hcv with ⟨y, _⟩ | ⟨y, _⟩ <;> exact y.elim
  · simp [WSt.deaf] at hdd
    subst hdd
    rw [Deaf_push, hd]; simp [deafStep, mkE, MemAct.ofEvent]
  · obtain ⟨r, hr⟩ := hf1.rel i hmi hi (by rw [hss]; trivial)
    refine ⟨r, hr.own fun p op hp ho _ a ha => ?_⟩
    rcases getElem?_append_cases ho with ⟨hl, _⟩ | ⟨_, hm⟩
    · omega
    · simp at hm; subst hm; simp [mkE, MemAct.ofEvent, MemAct.touch?] at ha
/-- Where a list of entries is appended each of which touches nothing, or is deaf and atomic on the group. -/
theorem rel_deaf' {t : Trace} {i r : Nat} (h : Rel' Wg t i r) {fn : FuncId} {pos : String} {es : Array Event} (hes : ∀ j e, es[j]? = some e → ∀ a, (MemAct.ofEvent e).touch? = some a → WgLoc Wg a.loc ∧ a.kind = .atomic ∧ 1 ≤ deafBehind (Deaf t i) (es.extract 0 j)) :
    Rel' Wg (t ++ MemOp.ofEvents i fn pos es) i r := by
  refine h.own fun p op hp ho hog a ha => ?_
  have hlt := lt_size_of_getElem? ho
  obtain ⟨j, rfl⟩ : ∃ j, p = t.size + j := ⟨p - t.size, by omega⟩
  have hj : j < es.size := by simp [ofEvents_eq] at hlt; omega
  have hop : op = { g := i, fn, pos, act := .ofEvent es[j] } := by
    rw [Array.getElem?_append_right (by omega), ofEvents_eq, Nat.add_sub_cancel_left, Array.getElem?_map, Array.getElem?_eq_getElem hj] at ho
    simpa using ho.symm
  subst hop
  obtain ⟨h1, h2, h3⟩ := hes j es[j] (Array.getElem?_eq_getElem hj) a ha
  refine ⟨h1, h2, fun ⟨g, hg, hdf⟩ => ?_⟩
  have hgi : g = i := by
    have : (t ++ MemOp.ofEvents i fn pos es).g? (t.size + j) = some i := by simp only [Trace.g?, ho]; rfl
    rw [this] at hg; cases hg; rfl
  subst hgi
  rw [deaf_inside t g fn pos es j (Nat.le_of_lt hj)] at hdf
  omega
theorem deafBehind_up : ∀ (l : List Event) (d : Nat), (∀ e ∈ l, e.loc ≠ .mark .enable) → d ≤ deafBehind d l.toArray := by
  intro l
  induction l with
  | nil => intro d _; simp [deafBehind]
  | cons e l ih =>
    intro d hl
    rw [Go.ConcR.deafBehind_cons]
    have h1 : d ≤ deafBehind d #[e] := by
      have := hl e (by simp)
      obtain ⟨loc, wr, sy⟩ := e
      cases loc with
      | mark m => cases m <;> simp_all [deafBehind]
      | _ => simp [deafBehind]
    exact Nat.le_trans h1 (ih _ (fun x hx => hl x (by simp [hx])))
theorem rel_deaf {t : Trace} {i r : Nat} (h : Rel' Wg t i r) {fn : FuncId} {pos : String} {es : Array Event} (hd : 1 ≤ Deaf t i) (hes : ∀ e ∈ es, e.loc ≠ .mark .enable ∧ ∀ a, (MemAct.ofEvent e).touch? = some a → WgLoc Wg a.loc ∧ a.kind = .atomic) :
    Rel' Wg (t ++ MemOp.ofEvents i fn pos es) i r := by
  refine rel_deaf' h fun j e he a ha => ?_
  obtain ⟨h1, h2⟩ := (hes e (Array.mem_of_getElem? he)).2 a ha
  refine ⟨h1, h2, Nat.le_trans hd ?_⟩
  have := deafBehind_up (es.extract 0 j).toList (Deaf t i) (fun x hx => (hes x (by
    have h2 : x ∈ List.take j es.toList := by simpa using hx
    simpa using List.mem_of_mem_take h2)).1)
  rw [Array.toArray_toList] at this
  exact this
/-- A step of a deaf worker's on the group's cells. -/
theorem wp_wstep (ok : fm.Ok Wg) {i : Nat} (hi0 : i ≠ 0) {k : LK} {j : Nat} (hj : j ≠ 6) {g : Goroutine} {w : World} (hr : g.status = .running) (ho : g.offers = none)
    (h : ∀ n (S : Nat → WSt fm.τ) tg st sm, i < n → S i = .st j → Mode n S tg st sm → n + leftW (S 0) ≤ m0 + 16 → SpOk (S 0) → S 0 = .main tg → Vn n S ≤ n - m0 → (∀ j, j < n → j ≠ 0 → ¬ (S j).isMain) → ∃ (s' : WSt fm.τ) (g' : Goroutine) (es : Array Event) (st' sm' : Int), Turns P false ty Wg g st sm st' sm' es g' ∧ st' ≤ st ∧
      (∀ e ∈ es, (e.loc = .mark .disable) ∨ (e.loc = .mark .enable ∧ s' = .gone) ∨ ∃ o wr, e = ⟨.cell ⟨Wg, o, none⟩, wr, true⟩) ∧ Mode n (upd S i s') tg st' sm' ∧ (tg = .ret → False) ∧ (sm = 0 → sm' ≠ 0 → mayWake P g = true) ∧
      ((∃ j', s' = .st j' ∧ j' ≠ 6 ∧ (∀ e ∈ es, e.loc ≠ .mark .disable ∧ e.loc ≠ .mark .enable) ∧ ∀ w, WP (wgProto P fm ty Wg m0 p0 tot Shun Anc) i k s' g' w) ∨ (s' = .gone ∧ (∀ t : Trace, Deaf t i = 1 → ∀ r, Rel' Wg t i r → Rel' Wg (t ++ MemOp.ofEvents i g.frame.fn g.frame.place es) i r) ∧ ∃ q, QuitsD P q (deafBehind 1 es) g'))) : WP (wgProto P fm ty Wg m0 p0 tot Shun Anc) i k (.st j) g w := by
  have hb : (i == 0) = false := by simpa using hi0
  refine wp_sync ok (by simp) hr ho fun w₁ n S K t hs => ?_
  obtain ⟨hi, hk, hss, hrel, hfr, hlic, hf1, hf2, hf3, hf4, hf5⟩ := hs
  replace hss : S i = .st j := hss
  obtain ⟨tg, st, sm, h0, hw, hm, hacq⟩ := hf1.mode
  obtain ⟨s', g', es, st', sm', hT, hle, hes, hm', hret, hwk, hc⟩ := h n S tg st sm hi hss hm (by have h1 := hf4.1; have h2 := hf4.2; omega) hf5 h0 hf1.most hf1.notMain
  obtain ⟨w', hst, hw', ht⟩ := hT w₁ hw
  have hS0 : upd S i s' 0 = S 0 := upd_ne S _ (fun e => hi0 e.symm)
  have hd : Deaf t i = 1 := hf1.deaf i hi 1 (by rw [hss]; simp [WSt.deaf, hj])
  have hmi : m0 ≤ i := by
    rcases Nat.lt_or_ge i m0 with hl | hl
    · have := hf1.olds i hl hi0; rw [hss] at this; cases this
    · exact hl
  have hx : s'.x = none := by
    rcases hc with ⟨j', rfl, _⟩ | ⟨rfl, _⟩ <;> rfl
  have hev : ∀ e ∈ es, EvSync Wg i e := fun e he => by
    rcases hes e he with h1 | ⟨h1, _⟩ | ⟨o, wr, rfl⟩
    · obtain ⟨loc, wr, sy⟩ := e
      simp only at h1
      subst h1
      exact ⟨fun a ha => by simp [MemAct.ofEvent, MemAct.touch?] at ha, fun B _ => trivial, fun a => by simp [MemAct.ofEvent]⟩
    · obtain ⟨loc, wr, sy⟩ := e
      simp only at h1
      subst h1
      exact ⟨fun a ha => by simp [MemAct.ofEvent, MemAct.touch?] at ha, fun B _ => trivial, fun a => by simp [MemAct.ofEvent]⟩
    · exact evSync_cell o wr
  obtain ⟨r, hr'⟩ := hf1.rel i hmi hi (by rw [hss]; trivial)
  have hdq : Deaf (t ++ MemOp.ofEvents i g.frame.fn g.frame.place es) i = deafBehind 1 es := by rw [Deaf_own, hd]
  refine ⟨g', w', es, s', st, sm, st', sm', by rw [hb]; exact hst, ht, hw, hw', fun _ => hle, hev, ?_, .inl hx, by rw [hS0], by rw [hS0]; exact hf5, fun _ => hwk, ?_⟩
  · refine hf1.step hi (.inr hmi) ofEvents_g (fun op hop => ?_) (hS0.trans h0) hw' hm' (fun e => (hret e).elim) (fun _ => ?_) (fun d hdd => ?_) (fun _ _ => ⟨r, ?_⟩)
    · obtain ⟨e, he, rfl⟩ := Go.Conc.mem_ofEvents hop
      exact (hev e he).2.2 _
    · rcases hc with ⟨j', rfl, _⟩ | ⟨rfl, _⟩ <;> exact id
    · rcases hc with ⟨j', rfl, h6, hq, _⟩ | ⟨rfl, _⟩
      · simp [WSt.deaf, h6] at hdd
        subst hdd
        rw [hdq]; exact deafBehind_still hq 1
      · cases hdd
    · rcases hc with ⟨j', rfl, h6, hq, _⟩ | ⟨rfl, hq, _⟩
      · refine rel_deaf hr' (by omega) fun e he => ⟨(hq e he).2, fun a ha => ?_⟩
        rcases hes e he with h1 | ⟨h1, _⟩ | ⟨o, wr, rfl⟩
        · exact absurd h1 (hq e he).1
        · exact absurd h1 (hq e he).2
        · simp only [MemAct.ofEvent, MemAct.touch?, Option.some.injEq] at ha
          subst ha
          exact ⟨⟨o, none, rfl⟩, by simp⟩
      · exact hq t hd r hr'
  · rcases hc with ⟨j', rfl, _, _, hc⟩ | ⟨rfl, _, q, hc⟩
    · exact .inl ⟨by simp, hc w'⟩
    · exact .inr ⟨rfl, hi0, q, by rw [hdq]; exact hc⟩
/-- Done, from its release on. -/
def DoneS (P : Program) (ty : TypeId) (Wg : Nat) (g0 : Goroutine) : Prop :=
  g0.offers = none ∧ ∃ g1 g2 g3 g4, ES P false g0 (mkE (.releaseMerge (stW Wg))) g1 ∧ QR P ty Wg false g1 g2 ∧ g2.offers = none ∧ ES P false g2 (mkE .disable) g3 ∧ QR P ty Wg false g3 g4 ∧ g4.status = .running ∧ g4.offers = none ∧
    ∀ v wt : Nat, v ≤ 15 → wt ≤ 1 → ∃ g5, Turns P false ty Wg g4 (((v + 1 : Nat) : Int) * KKn + wt) 0 ((v : Int) * KKn + wt) 0 #[rdE (stW Wg), wrE (stW Wg)] g5 ∧
      (¬ (v = 0 ∧ wt = 1) → ∃ q, QuitsD P q 1 g5) ∧
      ((v = 0 ∧ wt = 1) → g5.offers = none ∧ ∃ g6 g7 g8 g9 g10 g11, QR P ty Wg false g5 g6 ∧ g6.status = .running ∧ g6.offers = none ∧ Turns P false ty Wg g6 1 0 1 0 #[rdE (stW Wg)] g7 ∧ g7.offers = none ∧ QR P ty Wg false g7 g8 ∧ g8.status = .running ∧ g8.offers = none ∧
        Turns P false ty Wg g8 1 0 0 0 #[wrE (stW Wg)] g9 ∧ g9.offers = none ∧ QR P ty Wg false g9 g10 ∧ g10.status = .running ∧ g10.offers = none ∧ mayWake P g10 = true ∧
        Turns P false ty Wg g10 0 0 0 1 #[mkE .disable, rdE (smW Wg), wrE (smW Wg), mkE .enable] g11 ∧ ∃ q, QuitsD P q 1 g11)
theorem others_gone {n : Nat} {S : Nat → WSt fm.τ} {i : Nat} (hi : i < n) (hc : (S i).cv = 1) (hV : Vn n S = 1) (ho : ∀ j, j < n → (S j).isOpen) (hm : ∀ j, j < n → j ≠ 0 → ¬ (S j).isMain) : ∀ j, j < n → j ≠ 0 → j ≠ i → S j = .gone := by
  intro j hj hj0 hji
  have h1 : Vn n (upd S i .gone) + (S i).cv = Vn n S := Vn_upd S hi .gone
  have h2 : Vn n (upd S i .gone) = 0 := by omega
  have h3 : (upd S i .gone j).cv ≤ Vn n (upd S i .gone) := le_sumTo (f := fun x => (upd S i .gone x).cv) hj
  rw [upd_ne S _ hji] at h3
  have h4 := ho j hj
  have h5 := hm j hj hj0
  cases hs : S j with
  | main m => rw [hs] at h5; exact absurd trivial h5
  | work x =>
    rw [hs] at h3
    have e : (WSt.work x : WSt fm.τ).cv = 1 := rfl
    omega
  | st k =>
    rw [hs] at h3 h4
    rcases h4 with rfl | rfl
    · have e : (WSt.st 6 : WSt fm.τ).cv = 1 := rfl
      omega
    · have e : (WSt.st 5 : WSt fm.τ).cv = 1 := rfl
      omega
  | gone => rfl
theorem Mode.late {n : Nat} {S : Nat → WSt fm.τ} {tg : MT} {st sm : Int} (h : Mode n S tg st sm) {i j : Nat} (hi : i < n) (hi0 : i ≠ 0) (hS : S i = .st j) (hj : j ≠ 6 ∧ j ≠ 5) : st = (if j = 2 then 0 else 1) ∧ sm = 0 ∧ tg.isW3 ∧ ∀ x, x < n → x ≠ 0 → x ≠ i → S x = .gone := by
  cases h with
  | opn h ho hv => have := ho i hi; rw [hS] at this; exact absurd this (by simp [WSt.isOpen, hj])
  | reg h ho hv => have := ho i hi; rw [hS] at this; exact absurd this (by simp [WSt.isOpen, hj])
  | last L k h hL hL0 hS' hk hg =>
    by_cases e : i = L
    · subst e; rw [hS] at hS'; cases hS'; exact ⟨rfl, rfl, h, hg⟩
    · have := hg i hi hi0 e; rw [hS] at this; cases this
  | sema hg _ _ => have := hg i hi hi0; rw [hS] at this; cases this
  | fin _ hg => have := hg i hi hi0; rw [hS] at this; cases this
theorem wp_done (ok : fm.Ok Wg) {i : Nat} (hi0 : i ≠ 0) {k : LK} {x : fm.τ} {g : Goroutine} {w : World} (h : DoneS P ty Wg g) (hQ : ∀ w₁, Rely k w w₁ → fm.GR i w w₁ → fm.Q i x k w₁) : WP (wgProto P fm ty Wg m0 p0 tot Shun Anc) i k (.work x) g w := by
  obtain ⟨ho0, g1, g2, g3, g4, h1, h2, o2, h3, h4, r4, o4, h5⟩ := h
  have hb : (i == 0) = false := by simpa using hi0
  have q : ∀ {a b : Goroutine}, QR P ty Wg false a b → QR P ty Wg (i == 0) a b := fun h => by rw [hb]; exact h
  -- the last one's way
  refine wp_release ok hi0 ho0 h1 hQ (wp_still ok (by simp) h1.step.2.1 (q h2) (wp_deafen ok hi0 o2 h3 (wp_still ok (by simp) h3.step.2.1 (q h4) ?_)))
  refine wp_wstep ok hi0 (by decide) r4 o4 fun n S tg st sm hi hS hm hleft hsp h0 hV hnm => ?_
  have hcv : (S i).cv = 1 := by rw [hS]; rfl
  have hVg : Vn n (upd S i .gone) + 1 = Vn n S := by have := Vn_upd S hi .gone; rw [hcv] at this; exact this
  have hV1 : 1 ≤ Vn n S := by
    have := le_sumTo (f := fun x => (S x).cv) hi
    simp only [hcv] at this
    exact this
  have hev : ∀ (s' : WSt fm.τ), ∀ e ∈ #[rdE (stW Wg), wrE (stW Wg)], (e.loc = .mark .disable) ∨ (e.loc = .mark .enable ∧ s' = .gone) ∨ ∃ o wr, e = ⟨.cell ⟨Wg, o, none⟩, wr, true⟩ := fun s' e he => by
    simp at he
    rcases he with rfl | rfl <;> exact .inr (.inr ⟨_, _, rfl⟩)
  have hno : ∀ e ∈ #[rdE (stW Wg), wrE (stW Wg)], e.loc ≠ .mark .disable ∧ e.loc ≠ .mark .enable := fun e he => by
    simp at he
    rcases he with rfl | rfl <;> simp [rdE, wrE]
  have hrel : ∀ t : Trace, Deaf t i = 1 → ∀ r, Rel' Wg t i r → Rel' Wg (t ++ MemOp.ofEvents i g4.frame.fn g4.frame.place #[rdE (stW Wg), wrE (stW Wg)]) i r := fun t ht r hr => rel_deaf hr (by omega) fun e he => ⟨(hno e he).2, fun a ha => by
    simp at he
    rcases he with rfl | rfl <;> (simp [rdE, wrE, MemAct.ofEvent, MemAct.touch?] at ha; subst ha; exact ⟨⟨0, none, rfl⟩, rfl⟩)⟩
  have hop : (∀ j, j < n → (S j).isOpen) → ∀ j, j < n → (upd S i .gone j).isOpen := fun ho j hj => by
    by_cases e : j = i
    · subst e; rw [upd_same]; trivial
    · rw [upd_ne S _ e]; exact ho j hj
  rcases hm.counted hi hi0 hcv with ⟨a1, a2, rfl, rfl, a5⟩ | ⟨a1, a2, a3, rfl, rfl⟩
  · -- nobody waits
    have hp : Vn n S + tg.pend ≤ 16 := by
      cases tg with
      | sp r s =>
        simp only [MT.pend]
        split
        · have := hsp r s h0 (by omega)
          rw [h0] at hleft
          simp only [leftW] at hleft
          omega
        · omega
      | _ => simp only [MT.pend]; omega
    obtain ⟨v, hv'⟩ : ∃ v, Vn n S + tg.pend = v + 1 := ⟨Vn n S + tg.pend - 1, by omega⟩
    obtain ⟨g5, b1, b2, _⟩ := h5 v 0 (by omega) (by omega)
    rw [hv']
    have e1 : ((v + 1 : Nat) : Int) * KKn + (0 : Nat) = ((v + 1 : Nat) : Int) * KKn := by simp
    have e2 : (v : Int) * KKn + (0 : Nat) = ((v : Nat) : Int) * KKn := by simp
    rw [e1, e2] at b1
    have hV' : Vn n (upd S i .gone) + tg.pend = v := by omega
    have hm' : Mode n (upd S i .gone) tg ((v : Int) * KKn) 0 := by
      have := Mode.opn (S := upd S i .gone) a1 (hop a2) (fun u hu => by have := a5 u hu; omega)
      rw [hV'] at this
      exact this
    refine ⟨.gone, g5, _, _, _, b1, by simp only [KKn]; omega, hev _, hm', fun e => by subst e; exact a1, fun _ e => absurd rfl e, .inr ⟨rfl, hrel, b2 (by omega)⟩⟩
  · -- goroutine 0 waits
    have hp : Vn n S ≤ 16 := by omega
    obtain ⟨v, hv'⟩ : ∃ v, Vn n S = v + 1 := ⟨Vn n S - 1, by omega⟩
    obtain ⟨g5, b1, b2, b3⟩ := h5 v 1 (by omega) (by omega)
    rw [hv']
    by_cases hv0 : v = 0
    · -- the last one
      subst hv0
      obtain ⟨o5, g6, g7, g8, g9, g10, g11, c1, r6, o6, c2, o7, c3, r8, o8, c4, o9, c5, r10, o10, c6, c7, c8⟩ := b3 ⟨rfl, rfl⟩
      have e1 : ((0 + 1 : Nat) : Int) * KKn + (1 : Nat) = ((0 + 1 : Nat) : Int) * KKn + 1 := by simp
      rw [e1] at b1
      have hg := others_gone hi hcv hv' a2 hnm
      have hget : ∀ (s' : WSt fm.τ) j, j < n → j ≠ 0 → j ≠ i → upd S i s' j = .gone := fun s' j hj hj0 hji => by rw [upd_ne S _ hji]; exact hg j hj hj0 hji
      have hm4 : Mode n (upd S i (.st 4)) tg 1 0 := by
        have := Mode.last (S := upd S i (.st 4)) i 4 a1 hi hi0 (upd_same _ _ _) (.inl rfl) (hget _)
        simpa using this
      refine ⟨.st 4, g5, _, _, _, b1, by simp [KKn], hev _, by simpa [KKn] using hm4, fun e => by subst e; exact a1, fun _ e => absurd rfl e, .inl ⟨4, rfl, by decide, hno, fun w' => ?_⟩⟩
      -- its load
      refine wp_still ok (by simp) o5 (q c1) (wp_wstep ok hi0 (by decide) r6 o6 fun n S tg st sm hi hS hm hleft hsp h0 hV hnm => ?_)
      obtain ⟨rfl, rfl, aw, hg⟩ := hm.late hi hi0 hS (by decide)
      have hget : ∀ (s' : WSt fm.τ) j, j < n → j ≠ 0 → j ≠ i → upd S i s' j = .gone := fun s' j hj hj0 hji => by rw [upd_ne S _ hji]; exact hg j hj hj0 hji
      have hm3 : Mode n (upd S i (.st 3)) tg 1 0 := by
        have := Mode.last (S := upd S i (.st 3)) i 3 aw hi hi0 (upd_same _ _ _) (.inr (.inl rfl)) (hget _)
        simpa using this
      refine ⟨.st 3, g7, _, _, _, c2, by simp, fun e he => by simp at he; subst he; exact .inr (.inr ⟨_, _, rfl⟩), by simpa using hm3, fun e => by subst e; exact aw, fun _ e => absurd rfl e, .inl ⟨3, rfl, by decide, fun e he => by simp at he; subst he; simp [rdE], fun w' => ?_⟩⟩
      -- its store
      refine wp_still ok (by simp) o7 (q c3) (wp_wstep ok hi0 (by decide) r8 o8 fun n S tg st sm hi hS hm hleft hsp h0 hV hnm => ?_)
      obtain ⟨rfl, rfl, aw, hg⟩ := hm.late hi hi0 hS (by decide)
      have hget : ∀ (s' : WSt fm.τ) j, j < n → j ≠ 0 → j ≠ i → upd S i s' j = .gone := fun s' j hj hj0 hji => by rw [upd_ne S _ hji]; exact hg j hj hj0 hji
      have hm2 : Mode n (upd S i (.st 2)) tg 0 0 := by
        have := Mode.last (S := upd S i (.st 2)) i 2 aw hi hi0 (upd_same _ _ _) (.inr (.inr rfl)) (hget _)
        simpa using this
      refine ⟨.st 2, g9, _, _, _, c4, by simp, fun e he => by simp at he; subst he; exact .inr (.inr ⟨_, _, rfl⟩), by simpa using hm2, fun e => by subst e; exact aw, fun _ e => absurd rfl e, .inl ⟨2, rfl, by decide, fun e he => by simp at he; subst he; simp [wrE], fun w' => ?_⟩⟩
      -- the semaphore
      refine wp_still ok (by simp) o9 (q c5) (wp_wstep ok hi0 (by decide) r10 o10 fun n S tg st sm hi hS hm hleft hsp h0 hV hnm => ?_)
      obtain ⟨rfl, rfl, aw, hg⟩ := hm.late hi hi0 hS (by decide)
      have hall : AllGone n (upd S i .gone) := fun j hj hj0 => by
        by_cases e : j = i
        · subst e; exact upd_same _ _ _
        · rw [upd_ne S _ e]; exact hg j hj hj0 e
      refine ⟨.gone, g11, _, _, _, c7, by simp, fun e he => ?_, .sema hall tg aw, fun e => by subst e; exact aw, fun _ _ => c6, .inr ⟨rfl, fun t ht r hr => rel_deaf' hr fun j e he a ha => ?_, c8⟩⟩
      · simp at he
        rcases he with rfl | rfl | rfl | rfl
        · exact .inl rfl
        · exact .inr (.inr ⟨_, _, rfl⟩)
        · exact .inr (.inr ⟨_, _, rfl⟩)
        · exact .inr (.inl ⟨rfl, rfl⟩)
      · rw [ht]
        have hj : j < 4 := (Array.getElem?_eq_some_iff.1 he).1
        obtain rfl | rfl | rfl | rfl : j = 0 ∨ j = 1 ∨ j = 2 ∨ j = 3 := by omega
        · simp at he; subst he; simp [mkE, MemAct.ofEvent, MemAct.touch?] at ha
        · simp at he; subst he; simp [rdE, MemAct.ofEvent, MemAct.touch?] at ha; subst ha; exact ⟨⟨1, none, rfl⟩, rfl, by simp [deafBehind, mkE, rdE, wrE]⟩
        · simp at he; subst he; simp [wrE, MemAct.ofEvent, MemAct.touch?] at ha; subst ha; exact ⟨⟨1, none, rfl⟩, rfl, by simp [deafBehind, mkE, rdE, wrE]⟩
        · simp at he; subst he; simp [mkE, MemAct.ofEvent, MemAct.touch?] at ha
    · obtain ⟨u, rfl⟩ : ∃ u, v = u + 1 := ⟨v - 1, by omega⟩
      have hV' : Vn n (upd S i .gone) = u + 1 := by omega
      have hm' : Mode n (upd S i .gone) tg (((u + 1 : Nat) : Int) * KKn + 1) 0 := by
        have := Mode.reg (S := upd S i .gone) a1 (hop a2) (by omega)
        rw [hV'] at this
        exact this
      refine ⟨.gone, g5, _, _, _, b1, by simp only [KKn]; omega, hev _, hm', fun e => by subst e; exact a1, fun _ e => absurd rfl e, .inr ⟨rfl, hrel, b2 (by omega)⟩⟩
end
end Go.Proofs.Yticdjkkcfdbdcaa
namespace Go.Proofs.Yticdjkkcfdbdcaa
open Go.Conc Go.ConcN
section
variable {P : Program} {fm : Fam} {ty : TypeId} {Wg m0 p0 tot : Nat} {Shun : Loc → Prop} {Anc : Goroutine → World → Prop}
theorem Vn_main {n : Nat} {S : Nat → WSt fm.τ} {m : MT} (h : S 0 = .main m) (m' : MT) (hn : 0 < n) : Vn n (upd S 0 (.main m')) = Vn n S := by
  have := Vn_upd S hn (.main m')
  rw [h] at this
  exact this
theorem AllGone.main {n : Nat} {S : Nat → WSt fm.τ} (h : AllGone n S) (m' : MT) : AllGone n (upd S 0 (.main m')) := fun i hi hi0 => by rw [upd_ne S _ hi0]; exact h i hi hi0
theorem open_main {n : Nat} {S : Nat → WSt fm.τ} (h : ∀ i, i < n → (S i).isOpen) (m' : MT) : ∀ i, i < n → (upd S 0 (.main m') i).isOpen := fun i hi => by
  by_cases e : i = 0
  · subst e; rw [upd_same]; trivial
  · rw [upd_ne S _ e]; exact h i hi
/-- Goroutine 0 turns from one tag to another of the same kind. -/
theorem Mode.retag {n : Nat} {S : Nat → WSt fm.τ} {tg tg' : MT} {st sm : Int} (h : Mode n S tg st sm) (h0 : S 0 = .main tg) (hn : 0 < n)
    (hk : (tg.isOpen ∧ tg'.isOpen ∧ tg'.pend = tg.pend ∧ ∀ v, tg' = .w2 v → Vn n S ≤ v ∧ 1 ≤ v) ∨ (tg.isW3 ∧ tg'.isW3) ∨ (tg.isFin ∧ tg'.isFin)) : Mode n (upd S 0 (.main tg')) tg' st sm := by
  have hV := Vn_main h0 tg' hn
  cases h with
  | opn h ho hv =>
    rcases hk with ⟨_, h2, h3, h4⟩ | ⟨h2, _⟩ | ⟨h2, _⟩
    · rw [← h3, ← hV]
      exact .opn h2 (open_main ho _) (fun v hv => by rw [hV]; exact h4 v hv)
    · cases tg <;> first | exact h.elim | exact h2.elim
    · cases tg <;> first | exact h.elim | exact h2.elim
  | reg h ho hv =>
    rcases hk with ⟨h2, _⟩ | ⟨_, h2⟩ | ⟨h2, _⟩
    · cases tg <;> first | exact h.elim | exact h2.elim
    · rw [← hV]; exact .reg h2 (open_main ho _) (by rw [hV]; exact hv)
    · cases tg <;> first | exact h.elim | exact h2.elim
  | last L k h hL hL0 hS hk' hg =>
    rcases hk with ⟨h2, _⟩ | ⟨_, h2⟩ | ⟨h2, _⟩
    · cases tg <;> first | exact h.elim | exact h2.elim
    · exact .last L k h2 hL hL0 (by rw [upd_ne S _ hL0]; exact hS) hk' (fun i hi hi0 hiL => by rw [upd_ne S _ hi0]; exact hg i hi hi0 hiL)
    · cases tg <;> first | exact h.elim | exact h2.elim
  | sema hg _ h =>
    rcases hk with ⟨h2, _⟩ | ⟨_, h2⟩ | ⟨h2, _⟩
    · cases tg <;> first | exact h.elim | exact h2.elim
    · exact .sema (hg.main _) _ h2
    · cases tg <;> first | exact h.elim | exact h2.elim
  | fin h hg =>
    rcases hk with ⟨h2, _⟩ | ⟨h2, _⟩ | ⟨_, h2⟩
    · cases tg <;> first | exact h.elim | exact h2.elim
    · cases tg <;> first | exact h.elim | exact h2.elim
    · exact .fin h2 (hg.main _)
theorem evSync_word (m : Mark) (hm : m = .disable ∨ m = .enable ∨ (∃ o, m = .acquire ⟨Wg, o, none⟩) ∨ (∃ o, m = .read ⟨Wg, o, none⟩) ∨ ∃ o, m = .write ⟨Wg, o, none⟩) : EvSync Wg 0 (mkE m) := by
  rcases hm with rfl | rfl | ⟨o, rfl⟩ | ⟨o, rfl⟩ | ⟨o, rfl⟩
  · exact evSync_mark _ (fun B hB => trivial) (fun a ha => by simp [MemAct.touch?] at ha) (by simp)
  · exact evSync_mark _ (fun B hB => trivial) (fun a ha => by simp [MemAct.touch?] at ha) (by simp)
  · exact evSync_mark _ (fun B hB => hB) (fun a ha => by simp [MemAct.touch?] at ha) (by simp)
  · exact evSync_mark _ (fun B hB => hB) (fun a ha => by simp only [MemAct.touch?, Option.some.injEq] at ha; subst ha; exact ⟨⟨o, none, rfl⟩, by simp, fun _ => rfl⟩) (by simp)
  · exact evSync_mark _ (fun B hB => hB) (fun a ha => by simp only [MemAct.touch?, Option.some.injEq] at ha; subst ha; exact ⟨⟨o, none, rfl⟩, by simp, fun _ => rfl⟩) (by simp)
/-- A word of goroutine 0's. -/
theorem wp_mword (ok : fm.Ok Wg) {k : LK} {tg tg' : MT} {g g' : Goroutine} {w : World} {m : Mark} (ho : g.offers = none) (h : ES P true g (mkE m) g')
    (hm : m = .disable ∨ m = .enable ∨ (m = .acquire (stW Wg)) ∨ (m = .read (smW Wg)) ∨ m = .write (smW Wg))
    (hk : (tg.isOpen ∧ tg'.isOpen ∧ tg'.pend = tg.pend ∧ ∀ v, tg' = .w2 v → tg = .w2 v) ∨ (tg.isW3 ∧ tg'.isW3) ∨ (tg.isFin ∧ tg'.isFin))
    (hd : deafBehind tg.deaf #[mkE m] = tg'.deaf) (hl : leftW (.main tg' : WSt fm.τ) = leftW (.main tg : WSt fm.τ)) (hsp : SpOk (.main tg' : WSt fm.τ)) (hret : tg ≠ .ret) (hret' : tg' = .ret → m = .acquire (stW Wg) ∧ tg.deaf = 0)
    (hc : WP (wgProto P fm ty Wg m0 p0 tot Shun Anc) 0 k (.main tg') g' w) : WP (wgProto P fm ty Wg m0 p0 tot Shun Anc) 0 k (.main tg) g w := by
  obtain ⟨h1, h2, h3⟩ := h.step
  refine wp_sync ok (by simp) h1 ho fun w₁ n S K t hs => ?_
  obtain ⟨hi, hk', hss, hrel, hfr, hlic, hf1, hf2, hf3, hf4, hf5⟩ := hs
  replace hss : S 0 = .main tg := hss
  obtain ⟨tg0, st, sm, h0, hw, hmd, hacq⟩ := hf1.mode
  obtain rfl : tg0 = tg := by rw [hss] at h0; cases h0; rfl
  have hS0 : upd S 0 (.main tg') 0 = .main tg' := upd_same _ _ _
  have hev : EvSync Wg 0 (mkE m) := evSync_word m (hm.imp id (fun h => h.imp id (fun h => h.imp (fun e => ⟨_, e⟩) (fun h => h.imp (fun e => ⟨_, e⟩) (fun e => ⟨_, e⟩)))))
  have hmd' : Mode n (upd S 0 (.main tg')) tg' st sm := hmd.retag hss hi (by
    rcases hk with ⟨a, b, c, d⟩ | h | h
    · refine .inl ⟨a, b, c, fun v hv => ?_⟩
      cases hmd with
      | opn _ _ hv' => exact hv' v (d v hv)
      | reg h _ _ => cases tg0 <;> first | exact h.elim | exact a.elim
      | last _ _ h _ _ _ _ _ => cases tg0 <;> first | exact h.elim | exact a.elim
      | sema _ _ h => cases tg0 <;> first | exact h.elim | exact a.elim
      | fin h _ => cases tg0 <;> first | exact h.elim | exact a.elim
    · exact .inr (.inl h)
    · exact .inr (.inr h))
  have hdf : Deaf t 0 = tg0.deaf := hf1.deaf 0 hi _ (by rw [hss]; rfl)
  refine ⟨g', w₁, #[mkE m], .main tg', st, sm, st, sm, h3 w₁, .refl _ _, hw, hw, fun e => absurd rfl e, fun e he => (by simp at he; subst he; exact hev), ?_, .inl rfl, by rw [hS0, hss]; exact hl, by rw [hS0]; exact hsp, fun e => absurd rfl e, .inl ⟨by simp, WP.rely (wg_ok ok) hc hrel hfr⟩⟩
  refine hf1.step hi (.inl rfl) ofEvents_g (fun op hop => ?_) hS0 hw hmd' (fun e => ?_) (fun e => absurd rfl e) (fun d hdd => ?_) (fun e => absurd rfl e)
  · obtain ⟨e, he, rfl⟩ := Go.Conc.mem_ofEvents hop
    simp at he; subst he
    exact hev.2.2 _
  · obtain ⟨rfl, hd0⟩ := hret' e
    rw [one_op]
    have hg : AllGone n S := by
      subst e
      cases hmd' with
      | fin _ hg => exact fun i hi hi0 => by have := hg i hi hi0; rwa [upd_ne S _ hi0] at this
      | opn h _ _ => exact h.elim
      | reg h _ _ => exact h.elim
      | last _ _ h _ _ _ _ _ => exact h.elim
      | sema _ _ h => exact h.elim
    refine ⟨t.size, by rw [act?_of (at_end t _)]; rfl, by simp [Trace.g?], ⟨0, by simp [Trace.g?], by rw [deaf_old (Nat.le_refl _)]; exact hdf.trans hd0⟩, fun i hi1 hi2 => ?_⟩
    have hi0 : i ≠ 0 := by have := hf1.pos; omega
    obtain ⟨r, hr⟩ := hf1.rel i hi1 hi2 (by rw [hg i hi2 hi0]; trivial)
    exact ⟨r, hr.other (j := 0) (fun x => hi0 x.symm) (fun op hop => by simp at hop; rw [hop]), lt_of_act? hr.rel.act⟩
  · simp only [WSt.deaf, Option.some.injEq] at hdd
    subst hdd
    rw [Deaf_own, hdf]; exact hd
/-- A step of goroutine 0's on the group's cells. -/
theorem wp_mturn (ok : fm.Ok Wg) {k : LK} {tg : MT} {g : Goroutine} {w : World} (hr : g.status = .running) (ho : g.offers = none)
    (h : ∀ n (S : Nat → WSt fm.τ) st sm, 0 < n → S 0 = .main tg → Mode n S tg st sm → n + leftW (S 0) ≤ m0 + 16 → Vn n S ≤ n - m0 → SpOk (S 0) → (∀ a b, WgIs ty Wg w a b → st ≤ a) → (∀ j, j < n → j ≠ 0 → ¬ (S j).isMain) →
      ∃ (tg' : MT) (g' : Goroutine) (es : Array Event) (st' sm' : Int), Turns P true ty Wg g st sm st' sm' es g' ∧ (∀ e ∈ es, (e.loc = .mark .disable) ∨ (e.loc = .mark .enable) ∨ ∃ o wr, e = ⟨.cell ⟨Wg, o, none⟩, wr, true⟩) ∧ deafBehind tg.deaf es = tg'.deaf ∧
        Mode n (upd S 0 (.main tg')) tg' st' sm' ∧ leftW (.main tg' : WSt fm.τ) = leftW (.main tg : WSt fm.τ) ∧ SpOk (.main tg' : WSt fm.τ) ∧ tg' ≠ .ret ∧ ∀ w', Rely k w w' → WgIs ty Wg w' st' sm' → WP (wgProto P fm ty Wg m0 p0 tot Shun Anc) 0 k (.main tg') g' w') : WP (wgProto P fm ty Wg m0 p0 tot Shun Anc) 0 k (.main tg) g w := by
  refine wp_sync ok (by simp) hr ho fun w₁ n S K t hs => ?_
  obtain ⟨hi, hk', hss, hrel, hfr, hlic, hf1, hf2, hf3, hf4, hf5⟩ := hs
  replace hss : S 0 = .main tg := hss
  obtain ⟨tg0, st, sm, h0, hw, hmd, hacq⟩ := hf1.mode
  obtain rfl : tg0 = tg := by rw [hss] at h0; cases h0; rfl
  obtain ⟨tg', g', es, st', sm', hT, hes, hd, hmd', hl, hsp, hret, hc⟩ := h n S st sm hi hss hmd (by have h1 := hf4.1; have h2 := hf4.2; omega) hf1.most hf5 (fun a b hab => by
    obtain ⟨s1, m1, h1, hle⟩ := hfr.2 rfl a b hab
    obtain ⟨e, _⟩ := hw.inj h1
    rw [e] at hle; exact hle) hf1.notMain
  obtain ⟨w', hst, hw', ht⟩ := hT w₁ hw
  have hS0 : upd S 0 (.main tg') 0 = .main tg' := upd_same _ _ _
  have hdf : Deaf t 0 = tg0.deaf := hf1.deaf 0 hi _ (by rw [hss]; rfl)
  have hev : ∀ e ∈ es, EvSync Wg 0 e := fun e he => by
    rcases hes e he with h1 | h1 | ⟨o, wr, rfl⟩
    · obtain ⟨loc, wr, sy⟩ := e
      simp only at h1
      subst h1
      exact ⟨fun a ha => by simp [MemAct.ofEvent, MemAct.touch?] at ha, fun B _ => trivial, by simp [MemAct.ofEvent]⟩
    · obtain ⟨loc, wr, sy⟩ := e
      simp only at h1
      subst h1
      exact ⟨fun a ha => by simp [MemAct.ofEvent, MemAct.touch?] at ha, fun B _ => trivial, by simp [MemAct.ofEvent]⟩
    · exact evSync_cell o wr
  refine ⟨g', w', es, .main tg', st, sm, st', sm', hst, ht, hw, hw', fun e => absurd rfl e, hev, ?_, .inl rfl, by rw [hS0, hss]; exact hl, by rw [hS0]; exact hsp, fun e => absurd rfl e, .inl ⟨by simp, hc w' (hrel.trans (by rw [← hk']; exact ht.rely hlic hi (hf3 0 hi (by rw [hss]; simp)) hw hw' hi)) hw'⟩⟩
  refine hf1.step hi (.inl rfl) ofEvents_g (fun op hop => ?_) hS0 hw' hmd' (fun e => absurd e hret) (fun e => absurd rfl e) (fun d hdd => ?_) (fun e => absurd rfl e)
  · obtain ⟨e, he, rfl⟩ := Go.Conc.mem_ofEvents hop
    exact (hev e he).2.2 _
  · simp only [WSt.deaf, Option.some.injEq] at hdd
    subst hdd
    rw [Deaf_own, hdf]; exact hd
/-- Add(1), from its 'disable' on, to its return. -/
def AddS (P : Program) (ty : TypeId) (Wg : Nat) (g0 g9 : Goroutine) : Prop :=
  g0.offers = none ∧ ∃ g1 g2, ES P true g0 (mkE .disable) g1 ∧ QR P ty Wg true g1 g2 ∧ g2.status = .running ∧ g2.offers = none ∧
    ∀ v : Nat, v ≤ 15 → ∃ g3, Turns P true ty Wg g2 ((v : Int) * KKn) 0 (((v + 1 : Nat) : Int) * KKn) 0 #[rdE (stW Wg), wrE (stW Wg)] g3 ∧ g3.offers = none ∧ ∃ g6, g6.offers = none ∧
      ((v = 0 ∧ ∃ g4 g5, QR P ty Wg true g3 g4 ∧ g4.offers = none ∧ ES P true g4 (mkE (.read (smW Wg))) g5 ∧ QR P ty Wg true g5 g6) ∨ (v ≠ 0 ∧ QR P ty Wg true g3 g6)) ∧ ∃ g7, ES P true g6 (mkE .enable) g7 ∧ QR P ty Wg true g7 g9
theorem wp_add (ok : fm.Ok Wg) {k : LK} {r : Nat} {g g' : Goroutine} {w : World} (h : AddS P ty Wg g g') (hc : ∀ w', Rely k w w' → WP (wgProto P fm ty Wg m0 p0 tot Shun Anc) 0 k (.main (.sp (r + 1) 0)) g' w') : WP (wgProto P fm ty Wg m0 p0 tot Shun Anc) 0 k (.main (.sp (r + 1) 3)) g w := by
  obtain ⟨ho, g1, g2, h1, h2, r2, o2, h3⟩ := h
  have sp : ∀ s, SpOk (.main (.sp (r + 1) s) : WSt fm.τ) := fun s a b e _ => by cases e; omega
  refine wp_mword ok ho h1 (.inl rfl) (tg' := .sp (r + 1) 2) (.inl ⟨trivial, trivial, rfl, fun v e => by cases e⟩) (by simp [MT.deaf, deafBehind, mkE]) rfl (sp _) (by simp) (fun e => by cases e) (wp_still ok (by simp) h1.step.2.1 h2 ?_)
  refine wp_mturn ok r2 o2 fun n S st sm hn h0 hm hleft hV hsp _ _ => ?_
  cases hm with
  | reg h _ _ => exact h.elim
  | last _ _ h _ _ _ _ _ => exact h.elim
  | sema _ _ h => exact h.elim
  | fin h _ => exact h.elim
  | opn hop ho' hv' =>
    rw [h0] at hleft
    simp only [leftW] at hleft
    have e0 : Vn n S + (MT.sp (r + 1) 2).pend = Vn n S := by simp [MT.pend]
    rw [e0]
    obtain ⟨g3, b1, o3, g6, o6, b2, g7, b3, b4⟩ := h3 (Vn n S) (by omega)
    have hm1 : Mode n (upd S 0 (.main (.sp (r + 1) 1))) (.sp (r + 1) 1) (((Vn n S + 1 : Nat) : Int) * KKn) 0 := by
      have := Mode.opn (S := upd S 0 (.main (.sp (r + 1) 1))) (tg := .sp (r + 1) 1) trivial (open_main ho' _) (fun v e => by cases e)
      rw [Vn_main h0 _ hn] at this
      simpa [MT.pend] using this
    refine ⟨.sp (r + 1) 1, g3, _, _, _, b1, fun e he => (by simp at he; rcases he with rfl | rfl <;> exact .inr (.inr ⟨_, _, rfl⟩)), by simp [MT.deaf, deafBehind, rdE, wrE], hm1, rfl, sp _, by simp, fun w' hrw hw' => ?_⟩
    have fin : WP (wgProto P fm ty Wg m0 p0 tot Shun Anc) 0 k (.main (.sp (r + 1) 1)) g6 w' :=
      wp_mword ok o6 b3 (.inr (.inl rfl)) (tg' := .sp (r + 1) 0) (.inl ⟨trivial, trivial, rfl, fun v e => by cases e⟩) (by simp [MT.deaf, deafBehind, mkE]) rfl (sp _) (by simp) (fun e => by cases e) (wp_still ok (by simp) b3.step.2.1 b4 (hc w' hrw))
    rcases b2 with ⟨_, g4, g5, c1, o4, c2, c3⟩ | ⟨_, c1⟩
    · refine wp_still ok (by simp) o3 c1 (wp_mword ok o4 c2 (.inr (.inr (.inr (.inl rfl)))) (tg' := .sp (r + 1) 1) (.inl ⟨trivial, trivial, rfl, fun v e => by cases e⟩) (by simp [MT.deaf, deafBehind, mkE]) rfl (sp _) (by simp) (fun e => by cases e) (wp_still ok (by simp) c2.step.2.1 c3 fin))
    · exact wp_still ok (by simp) o3 c1 fin
/-- A go statement. -/
theorem wp_go (ok : fm.Ok Wg) {k k' kc : LK} {r : Nat} {g g' child : Goroutine} {w : World} (hr : g.status = .running) (ho : g.offers = none) (hstep : ∀ w₁, stepG P true g w₁ = .spawn g' child w₁ #[])
    (kW : ∀ l, k'.W l → k.W l) (kR : ∀ l, k'.R l → k.W l ∨ k.R l) (kA : ∀ l, k'.A l → k.W l ∨ k.A l)
    (cW : ∀ l, kc.W l → k.W l) (cR : ∀ l, kc.R l → k.W l ∨ k.R l) (cA : ∀ l, kc.A l → k.W l ∨ k.A l)
    (dWW : ∀ l, k'.W l → ¬ kc.W l) (dWR : ∀ l, k'.W l → ¬ kc.R l) (dRW : ∀ l, kc.W l → ¬ k'.R l)
    (a1 : ∀ l, k'.W l ∨ k'.R l → ¬ k'.A l ∧ ¬ kc.A l) (a2 : ∀ l, kc.W l ∨ kc.R l → ¬ k'.A l ∧ ¬ kc.A l)
    (g1 : ∀ l, WgLoc Wg l → k'.A l) (g2 : ∀ l, WgLoc Wg l → kc.A l) (x : fm.τ)
    (hG : ∀ n T K w t a b, fm.G n T K w t → Lic n K w t → 0 < n → n + (r + 1) = m0 + tot → K 0 = k → T 0 = none → Deaf t 0 = 0 → (a : MemOp).g = 0 ∧ a.act = .go n → (b : MemOp).g = n ∧ b.act = .start → fm.G (n + 1) (upd T n (some x)) (upd (upd K 0 k') n kc) w (t ++ #[a, b]))
    (hc : ∀ w₁, Rely k w w₁ → fm.GR 0 w w₁ → WP (wgProto P fm ty Wg m0 p0 tot Shun Anc) 0 k' (.main (.sp r 3)) g' w₁) (hcc : ∀ w₁, Rely k w w₁ → fm.GR 0 w w₁ → ∀ n, n ≠ 0 → n + (r + 1) = m0 + tot → WP (wgProto P fm ty Wg m0 p0 tot Shun Anc) n kc (.work x) child w₁) :
    WP (wgProto P fm ty Wg m0 p0 tot Shun Anc) 0 k (.main (.sp (r + 1) 0)) g w := by
  refine WP.step hr ho fun w₁ n (S : Nat → WSt fm.τ) K t hs => ?_
  obtain ⟨hi, hk, hss, hrel, hfr, hlic, hf1, hf2, hf3, hf4, hf5⟩ := hs
  replace hss : S 0 = .main (.sp (r + 1) 0) := hss
  have h1 := hc w₁ hrel hfr.1
  have hnr : n + (r + 1) = m0 + tot := by have h1 := hf4.1; rw [hss] at h1; exact h1
  have h2 := hcc w₁ hrel hfr.1 n (by omega) hnr
  have hn0 : n ≠ 0 := by omega
  have hd0 : Deaf t 0 = 0 := hf1.deaf 0 hi 0 (by rw [hss]; rfl)
  obtain ⟨a, ha⟩ : ∃ a : MemOp, a = { g := 0, fn := g.frame.fn, pos := g.frame.place, act := .go n } := ⟨_, rfl⟩
  obtain ⟨b, hb⟩ : ∃ b : MemOp, b = { g := n, fn := child.frame.fn, pos := g.frame.place, act := .start } := ⟨_, rfl⟩
  have eops : ((MemOp.ofEvents 0 g.frame.fn g.frame.place #[]).push { g := 0, fn := g.frame.fn, pos := g.frame.place, act := .go n }).push { g := n, fn := child.frame.fn, pos := g.frame.place, act := .start } = #[a, b] := by rw [ofEvents_none, ha, hb]; rfl
  have ha' : a.g = 0 ∧ a.act = .go n := by rw [ha]; exact ⟨rfl, rfl⟩
  have hb' : b.g = n ∧ b.act = .start := by rw [hb]; exact ⟨rfl, rfl⟩
  have hl := hlic.fork hi hd0 (k := k') (kc := kc) ha' hb' (by rw [hk]; exact kW) (by rw [hk]; exact kR) (by rw [hk]; exact kA) (by rw [hk]; exact cW) (by rw [hk]; exact cR) (by rw [hk]; exact cA) dWW dWR dRW a1 a2
  have hw := hf1.spawn (w' := w₁) hss (hlic.above n (Nat.le_refl _)) ha' hb' rfl x
  have hg := hG n (fun i => (S i).x) K w₁ t a b hf2 hlic hi hnr hk (by show (S 0).x = none; rw [hss]; rfl) hd0 ha' hb'
  have hT : (fun i => (upd (upd S 0 (.main (.sp r 3))) n (.work x) i).x) = upd (fun i => (S i).x) n (some x) := by
    funext j
    by_cases e : j = n
    · subst e; rw [upd_same, upd_same]; rfl
    · rw [upd_ne _ _ e, upd_ne _ _ e]
      by_cases e2 : j = 0
      · subst e2; rw [upd_same, hss]; rfl
      · rw [upd_ne _ _ e2]
  have h00 : upd (upd S 0 (.main (.sp r 3))) n (.work x) 0 = .main (.sp r 3) := by rw [upd_ne _ _ (fun e => hn0 e.symm), upd_same]
  rw [hss] at hf4
  simp only [leftW] at hf4
  refine .spawn g' child w₁ #[] k' kc (.main (.sp r 3)) (.work x) (hstep w₁) h1.running.1 h1.running.2 h2.running.1 h2.running.2 (by rw [eops]; exact hl) (by
    rw [eops]
    refine ⟨hw, (congrArg (fun T => fm.G (n + 1) T (upd (upd K 0 k') n kc) w₁ (t ++ #[a, b])) hT).mpr hg, fun i hi' hne l hll => ?_, ?_, ?_⟩
    · by_cases e : i = n
      · subst e; rw [upd_same]; exact g2 l hll
      · rw [upd_ne _ _ e]
        by_cases e2 : i = 0
        · subst e2; rw [upd_same]; exact g1 l hll
        · rw [upd_ne _ _ e2]
          refine hf3 i (by omega) (fun x => hne ?_) l hll
          exact ((upd_ne (upd S 0 (.main (.sp r 3))) (.work _) e).trans (upd_ne S _ e2)).trans x
    · show n + 1 + leftW (upd (upd S 0 (.main (.sp r 3))) n (.work x) 0) = m0 + tot ∧ tot ≤ 16
      rw [h00]; simp only [leftW]; exact ⟨by omega, hf4.2⟩
    · show SpOk (upd (upd S 0 (.main (.sp r 3))) n (.work x) 0)
      rw [h00]; intro a b e hlt; cases e; omega) (fun j _ _ => .refl _ _) (fun j _ _ => (wg_ok ok).refl j w₁) (fun j hj hj0 hb => absurd hb.1 hj0) ?_ (fun _ _ _ _ _ _ hm => .inl hm) (by show ¬ (_ = _); simp) (by show ¬ (_ = _); simp) h1 h2
  show leftW (upd (upd S 0 (.main (.sp r 3))) n (.work x) 0) < leftW (S 0)
  rw [h00, hss]; simp only [leftW]; omega
/-- The way out of Wait. -/
def ExitS (P : Program) (ty : TypeId) (Wg : Nat) (g gend : Goroutine) : Prop :=
  g.offers = none ∧ ∃ a b c d, QR P ty Wg true g a ∧ a.offers = none ∧ ES P true a (mkE .enable) b ∧ QR P ty Wg true b c ∧ c.offers = none ∧ ES P true c (mkE (.acquire (stW Wg))) d ∧ QR P ty Wg true d gend
/-- Wait, from its 'disable' on, to its return. -/
def WaitS (P : Program) (ty : TypeId) (Wg : Nat) (g0 gend : Goroutine) : Prop :=
  g0.offers = none ∧ ∃ ga gb, ∃ LH : Goroutine → Prop, ES P true g0 (mkE .disable) ga ∧ QR P ty Wg true ga gb ∧ LH gb ∧ ∀ gb, LH gb → gb.status = .running ∧ gb.offers = none ∧ ∀ v : Nat, v ≤ 16 → ∃ g1, Turns P true ty Wg gb ((v : Int) * KKn) 0 ((v : Int) * KKn) 0 #[rdE (stW Wg)] g1 ∧
    (v = 0 → ExitS P ty Wg g1 gend) ∧
    (v ≠ 0 → g1.offers = none ∧ ∃ g2, QR P ty Wg true g1 g2 ∧ g2.status = .running ∧ g2.offers = none ∧
      (∀ u : Nat, u < v → ∃ g4 g5, Turns P true ty Wg g2 ((u : Int) * KKn) 0 ((u : Int) * KKn) 0 #[rdE (stW Wg)] g4 ∧ g4.offers = none ∧ QR P ty Wg true g4 g5 ∧ LH g5) ∧
      ∃ g3, Turns P true ty Wg g2 ((v : Int) * KKn) 0 ((v : Int) * KKn + 1) 0 #[rdE (stW Wg), wrE (stW Wg)] g3 ∧ g3.offers = none ∧ ∃ g6 g7 g8, QR P ty Wg true g3 g6 ∧ g6.offers = none ∧ ES P true g6 (mkE (.write (smW Wg))) g7 ∧ QR P ty Wg true g7 g8 ∧ g8.status = .running ∧ g8.offers = none ∧
        (∀ st w, WgIs ty Wg w st 0 → stepG P true g8 w = .go { g8 with status := .blocked } w #[]) ∧
        ∃ g9, Turns P true ty Wg g8 0 1 0 0 #[mkE .disable, rdE (smW Wg), wrE (smW Wg), mkE .enable] g9 ∧ g9.offers = none ∧ ∃ g10 g11, QR P ty Wg true g9 g10 ∧ g10.status = .running ∧ g10.offers = none ∧ Turns P true ty Wg g10 0 0 0 0 #[rdE (stW Wg)] g11 ∧ ExitS P ty Wg g11 gend)
theorem sp_other {tg : MT} (h : ∀ r s, tg ≠ .sp r s) : SpOk (.main tg : WSt fm.τ) := fun a b e _ => by cases e; exact absurd rfl (h a b)
theorem wp_exit (ok : fm.Ok Wg) {k : LK} {g gend : Goroutine} (h : ExitS P ty Wg g gend) (w : World) (hc : WP (wgProto P fm ty Wg m0 p0 tot Shun Anc) 0 k (.main .ret) gend w) : WP (wgProto P fm ty Wg m0 p0 tot Shun Anc) 0 k (.main .ke) g w := by
  obtain ⟨o, a, b, c, d, h1, oa, h2, h3, oc, h4, h5⟩ := h
  exact wp_still ok (by simp) o h1 (wp_mword ok oa h2 (.inr (.inl rfl)) (tg' := .acq) (.inr (.inr ⟨trivial, trivial⟩)) (by simp [MT.deaf, deafBehind, mkE]) rfl (sp_other (by simp)) (by simp) (fun e => by cases e)
    (wp_still ok (by simp) h2.step.2.1 h3 (wp_mword ok oc h4 (.inr (.inr (.inl rfl))) (tg' := .ret) (.inr (.inr ⟨trivial, trivial⟩)) (by simp [MT.deaf, deafBehind, mkE]) rfl (sp_other (by simp)) (by simp) (fun _ => ⟨rfl, rfl⟩)
      (wp_still ok (by simp) h4.step.2.1 h5 hc))))
theorem Mode.atFin {n : Nat} {S : Nat → WSt fm.τ} {tg : MT} {st sm : Int} (h : Mode n S tg st sm) (ht : tg.isFin) : AllGone n S ∧ st = 0 ∧ sm = 0 := by
  cases h with
  | fin _ hg => exact ⟨hg, rfl, rfl⟩
  | opn h _ _ => cases tg <;> first | exact h.elim | exact ht.elim
  | reg h _ _ => cases tg <;> first | exact h.elim | exact ht.elim
  | last _ _ h _ _ _ _ _ => cases tg <;> first | exact h.elim | exact ht.elim
  | sema _ _ h => cases tg <;> first | exact h.elim | exact ht.elim
theorem Mode.atOpen {n : Nat} {S : Nat → WSt fm.τ} {tg : MT} {st sm : Int} (h : Mode n S tg st sm) (ht : tg.isOpen) : (∀ i, i < n → (S i).isOpen) ∧ st = ((Vn n S + tg.pend : Nat) : Int) * KKn ∧ sm = 0 ∧ ∀ v, tg = .w2 v → Vn n S ≤ v ∧ 1 ≤ v := by
  cases h with
  | opn _ ho hv => exact ⟨ho, rfl, rfl, hv⟩
  | fin h _ => cases tg <;> first | exact h.elim | exact ht.elim
  | reg h _ _ => cases tg <;> first | exact h.elim | exact ht.elim
  | last _ _ h _ _ _ _ _ => cases tg <;> first | exact h.elim | exact ht.elim
  | sema _ _ h => cases tg <;> first | exact h.elim | exact ht.elim
/-- Nobody counted, nobody on the way to the semaphore: all have gone. -/
theorem all_gone {n : Nat} {S : Nat → WSt fm.τ} (ho : ∀ j, j < n → (S j).isOpen) (hV : Vn n S = 0) (hm : ∀ j, j < n → j ≠ 0 → ¬ (S j).isMain) : AllGone n S := by
  intro j hj hj0
  have h3 : (S j).cv ≤ Vn n S := le_sumTo (f := fun x => (S x).cv) hj
  have h4 := ho j hj
  have h5 := hm j hj hj0
  cases hs : S j with
  | main m => rw [hs] at h5; exact absurd trivial h5
  | work x => rw [hs] at h3; have e : (WSt.work x : WSt fm.τ).cv = 1 := rfl; omega
  | st k =>
    rw [hs] at h3 h4
    rcases h4 with rfl | rfl
    · have e : (WSt.st 6 : WSt fm.τ).cv = 1 := rfl
      omega
    · have e : (WSt.st 5 : WSt fm.τ).cv = 1 := rfl
      omega
  | gone => rfl
theorem wp_sema (ok : fm.Ok Wg) {k : LK} {g g' : Goroutine} {w : World} (hr : g.status = .running) (ho : g.offers = none) (hb : ∀ st w, WgIs ty Wg w st 0 → stepG P true g w = .go { g with status := .blocked } w #[])
    (hT : Turns P true ty Wg g 0 1 0 0 #[mkE .disable, rdE (smW Wg), wrE (smW Wg), mkE .enable] g') (hc : ∀ w', Rely k w w' → WP (wgProto P fm ty Wg m0 p0 tot Shun Anc) 0 k (.main .w4) g' w') : WP (wgProto P fm ty Wg m0 p0 tot Shun Anc) 0 k (.main .w3) g w := by
  refine wp_sync_or ok (by simp) hr ho fun w₁ n S K t hs => ?_
  obtain ⟨hi, hk', hss, hrel, hfr, hlic, hf1, hf2, hf3, hf4, hf5⟩ := hs
  replace hss : S 0 = .main .w3 := hss
  obtain ⟨tg0, st, sm, h0, hw, hmd, hacq⟩ := hf1.mode
  obtain rfl : tg0 = .w3 := by rw [hss] at h0; cases h0; rfl
  by_cases hsm : sm = 0
  · subst hsm
    exact .inl ⟨rfl, hss, ⟨st, hw⟩, hb st w₁ hw⟩
  right
  obtain ⟨hg, rfl, rfl⟩ : AllGone n S ∧ st = 0 ∧ sm = 1 := by
    cases hmd with
    | sema hg _ _ => exact ⟨hg, rfl, rfl⟩
    | opn h _ _ => exact h.elim
    | reg _ _ _ => exact absurd rfl hsm
    | last _ _ _ _ _ _ _ _ => exact absurd rfl hsm
    | fin h _ => exact h.elim
  obtain ⟨w', hst, hw', ht⟩ := hT w₁ hw
  have hS0 : upd S 0 (.main .w4) 0 = (.main .w4 : WSt fm.τ) := upd_same _ _ _
  have hdf : Deaf t 0 = 1 := hf1.deaf 0 hi _ (by rw [hss]; rfl)
  have hev : ∀ e ∈ #[mkE .disable, rdE (smW Wg), wrE (smW Wg), mkE .enable], EvSync Wg 0 e := fun e he => by
    simp at he
    rcases he with rfl | rfl | rfl | rfl
    · exact evSync_word _ (.inl rfl)
    · exact evSync_cell _ _
    · exact evSync_cell _ _
    · exact evSync_word _ (.inr (.inl rfl))
  refine ⟨g', w', _, .main .w4, 0, 1, 0, 0, hst, ht, hw, hw', fun e => absurd rfl e, hev, ?_, .inl rfl, by rw [hS0, hss]; rfl, by rw [hS0]; exact sp_other (by simp), fun e => absurd rfl e, .inl ⟨by simp, hc w' (hrel.trans (by rw [← hk']; exact ht.rely hlic hi (hf3 0 hi (by rw [hss]; simp)) hw hw' hi))⟩⟩
  refine hf1.step hi (.inl rfl) ofEvents_g (fun op hop => ?_) hS0 hw' (.fin trivial (hg.main _)) (fun e => by cases e) (fun e => absurd rfl e) (fun d hdd => ?_) (fun e => absurd rfl e)
  · obtain ⟨e, he, rfl⟩ := Go.Conc.mem_ofEvents hop
    exact (hev e he).2.2 _
  · simp only [WSt.deaf, Option.some.injEq] at hdd
    subst hdd
    rw [Deaf_own, hdf]; simp [deafBehind, mkE, rdE, wrE, MT.deaf]
theorem wp_wait (ok : fm.Ok Wg) {k : LK} {g gend : Goroutine} (h : WaitS P ty Wg g gend) (w : World) (hc : ∀ w', Rely k w w' → WP (wgProto P fm ty Wg m0 p0 tot Shun Anc) 0 k (.main .ret) gend w') : WP (wgProto P fm ty Wg m0 p0 tot Shun Anc) 0 k (.main (.sp 0 3)) g w := by
  obtain ⟨o0, ga, gb, LH, h1, h2, hb, hl⟩ := h
  refine wp_mword ok o0 h1 (.inl rfl) (tg' := .anch) (.inl ⟨trivial, trivial, rfl, fun v e => by cases e⟩) (by simp [MT.deaf, deafBehind, mkE]) rfl (sp_other (by simp)) (by simp) (fun e => by cases e) (wp_still ok (by simp) h1.step.2.1 h2 ?_)
  have key : ∀ (V : Nat) (gb : Goroutine) (w : World), (∀ w', Rely k w w' → WP (wgProto P fm ty Wg m0 p0 tot Shun Anc) 0 k (.main .ret) gend w') → LH gb → (V = 17 ∨ ∃ sm, WgIs ty Wg w ((V : Int) * KKn) sm) → WP (wgProto P fm ty Wg m0 p0 tot Shun Anc) 0 k (.main .anch) gb w := by
    intro V
    induction V using Nat.strongRecOn with
    | _ V ih =>
    intro gb w hc hb hV
    obtain ⟨rb, ob, hrow⟩ := hl gb hb
    refine wp_mturn ok rb ob fun n S st sm hn h0 hm hleft hVn hsp hle hnm => ?_
    obtain ⟨ho, rfl, rfl, _⟩ := hm.atOpen trivial
    have e0 : Vn n S + MT.anch.pend = Vn n S := by simp [MT.pend]
    rw [e0] at hle ⊢
    have h16 : Vn n S ≤ 16 := by omega
    have hVV : Vn n S ≤ V := by
      rcases hV with rfl | ⟨sm, hw⟩
      · omega
      · have := hle _ _ hw
        simp only [KKn] at this
        omega
    obtain ⟨g1, b1, b2, b3⟩ := hrow (Vn n S) h16
    have hes : ∀ e ∈ #[rdE (stW Wg)], (e.loc = .mark .disable) ∨ (e.loc = .mark .enable) ∨ ∃ o wr, e = ⟨.cell ⟨Wg, o, none⟩, wr, true⟩ := fun e he => by simp at he; subst he; exact .inr (.inr ⟨_, _, rfl⟩)
    by_cases hv0 : Vn n S = 0
    · have hg := all_gone ho hv0 hnm
      rw [hv0] at b1
      have e1 : ((0 : Nat) : Int) * KKn = 0 := by simp
      rw [e1] at b1
      rw [hv0, e1]
      refine ⟨.ke, g1, _, _, _, b1, hes, by simp [MT.deaf, deafBehind, rdE], .fin trivial (hg.main _), rfl, sp_other (by simp), by simp, fun w' hr' _ => wp_exit ok (b2 hv0) w' (hc w' hr')⟩
    · obtain ⟨o1, g2, c1, r2, o2, c2, g3, c3, o3, g6, g7, g8, c4, o6, c5, c6, r8, o8, c7, g9, c8, o9, g10, g11, c9, r10, o10, c10, c11⟩ := b3 hv0
      refine ⟨.w2 (Vn n S), g1, _, _, _, b1, hes, by simp [MT.deaf, deafBehind, rdE], ?_, rfl, sp_other (by simp), by simp, fun w' hr' hw' => wp_still ok (by simp) o1 c1 ?_⟩
      · have := hm.retag (tg' := .w2 (Vn n S)) h0 hn (.inl ⟨trivial, trivial, rfl, fun v e => by cases e; omega⟩)
        rwa [e0] at this
      · -- the CompareAndSwap
        replace hc : ∀ w'', Rely k w' w'' → WP (wgProto P fm ty Wg m0 p0 tot Shun Anc) 0 k (.main .ret) gend w'' := fun w'' h'' => hc w'' (hr'.trans h'')
        clear hr'
        generalize hvv : Vn n S = vv at *
        clear hm hle hVn ho hn h0 hleft hsp hvv hnm
        refine wp_mturn ok r2 o2 fun n S st sm hn h0 hm hleft hVn hsp hle hnm => ?_
        obtain ⟨ho, rfl, rfl, hw2⟩ := hm.atOpen trivial
        have e0 : Vn n S + (MT.w2 vv).pend = Vn n S := by simp [MT.pend]
        rw [e0] at hle ⊢
        obtain ⟨hw2, _⟩ := hw2 vv rfl
        by_cases hmiss : Vn n S = vv
        · -- it hits
          rw [hmiss]
          refine ⟨.w3a, g3, _, _, _, c3, fun e he => (by simp at he; rcases he with rfl | rfl <;> exact .inr (.inr ⟨_, _, rfl⟩)), by simp [MT.deaf, deafBehind, rdE, wrE], ?_, rfl, sp_other (by simp), by simp, fun w'' hr'' hw'' => wp_still ok (by simp) o3 c4 ?_⟩
          · have := Mode.reg (S := upd S 0 (.main .w3a)) (tg := .w3a) trivial (open_main ho _) (by rw [Vn_main h0 _ hn]; omega)
            rw [Vn_main h0 _ hn, hmiss] at this
            exact this
          · refine wp_mword ok o6 c5 (.inr (.inr (.inr (.inr rfl)))) (tg' := .w3) (.inr (.inl ⟨trivial, trivial⟩)) (by simp [MT.deaf, deafBehind, mkE]) rfl (sp_other (by simp)) (by simp) (fun e => by cases e) (wp_still ok (by simp) c5.step.2.1 c6 ?_)
            -- the semaphore
            refine wp_sema ok r8 o8 c7 c8 fun w3 hr3 => wp_still ok (by simp) o9 c9 (wp_mturn ok r10 o10 fun n S st sm hn h0 hm hleft hVn hsp hle hnm => ?_)
            obtain ⟨hg, rfl, rfl⟩ := hm.atFin trivial
            exact ⟨.ke, g11, _, _, _, c10, hes, by simp [MT.deaf, deafBehind, rdE], .fin trivial (hg.main _), rfl, sp_other (by simp), by simp, fun w' hr' _ => wp_exit ok c11 w' (hc w' ((hr''.trans hr3).trans hr'))⟩
        · -- it misses
          obtain ⟨g4, g5, d1, o4, d2, d3⟩ := c2 (Vn n S) (by omega)
          refine ⟨.anch, g4, _, _, _, d1, hes, by simp [MT.deaf, deafBehind, rdE], ?_, rfl, sp_other (by simp), by simp, fun w'' hr'' hw'' => wp_still ok (by simp) o4 d2 (ih (Vn n S) (by omega) g5 w'' (fun w3 h3 => hc w3 (hr''.trans h3)) d3 (.inr ⟨0, hw''⟩))⟩
          have := hm.retag (tg' := .anch) h0 hn (.inl ⟨trivial, trivial, rfl, fun v e => by cases e⟩)
          rwa [e0] at this
  exact key 17 gb w hc hb (.inl rfl)
end
end Go.Proofs.Yticdjkkcfdbdcaa
