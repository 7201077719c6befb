/- What a program does, step by step: plain. No conditions. -/
import Derived.Test.YtgiceeholamphaaEv
namespace Go.Proofs.Ytgiceeholamphaa
open Go.ChangeShapes Go.WideShapes Go.ChangeAt Go.RowKit Go.Maps

/-- The variables, and the steps that are left. -/
abbrev St := (ByteArray → Option Int) × Nat
def iterO (g : St → Option St) : Nat → St → Option St
  | 0, s => some s
  | n + 1, s => (g s).bind (iterO g n)
mutual
def StatR.run : StatR → St → Option St
  | .mk k s e n _ _ l => fun st =>
    if k ≤ 3 then
      if st.2 = 0 then none
      else if k = 1 then some (upd st.1 s (e.ev st.1), st.2 - 1)
      else if k = 2 then some (upd st.1 s (wrap64 ((st.1 s).getD 0 + e.ev st.1)), st.2 - 1)
      else if 0 < e.ev st.1 then headRun l (st.1, st.2 - 1) else tailRun l (st.1, st.2 - 1)
    else if k = 4 then iterO (headRun l) n.toNat st
    else runB l st
def headRun : List BlockR → St → Option St
  | [] => some
  | b :: _ => b.run
def tailRun : List BlockR → St → Option St
  | [] => some
  | _ :: l => runB l
def runB : List BlockR → St → Option St
  | [] => some
  | b :: l => fun st => (b.run st).bind (runB l)
def BlockR.run : BlockR → St → Option St
  | .mk _ _ l => runS l
def runS : List StatR → St → Option St
  | [] => some
  | x :: l => fun st => (x.run st).bind (runS l)
end
theorem StatR.run_eq (x : StatR) (st : St) : x.run st = if x.kind ≤ 3 then
      if st.2 = 0 then none
      else if x.kind = 1 then some (upd st.1 x.name (x.e.ev st.1), st.2 - 1)
      else if x.kind = 2 then some (upd st.1 x.name (wrap64 ((st.1 x.name).getD 0 + x.e.ev st.1)), st.2 - 1)
      else if 0 < x.e.ev st.1 then headRun x.blocks (st.1, st.2 - 1) else tailRun x.blocks (st.1, st.2 - 1)
    else if x.kind = 4 then iterO (headRun x.blocks) x.n.toNat st
    else runB x.blocks st := by cases x; rw [StatR.run]; rfl
theorem BlockR.run_eq (b : BlockR) : b.run = runS b.l := by cases b; rw [BlockR.run]; rfl
theorem runS_nil : runS [] = some := by rw [runS]
theorem runS_cons (x : StatR) (l : List StatR) (st : St) : runS (x :: l) st = (x.run st).bind (runS l) := by rw [runS]
theorem runB_nil : runB [] = some := by rw [runB]
theorem runB_cons (b : BlockR) (l : List BlockR) (st : St) : runB (b :: l) st = (runS b.l st).bind (runB l) := by rw [runB, b.run_eq]
theorem headRun_cons (b : BlockR) (l : List BlockR) : headRun (b :: l) = runS b.l := by rw [headRun, b.run_eq]
theorem tailRun_cons (b : BlockR) (l : List BlockR) : tailRun (b :: l) = runB l := by rw [tailRun]
theorem runS_append (a b : List StatR) (st : St) : runS (a ++ b) st = (runS a st).bind (runS b) := by
  induction a generalizing st with
  | nil => rw [runS_nil]; rfl
  | cons x a ih =>
    rw [List.cons_append, runS_cons, runS_cons]
    cases x.run st with
    | none => rfl
    | some s => exact ih s
theorem runB_append (a b : List BlockR) (st : St) : runB (a ++ b) st = (runB a st).bind (runB b) := by
  induction a generalizing st with
  | nil => rw [runB_nil]; rfl
  | cons x a ih =>
    rw [List.cons_append, runB_cons, runB_cons]
    cases runS x.l st with
    | none => rfl
    | some s => exact ih s
/-- Steps only become fewer; where none is done nothing is other than it was; what has a number keeps one. -/
structure Down (st st' : St) : Prop where
  le : st'.2 ≤ st.2
  same : st'.2 = st.2 → st' = st
  dom : ∀ s, (st'.1 s).isSome = (st.1 s).isSome
theorem Down.refl (st : St) : Down st st := ⟨Nat.le_refl _, fun _ => rfl, fun _ => rfl⟩
theorem Down.trans {a b c : St} (h : Down a b) (k : Down b c) : Down a c :=
  ⟨Nat.le_trans k.le h.le, fun e => by
    have h1 := h.le
    have h2 := k.le
    rw [k.same (by omega), h.same (by omega)], fun s => (k.dom s).trans (h.dom s)⟩
theorem down_iter {g : St → Option St} (h : ∀ st st', g st = some st' → Down st st') : ∀ (n : Nat) (st st' : St), iterO g n st = some st' → Down st st'
  | 0, st, st', e => by cases e; exact Down.refl _
  | n + 1, st, st', e => by
    rw [iterO] at e
    cases hg : g st with
    | none => rw [hg] at e; cases e
    | some s =>
      rw [hg] at e
      exact (h _ _ hg).trans (down_iter h n s st' e)
/-- The names that are written are there. -/
def Dom (f : ByteArray → Option Int) (l : List ByteArray) : Prop := ∀ s ∈ l, (f s).isSome = true
theorem Dom.down {st st' : St} {l : List ByteArray} (h : Dom st.1 l) (k : Down st st') : Dom st'.1 l := fun s hs => (k.dom s).trans (h s hs)
theorem Dom.sub {f : ByteArray → Option Int} {l m : List ByteArray} (h : Dom f l) (hs : ∀ s ∈ m, s ∈ l) : Dom f m := fun s hm => h s (hs s hm)
theorem upd_dom {f : ByteArray → Option Int} {s : ByteArray} (v : Int) (h : (f s).isSome = true) (t : ByteArray) : (upd f s v t).isSome = (f t).isSome := by
  by_cases e : t = s
  · subst e; rw [upd_same, h]; rfl
  · rw [upd_other f v e]
def wrS (l : List StatR) : List ByteArray := assignsS l ++ addsS l
def wrB (l : List BlockR) : List ByteArray := assignsB l ++ addsB l
theorem wrB_mem {l : List BlockR} {b : BlockR} (hb : b ∈ l) : ∀ s ∈ wrS b.l, s ∈ wrB l := by
  obtain ⟨u, v, rfl⟩ := List.append_of_mem hb
  intro s hs
  simp only [wrS, wrB, assignsB_append, addsB_append, assignsB, addsB, BlockR.assigns_eq, BlockR.adds_eq, List.mem_append] at hs ⊢
  rcases hs with hs | hs
  · exact .inl (.inr (.inl hs))
  · exact .inr (.inr (.inl hs))
theorem wrS_mem {l : List StatR} {x : StatR} (hx : x ∈ l) : ∀ s ∈ x.assigns ++ x.adds, s ∈ wrS l := by
  obtain ⟨u, v, rfl⟩ := List.append_of_mem hx
  intro s hs
  simp only [wrS, assignsS_append, addsS_append, assignsS, addsS, List.mem_append] at hs ⊢
  rcases hs with hs | hs
  · exact .inl (.inr (.inl hs))
  · exact .inr (.inr (.inl hs))
theorem wr_blocks {x : StatR} : ∀ s ∈ wrB x.blocks, s ∈ x.assigns ++ x.adds := by
  intro s hs
  rw [x.assigns_eq, x.adds_eq]
  simp only [wrB, List.mem_append] at hs ⊢
  rcases hs with hs | hs
  · exact .inl (.inr hs)
  · exact .inr (.inr hs)
theorem runS_down : ∀ (l : List StatR), (∀ x ∈ l, ∀ st st', Dom st.1 (x.assigns ++ x.adds) → x.run st = some st' → Down st st') → ∀ st st', Dom st.1 (wrS l) → runS l st = some st' → Down st st'
  | [], _, st, st', _, e => by rw [runS_nil] at e; cases e; exact Down.refl _
  | x :: l, h, st, st', hd, e => by
    rw [runS_cons] at e
    cases hx : x.run st with
    | none => rw [hx] at e; cases e
    | some s =>
      rw [hx] at e
      have h1 := h x (by simp) st s (hd.sub (wrS_mem (by simp))) hx
      refine h1.trans (runS_down l (fun y hy => h y (List.mem_cons_of_mem _ hy)) s st' ((hd.down h1).sub fun t ht => ?_) e)
      simp only [wrS, assignsS, addsS, List.mem_append] at ht ⊢
      rcases ht with ht | ht
      · exact .inl (.inr ht)
      · exact .inr (.inr ht)
theorem runB_down : ∀ (l : List BlockR), (∀ b ∈ l, ∀ st st', Dom st.1 (wrS b.l) → runS b.l st = some st' → Down st st') → ∀ st st', Dom st.1 (wrB l) → runB l st = some st' → Down st st'
  | [], _, st, st', _, e => by rw [runB_nil] at e; cases e; exact Down.refl _
  | b :: l, h, st, st', hd, e => by
    rw [runB_cons] at e
    cases hx : runS b.l st with
    | none => rw [hx] at e; cases e
    | some s =>
      rw [hx] at e
      have h1 := h b (by simp) st s (hd.sub (wrB_mem (by simp))) hx
      refine h1.trans (runB_down l (fun y hy => h y (List.mem_cons_of_mem _ hy)) s st' ((hd.down h1).sub fun t ht => ?_) e)
      simp only [wrB, assignsB, addsB, List.mem_append] at ht ⊢
      rcases ht with ht | ht
      · exact .inl (.inr ht)
      · exact .inr (.inr ht)
theorem tail_mem {b : BlockR} {l : List BlockR} : b ∈ l.drop 1 → b ∈ l := List.mem_of_mem_drop
theorem run_down : ∀ (x : StatR) (st st' : St), Dom st.1 (x.assigns ++ x.adds) → x.run st = some st' → Down st st' := by
  refine StatR.ind fun x ih st st' hd e => ?_
  have hB : ∀ b ∈ x.blocks, ∀ st st', Dom st.1 (wrS b.l) → runS b.l st = some st' → Down st st' := fun b hb => runS_down b.l (ih b hb)
  have hdB : ∀ s ∈ wrB x.blocks, s ∈ x.assigns ++ x.adds := wr_blocks
  have hhead : ∀ (st st' : St), Dom st.1 (wrB x.blocks) → headRun x.blocks st = some st' → Down st st' := fun st st' hd e => by
    cases hb : x.blocks with
    | nil => rw [hb, headRun] at e; cases e; exact Down.refl _
    | cons b l =>
      rw [hb, headRun_cons] at e
      exact hB b (by rw [hb]; simp) st st' (hd.sub (wrB_mem (by rw [hb]; simp))) e
  have htail : ∀ (st st' : St), Dom st.1 (wrB x.blocks) → tailRun x.blocks st = some st' → Down st st' := fun st st' hd e => by
    cases hb : x.blocks with
    | nil => rw [hb, tailRun] at e; cases e; exact Down.refl _
    | cons b l =>
      rw [hb, tailRun_cons] at e
      refine runB_down l (fun c hc => hB c (by rw [hb]; exact List.mem_cons_of_mem _ hc)) st st' (hd.sub fun t ht => ?_) e
      rw [hb]
      simp only [wrB, assignsB, addsB, List.mem_append] at ht ⊢
      rcases ht with ht | ht
      · exact .inl (.inr ht)
      · exact .inr (.inr ht)
  rw [x.run_eq] at e
  have step : ∀ {st2 : St}, Down (st.1, st.2 - 1) st2 → st.2 ≠ 0 → Down st st2 := fun {st2} h h0 =>
    ⟨by have := h.le; simp only at this; omega, fun e => by have := h.le; simp only at this; omega, h.dom⟩
  split at e
  · rename_i h3
    split at e
    · cases e
    · rename_i h0
      split at e
      · rename_i h1
        cases e
        have hm : (st.1 x.name).isSome = true := hd _ (by rw [x.assigns_eq, if_pos h1]; simp)
        exact ⟨by simp only; omega, fun e => by simp only at e; omega, upd_dom _ hm⟩
      · split at e
        · rename_i h2
          cases e
          have hm : (st.1 x.name).isSome = true := hd _ (by rw [x.adds_eq, if_pos h2]; simp)
          exact ⟨by simp only; omega, fun e => by simp only at e; omega, upd_dom _ hm⟩
        · split at e
          · exact step (hhead _ _ (hd.sub hdB) e) h0
          · exact step (htail _ _ (hd.sub hdB) e) h0
  · split at e
    · have hit : ∀ (n : Nat) (st st' : St), Dom st.1 (wrB x.blocks) → iterO (headRun x.blocks) n st = some st' → Down st st' := fun n => by
        induction n with
        | zero => intro st st' _ e; cases e; exact Down.refl _
        | succ n ihn =>
          intro st st' hd e
          rw [iterO] at e
          cases hg : headRun x.blocks st with
          | none => rw [hg] at e; cases e
          | some s =>
            rw [hg] at e
            have h1 := hhead st s hd hg
            exact h1.trans (ihn s st' (hd.down h1) e)
      exact hit _ _ _ (hd.sub hdB) e
    · exact runB_down x.blocks hB st st' (hd.sub hdB) e
/-- A round in which no step is done is as all that come behind it. -/
theorem iter_same {g : St → Option St} {st : St} (h : g st = some st) : ∀ n, iterO g n st = some st
  | 0 => rfl
  | n + 1 => by rw [iterO, h]; exact iter_same h n
theorem iter_add (g : St → Option St) : ∀ (n m : Nat) (st : St), iterO g (n + m) st = (iterO g n st).bind (iterO g m)
  | 0, m, st => by rw [Nat.zero_add]; rfl
  | n + 1, m, st => by
    rw [show n + 1 + m = n + m + 1 by omega, iterO, iterO]
    cases g st with
    | none => rfl
    | some s => exact iter_add g n m s
theorem iter_succ (g : St → Option St) (n : Nat) (st : St) : iterO g (n + 1) st = (iterO g n st).bind g := by
  rw [iter_add]
  congr 1
  funext s
  show (g s).bind (iterO g 0) = g s
  cases g s <;> rfl
end Go.Proofs.Ytgiceeholamphaa
