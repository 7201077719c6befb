/- A call of (*process).phase by a worker: told of a small lone world. No conditions but those named. -/
import Derived.Test.YticdjkkcfdbdcaaPhK
import Derived.Test.YticdjkkcfdbdcaaPhW
import Derived.Test.YticdjkkcfdbdcaaPhO
import Derived.Test.YticdjkkcfdbdcaaImpN
namespace Go.Proofs.Yticdjkkcfdbdcaa
open Go.Conc Go.ConcN Go.RowKit
theorem cell_inv {w : World} {b i : Nat} {v : Value} (h : w.cell? ⟨b, i, none⟩ = some v) : ∃ x e fz, w.heap[b]? = some (.cells x e fz) ∧ x[i]? = some v := by
  unfold World.cell? at h
  cases hb : w.heap[b]? with
  | none => simp [hb] at h
  | some o =>
    cases o with
    | cells x e fz => simp [hb] at h; exact ⟨x, e, fz, rfl, h⟩
    | _ => simp [hb] at h
theorem frozen_inv {w : World} {b i : Nat} {x : Array Value} {e : TypeId} {fz : Nat × Nat} (hb : w.heap[b]? = some (.cells x e fz)) (h : w.frozen? ⟨b, i, none⟩ = false) : ¬ (fz.1 ≤ i ∧ i < fz.2) := by
  unfold World.frozen? at h
  simp [hb] at h
  omega
/-- What a row of Dos holds. -/
def cellsD (l : List DoR) : List Value := l.flatMap fun d => [.int .i64 d.kind, .int .i64 d.to, .int .i64 d.n]
theorem cellsD_length (l : List DoR) : (cellsD l).length = l.length * 3 := by
  induction l with
  | nil => rfl
  | cons x l ih => simp only [cellsD, List.flatMap_cons, List.length_append, List.length_cons, List.length_nil] at ih ⊢; omega
theorem cellsD_at : ∀ (l : List DoR) (k : Nat) (h : k < l.length), (cellsD l)[k * 3]? = some (.int .i64 l[k].kind) ∧ (cellsD l)[k * 3 + 1]? = some (.int .i64 l[k].to) ∧ (cellsD l)[k * 3 + 2]? = some (.int .i64 l[k].n)
  | d :: l, 0, _ => ⟨rfl, rfl, rfl⟩
  | d :: l, k + 1, h => by
    have := cellsD_at l k (by simp at h; omega)
    have e : cellsD (d :: l) = .int .i64 d.kind :: .int .i64 d.to :: .int .i64 d.n :: cellsD l := rfl
    rw [e, show (k + 1) * 3 = k * 3 + 1 + 1 + 1 by omega]
    simpa using this
theorem cellsD_inv {l : List DoR} {i : Nat} {v : Value} (h : (cellsD l)[i]? = some v) : ∃ n, v = .int .i64 n := by
  have := List.mem_of_getElem? h
  simp only [cellsD, List.mem_flatMap] at this
  obtain ⟨d, _, hd⟩ := this
  simp at hd
  rcases hd with rfl | rfl | rfl <;> exact ⟨_, rfl⟩
/-- A process in the company's world, ahead of a phase. -/
structure ProcAt (w0 : World) (R0 : Loc → Prop) (lb q : Nat) (p : ProcR) (tb tO : Nat) (cW : Option Addr) (tc cc : Nat) : Prop where
  c0 : w0.cell? ⟨lb, q, none⟩ = some (.slice (some ⟨tb, tO, none⟩) p.todo.length tc)
  c1 : w0.cell? ⟨lb, q + 1, none⟩ = some (.int .i64 p.num)
  c2 : w0.cell? ⟨lb, q + 2, none⟩ = some (.slice cW p.come.length cc)
  c3 : w0.cell? ⟨lb, q + 3, none⟩ = some (.slice none 0 0)
  fz : ∀ i, i < 4 → w0.frozen? ⟨lb, q + i, none⟩ = false
  glb : Try.prog.globals.size ≤ lb
  gtb : Try.prog.globals.size ≤ tb
  glob : Try.prog.globals.size ≤ w0.heap.size
  todo : ∀ i v, (cellsD p.todo)[i]? = some v → w0.cell? ⟨tb, tO + i, none⟩ = some v ∧ R0 (.cell ⟨tb, tO + i, none⟩)
  some_ : p.todo ≠ []
  come : (p.come = [] ∧ cW = none) ∨ ∃ cb co, p.come ≠ [] ∧ cW = some ⟨cb, co, none⟩ ∧ Try.prog.globals.size ≤ cb ∧ ∀ i v, (ints p.come)[i]? = some v → w0.cell? ⟨cb, co + i, none⟩ = some v ∧ R0 (.cell ⟨cb, co + i, none⟩)
  sends : p.sends = []
  tc : p.todo.length ≤ tc
  cap : p.todo.length ≤ 1000
  few : p.come.length ≤ 1000000
  apart : ∀ i, i < 4 → ¬ R0 (.cell ⟨lb, q + i, none⟩)
def ItemIs (lb q : Nat) (l : Loc) : Prop := ∃ i, i < 4 ∧ l = .cell ⟨lb, q + i, none⟩
/-- .. and behind it. -/
def PhQ (N lb q : Nat) (p : ProcR) (tW cW : Option Addr) (tc cc : Nat) (k : LK) (w : World) : Prop :=
  ∃ (d x : Nat) (cA : Option Addr) (cc' : Nat) (sW : Option Addr) (sc : Nat) (p' : ProcR), p' = runP p.num p.come p.sends p.todo ∧ p'.todo = p.todo.drop d ∧ (d < p.todo.length → x = d) ∧
    w.cell? ⟨lb, q, none⟩ = some (.slice (tW.map (·.add (3 * x))) p'.todo.length (tc - d)) ∧ w.cell? ⟨lb, q + 1, none⟩ = some (.int .i64 p'.num) ∧ w.cell? ⟨lb, q + 2, none⟩ = some (.slice cA p'.come.length cc') ∧ w.cell? ⟨lb, q + 3, none⟩ = some (.slice sW p'.sends.length sc) ∧
    ((cA = cW ∧ cc' = cc ∧ p'.come = p.come) ∨ (cA = none ∧ cc' = 0 ∧ p'.come = [])) ∧ (∀ i, i < 4 → k.W (.cell ⟨lb, q + i, none⟩)) ∧
    ((p'.sends = [] ∧ sW = none) ∨ ∃ g o, p'.sends ≠ [] ∧ sW = some ⟨g, o, none⟩ ∧ N ≤ g ∧ ∀ i v, (cellsL p'.sends)[i]? = some v → w.cell? ⟨g, o + i, none⟩ = some v ∧ k.W (.cell ⟨g, o + i, none⟩))
theorem PhQ.rely {N lb q : Nat} {p : ProcR} {tW cW : Option Addr} {tc cc : Nat} {k : LK} {w w' : World} (h : PhQ N lb q p tW cW tc cc k w) (hr : Rely k w w') : PhQ N lb q p tW cW tc cc k w' := by
  obtain ⟨d, x, cA, cc', sW, sc, p', h1, h2, h3, h4, h5, h6, h7, h8, h9, h10⟩ := h
  have hc : ∀ i, i < 4 → w'.cell? ⟨lb, q + i, none⟩ = w.cell? ⟨lb, q + i, none⟩ := fun i hi => hr.cell _ (.inl (h9 i hi))
  refine ⟨d, x, cA, cc', sW, sc, p', h1, h2, h3, (hc 0 (by omega)).trans h4, (hc 1 (by omega)).trans h5, (hc 2 (by omega)).trans h6, (hc 3 (by omega)).trans h7, h8, h9, h10.imp id fun ⟨g, o, a1, a2, a3, a4⟩ => ⟨g, o, a1, a2, a3, fun i v hv => ?_⟩⟩
  obtain ⟨b1, b2⟩ := a4 i v hv
  exact ⟨(hr.cell _ (.inl b2)).trans b1, b2⟩
theorem PhQ.up {N lb q : Nat} {p : ProcR} {tW cW : Option Addr} {tc cc : Nat} {k k' : LK} {w : World} (h : PhQ N lb q p tW cW tc cc k w) (hk : ∀ l, k.W l → k'.W l) : PhQ N lb q p tW cW tc cc k' w := by
  obtain ⟨d, x, cA, cc', sW, sc, p', h1, h2, h3, h4, h5, h6, h7, h8, h9, h10⟩ := h
  exact ⟨d, x, cA, cc', sW, sc, p', h1, h2, h3, h4, h5, h6, h7, h8, fun i hi => hk _ (h9 i hi), h10.imp id fun ⟨g, o, a1, a2, a3, a4⟩ => ⟨g, o, a1, a2, a3, fun i v hv => ⟨(a4 i v hv).1, hk _ (a4 i v hv).2⟩⟩⟩
section
variable {w0 : World} {R0 : Loc → Prop} {lb q : Nat} {p : ProcR} {tb tO : Nat} {cW : Option Addr} {tc cc : Nat}
/-- The small world's rows, and where they lie. -/
noncomputable def phRows (p : ProcR) (tc cc : Nat) : List (List Value × Bool) :=
  [(cellsD p.todo, true), (ints p.come, true), ([.slice (some ⟨Try.prog.globals.size, 0, none⟩) p.todo.length tc, .int .i64 p.num, .slice (if p.come = [] then none else some ⟨Try.prog.globals.size + 1, 0, none⟩) p.come.length cc, .slice none 0 0], false)]
def phPl (lb q tb tO : Nat) (cW : Option Addr) : List (Option (Nat × Nat)) := [some (tb, tO), cW.map fun a => (a.block, a.off), some (lb, q)]
theorem phPl_ok (h : ProcAt w0 R0 lb q p tb tO cW tc cc) : ∀ a, some a ∈ phPl lb q tb tO cW → Try.prog.globals.size ≤ a.1 := by
  intro a ha
  simp only [phPl, List.mem_cons, Option.some.injEq, List.not_mem_nil, or_false] at ha
  rcases ha with rfl | ha | rfl
  · exact h.gtb
  · rcases h.come with ⟨_, rfl⟩ | ⟨cb, co, _, rfl, hg, _⟩
    · cases ha
    · simp at ha; subst ha; exact hg
  · exact h.glb
theorem ph_mir (h : ProcAt w0 R0 lb q p tb tO cW tc cc) {w : World} (hr : Rely ⟨ItemIs lb q, R0, fun _ => False⟩ w0 w) :
    Mir (InV phL phV) Try.prog (renP Try.prog badTy (phPl lb q tb tO cW) (phPl_ok h)) ⟨ItemIs lb q, R0, fun _ => False⟩ (partsW Try.prog badTy (phRows p tc cc) w) w := by
  refine mir_parts bad_ty rfl (phPl_ok h) (Nat.le_trans h.glob hr.size) (fun j c s vs fr hj hrow => ?_) (fun j j' c s s' vs vs' fr' hj hj' hrow hrow' i i' hi hi' e => ?_)
  · have hlen : (cellsD p.todo).length ≠ 0 := by rw [cellsD_length]; have := h.some_; have := List.length_pos_iff.2 this; omega
    match j, hj, hrow with
    | 0, hj, hrow =>
      simp only [phPl, List.getElem?_cons_zero, Option.some.injEq, Prod.mk.injEq] at hj
      obtain ⟨rfl, rfl⟩ := hj
      simp only [phRows, List.getElem?_cons_zero, Option.some.injEq, Prod.mk.injEq] at hrow
      obtain ⟨rfl, rfl⟩ := hrow
      have hcell : ∀ (i : Nat) v, (cellsD p.todo)[i]? = some v → w.cell? ⟨tb, tO + i, none⟩ = some v ∧ R0 (.cell ⟨tb, tO + i, none⟩) := fun i v hv => ⟨(hr.cell _ (.inr (h.todo i v hv).2)).trans (h.todo i v hv).1, (h.todo i v hv).2⟩
      obtain ⟨x, e, fz, hx, _⟩ := cell_inv (hcell 0 _ (List.getElem?_eq_getElem (Nat.pos_of_ne_zero hlen))).1
      refine ⟨x, e, fz, hx, fun i v hv => ?_⟩
      obtain ⟨g1, g2⟩ := hcell i v hv
      obtain ⟨x2, e2, fz2, hx2, hv2⟩ := cell_inv g1
      rw [hx] at hx2
      cases hx2
      obtain ⟨n, rfl⟩ := cellsD_inv hv
      exact ⟨_, hv2, .int _ _, .inr g2, fun e => by cases e⟩
    | 1, hj, hrow =>
      rcases h.come with ⟨_, rfl⟩ | ⟨cb, co, hne, rfl, hg, hcm⟩
      · simp [phPl] at hj
      · simp only [phPl, List.getElem?_cons_succ, List.getElem?_cons_zero, Option.map_some, Option.some.injEq, Prod.mk.injEq] at hj
        obtain ⟨rfl, rfl⟩ := hj
        simp only [phRows, List.getElem?_cons_succ, List.getElem?_cons_zero, Option.some.injEq, Prod.mk.injEq] at hrow
        obtain ⟨rfl, rfl⟩ := hrow
        have hl0 : 0 < (ints p.come).length := by simpa using List.length_pos_iff.2 hne
        have hcell : ∀ (i : Nat) v, (ints p.come)[i]? = some v → w.cell? ⟨cb, co + i, none⟩ = some v ∧ R0 (.cell ⟨cb, co + i, none⟩) := fun i v hv => ⟨(hr.cell _ (.inr (hcm i v hv).2)).trans (hcm i v hv).1, (hcm i v hv).2⟩
        obtain ⟨x, e, fz, hx, _⟩ := cell_inv (hcell 0 _ (List.getElem?_eq_getElem hl0)).1
        refine ⟨x, e, fz, hx, fun i v hv => ?_⟩
        obtain ⟨g1, g2⟩ := hcell i v hv
        obtain ⟨x2, e2, fz2, hx2, hv2⟩ := cell_inv g1
        rw [hx] at hx2
        cases hx2
        have := List.mem_of_getElem? hv
        simp only [ints, List.mem_map] at this
        obtain ⟨n, _, rfl⟩ := this
        exact ⟨_, hv2, .int _ _, .inr g2, fun e => by cases e⟩
    | 2, hj, hrow =>
      simp only [phPl, List.getElem?_cons_succ, List.getElem?_cons_zero, Option.some.injEq, Prod.mk.injEq] at hj
      obtain ⟨rfl, rfl⟩ := hj
      simp only [phRows, List.getElem?_cons_succ, List.getElem?_cons_zero, Option.some.injEq, Prod.mk.injEq] at hrow
      obtain ⟨rfl, rfl⟩ := hrow
      have hW : ∀ i, i < 4 → (⟨ItemIs lb q, R0, fun _ => False⟩ : LK).W (.cell ⟨lb, q + i, none⟩) := fun i hi => ⟨i, hi, rfl⟩
      have hk : ∀ i, i < 4 → w.cell? ⟨lb, q + i, none⟩ = w0.cell? ⟨lb, q + i, none⟩ := fun i hi => hr.cell _ (.inl (hW i hi))
      have hlt : lb < w0.heap.size := by obtain ⟨x, e, fz, hx, _⟩ := cell_inv h.c0; exact (Array.getElem?_eq_some_iff.1 hx).1
      obtain ⟨x, e, fz, hx, hx0⟩ := cell_inv ((hk 0 (by omega)).trans h.c0)
      have hall : ∀ i v, w0.cell? ⟨lb, q + i, none⟩ = some v → i < 4 → x[q + i]? = some v ∧ ¬ (fz.1 ≤ q + i ∧ q + i < fz.2) := fun i v hv hi => by
        obtain ⟨x2, e2, fz2, hx2, hv2⟩ := cell_inv ((hk i hi).trans hv)
        rw [hx] at hx2
        cases hx2
        exact ⟨hv2, frozen_inv hx ((frozen_rely hr (a := ⟨lb, q + i, none⟩) hlt).trans (h.fz i hi))⟩
      refine ⟨x, e, fz, hx, fun i v hv => ?_⟩
      match i, hv with
      | 0, hv =>
        simp at hv; subst hv
        exact ⟨_, (hall 0 _ h.c0 (by omega)).1, .slice ⟨⟨rfl, id⟩, tb, tO, by simp [renP, phPl], rfl⟩ _ _, .inl (hW 0 (by omega)), fun _ => ⟨hW 0 (by omega), (hall 0 _ h.c0 (by omega)).2⟩⟩
      | 1, hv =>
        simp at hv; subst hv
        exact ⟨_, (hall 1 _ h.c1 (by omega)).1, .int _ _, .inl (hW 1 (by omega)), fun _ => ⟨hW 1 (by omega), (hall 1 _ h.c1 (by omega)).2⟩⟩
      | 2, hv =>
        simp at hv; subst hv
        refine ⟨_, (hall 2 _ h.c2 (by omega)).1, ?_, .inl (hW 2 (by omega)), fun _ => ⟨hW 2 (by omega), (hall 2 _ h.c2 (by omega)).2⟩⟩
        rcases h.come with ⟨h1, rfl⟩ | ⟨cb, co, hne, rfl, hg, hcm⟩
        · rw [if_pos h1]; exact .nilSlice _ _
        · rw [if_neg hne]
          exact .slice ⟨⟨rfl, id⟩, cb, co, by simp [renP, phPl], rfl⟩ _ _
      | 3, hv =>
        simp at hv; subst hv
        exact ⟨_, (hall 3 _ h.c3 (by omega)).1, .nilSlice _ _, .inl (hW 3 (by omega)), fun _ => ⟨hW 3 (by omega), (hall 3 _ h.c3 (by omega)).2⟩⟩
      | i + 4, hv => simp at hv
    | j + 3, hj, hrow => simp [phPl] at hj
  · have hj2 : j = 2 := by
      match j, hrow with
      | 0, hrow => simp [phRows] at hrow
      | 1, hrow => simp [phRows] at hrow
      | 2, _ => rfl
      | j + 3, hrow => simp [phRows] at hrow
    subst hj2
    simp only [phPl, List.getElem?_cons_succ, List.getElem?_cons_zero, Option.some.injEq, Prod.mk.injEq] at hj
    obtain ⟨rfl, rfl⟩ := hj
    simp only [phRows, List.getElem?_cons_succ, List.getElem?_cons_zero, Option.some.injEq, Prod.mk.injEq, and_true] at hrow
    subst hrow
    have hi4 : i < 4 := hi
    match j', hj', hrow' with
    | 0, hj', hrow' =>
      exfalso
      simp only [phPl, List.getElem?_cons_zero, Option.some.injEq, Prod.mk.injEq] at hj'
      obtain ⟨rfl, rfl⟩ := hj'
      simp only [phRows, List.getElem?_cons_zero, Option.some.injEq, Prod.mk.injEq] at hrow'
      obtain ⟨rfl, _⟩ := hrow'
      have := (h.todo i' _ (List.getElem?_eq_getElem hi')).2
      rw [← e] at this
      exact h.apart i hi4 this
    | 1, hj', hrow' =>
      exfalso
      rcases h.come with ⟨_, rfl⟩ | ⟨cb, co, hne, rfl, hg, hcm⟩
      · simp [phPl] at hj'
      · simp only [phPl, List.getElem?_cons_succ, List.getElem?_cons_zero, Option.map_some, Option.some.injEq, Prod.mk.injEq] at hj'
        obtain ⟨rfl, rfl⟩ := hj'
        simp only [phRows, List.getElem?_cons_succ, List.getElem?_cons_zero, Option.some.injEq, Prod.mk.injEq] at hrow'
        obtain ⟨rfl, _⟩ := hrow'
        have := (hcm i' _ (List.getElem?_eq_getElem hi')).2
        rw [← e] at this
        exact h.apart i hi4 this
    | 2, _, _ => rfl
    | j + 3, hj', _ => simp [phPl] at hj'
theorem ph_st (h : ProcAt w0 R0 lb q p tb tO cW tc cc) (w : World) : PrSt (partsW Try.prog badTy (phRows p tc cc) w) (Try.prog.globals.size + 3) (Try.prog.globals.size + 2) badTy p (some ⟨Try.prog.globals.size, 0, none⟩) (if p.come = [] then none else some ⟨Try.prog.globals.size + 1, 0, none⟩) tc cc (.slice none 0 0) where
  blk := partsW_at w 2
  todo := ⟨fun _ => ⟨_, 0, rfl, by omega, fun k hk => by
    have e0 : (partsW Try.prog badTy (phRows p tc cc) w).heap[Try.prog.globals.size]? = some (.cells (cellsD p.todo).toArray badTy (0, (cellsD p.todo).length)) := partsW_at w 0
    have hat := cellsD_at p.todo k hk
    simp only [Nat.zero_add]
    exact ⟨by rw [cell_of_row _ _ _ _ _ _ e0]; simpa using hat.1, by rw [cell_of_row _ _ _ _ _ _ e0]; simpa using hat.2.1, by rw [cell_of_row _ _ _ _ _ _ e0]; simpa using hat.2.2⟩⟩⟩
  come := by
    by_cases hn : p.come = []
    · rw [hn]; exact .nil _ _ _
    · rw [if_neg hn]
      intro _
      have e1 : (partsW Try.prog badTy (phRows p tc cc) w).heap[Try.prog.globals.size + 1]? = some (.cells (ints p.come).toArray badTy (0, (ints p.come).length)) := partsW_at w 1
      exact ⟨_, 0, rfl, by omega, fun i v hv => by rw [cell_of_row _ _ _ _ _ _ e1]; simpa using hv⟩
  own := by rw [h.sends]; exact World.ownsRow_nil ..
  low := by omega
  bound := by rw [partsW_size]; exact Nat.le_refl _
  tc := h.tc
  cap := by rw [h.sends]; simpa using h.cap
  few := h.few
  nil := fun _ => rfl
theorem ph_item (h : ProcAt w0 R0 lb q p tb tO cW tc cc) {It : Nat → Loc → Prop} {Q : Nat → LK → World → Prop} {r : Nat} (hI : It r = ItemIs lb q) (hQ : ∀ k w, PhQ w0.heap.size lb q p (some ⟨tb, tO, none⟩) cW tc cc k w → Q r k w) : ItemCall It w0 R0 Q 51 r (.pointer (some ⟨lb, q, none⟩)) := by
  intro J main R hJ c' cs w hr hk
  rw [hI] at hr hk ⊢
  have hM := ph_mir h hr
  generalize hρ : renP Try.prog badTy (phPl lb q tb tO cW) (phPl_ok h) = ρ at hM
  have r0 : ρ Try.prog.globals.size = some (tb, tO) := by subst hρ; simp [renP, phPl]
  have r1 : ρ (Try.prog.globals.size + 1) = cW.map fun a => (a.block, a.off) := by subst hρ; cases cW <;> simp [renP, phPl]
  have r2 : ρ (Try.prog.globals.size + 2) = some (lb, q) := by subst hρ; simp [renP, phPl]
  have rc : ∀ b, ¬ ρ.isChan b := by subst hρ; exact fun b => id
  have rb : ρ.base = Try.prog.globals.size := by subst hρ; rfl
  clear hρ
  have hC := MCalls.lone hJ ph_ok (f := 51) (args := #[.pointer (some ⟨Try.prog.globals.size + 2, 0, none⟩)]) (up := true) (L := partsW Try.prog badTy (phRows p tc cc) w) (by unfold InV phL phV; decide)
    (R' := fun v L1 => v = .tuple #[] ∧ ∃ (d x : Nat) (cA' : Option Addr) (cc' : Nat) (sv' : Value), (runP p.num p.come p.sends p.todo).todo = p.todo.drop d ∧ (d < p.todo.length → x = d) ∧ PrSt L1 (Try.prog.globals.size + 3) (Try.prog.globals.size + 2) badTy (runP p.num p.come p.sends p.todo) (some ⟨Try.prog.globals.size, 3 * x, none⟩) cA' (tc - d) cc' sv' ∧ ((cA' = (if p.come = [] then none else some ⟨Try.prog.globals.size + 1, 0, none⟩) ∧ cc' = cc ∧ (runP p.num p.come p.sends p.todo).come = p.come) ∨ (cA' = none ∧ cc' = 0 ∧ (runP p.num p.come p.sends p.todo).come = [])))
    (fun T => (phase_any _ _ _ _ _ _ _ _ _ _ ((ph_st h w).same (w' := { partsW Try.prog badTy (phRows p tc cc) w with tape := T }) rfl)).mono ?_)
  · refine hC c' cs ρ _ w _ hM ⟨rfl, fun i v v' e1 e2 => ?_⟩ fun v v' L1 ρ1 k1 W1 hq hs hu hm hv => ?_
    · match i, e1, e2 with
      | 0, e1, e2 =>
        simp at e1 e2
        subst e1 e2
        exact .ptr ⟨⟨rfl, rc _⟩, lb, q, r2, rfl⟩
      | i + 1, e1, _ => simp at e1
    · obtain ⟨rfl, d, x, cA', cc', sv', a1, a2, a3, a4⟩ := hq
      have hv' : v' = .tuple #[] := by
        cases hv with
        | tuple sx _ =>
          have := sx.symm
          rw [Array.eq_empty_of_size_eq_zero this]
      rw [hv']
      refine hk k1 W1 (hu rfl) (hQ _ _ ?_)
      generalize hp : runP p.num p.come p.sends p.todo = p' at a1 a3 a4
      have hwr := hm.wr
      have hU := hu rfl
      have ar : ∀ i, AR ρ1 ⟨Try.prog.globals.size + 2, i, none⟩ ⟨lb, q + i, none⟩ := fun i => ⟨⟨rfl, fun hx => rc _ ((hs.chan _ _ r2).1 hx)⟩, lb, q, hs.to _ _ r2, rfl⟩
      have l0 := a3.blk.cell 0
      have l1 := a3.blk.cell 1
      have l2 := a3.blk.cell 2
      have l3 := a3.blk.cell 3
      simp only [List.getElem?_cons_zero, List.getElem?_cons_succ] at l0 l1 l2 l3
      obtain ⟨v0, w0', x0, _⟩ := hwr.load (ar 0) l0
      obtain ⟨v1, w1', x1, _⟩ := hwr.load (ar 1) l1
      obtain ⟨v2, w2', x2, _⟩ := hwr.load (ar 2) l2
      obtain ⟨v3, w3', x3, _⟩ := hwr.load (ar 3) l3
      have hv0 : v0 = .slice (some ⟨tb, tO + 3 * x, none⟩) p'.todo.length (tc - d) := by
        cases x0 with
        | slice h _ _ =>
          obtain ⟨_, c', s', g1, g2⟩ := h
          have := hs.to _ _ r0
          rw [this] at g1
          cases g1
          rw [g2]
      have hv1 : v1 = .int .i64 p'.num := by cases x1; rfl
      have hv2 : v2 = .slice (if cA' = none then none else cW) p'.come.length cc' := by
        cases hc : cA' with
        | none => rw [hc] at x2; cases x2; rfl
        | some ca =>
          rw [hc] at x2 a4
          rcases a4 with ⟨b1, _⟩ | ⟨b1, _⟩
          · by_cases hn : p.come = []
            · rw [if_pos hn] at b1; cases b1
            · rw [if_neg hn] at b1
              cases b1
              cases x2 with
              | slice h _ _ =>
                obtain ⟨_, c', s', g1, g2⟩ := h
                rcases h.come with ⟨b2, _⟩ | ⟨cb, co, _, b2, _⟩
                · exact absurd b2 hn
                · have := hs.to _ _ (show ρ (Try.prog.globals.size + 1) = some (cb, co) by rw [r1, b2]; rfl)
                  rw [this] at g1
                  cases g1
                  rw [g2, b2]
                  simp
          · cases b1
      have hv3 : (p'.sends = [] ∧ v3 = .slice none 0 0) ∨ ∃ g o sc, p'.sends ≠ [] ∧ v3 = .slice (some ⟨g, o, none⟩) p'.sends.length sc ∧ w0.heap.size ≤ g ∧ ∀ i v, (cellsL p'.sends)[i]? = some v → W1.cell? ⟨g, o + i, none⟩ = some v ∧ k1.W (.cell ⟨g, o + i, none⟩) := by
        by_cases hn : p'.sends = []
        · have := a3.nil hn
          rw [this] at x3
          cases x3
          exact .inl ⟨hn, rfl⟩
        · right
          have hpos : 0 < p'.sends.length := List.length_pos_iff.2 hn
          rcases a3.own.2 with ⟨_, h0⟩ | ⟨gb, cap, cur, rfl, hgb, hobj, hnc, hcm, hsz, htk⟩
          · omega
          · cases x3 with
            | slice hA _ _ =>
              obtain ⟨hA1, c', s', g1, g2⟩ := hA
              have hall : ∀ i v, (cellsL p'.sends)[i]? = some v → W1.cell? ⟨c', s' + i, none⟩ = some v ∧ k1.W (.cell ⟨c', s' + i, none⟩) := fun i v hv => by
                have hl : L1.cell? ⟨gb, i, none⟩ = some v := by
                  rw [cell_of_row _ _ _ _ _ _ hobj]
                  rw [← htk, List.getElem?_take] at hv
                  split at hv
                  · simpa using hv
                  · cases hv
                have hfr : L1.frozen? ⟨gb, i, none⟩ = false := by simp [World.frozen?, hobj]
                have hai : AR ρ1 ⟨gb, i, none⟩ ⟨c', s' + i, none⟩ := ⟨⟨rfl, hA1.2⟩, c', s', g1, rfl⟩
                obtain ⟨u, e1, e2, _⟩ := hwr.load hai hl
                obtain ⟨_, _, e4, _⟩ := hwr.store hai hl hfr (VR.bool true)
                have hm := List.mem_of_getElem? hv
                simp only [cellsL, List.mem_flatMap] at hm
                obtain ⟨y, _, hy⟩ := hm
                simp at hy
                rcases hy with rfl | rfl <;> cases e2 <;> exact ⟨e1, e4⟩
              refine ⟨c', s', cap, hn, by rw [g2]; simp, ?_, hall⟩
              obtain ⟨y, ys, hys⟩ := List.exists_cons_of_ne_nil hn
              obtain ⟨q1, q2⟩ := hall 0 (.int .i64 y.1) (by rw [hys]; rfl)
              rcases hU.new _ q2 with q3 | q3
              · exfalso
                obtain ⟨i, hi, q4⟩ := q3
                have e1 : c' = lb := by have := congrArg (fun x : Loc => match x with | .cell a => a.block | _ => 0) q4; exact this
                have e2 : s' + 0 = q + i := by have := congrArg (fun x : Loc => match x with | .cell a => a.off | _ => 0) q4; exact this
                subst e1
                have hb4 : L1.heap[Try.prog.globals.size + 2]? = _ := a3.blk
                have hcur : 0 < cur.size := by
                  have : (cellsL p'.sends).length = p'.sends.length * 2 := cellsL_length _
                  have h2 := congrArg List.length htk
                  simp at h2
                  omega
                have := hwr.apart gb (Try.prog.globals.size + 2) c' s' q cur _ _ _ _ _ 0 i g1 (hs.to _ _ r2) hobj hb4 hcur (by simpa using hi) (by omega) (by simp)
                omega
              · have h1 : ¬ MemLoc w.heap.size (.cell ⟨c', s' + 0, none⟩) := q3.mem.2
                have h2 := hr.size
                have h3 : ¬ c' < w.heap.size := h1
                omega
      have hlic : ∀ i, i < 4 → k1.W (.cell ⟨lb, q + i, none⟩) := fun i hi => hU.W _ ⟨i, hi, rfl⟩
      have htW : ((some ⟨tb, tO, none⟩ : Option Addr).map (·.add (3 * x))) = some ⟨tb, tO + 3 * x, none⟩ := by simp [Addr.add_lit']
      have halt : ((if cA' = none then none else cW) = cW ∧ cc' = cc ∧ p'.come = p.come) ∨ ((if cA' = none then none else cW) = none ∧ cc' = 0 ∧ p'.come = []) := by
        rcases a4 with ⟨b1, b2, b3⟩ | ⟨b1, b2, b3⟩
        · left
          refine ⟨?_, b2, b3⟩
          rcases h.come with ⟨b4, b5⟩ | ⟨cb, co, b4, b5, _⟩
          · rw [if_pos b4] at b1; rw [if_pos b1, b5]
          · rw [if_neg b4] at b1; rw [if_neg (by rw [b1]; simp)]
        · right; exact ⟨by rw [if_pos b1], b2, b3⟩
      rw [hv0] at w0'
      rw [hv1] at w1'
      rw [hv2] at w2'
      rcases hv3 with ⟨e1, e2⟩ | ⟨g, o, sc, e1, e2, e3, e4⟩
      · rw [e2] at w3'
        refine ⟨d, x, _, cc', none, 0, p', hp.symm, a1, a2, by rw [htW]; exact w0', w1', w2', by rw [e1]; exact w3', halt, hlic, .inl ⟨e1, rfl⟩⟩
      · rw [e2] at w3'
        exact ⟨d, x, _, cc', _, sc, p', hp.symm, a1, a2, by rw [htW]; exact w0', w1', w2', w3', halt, hlic, .inr ⟨g, o, e1, rfl, e3, e4⟩⟩
  · rintro e w' ⟨hret, hst, _⟩
    subst hret
    obtain ⟨d, x, cA', cc', sv', a1, a2, a3, a4⟩ := hst
    refine ⟨rfl, d, x, cA', cc', sv', a1, a2, ?_, a4⟩
    have : ((some ⟨Try.prog.globals.size, 0, none⟩ : Option Addr).map (·.add (3 * x))) = some ⟨Try.prog.globals.size, 3 * x, none⟩ := by simp [add_lit]
    rw [this] at a3
    exact a3
end
end Go.Proofs.Yticdjkkcfdbdcaa
