/- Rows of the call's own whose elements take several cells; append from whatever is read; programs laid in such rows. No conditions. -/
import Derived.Test.YtgiceeholamphaaDoorLangOk
import Derived.Test.YtgiceeholamphaaDoorChecked
import Derived.Maps.AppendAt
import Derived.OwnWalk
namespace Go.Proofs.YtgiceeholamphaaDoor
open Go.ChangeShapes Go.WideShapes Go.ChangeAt Go.RowKit

section
variable {w w' : World} {base size n : Nat} {e : TypeId} {v : Value} {vs : List Value}
theorem own_form (h : w.ownsRow base e size v n vs) : ∃ A c, v = .slice A n c ∧ n ≤ c ∧ c ≤ maxLen := by
  rcases h.2 with ⟨rfl, rfl⟩ | ⟨g, cap, cur, rfl, _, _, hnc, hcm, _⟩
  · exact ⟨none, 0, rfl, Nat.le_refl _, Nat.zero_le _⟩
  · exact ⟨_, cap, rfl, hnc, hcm⟩
theorem own_top (h : w.ownsRow base e size v n vs) (hn : 0 < n) : ∃ g c, v = .slice (some ⟨g, 0, none⟩) n c ∧ base ≤ g ∧ g < w.heap.size ∧ n ≤ c ∧ c ≤ maxLen := by
  rcases h.2 with ⟨_, h0⟩ | ⟨g, cap, cur, hv, hb, hg, hnc, hcm, _⟩
  · omega
  · exact ⟨g, cap, hv, hb, (Array.getElem?_eq_some_iff.1 hg).1, hnc, hcm⟩
theorem own_cut {g cap : Nat} {xs ys : List Value} (h : w.ownsRow base e size (.slice (some ⟨g, 0, none⟩) (n + 1) cap) (n + 1) (xs ++ ys)) (hx : xs.length = n * size) : w.ownsRow base e size (.slice (some ⟨g, 0, none⟩) n cap) n xs := by
  refine ⟨hx, .inr ?_⟩
  rcases h.2 with ⟨h0, _⟩ | ⟨g', cap', cur, hv, hb, hg, hnc, hcm, hs, ht⟩
  · cases h0
  · simp only [Value.slice.injEq, Option.some.injEq, Addr.mk.injEq, and_true, true_and] at hv
    obtain ⟨rfl, rfl⟩ := hv
    refine ⟨g, cap, cur, rfl, hb, hg, by omega, hcm, hs, ?_⟩
    have h1 : (cur.toList.take ((n + 1) * size)).take (n * size) = (xs ++ ys).take (n * size) := by rw [ht]
    rw [List.take_take, Nat.min_eq_left (Nat.mul_le_mul_right _ (by omega)), ← hx, List.take_left'] at h1
    · rwa [hx] at h1
    · rfl
theorem own_blocks (h : w.ownsRow base e size v n vs) (hk : ∀ b, base ≤ b → b < w.heap.size → w'.heap[b]? = w.heap[b]?) : w'.ownsRow base e size v n vs := by
  refine ⟨h.1, ?_⟩
  rcases h.2 with h1 | ⟨g, cap, cur, hv, hb, hg, rest⟩
  · exact .inl h1
  · exact .inr ⟨g, cap, cur, hv, hb, (hk g hb (Array.getElem?_eq_some_iff.1 hg).1).trans hg, rest⟩
theorem own_below (h : w.ownsRow base e size v n vs) (hb : Below w.heap.size w w') : w'.ownsRow base e size v n vs := own_blocks h fun _ _ hlt => hb.block _ hlt
theorem own_grown {row : Option Nat} (h : w.ownsRow base e size v n vs) (hb : w.grownBy w' row) (hr : ∀ g, v.ownBlock = some g → row ≠ some g) : w'.ownsRow base e size v n vs := by
  refine ⟨h.1, ?_⟩
  rcases h.2 with h1 | ⟨g, cap, cur, hv, hbg, hg, rest⟩
  · exact .inl h1
  · refine .inr ⟨g, cap, cur, hv, hbg, (hb.block g (Array.getElem?_eq_some_iff.1 hg).1 ?_).trans hg, rest⟩
    intro e
    exact hr g (by rw [hv]; rfl) e.symm
/-- A row's owner in a world that is as it was from the base on. -/
theorem own_base (h : w.ownsRow base e size v n vs) {b : Nat} (hb : b ≤ base) : w.ownsRow b e size v n vs := by
  refine ⟨h.1, ?_⟩
  rcases h.2 with h1 | ⟨g, cap, cur, hv, hbg, rest⟩
  · exact .inl h1
  · exact .inr ⟨g, cap, cur, hv, by omega, rest⟩
end
/-- The cells xs begin at A (of A nothing is said where there are none). -/
def SrcAt (w : World) (A : Option Addr) (xs : List Value) : Prop := xs ≠ [] → ∃ b o, A = some ⟨b, o, none⟩ ∧ ∀ j u, xs[j]? = some u → w.cell? ((⟨b, o, none⟩ : Addr).add j) = some u
theorem run_append_none_any {P : Program} {w : World} (base : Nat) (t ty e : TypeId) (i : TypeInfo) (size : Nat) (ht : P.underlying t = some (.slice e)) (hi : P.info? e = some i)
    (v : Value) (n c : Nat) (xs : List Value) (hown : w.ownsRow base e size v n xs) :
    (Builtin.append_ #[t, t] ty #[v, .slice none 0 c]).run P w = .ok v w := by
  rcases hown.2 with ⟨rfl, rfl⟩ | ⟨g, cap, cur, rfl, _, _, hnc, _⟩
  · simp [Builtin.append_, run_underlying ht, sizeOf, typeInfo, hi, Builtin.lenOf, Builtin.firstCells]
  · simp [Builtin.append_, run_underlying ht, sizeOf, typeInfo, hi, Builtin.lenOf, Builtin.firstCells, hnc, storeCells]
/-- append from whatever is read: a slice, nil or not. -/
theorem run_append_src {P : Program} (w : World) (base : Nat) (t ty e : TypeId) (i : TypeInfo) (z : Value) (size bytes : Nat) (ht : P.underlying t = some (.slice e)) (hi : P.info? e = some i) (hz : i.zero = some z)
    (hsize : i.size = size) (hby : i.bytes = bytes) (hzs : z.cells.size = size) (hsz : 0 < size)
    (v : Value) (n : Nat) (xs : List Value) (hown : w.ownsRow base e size v n xs)
    (A : Option Addr) (m c : Nat) (news : List Value) (hl : news.length = m * size) (hnews : SrcAt w A news) (h1 : ∀ u ∈ news, u.oneCell' = true)
    (h63 : n + m ≤ maxLen) (hbytes : (n + m) * bytes ≤ 140737488355328) (hbase : base ≤ w.heap.size) :
    ∃ v' w', (Builtin.append_ #[t, t] ty #[v, .slice A m c]).run P w = .ok v' w' ∧ w'.ownsRow base e size v' (n + m) (xs ++ news) ∧ w.grownBy w' v.ownBlock ∧ (v'.ownBlock = v.ownBlock ∨ v'.ownBlock = some w.heap.size) := by
  by_cases hne : news = []
  · subst hne
    obtain rfl : m = 0 := by
      rcases Nat.eq_zero_or_pos m with h | h
      · exact h
      · have := Nat.mul_pos h hsz
        simp at hl
        omega
    cases A with
    | none =>
      refine ⟨v, w, run_append_none_any base t ty e i size ht hi v n c xs hown, by simpa using hown, World.grownBy.refl _ _, .inl rfl⟩
    | some a =>
      obtain ⟨v', w', h1, h2, h3, _, h5⟩ := run_append_own_at (P := P) w base t ty e i z size bytes ht hi hz hsize hby hzs hsz v n xs hown a 0 c [] (by simp) (fun j u h => by simp at h) (fun u h => by cases h) h63 hbytes hbase
      exact ⟨v', w', h1, h2, h3, h5⟩
  · obtain ⟨b, o, rfl, hc⟩ := hnews hne
    obtain ⟨v', w', h1, h2, h3, _, h5⟩ := run_append_own_at (P := P) w base t ty e i z size bytes ht hi hz hsize hby hzs hsz v n xs hown ⟨b, o, none⟩ m c news hl hc h1 h63 hbytes hbase
    exact ⟨v', w', h1, h2, h3, h5⟩
theorem wpList_append_src {P : Program} {w : World} {ops : Array Oper} {rest : List Oper} {o : Oper} {a : Act} {Q : Exit → Act → World → Prop} (hgd : o.guard = none) (s x : Operand) (t : TypeId)
    (ho : o.op = .call { callee := .builtin .append, args := #[s, x], argTypes := #[t, t] })
    (base : Nat) (e : TypeId) (i : TypeInfo) (z : Value) (size bytes : Nat) (ht : P.underlying t = some (.slice e)) (hi : P.info? e = some i) (hz : i.zero = some z)
    (hsize : i.size = size) (hby : i.bytes = bytes) (hzs : z.cells.size = size) (hsz : 0 < size)
    (v : Value) (n : Nat) (xs : List Value) (hs : a.eval s = v) (hown : w.ownsRow base e size v n xs)
    (A : Option Addr) (m c : Nat) (news : List Value) (hx : a.eval x = .slice A m c) (hl : news.length = m * size) (hnews : SrcAt w A news) (h1 : ∀ u ∈ news, u.oneCell' = true)
    (h63 : n + m ≤ maxLen) (hbytes : (n + m) * bytes ≤ 140737488355328) (hbase : base ≤ w.heap.size)
    (h : ∀ v' w', w'.ownsRow base e size v' (n + m) (xs ++ news) → w.grownBy w' v.ownBlock → (v'.ownBlock = v.ownBlock ∨ v'.ownBlock = some w.heap.size) → wpList P ops Q rest (a.put o.dst v') w') :
    wpList P ops Q (o :: rest) a w := by
  refine wpList_plain hgd fun K hK => ?_
  obtain ⟨v', w', hr, h2, h3, h5⟩ := run_append_src (P := P) w base t o.type e i z size bytes ht hi hz hsize hby hzs hsz v n xs hown A m c news hl hnews h1 h63 hbytes hbase
  unfold Oper.wp execOp
  simp only [ho, resolve, invoke, builtin, Sem.run_bind, Sem.run_pure, Result.andThen_ok, List.map_toArray, List.map_cons, List.map_nil, hs, hx, hr]
  exact hK _ _ (h v' w' h2 h3 h5)
/-! ### Rows of statements, of expressions -/
theorem cellsS_length (l : List StatR) : (cellsS l).length = l.length * 8 := by
  induction l with
  | nil => rfl
  | cons x l ih => simp only [cellsS, List.flatMap_cons, List.length_append, List.length_cons] at ih ⊢; rw [ih]; simp [StatR.cells]; omega
theorem cellsE_length (l : List ExprR) : (cellsE l).length = l.length * 4 := by
  induction l with
  | nil => rfl
  | cons x l ih => simp only [cellsE, List.flatMap_cons, List.length_append, List.length_cons] at ih ⊢; rw [ih]; simp [ExprR.cells]; omega
theorem cellsS_append (a b : List StatR) : cellsS (a ++ b) = cellsS a ++ cellsS b := by simp [cellsS]
theorem cellsE_append (a b : List ExprR) : cellsE (a ++ b) = cellsE a ++ cellsE b := by simp [cellsE]
theorem cellsS_cons (x : StatR) (l : List StatR) : cellsS (x :: l) = x.cells ++ cellsS l := by simp [cellsS]
theorem cellsE_cons (x : ExprR) (l : List ExprR) : cellsE (x :: l) = x.cells ++ cellsE l := by simp [cellsE]
theorem cellsS_get (l : List StatR) {i j : Nat} (hi : i < l.length) (hj : j < 8) : (cellsS l)[i * 8 + j]? = (l[i]).cells[j]? := by
  induction l generalizing i with
  | nil => simp at hi
  | cons t l ih =>
    rw [cellsS_cons]
    cases i with
    | zero =>
      simp only [Nat.zero_mul, Nat.zero_add, List.getElem_cons_zero]
      rw [List.getElem?_append_left (by simpa [StatR.cells] using hj)]
    | succ i =>
      simp only [List.getElem_cons_succ]
      rw [List.getElem?_append_right (by simp [StatR.cells]; omega), ← ih (by simpa using hi)]
      congr 1
      simp [StatR.cells]
      omega
theorem cellsE_get (l : List ExprR) {i j : Nat} (hi : i < l.length) (hj : j < 4) : (cellsE l)[i * 4 + j]? = (l[i]).cells[j]? := by
  induction l generalizing i with
  | nil => simp at hi
  | cons t l ih =>
    rw [cellsE_cons]
    cases i with
    | zero =>
      simp only [Nat.zero_mul, Nat.zero_add, List.getElem_cons_zero]
      rw [List.getElem?_append_left (by simpa [ExprR.cells] using hj)]
    | succ i =>
      simp only [List.getElem_cons_succ]
      rw [List.getElem?_append_right (by simp [ExprR.cells]; omega), ← ih (by simpa using hi)]
      congr 1
      simp [ExprR.cells]
      omega
theorem cellsS_one (l : List StatR) : ∀ u ∈ cellsS l, u.oneCell' = true := by
  intro u hu
  simp only [cellsS, List.mem_flatMap] at hu
  obtain ⟨x, _, hu⟩ := hu
  simp only [StatR.cells, List.mem_cons, List.not_mem_nil, or_false] at hu
  rcases hu with rfl | rfl | rfl | rfl | rfl | rfl | rfl | rfl <;> rfl
theorem cellsE_one (l : List ExprR) : ∀ u ∈ cellsE l, u.oneCell' = true := by
  intro u hu
  simp only [cellsE, List.mem_flatMap] at hu
  obtain ⟨x, _, hu⟩ := hu
  simp only [ExprR.cells, List.mem_cons, List.not_mem_nil, or_false] at hu
  rcases hu with rfl | rfl | rfl | rfl <;> rfl
section
variable {w w' : World} {B : Nat} {A : Option Addr}
theorem StatAt.get {b o : Nat} {x : StatR} (h : StatAt w b o x) {j : Nat} (hj : j < 8) : w.cell? ⟨b, o + j, none⟩ = x.cells[j]? := by
  have hm : j = 0 ∨ j = 1 ∨ j = 2 ∨ j = 3 ∨ j = 4 ∨ j = 5 ∨ j = 6 ∨ j = 7 := by omega
  rcases hm with rfl | rfl | rfl | rfl | rfl | rfl | rfl | rfl
  · exact h.c0
  · exact h.c1
  · exact h.c2
  · exact h.c3
  · exact h.c4
  · exact h.c5
  · exact h.c6
  · exact h.c7
theorem ExprAt.get {b o : Nat} {x : ExprR} (h : ExprAt w b o x) {j : Nat} (hj : j < 4) : w.cell? ⟨b, o + j, none⟩ = x.cells[j]? := by
  have hm : j = 0 ∨ j = 1 ∨ j = 2 ∨ j = 3 := by omega
  rcases hm with rfl | rfl | rfl | rfl
  · exact h.c0
  · exact h.c1
  · exact h.c2
  · exact h.c3
theorem StatAt.of_get {b o : Nat} {x : StatR} (h : ∀ j, j < 8 → w.cell? ⟨b, o + j, none⟩ = x.cells[j]?) : StatAt w b o x :=
  ⟨h 0 (by omega), h 1 (by omega), h 2 (by omega), h 3 (by omega), h 4 (by omega), h 5 (by omega), h 6 (by omega), h 7 (by omega)⟩
theorem ExprAt.of_get {b o : Nat} {x : ExprR} (h : ∀ j, j < 4 → w.cell? ⟨b, o + j, none⟩ = x.cells[j]?) : ExprAt w b o x :=
  ⟨h 0 (by omega), h 1 (by omega), h 2 (by omega), h 3 (by omega)⟩
theorem RowS.src {l : List StatR} (h : RowS w B A l) : SrcAt w A (cellsS l) := fun hne => by
  obtain ⟨b, o, e, _, hc⟩ := h (by rintro rfl; exact hne rfl)
  refine ⟨b, o, e, fun j u hu => ?_⟩
  have hjl := (List.getElem?_eq_some_iff.1 hu).1
  rw [cellsS_length] at hjl
  have hi : j / 8 < l.length := by omega
  have := (hc _ hi).get (j := j % 8) (by omega)
  rw [Addr.add_lit', show o + j = o + j / 8 * 8 + j % 8 by omega, this, ← cellsS_get l hi (by omega), show j / 8 * 8 + j % 8 = j by omega]
  exact hu
theorem RowE.src {l : List ExprR} (h : RowE w B A l) : SrcAt w A (cellsE l) := fun hne => by
  obtain ⟨b, o, e, _, hc⟩ := h (by rintro rfl; exact hne rfl)
  refine ⟨b, o, e, fun j u hu => ?_⟩
  have hjl := (List.getElem?_eq_some_iff.1 hu).1
  rw [cellsE_length] at hjl
  have hi : j / 4 < l.length := by omega
  have := (hc _ hi).get (j := j % 4) (by omega)
  rw [Addr.add_lit', show o + j = o + j / 4 * 4 + j % 4 by omega, this, ← cellsE_get l hi (by omega), show j / 4 * 4 + j % 4 = j by omega]
  exact hu
theorem own_statAt {base g c n : Nat} {t : TypeId} {l : List StatR} (h : w.ownsRow base t 8 (.slice (some ⟨g, 0, none⟩) n c) n (cellsS l)) {i : Nat} (hi : i < l.length) : StatAt w g (i * 8) l[i] := by
  have hn : n = l.length := by have := h.1; rw [cellsS_length] at this; omega
  exact StatAt.of_get fun j hj => by rw [h.cellAt _ (by omega)]; exact cellsS_get l hi hj
theorem own_exprAt {base g c n : Nat} {t : TypeId} {l : List ExprR} (h : w.ownsRow base t 4 (.slice (some ⟨g, 0, none⟩) n c) n (cellsE l)) {i : Nat} (hi : i < l.length) : ExprAt w g (i * 4) l[i] := by
  have hn : n = l.length := by have := h.1; rw [cellsE_length] at this; omega
  exact ExprAt.of_get fun j hj => by rw [h.cellAt _ (by omega)]; exact cellsE_get l hi hj
end
theorem info_stat : (Tryd.prog.info? 49).map (fun i => (i.zero, i.size, i.bytes)) = some (some (.agg #[.int .i64 0, .string ⟨#[]⟩, .int .i64 0, .int .i64 0, .string ⟨#[]⟩, .slice none 0 0, .int .i64 0, .slice none 0 0]), 8, 112) := by kernel_rfl
theorem info_expr : (Tryd.prog.info? 46).map (fun i => (i.zero, i.size, i.bytes)) = some (some (.agg #[.int .i64 0, .int .i64 0, .string ⟨#[]⟩, .slice none 0 0]), 4, 56) := by kernel_rfl
theorem info_block : (Tryd.prog.info? 22).map (fun i => (i.zero, i.size, i.bytes)) = some (some (.slice none 0 0), 1, 24) := by kernel_rfl
end Go.Proofs.YtgiceeholamphaaDoor
