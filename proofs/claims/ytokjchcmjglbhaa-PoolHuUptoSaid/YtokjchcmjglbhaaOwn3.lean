/- Rows of the call's own whose elements take several cells; trees laid in such a row. No conditions. -/
import Derived.Test.YtokjchcmjglbhaaTree
import Derived.Maps.AppendAt
namespace Go.Proofs.Ytokjchcmjglbhaa
open Go.ChangeShapes Go.WideShapes Go.ChangeAt Go.RowKit

section
variable {w w' : World} {base size n : Nat} {e : TypeId} {v : Value} {vs : List Value}
theorem own_form3 (h : w.ownsRow base e size v n vs) : ∃ A c, v = .slice A n c ∧ n ≤ c ∧ c ≤ maxLen := by
  rcases h.2 with ⟨rfl, rfl⟩ | ⟨g, cap, cur, rfl, _, _, hnc, hcm, _⟩
  · exact ⟨none, 0, rfl, Nat.le_refl _, Nat.zero_le _⟩
  · exact ⟨_, cap, rfl, hnc, hcm⟩
theorem own_top3 (h : w.ownsRow base e size v n vs) (hn : 0 < n) : ∃ g c, v = .slice (some ⟨g, 0, none⟩) n c ∧ base ≤ g ∧ g < w.heap.size ∧ n ≤ c := by
  rcases h.2 with ⟨_, h0⟩ | ⟨g, cap, cur, hv, hb, hg, hnc, _⟩
  · omega
  · exact ⟨g, cap, hv, hb, (Array.getElem?_eq_some_iff.1 hg).1, hnc⟩
theorem own_cut3 {g cap : Nat} {xs ys : List Value} (h : w.ownsRow base e size (.slice (some ⟨g, 0, none⟩) (n + 1) cap) (n + 1) (xs ++ ys)) (hx : xs.length = n * size) : w.ownsRow base e size (.slice (some ⟨g, 0, none⟩) n cap) n xs := by
  refine ⟨hx, .inr ?_⟩
  rcases h.2 with ⟨h0, _⟩ | ⟨g', cap', cur, hv, hb, hg, hnc, hcm, hs, ht⟩
  · cases h0
  · simp only [Value.slice.injEq, Option.some.injEq, Addr.mk.injEq, and_true, true_and] at hv
    obtain ⟨rfl, rfl⟩ := hv
    refine ⟨g, cap, cur, rfl, hb, hg, by omega, hcm, hs, ?_⟩
    have h1 : (cur.toList.take ((n + 1) * size)).take (n * size) = (xs ++ ys).take (n * size) := by rw [ht]
    rw [List.take_take, Nat.min_eq_left (Nat.mul_le_mul_right _ (by omega)), ← hx, List.take_left'] at h1
    · rwa [hx] at h1
    · rfl
theorem own_blocks3 (h : w.ownsRow base e size v n vs) (hk : ∀ b, base ≤ b → b < w.heap.size → w'.heap[b]? = w.heap[b]?) : w'.ownsRow base e size v n vs := by
  refine ⟨h.1, ?_⟩
  rcases h.2 with h1 | ⟨g, cap, cur, hv, hb, hg, rest⟩
  · exact .inl h1
  · exact .inr ⟨g, cap, cur, hv, hb, (hk g hb (Array.getElem?_eq_some_iff.1 hg).1).trans hg, rest⟩
theorem own_below3 (h : w.ownsRow base e size v n vs) (hb : Below w.heap.size w w') : w'.ownsRow base e size v n vs := own_blocks3 h fun _ _ hlt => hb.block _ hlt
end
/-- Trees in a row, three cells each. -/
def cellsL : List TreeR → List Value
  | [] => []
  | t :: l => t.cells ++ cellsL l
theorem cellsL_length (l : List TreeR) : (cellsL l).length = l.length * 3 := by
  induction l with
  | nil => rfl
  | cons t l ih => simp [cellsL, ih, TreeR.cells]; omega
theorem cellsL_append (a b : List TreeR) : cellsL (a ++ b) = cellsL a ++ cellsL b := by
  induction a with
  | nil => rfl
  | cons t a ih => simp [cellsL, ih]
theorem cellsL_last (l : List TreeR) (x : TreeR) (j : Nat) (hj : j < 3) : (cellsL (l ++ [x]))[l.length * 3 + j]? = x.cells[j]? := by
  rw [cellsL_append, List.getElem?_append_right (by rw [cellsL_length]; omega), cellsL_length]
  simp only [cellsL, List.append_nil]
  congr 1
  omega
theorem cellsL_one (l : List TreeR) : ∀ u ∈ cellsL l, u.oneCell' = true := by
  induction l with
  | nil => intro u h; cases h
  | cons t l ih =>
    intro u hu
    simp only [cellsL, List.mem_append] at hu
    rcases hu with h | h
    · simp only [TreeR.cells, List.mem_cons, List.not_mem_nil, or_false] at h
      rcases h with rfl | rfl | rfl <;> rfl
    · exact ih u h
theorem cellsL_get (l : List TreeR) {i j : Nat} (hi : i < l.length) (hj : j < 3) : (cellsL l)[i * 3 + j]? = (l[i]).cells[j]? := by
  induction l generalizing i with
  | nil => simp at hi
  | cons t l ih =>
    cases i with
    | zero =>
      simp only [cellsL, Nat.zero_mul, Nat.zero_add, List.getElem_cons_zero]
      rw [List.getElem?_append_left (by simpa [TreeR.cells] using hj)]
    | succ i =>
      simp only [cellsL, List.getElem_cons_succ]
      rw [List.getElem?_append_right (by simp [TreeR.cells]; omega), ← ih (by simpa using hi)]
      congr 1
      simp [TreeR.cells]
      omega
/-- The kids of a tree, as a source of append. -/
theorem RdT.news {w : World} {B : Nat} {t : TreeR} (h : RdT w B t) (hne : t.kids ≠ []) : ∃ b o, t.sA = some ⟨b, o, none⟩ ∧ b < B ∧ ∀ j u, (cellsL t.kids)[j]? = some u → w.cell? ((⟨b, o, none⟩ : Addr).add j) = some u := by
  have h0 : 0 < t.kids.length := List.length_pos_iff.2 hne
  obtain ⟨b, o, e, hb, _⟩ := h.at_ h0
  refine ⟨b, o, e, hb, fun j u hu => ?_⟩
  have hjl := (List.getElem?_eq_some_iff.1 hu).1
  rw [cellsL_length] at hjl
  have hi : j / 3 < t.kids.length := by omega
  obtain ⟨b', o', e', _, c0, c1, c2⟩ := h.at_ hi
  rw [e] at e'
  injection e' with e'
  injection e' with e1 e2
  subst e1 e2
  rw [show j = j / 3 * 3 + j % 3 by omega] at hu ⊢
  rw [cellsL_get t.kids hi (by omega)] at hu
  rw [Addr.add_lit', ← Nat.add_assoc]
  have hm : j % 3 = 0 ∨ j % 3 = 1 ∨ j % 3 = 2 := by omega
  rcases hm with hm | hm | hm <;> rw [hm] at hu ⊢ <;> simp only [TreeR.cells, List.getElem?_cons_zero, List.getElem?_cons_succ, Option.some.injEq] at hu <;> subst hu
  · exact c0
  · exact c1
  · exact c2
end Go.Proofs.Ytokjchcmjglbhaa
