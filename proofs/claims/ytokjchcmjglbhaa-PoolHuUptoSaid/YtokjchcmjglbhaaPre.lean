/- What the nodes in preorder are: a forest; how many kids each has. Plain Lean. No conditions. -/
import Derived.Test.YtokjchcmjglbhaaSpots
import Derived.Test.YtokjchcmjglbhaaHu
namespace Go.Proofs.Ytokjchcmjglbhaa

/-- What is known of a list of nodes whose numbers begin at a, of trees that lie below 'up' at depth d. -/
structure PreOk (L : List (Int × Nat × Nat)) (d : Nat) (up : Int) (a : Nat) (roots : Nat) : Prop where
  each : ∀ (j : Nat) (h : j < L.length), (L[j].1 = up ∧ L[j].2.1 = d) ∨ ∃ (i : Nat) (hi : i < j), L[j].1 = ((a + i : Nat) : Int) ∧ L[j].2.1 = (L[i]'(by omega)).2.1 + 1
  kids : ∀ (j : Nat) (h : j < L.length), L.countP (fun x => decide (x.1 = ((a + j : Nat) : Int))) = L[j].2.2
  top : L.countP (fun x => decide (x.1 = up)) = roots
theorem PreOk.range {L : List (Int × Nat × Nat)} {d : Nat} {up : Int} {a r : Nat} (h : PreOk L d up a r) : ∀ x ∈ L, x.1 = up ∨ ((a : Int) ≤ x.1 ∧ x.1 < ((a + L.length : Nat) : Int)) := fun x hx => by
  obtain ⟨j, hj, rfl⟩ := List.getElem_of_mem hx
  rcases h.each j hj with ⟨h1, _⟩ | ⟨i, hi, h1, _⟩
  · exact .inl h1
  · right; rw [h1]; omega
theorem countP_zero {L : List (Int × Nat × Nat)} {p : Int × Nat × Nat → Bool} (h : ∀ x ∈ L, p x = false) : L.countP p = 0 := by
  rw [List.countP_eq_zero]
  intro x hx
  rw [h x hx]
  simp
theorem PreOk.nil (d : Nat) (up : Int) (a : Nat) : PreOk [] d up a 0 := ⟨fun j h => absurd h (by simp), fun j h => absurd h (by simp), rfl⟩
/-- One list behind another. -/
theorem PreOk.append {L M : List (Int × Nat × Nat)} {d : Nat} {up : Int} {a r s : Nat} (h : PreOk L d up a r) (k : PreOk M d up (a + L.length) s) (hu : up < a) : PreOk (L ++ M) d up a (r + s) where
  each := fun j hj => by
    rw [List.length_append] at hj
    by_cases e : j < L.length
    · rw [List.getElem_append_left e]
      rcases h.each j e with h1 | ⟨i, hi, h1, h2⟩
      · exact .inl h1
      · exact .inr ⟨i, hi, h1, by rw [List.getElem_append_left (by omega)]; exact h2⟩
    · rw [List.getElem_append_right (by omega)]
      rcases k.each (j - L.length) (by omega) with h1 | ⟨i, hi, h1, h2⟩
      · exact .inl h1
      · refine .inr ⟨L.length + i, by omega, by rw [h1]; omega, ?_⟩
        rw [List.getElem_append_right (by omega)]
        simpa using h2
  kids := fun j hj => by
    rw [List.length_append] at hj
    rw [List.countP_append]
    by_cases e : j < L.length
    · rw [List.getElem_append_left e, h.kids j e, countP_zero (L := M)]
      · rfl
      · intro x hx
        rcases k.range x hx with h1 | h1
        · exact decide_eq_false (by omega)
        · exact decide_eq_false (by omega)
    · rw [List.getElem_append_right (by omega), countP_zero (L := L), Nat.zero_add]
      · rw [← k.kids (j - L.length) (by omega)]
        congr 1
        funext x
        rw [show a + L.length + (j - L.length) = a + j by omega]
      · intro x hx
        rcases h.range x hx with h1 | h1
        · exact decide_eq_false (by omega)
        · exact decide_eq_false (by omega)
  top := by rw [List.countP_append, h.top, k.top]
/-- A node above its kids. -/
theorem PreOk.cons {M : List (Int × Nat × Nat)} {d : Nat} {up : Int} {a r : Nat} (k : PreOk M (d + 1) (a : Int) (a + 1) r) (hu : up < a) : PreOk ((up, d, r) :: M) d up a 1 where
  each := fun j hj => by
    cases j with
    | zero => exact .inl ⟨rfl, rfl⟩
    | succ j =>
      simp only [List.getElem_cons_succ]
      rcases k.each j (by simpa using hj) with ⟨h1, h2⟩ | ⟨i, hi, h1, h2⟩
      · exact .inr ⟨0, by omega, by rw [h1]; rfl, by simpa using h2⟩
      · exact .inr ⟨i + 1, by omega, by rw [h1]; omega, by simpa using h2⟩
  kids := fun j hj => by
    rw [List.countP_cons]
    cases j with
    | zero =>
      have h1 := k.top
      simp only [Nat.add_zero, List.getElem_cons_zero]
      have h2 : ¬ up = (a : Int) := by omega
      rw [h1]
      simp [h2]
    | succ j =>
      simp only [List.getElem_cons_succ]
      have h2 : ¬ up = ((a + (j + 1) : Nat) : Int) := by omega
      rw [← k.kids j (by simpa using hj), show a + 1 + j = a + (j + 1) by omega]
      simp only [h2, decide_false, Bool.false_eq_true, if_false, Nat.add_zero]
  top := by
    rw [List.countP_cons, countP_zero (L := M)]
    · simp
    · intro x hx
      rcases k.range x hx with h1 | h1
      · exact decide_eq_false (by omega)
      · exact decide_eq_false (by omega)
theorem preL_ok_of {l : List TreeR} (h : ∀ t ∈ l, ∀ (d : Nat) (up : Int) (a : Nat), up < (a : Int) → PreOk (preT t d up a) d up a 1) : ∀ (d : Nat) (up : Int) (a : Nat), up < (a : Int) → PreOk (preL l d up a) d up a l.length := by
  induction l with
  | nil => exact fun d up a _ => PreOk.nil d up a
  | cons t l ih =>
    intro d up a hu
    have h1 := h t (by simp) d up a hu
    have h2 := ih (fun x hx => h x (by simp [hx])) d up (a + t.nodes) (by omega)
    simp only [preL, List.length_cons]
    rw [Nat.add_comm l.length 1]
    refine h1.append ?_ hu
    rw [preT_length]
    exact h2
theorem preT_ok (t : TreeR) : ∀ (d : Nat) (up : Int) (a : Nat), up < (a : Int) → PreOk (preT t d up a) d up a 1 := by
  induction t using TreeR.ind with
  | h t ih =>
    intro d up a hu
    rw [preT_eq]
    exact (preL_ok_of ih (d + 1) (a : Int) (a + 1) (by omega)).cons hu
/-! ### The forest of a whole tree -/
def parOf (t : TreeR) (i : Nat) : Int := ((preT t 1 (-1) 0)[i]?.map (·.1)).getD 0
def depOf (t : TreeR) (i : Nat) : Nat := ((preT t 1 (-1) 0)[i]?.map (·.2.1)).getD 0
theorem forest (t : TreeR) : Forest t.nodes (parOf t) (depOf t) := by
  have ok := preT_ok t 1 (-1) 0 (by omega)
  have hl := preT_length t 1 (-1) 0
  have hp : ∀ (i : Nat) (h : i < (preT t 1 (-1) 0).length), parOf t i = (preT t 1 (-1) 0)[i].1 := fun i h => by simp [parOf, h]
  have hd : ∀ (i : Nat) (h : i < (preT t 1 (-1) 0).length), depOf t i = (preT t 1 (-1) 0)[i].2.1 := fun i h => by simp [depOf, h]
  refine ⟨fun i hi => ?_, fun i hi h0 => ?_, fun i hi h0 => ?_⟩
  · rw [hp i (by omega)]
    rcases ok.each i (by omega) with ⟨h1, _⟩ | ⟨k, hk, h1, _⟩
    · rw [h1]; omega
    · rw [h1]; omega
  · rw [hp i (by omega)] at h0
    rw [hd i (by omega)]
    rcases ok.each i (by omega) with ⟨_, h2⟩ | ⟨k, hk, h1, _⟩
    · exact h2
    · rw [h1] at h0; omega
  · rw [hp i (by omega)] at h0 ⊢
    rw [hd i (by omega)]
    rcases ok.each i (by omega) with ⟨h1, _⟩ | ⟨k, hk, h1, h2⟩
    · rw [h1] at h0; omega
    · rw [h2, h1, hd _ (by omega)]
      simp only [Nat.zero_add, Int.toNat_natCast]
end Go.Proofs.Ytokjchcmjglbhaa
