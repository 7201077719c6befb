/- Prefixes by parts: plain. No program; no conditions but those named. -/
import Derived.Test.YtnabgoljnfaebaaScA2
namespace Go.Proofs.Ytnabgoljnfaebaa
def joinS (g : Nat → List Int) : Nat → List Int | 0 => [] | m + 1 => joinS g m ++ g m
section
variable {g : Nat → List Int} {cuts : Nat → Nat}
theorem joinS_length (h0 : cuts 0 = 0) : ∀ {m : Nat}, (∀ j, j < m → cuts j + (g j).length = cuts (j + 1)) → (joinS g m).length = cuts m
  | 0, _ => h0.symm
  | m + 1, h => by
    have := joinS_length (m := m) h0 fun j hj => h j (by omega)
    have := h m (by omega)
    simp only [joinS, List.length_append]
    omega
theorem joinS_get (h0 : cuts 0 = 0) : ∀ {m : Nat}, (∀ j, j < m → cuts j + (g j).length = cuts (j + 1)) → ∀ {j i : Nat}, j < m → ∀ h : i < (g j).length, (joinS g m)[cuts j + i]? = some (g j)[i]
  | 0, _, j, i, hj, _ => absurd hj (Nat.not_lt_zero _)
  | m + 1, h, j, i, hj, hi => by
    have hl := joinS_length (m := m) h0 fun j hj => h j (by omega)
    rcases Nat.lt_or_ge j m with h1 | h1
    · have := joinS_get (m := m) h0 (fun j hj => h j (by omega)) h1 hi
      have hlt : cuts j + i < (joinS g m).length := (List.getElem?_eq_some_iff.1 this).1
      simp only [joinS]
      rw [List.getElem?_append_left hlt]; exact this
    · obtain rfl : j = m := by omega
      simp only [joinS]
      rw [List.getElem?_append_right (by omega), hl, Nat.add_sub_cancel_left, List.getElem?_eq_getElem hi]
theorem segL_joinS (h0 : cuts 0 = 0) {m : Nat} (h : ∀ j, j < m → cuts j + (g j).length = cuts (j + 1)) {j : Nat} (hj : j < m) : segL (joinS g m) cuts j = g j := by
  have hle : ∀ {i : Nat}, i ≤ m → cuts i ≤ cuts m := fun {i} hi => cuts_le (fun j hj => by have := h j hj; omega) hi (Nat.le_refl _)
  have hl := joinS_length h0 h
  have hlen : (segL (joinS g m) cuts j).length = (g j).length := by
    rw [segL_length (by rw [hl]; exact hle (by omega))]
    have := h j hj; omega
  refine List.ext_getElem hlen fun i h1 h2 => ?_
  obtain ⟨h3, e⟩ := segL_get h1
  have := joinS_get h0 h hj h2
  rw [List.getElem?_eq_getElem h3] at this
  rw [e]
  exact Option.some.inj this
end
theorem take_segL {xs : List Int} {cuts : Nat → Nat} {j : Nat} (h : cuts j ≤ cuts (j + 1)) : xs.take (cuts (j + 1)) = xs.take (cuts j) ++ segL xs cuts j := by
  unfold segL
  rw [← List.take_add, Nat.add_sub_of_le h]
section
variable (op : Int)
theorem scanFrom_append : ∀ (u v : List Int) (a : Int), scanFrom op a (u ++ v) = scanFrom op a u ++ scanFrom op ((scanFrom op a u).getLastD a) v
  | [], v, a => rfl
  | x :: r, v, a => by
    simp only [List.cons_append, scanFrom, scanFrom_append r v, List.getLastD_cons]
theorem scanFrom_map : ∀ (v : List Int) (a x : Int), scanFrom op (two op a x) v = (scanFrom op x v).map (two op a)
  | [], _, _ => rfl
  | y :: r, a, x => by
    simp only [scanFrom, List.map_cons, ← scanFrom_map r, two_assoc]
theorem scanFrom_scanI (v : List Int) (a : Int) : scanFrom op a v = (scanI op v).map (two op a) := by
  cases v with
  | nil => rfl
  | cons y r => simp only [scanFrom, scanI, List.map_cons, scanFrom_map]
theorem scanI_append {u : List Int} (hu : u ≠ []) (v : List Int) : scanI op (u ++ v) = scanI op u ++ (scanI op v).map (two op ((scanI op u).getLastD 0)) := by
  cases u with
  | nil => exact absurd rfl hu
  | cons x r =>
    show x :: scanFrom op x (r ++ v) = x :: scanFrom op x r ++ (scanI op v).map (two op ((x :: scanFrom op x r).getLastD 0))
    rw [scanFrom_append, List.getLastD_cons, ← scanFrom_scanI]
    rfl
/-- What is ahead of a part. -/
def aheadI (xs : List Int) (n : Nat) : Int := (scanI op (xs.take n)).getLastD 0
variable {op}
section
variable {xs : List Int} {cuts : Nat → Nat} {m : Nat} (h0 : cuts 0 = 0) (hst : ∀ j, j < m → cuts j < cuts (j + 1)) (hm : cuts m = xs.length)
include h0 hst hm
theorem take_ne {j : Nat} (h1 : 1 ≤ j) (h2 : j ≤ m) : xs.take (cuts j) ≠ [] := fun e => by
  have a : cuts 0 < cuts 1 := hst 0 (by omega)
  have b := cuts_le (fun i hi => Nat.le_of_lt (hst i hi)) (show 1 ≤ j by omega) h2
  have c := cuts_le (fun i hi => Nat.le_of_lt (hst i hi)) h2 (Nat.le_refl _)
  have := congrArg List.length e
  simp only [List.length_take, List.length_nil] at this
  omega
/-- ████ EACH PART BY ITSELF, THEN EACH BEHIND WHAT IS AHEAD OF IT. ████ -/
theorem parts_all : ∀ i, i ≤ m → joinS (fun j => if j = 0 then scanI op (segL xs cuts j) else (scanI op (segL xs cuts j)).map (two op (aheadI op xs (cuts j)))) i = scanI op (xs.take (cuts i))
  | 0, _ => by rw [h0]; rfl
  | i + 1, hi => by
    have ih := parts_all i (by omega)
    simp only [joinS, ih]
    rw [take_segL (Nat.le_of_lt (hst i (by omega)))]
    by_cases hz : i = 0
    · subst hz; rw [h0]; rfl
    · rw [if_neg hz, scanI_append op (take_ne h0 hst hm (by omega) (by omega))]
      rfl
/-- The last of a part's prefixes. -/
theorem part_last {i : Nat} (h1 : 1 ≤ i) (h2 : i ≤ m) : (joinS (fun j => scanI op (segL xs cuts j)) m)[cuts i - 1]? = some ((scanI op (segL xs cuts (i - 1))).getLastD 0) := by
  obtain ⟨j, rfl⟩ : ∃ j, i = j + 1 := ⟨i - 1, by omega⟩
  have hle : ∀ {i : Nat}, i ≤ m → cuts i ≤ xs.length := fun {i} hi => by rw [← hm]; exact cuts_le (fun j hj => Nat.le_of_lt (hst j hj)) hi (Nat.le_refl _)
  have hl : ∀ j, j < m → cuts j + (scanI op (segL xs cuts j)).length = cuts (j + 1) := fun j hj => by rw [scanI_length, segL_length (hle (by omega))]; have := hst j hj; omega
  have hj := hst j (by omega)
  have h3 : cuts (j + 1) - 1 - cuts j < (scanI op (segL xs cuts j)).length := by have := hl j (by omega); omega
  have := joinS_get h0 hl (show j < m by omega) h3
  have e : cuts j + (cuts (j + 1) - 1 - cuts j) = cuts (j + 1) - 1 := by omega
  rw [e] at this
  rw [this, Nat.add_sub_cancel]
  have hne : scanI op (segL xs cuts j) ≠ [] := fun e => by rw [e] at h3; simp at h3
  have e2 : (scanI op (segL xs cuts j)).getLastD 0 = (scanI op (segL xs cuts j)).getLast hne := by rw [List.getLastD_eq_getLast?, List.getLast?_eq_some_getLast hne]; rfl
  rw [e2, List.getLast_eq_getElem]
  congr 2
  have := hl j (by omega)
  omega
omit hm in
theorem ahead_one (h2 : 1 ≤ m) : aheadI op xs (cuts 1) = (scanI op (segL xs cuts 0)).getLastD 0 := by
  unfold aheadI
  rw [take_segL (j := 0) (Nat.le_of_lt (hst 0 (by omega))), h0]
  rfl
theorem ahead_next {i : Nat} (h1 : 1 ≤ i) (h2 : i < m) : aheadI op xs (cuts (i + 1)) = two op (aheadI op xs (cuts i)) ((scanI op (segL xs cuts i)).getLastD 0) := by
  have hle : ∀ {i : Nat}, i ≤ m → cuts i ≤ xs.length := fun {i} hi => by rw [← hm]; exact cuts_le (fun j hj => Nat.le_of_lt (hst j hj)) hi (Nat.le_refl _)
  have hne : scanI op (segL xs cuts i) ≠ [] := fun e => by
    have := congrArg List.length e
    rw [scanI_length, segL_length (hle (by omega))] at this
    have := hst i h2
    simp at *
    omega
  unfold aheadI
  rw [take_segL (Nat.le_of_lt (hst i h2)), scanI_append op (take_ne h0 hst hm h1 (by omega))]
  rw [List.getLastD_eq_getLast?, List.getLastD_eq_getLast?, List.getLastD_eq_getLast?, List.getLast?_append, List.getLast?_map, List.getLast?_eq_some_getLast hne]
  rfl
end
end
end Go.Proofs.Ytnabgoljnfaebaa
