/- Prefixes, parts of lists: plain. No program; no conditions but those named. -/
import Derived.Test.YtnabgoljnfaebaaScA
namespace Go.Proofs.Ytnabgoljnfaebaa
/-- Prefixes: each behind a. -/
def scanFrom (op a : Int) : List Int → List Int
  | [] => []
  | x :: r => two op a x :: scanFrom op (two op a x) r
def scanI (op : Int) : List Int → List Int
  | [] => []
  | x :: r => x :: scanFrom op x r
theorem scanFrom_length (op : Int) : ∀ (l : List Int) (a : Int), (scanFrom op a l).length = l.length
  | [], _ => rfl
  | x :: r, a => by simp [scanFrom, scanFrom_length op r]
theorem scanI_length (op : Int) (l : List Int) : (scanI op l).length = l.length := by cases l <;> simp [scanI, scanFrom_length]
theorem scanFrom_get (op : Int) : ∀ (l : List Int) (a : Int) (i : Nat) (h : i < l.length), (scanFrom op a l)[i]'(by rw [scanFrom_length]; exact h) = two op (if h0 : i = 0 then a else (scanFrom op a l)[i - 1]'(by rw [scanFrom_length]; omega)) l[i]
  | x :: r, a, 0, _ => by simp [scanFrom]
  | x :: r, a, i + 1, h => by
    have := scanFrom_get op r (two op a x) i (by simpa using h)
    simp only [scanFrom, List.getElem_cons_succ]
    rw [this]
    by_cases e : i = 0
    · subst e; simp
    · obtain ⟨j, rfl⟩ : ∃ j, i = j + 1 := ⟨i - 1, by omega⟩
      simp
theorem scanI_zero (op : Int) (l : List Int) (h : 0 < l.length) : (scanI op l)[0]'(by rw [scanI_length]; exact h) = l[0] := by cases l with | nil => simp at h | cons x r => simp [scanI]
theorem scanI_succ (op : Int) (l : List Int) (i : Nat) (h : i + 1 < l.length) : (scanI op l)[i + 1]'(by rw [scanI_length]; exact h) = two op ((scanI op l)[i]'(by rw [scanI_length]; omega)) l[i + 1] := by
  cases l with
  | nil => simp at h
  | cons x r =>
    have := scanFrom_get op r x i (by simpa using h)
    simp only [scanI, List.getElem_cons_succ]
    rw [this]
    by_cases e : i = 0
    · subst e; simp
    · obtain ⟨j, rfl⟩ : ∃ j, i = j + 1 := ⟨i - 1, by omega⟩
      simp
theorem scanFrom_i64 (op : Int) : ∀ (l : List Int) (a : Int), I64 a → (∀ x ∈ l, I64 x) → ∀ x ∈ scanFrom op a l, I64 x
  | [], _, _, _ => fun x hx => by cases hx
  | y :: r, a, ha, h => fun x hx => by
    have hy := two_i64 (op := op) ha (h y (List.mem_cons_self ..))
    rcases List.mem_cons.1 hx with rfl | hx
    · exact hy
    · exact scanFrom_i64 op r _ hy (fun z hz => h z (List.mem_cons_of_mem _ hz)) x hx
theorem scanI_i64 (op : Int) (l : List Int) (h : ∀ x ∈ l, I64 x) : ∀ x ∈ scanI op l, I64 x := by
  cases l with
  | nil => intro x hx; cases hx
  | cons y r =>
    intro x hx
    rcases List.mem_cons.1 hx with rfl | hx
    · exact h _ (List.mem_cons_self ..)
    · exact scanFrom_i64 op r y (h y (List.mem_cons_self ..)) (fun z hz => h z (List.mem_cons_of_mem _ hz)) x hx
/-- Done up to d. -/
def mixed (op : Int) (xs : List Int) (d : Nat) : List Int := (scanI op xs).take d ++ xs.drop d
theorem mixed_length (op : Int) (xs : List Int) (d : Nat) (h : d ≤ xs.length) : (mixed op xs d).length = xs.length := by simp [mixed, scanI_length]; omega
theorem mixed_get (op : Int) (xs : List Int) (d : Nat) (h : d ≤ xs.length) (i : Nat) (hi : i < xs.length) : (mixed op xs d)[i]'(by rw [mixed_length _ _ _ h]; exact hi) = if i < d then (scanI op xs)[i]'(by rw [scanI_length]; exact hi) else xs[i] := by
  unfold mixed
  by_cases e : i < d
  · rw [List.getElem_append_left (by simp [scanI_length]; omega)]
    simp [e]
  · rw [List.getElem_append_right (by simp [scanI_length]; omega)]
    simp only [List.length_take, scanI_length, List.getElem_drop, if_neg e]
    congr 1
    omega
theorem mixed_one (op : Int) (xs : List Int) : mixed op xs 1 = xs := by
  cases xs with
  | nil => rfl
  | cons x r => simp [mixed, scanI]
theorem mixed_all (op : Int) (xs : List Int) : mixed op xs xs.length = scanI op xs := by
  simp [mixed, List.take_of_length_le, scanI_length]

theorem cuts_le {cuts : Nat → Nat} {m : Nat} (h : ∀ j, j < m → cuts j ≤ cuts (j + 1)) : ∀ {i j : Nat}, i ≤ j → j ≤ m → cuts i ≤ cuts j := by
  intro i j
  induction j with
  | zero => intro h1 _; obtain rfl : i = 0 := by omega
            exact Nat.le_refl _
  | succ j ih =>
    intro h1 h2
    rcases Nat.lt_or_ge i (j + 1) with h3 | h3
    · exact Nat.le_trans (ih (by omega) (by omega)) (h j (by omega))
    · obtain rfl : i = j + 1 := by omega
      exact Nat.le_refl _
theorem cuts_find {cuts : Nat → Nat} {m : Nat} (h0 : cuts 0 = 0) : ∀ {x : Nat}, x < cuts m → ∃ j, j < m ∧ cuts j ≤ x ∧ x < cuts (j + 1) := by
  intro x
  induction m with
  | zero => intro h; omega
  | succ m ih =>
    intro h
    by_cases h2 : x < cuts m
    · obtain ⟨j, h3, h4⟩ := ih h2
      exact ⟨j, by omega, h4⟩
    · exact ⟨m, by omega, by omega, h⟩
/-- A part of a list. -/
def segL (xs : List Int) (cuts : Nat → Nat) (j : Nat) : List Int := (xs.drop (cuts j)).take (cuts (j + 1) - cuts j)
theorem segL_length {xs : List Int} {cuts : Nat → Nat} {j : Nat} (h2 : cuts (j + 1) ≤ xs.length) : (segL xs cuts j).length = cuts (j + 1) - cuts j := by simp [segL]; omega
theorem segL_get {xs : List Int} {cuts : Nat → Nat} {j i : Nat} (h : i < (segL xs cuts j).length) : ∃ h' : cuts j + i < xs.length, (segL xs cuts j)[i] = xs[cuts j + i] := by
  have h' : cuts j + i < xs.length := by simp [segL] at h; omega
  exact ⟨h', by simp [segL]⟩
theorem segL_mem {xs : List Int} {cuts : Nat → Nat} {j : Nat} {x : Int} (h : x ∈ segL xs cuts j) : x ∈ xs := List.mem_of_mem_drop (List.mem_of_mem_take h)
end Go.Proofs.Ytnabgoljnfaebaa
