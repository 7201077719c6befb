/- Contracts of scan's small functions and the reference's: rest, steps, the operators, ask, Two. No conditions but those named. -/
import Derived.Test.YtnabgoljnfaebaaBase
import Derived.Test.YtnabgoljnfaebaaProg
import Derived.Test.YtnabgoljnfaebaaScA
namespace Go.Proofs.Ytnabgoljnfaebaa
open Go.ChangeShapes Go.WideShapes Go.ChangeAt Go.RowKit
theorem w64 {n : Int} (h : I64 n) : wrap64 n = n := by unfold I64 at h; unfold wrap64; omega
theorem tmod_is (a : Int) : a.tmod 2147483647 = if 0 ≤ a then a % 2147483647 else -((-a) % 2147483647) := by
  split
  · exact Int.tmod_eq_emod_of_nonneg (by assumption)
  · have h := Int.neg_tmod (a := -a) (b := 2147483647)
    rw [Int.neg_neg] at h
    rw [h, Int.tmod_eq_emod_of_nonneg (by omega)]
theorem rest_s (a : Int) (w : World) (ha : I64 a) : Calls Try.prog 31 #[.int .i64 a, .int .i64 2147483647] w fun e w' => e = .returned (.int .i64 (a % 2147483647)) ∧ w = w' := by
  obtain ⟨h1, h2⟩ := ha
  go_enter Try.func31, Try.ntmps31
  go_wp2
  all_goals go_ret
  all_goals
    rename_i hs
    have ht := tmod_is a
    split at ht <;> rw [ht] at hs ⊢
  · exact ⟨retInt (by rw [w64 (by unfold I64; omega)]; omega), rfl⟩
  · exact ⟨retInt (by rw [w64 (by unfold I64; omega)]; omega), rfl⟩
  · exact ⟨retInt (by omega), rfl⟩
  · exact ⟨retInt (by omega), rfl⟩
theorem op1_s (op a b : Int) (w : World) (ho : op = 1) (ha : I64 a) (hb : I64 b) : Calls Try.prog 22 #[.int .i64 a, .int .i64 b] w fun e w' => e = .returned (.int .i64 (two op a b)) ∧ w = w' := by
  subst ho
  go_enter Try.func22, Try.ntmps22
  go_wp2
  all_goals go_ret
  exact ⟨retInt (by simp [two]), rfl⟩
theorem op2_s (op a b : Int) (w : World) (ho : op = 2) (ha : I64 a) (hb : I64 b) : Calls Try.prog 23 #[.int .i64 a, .int .i64 b] w fun e w' => e = .returned (.int .i64 (two op a b)) ∧ w = w' := by
  subst ho
  go_enter Try.func23, Try.ntmps23
  go_wp2
  all_goals go_ret
  · exact ⟨retInt (by simp [two]; omega), rfl⟩
  · exact ⟨retInt (by simp [two]; omega), rfl⟩
theorem op3_s (op a b : Int) (w : World) (ho : op = 3) (ha : I64 a) (hb : I64 b) : Calls Try.prog 24 #[.int .i64 a, .int .i64 b] w fun e w' => e = .returned (.int .i64 (two op a b)) ∧ w = w' := by
  subst ho
  by_cases hz : b = 0
  · subst hz
    go_enter Try.func24, Try.ntmps24
    go_wp2
    all_goals go_ret
    exact ⟨retInt (by simp [two]), rfl⟩
  · have hz' : (b == 0) = false := by simpa using hz
    go_enter Try.func24, Try.ntmps24
    go_wp2
    all_goals go_ret
    all_goals exact ⟨retInt (by simp [two, hz]), rfl⟩
theorem op4_s (op a b : Int) (w : World) (ho : op = 4) (ha : I64 a) (hb : I64 b) : Calls Try.prog 25 #[.int .i64 a, .int .i64 b] w fun e w' => e = .returned (.int .i64 (two op a b)) ∧ w = w' := by
  subst ho
  have i1 : I64 (a / 4294967296) := by unfold I64 at *; omega
  have i2 : I64 (b / 4294967296) := by unfold I64 at *; omega
  have i3 : I64 (bits BinOp.and IntKind.i64 a 4294967295) := by rw [bits_low a ha]; unfold I64; omega
  have i4 : I64 (bits BinOp.and IntKind.i64 b 4294967295) := by rw [bits_low b hb]; unfold I64; omega
  go_enter Try.func25, Try.ntmps25
  go_wp2_with (go_at_call 31; refine (rest_s _ _ (by first | exact i1 | exact i2 | exact i3 | exact i4)).mono ?_; rintro e w' ⟨rfl, rfl⟩)
  all_goals go_ret
  refine ⟨retInt ?_, rfl⟩
  rw [bits_low a ha, bits_low b hb]
  have m1 := mul_bd (hiS_bd a) (hiS_bd b)
  have m2 := mul_bd (loS_bd a) (hiS_bd b)
  have l2 := loS_bd b
  show bits .or .i64 (wrap64 ((wrap64 (hiS a * hiS b)).tmod 2147483647 * 4294967296)) ((wrap64 ((wrap64 (loS a * hiS b)).tmod 2147483647 + loS b)).tmod 2147483647) = _
  have t1 : (hiS a * hiS b).tmod 2147483647 = hiS a * hiS b % 2147483647 := Int.tmod_eq_emod_of_nonneg m1.1
  have t2 : (loS a * hiS b).tmod 2147483647 = loS a * hiS b % 2147483647 := Int.tmod_eq_emod_of_nonneg m2.1
  rw [w64 (n := hiS a * hiS b) (by unfold I64; omega), w64 (n := loS a * hiS b) (by unfold I64; omega), t1, t2]
  have b1 : 0 ≤ hiS a * hiS b % 2147483647 ∧ hiS a * hiS b % 2147483647 < 2147483647 := by omega
  have b2 : 0 ≤ loS a * hiS b % 2147483647 ∧ loS a * hiS b % 2147483647 < 2147483647 := by omega
  rw [w64 (n := hiS a * hiS b % 2147483647 * 4294967296) (by unfold I64; omega), w64 (n := loS a * hiS b % 2147483647 + loS b) (by unfold I64; omega), Int.tmod_eq_emod_of_nonneg (by omega), bits_pack _ _ b1 ⟨Int.emod_nonneg _ (by decide), Int.emod_lt_of_pos _ (by decide)⟩]
  simp [two, stepsI]
/-- The function that the operator is. -/
def opF (op : Int) : FuncId := if op = 1 then 22 else if op = 2 then 23 else if op = 3 then 24 else 25
theorem opF_s (op a b : Int) (w : World) (ho : 1 ≤ op ∧ op ≤ 4) (ha : I64 a) (hb : I64 b) : Calls Try.prog (opF op) #[.int .i64 a, .int .i64 b] w fun e w' => e = .returned (.int .i64 (two op a b)) ∧ w = w' := by
  unfold opF
  split
  · exact op1_s op a b w (by assumption) ha hb
  · split
    · exact op2_s op a b w (by assumption) ha hb
    · split
      · exact op3_s op a b w (by assumption) ha hb
      · exact op4_s op a b w (by omega) ha hb
theorem operator_s (op : Int) (w : World) (ho : 1 ≤ op ∧ op ≤ 4) : Calls Try.prog 11 #[.int .i64 op] w fun e w' => e = .returned (.func (.func (opF op)) #[] #[]) ∧ w = w' := by
  obtain rfl | rfl | rfl | rfl : op = 1 ∨ op = 2 ∨ op = 3 ∨ op = 4 := by omega
  all_goals
    go_enter Try.func11, Try.ntmps11
    go_wp2
    go_ret
    exact ⟨rfl, rfl⟩
theorem operator_no (op : Int) (w : World) (ho : ¬ (1 ≤ op ∧ op ≤ 4)) : Calls Try.prog 11 #[.int .i64 op] w fun e w' => e = .returned .nilFunc ∧ w = w' := by
  have h1 : (op == 1) = false := by simp; omega
  have h2 : (op == 2) = false := by simp; omega
  have h3 : (op == 3) = false := by simp; omega
  have h4 : (op == 4) = false := by simp; omega
  go_enter Try.func11, Try.ntmps11
  go_wp2
  all_goals (first | (exfalso; omega) | (go_ret; exact ⟨rfl, rfl⟩))
/-- What of nothing is. -/
def noneI (op : Int) : Int := if op = 2 then -9223372036854775808 else if op = 4 then 4294967296 else 0
theorem nothing_s (op : Int) (w : World) : Calls Try.prog 21 #[.int .i64 op] w fun e w' => e = .returned (.int .i64 (noneI op)) ∧ w = w' := by
  by_cases h1 : op = 2
  · subst h1
    go_enter Try.func21, Try.ntmps21
    go_wp2
    go_ret
    exact ⟨rfl, rfl⟩
  · by_cases h2 : op = 4
    · subst h2
      go_enter Try.func21, Try.ntmps21
      go_wp2
      go_ret
      exact ⟨rfl, rfl⟩
    · have h1' : (op == 2) = false := by simpa using h1
      have h2' : (op == 4) = false := by simpa using h2
      go_enter Try.func21, Try.ntmps21
      go_wp2
      all_goals (first | (exfalso; omega) | (go_ret; exact ⟨retInt (by simp [noneI, h1, h2]), rfl⟩))
theorem nothingR_s (op : Int) (w : World) : Calls Try.prog 9 #[.int .i64 op] w fun e w' => e = .returned (.int .i64 (noneI op)) ∧ w = w' := by
  by_cases h1 : op = 2
  · subst h1
    go_enter Try.func9, Try.ntmps9
    go_wp2
    go_ret
    exact ⟨rfl, rfl⟩
  · by_cases h2 : op = 4
    · subst h2
      go_enter Try.func9, Try.ntmps9
      go_wp2
      go_ret
      exact ⟨rfl, rfl⟩
    · have h1' : (op == 2) = false := by simpa using h1
      have h2' : (op == 4) = false := by simpa using h2
      go_enter Try.func9, Try.ntmps9
      go_wp2
      all_goals (first | (exfalso; omega) | (go_ret; exact ⟨retInt (by simp [noneI, h1, h2]), rfl⟩))
/-- What 'ask' answers. -/
def askI (n workers : Int) : Int := if workers < 1 ∨ 16 < workers then 1 else if 100000 < n then 2 else 0
theorem ask_s (n k : Int) (w : World) : Calls Try.prog 12 #[.int .i64 n, .int .i64 k] w fun e w' => e = .returned (.int .i64 (askI n k)) ∧ w = w' := by
  by_cases h1 : k < 1 <;> by_cases h2 : 16 < k <;> by_cases h3 : 100000 < n
  all_goals
    go_enter Try.func12, Try.ntmps12
    go_wp2
    all_goals (first | (exfalso; omega) | (go_ret; exact ⟨retInt (by simp [askI]; omega), rfl⟩) | (go_ret; exact ⟨retInt (by simp [askI, *]), rfl⟩))
end Go.Proofs.Ytnabgoljnfaebaa
