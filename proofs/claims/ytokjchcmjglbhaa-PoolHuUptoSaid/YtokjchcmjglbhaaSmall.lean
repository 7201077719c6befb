/- The contracts of stepref.Rest, stepref.Workers. No conditions but that the modulus is positive. -/
import Derived.Test.YtokjchcmjglbhaaOwn3
import Derived.Test.YtokjchcmjglbhaaChecked
namespace Go.Proofs.Ytokjchcmjglbhaa
open Go.ChangeShapes Go.WideShapes Go.ChangeAt Go.RowKit

set_option maxRecDepth 100000 in
theorem workers_any (w : World) (n : Int) : Calls Try.prog 6 #[.int .i64 n] w fun e w' => e = .returned (.bool (decide (1 ≤ n ∧ n ≤ 16))) ∧ w = w' := by
  by_cases h1 : n < 1
  · rw [decide_eq_false (by omega)]
    go_enter Try.func6, Try.ntmps6
    go_wp2
    go_ret
    exact ⟨by first | rfl | exact retBool (show decide (n ≤ 16) = _ by simp; omega), rfl⟩
  by_cases h2 : 16 < n
  · rw [decide_eq_false (by omega)]
    go_enter Try.func6, Try.ntmps6
    go_wp2
    go_ret
    exact ⟨by first | rfl | exact retBool (show decide (n ≤ 16) = _ by simp; omega), rfl⟩
  · rw [decide_eq_true (by omega)]
    go_enter Try.func6, Try.ntmps6
    go_wp2
    go_ret
    exact ⟨by first | rfl | exact retBool (show decide (n ≤ 16) = _ by simp; omega), rfl⟩
set_option maxRecDepth 100000 in
theorem rest_any (w : World) (n m : Int) (hm : 0 < m) (hm' : m ≤ 1048576) : Calls Try.prog 8 #[.int .i64 n, .int .i64 m] w fun e w' => (∃ r : Int, 0 ≤ r ∧ r < m ∧ e = .returned (.int .i64 r)) ∧ w = w' := by
  have h1 : 0 ≤ n.tmod m ∨ n.tmod m < 0 := by omega
  have h2 : n.tmod m < m := Int.tmod_lt_of_pos n hm
  have h3 : -m < n.tmod m := Int.lt_tmod_of_pos n hm
  have hz : ¬ m = 0 := by omega
  generalize hr : n.tmod m = r at *
  go_enter Try.func8, Try.ntmps8
  go_wp2
  all_goals go_ret
  · exact ⟨⟨r + m, by omega, by omega, rfl⟩, rfl⟩
  · exact ⟨⟨r, by omega, by omega, rfl⟩, rfl⟩
end Go.Proofs.Ytokjchcmjglbhaa
