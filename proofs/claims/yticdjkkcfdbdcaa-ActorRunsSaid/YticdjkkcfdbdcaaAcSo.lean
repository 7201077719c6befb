/- The contract of the reference's sooner. No conditions. -/
import Derived.Test.YticdjkkcfdbdcaaAcSu
import Derived.Test.YticdjkkcfdbdcaaAcF
import Derived.Test.YticdjkkcfdbdcaaAcR
namespace Go.Proofs.Yticdjkkcfdbdcaa
open Go.ChangeShapes Go.WideShapes Go.ChangeAt Go.RowKit
def cellsS (s : SentR) : List Value := [.int .i64 s.x.time, .int .i64 s.x.to, .int .i64 s.x.kind, .int .i64 s.x.n, .int .i64 s.when_, .int .i64 s.by_, .int .i64 s.no]
def aggS (s : SentR) : Value := .agg (cellsS s).toArray
theorem below_two (w : World) (o o' : Obj) : RowKit.Below w.heap.size w ((w.alloc o).alloc o') := ((RowKit.Below.refl _ _).alloc (Nat.le_refl _) o).alloc (by simp) o'
set_option maxRecDepth 100000 in
set_option maxHeartbeats 4000000 in
theorem sooner_b (w : World) (a b : SentR) : Calls Try.prog 65 #[aggS a, aggS b] w fun e w' => e = .returned (.bool (decide (soonerR a b))) ∧ RowKit.Below w.heap.size w w' := by
  obtain ⟨⟨a0, a1, a2, a3⟩, a4, a5, a6⟩ := a
  obtain ⟨⟨b0, b1, b2, b3⟩, b4, b5, b6⟩ := b
  obtain ⟨r, hr⟩ : ∃ r, decide (soonerR ⟨⟨a0, a1, a2, a3⟩, a4, a5, a6⟩ ⟨⟨b0, b1, b2, b3⟩, b4, b5, b6⟩) = r := ⟨_, rfl⟩
  have hs : soonerR ⟨⟨a0, a1, a2, a3⟩, a4, a5, a6⟩ ⟨⟨b0, b1, b2, b3⟩, b4, b5, b6⟩ ↔ a0 < b0 ∨ (a0 = b0 ∧ (a1 < b1 ∨ (a1 = b1 ∧ (a4 < b4 ∨ (a4 = b4 ∧ (a5 < b5 ∨ (a5 = b5 ∧ a6 < b6))))))) := Iff.rfl
  rw [hr]
  have hr2 : r = true ↔ a0 < b0 ∨ (a0 = b0 ∧ (a1 < b1 ∨ (a1 = b1 ∧ (a4 < b4 ∨ (a4 = b4 ∧ (a5 < b5 ∨ (a5 = b5 ∧ a6 < b6))))))) := by rw [← hr, decide_eq_true_iff, hs]
  have HR := Lib.hid hr2; clear hr hs hr2
  have Hb := Lib.hid (below_two w)
  unfold aggS cellsS
  go_enter Try.func65, Try.ntmps65
  by_cases h0 : a0 = b0
  · subst h0
    by_cases h1 : a1 = b1
    · subst h1
      by_cases h4 : a4 = b4
      · subst h4
        by_cases h5 : a5 = b5
        · subst h5
          go_wp2
          go_ret
          exact ⟨retBool (by rw [Bool.eq_iff_iff, HR.out, decide_eq_true_iff]; first | omega | (simp only [true_and, Int.lt_irrefl, false_or]; done) | (simp only [true_and, Int.lt_irrefl, false_or]; omega)), Hb.out _ _⟩
        · go_wp2
          go_ret
          exact ⟨retBool (by rw [Bool.eq_iff_iff, HR.out, decide_eq_true_iff]; first | omega | (simp only [true_and, Int.lt_irrefl, false_or]; done) | (simp only [true_and, Int.lt_irrefl, false_or]; omega)), Hb.out _ _⟩
      · go_wp2
        go_ret
        exact ⟨retBool (by rw [Bool.eq_iff_iff, HR.out, decide_eq_true_iff]; first | omega | (simp only [true_and, Int.lt_irrefl, false_or]; done) | (simp only [true_and, Int.lt_irrefl, false_or]; omega)), Hb.out _ _⟩
    · go_wp2
      go_ret
      exact ⟨retBool (by rw [Bool.eq_iff_iff, HR.out, decide_eq_true_iff]; first | omega | (simp only [true_and, Int.lt_irrefl, false_or]; done) | (simp only [true_and, Int.lt_irrefl, false_or]; omega)), Hb.out _ _⟩
  · go_wp2
    go_ret
    exact ⟨retBool (by rw [Bool.eq_iff_iff, HR.out, decide_eq_true_iff]; first | omega | (simp only [true_and, Int.lt_irrefl, false_or]; done) | (simp only [true_and, Int.lt_irrefl, false_or]; omega)), Hb.out _ _⟩
end Go.Proofs.Yticdjkkcfdbdcaa
