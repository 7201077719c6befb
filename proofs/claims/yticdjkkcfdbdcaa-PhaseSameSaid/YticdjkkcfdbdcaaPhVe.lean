/- The reference's Phases where something is wrong. No conditions but that what is read is there. -/
import Derived.Test.YticdjkkcfdbdcaaPhVd
import Derived.Test.YticdjkkcfdbdcaaPhF
namespace Go.Proofs.Yticdjkkcfdbdcaa
open Go.ChangeShapes Go.WideShapes Go.ChangeAt Go.RowKit
set_option maxRecDepth 100000 in
theorem phases_bad (w : World) (B : Nat) (A : Option Addr) (c n : Nat) (wk : Int) (D : List DosR) (hR : RdAll w B A D) (hB : B ≤ w.heap.size) (hn : D.length = n) (hc : runCode D wk ≠ 0) :
    Calls Try.prog 16 #[.slice A n c, .int .i64 wk] w (fun e w' => e = .returned (.tuple #[.slice none 0 0, .int .i64 0, .int .i64 (runCode D wk)]) ∧ RowKit.Below w.heap.size w w') := by
  have hd : ∀ W, RowKit.Below w.heap.size w W → Calls Try.prog 19 #[.slice A n c] W fun e w' => e = .returned (.int .i64 (dosCode D)) ∧ RowKit.Below W.heap.size W w' := fun W hb => dos_any W B A c n D (hR.below (hb.mono hB)) (Nat.le_trans hB hb.size) hn
  by_cases h0 : dosCode D = 0
  · have hrc : runCode D wk = if wkOk wk then 0 else 1 := by unfold runCode; rw [if_neg (fun h => h h0)]
    have hwk : ¬ wkOk wk := fun h => hc (by rw [hrc, if_pos h])
    rw [hrc, if_neg hwk]
    have Hwk := Lib.hid (decide_eq_false hwk)
    rw [h0] at hd
    have HD := Lib.hid hd; clear hd h0 hrc hwk hc hR hB hn
    go_enter Try.func16, Try.ntmps16
    go_wp2_with (first | (go_at_call 19; refine (HD.out _ (RowKit.Below.refl _ _)).mono ?_; rintro e w2 ⟨rfl, hb2⟩; have hb3 := Lib.hid hb2; clear hb2) | (go_at_call 46; refine (workers_b _ false _ Hwk.out).mono ?_; rintro e w2 ⟨rfl, rfl⟩))
    go_ret3
    exact ⟨rfl, hb3.out⟩
  · have hrc : runCode D wk = dosCode D := by unfold runCode; rw [if_pos h0]
    rw [hrc]
    generalize dosCode D = dc at *
    have HD := Lib.hid hd; clear hd hrc hc hR hB hn
    go_enter Try.func16, Try.ntmps16
    go_wp2_with (first | (go_at_call 19; refine (HD.out _ (RowKit.Below.refl _ _)).mono ?_; rintro e w2 ⟨rfl, hb2⟩; have hb3 := Lib.hid hb2; clear hb2))
    go_ret3
    exact ⟨rfl, hb3.out⟩
end Go.Proofs.Yticdjkkcfdbdcaa
