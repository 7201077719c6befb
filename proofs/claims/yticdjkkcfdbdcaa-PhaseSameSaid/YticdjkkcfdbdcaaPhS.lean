/- The contract of Same over int64: two lists that are one. No conditions but that what is read is there. -/
import Derived.Test.YticdjkkcfdbdcaaPhD
namespace Go.Proofs.Yticdjkkcfdbdcaa
open Go.ChangeShapes Go.WideShapes Go.ChangeAt Go.RowKit
theorem below_drewN {B : Nat} {w w' : World} (h : Below B w w') (m : Nat) : Below B w (w'.drewN m) := ⟨h.1, h.2, h.3, h.4, h.5⟩
set_option maxRecDepth 100000 in
set_option maxHeartbeats 1000000 in
theorem same_s (w : World) (B : Nat) (A A' : Option Addr) (c c' : Nat) (l : List Int) (hA : Rd w B A (ints l)) (hA' : Rd w B A' (ints l)) (hB : B ≤ w.heap.size) (hl : l.length ≤ 1048576) :
    Calls Try.prog 17 #[.slice A l.length c, .slice A' l.length c'] w fun e w' => e = .returned (.bool true) ∧ Below w.heap.size w w' := by
  have HA := Lib.hid (And.intro hA hA'); clear hA hA'
  go_enter Try.func17, Try.ntmps17
  go_wp2
  go_loopg [13] l.length (fun gk i wr => ∃ k : Nat, gk + k = l.length ∧ i = .int .i64 k ∧ Below w.heap.size w wr)
  case atStart => exact ⟨0, by omega, rfl, Below.refl _ _⟩
  case round =>
    obtain ⟨k, hgk, rfl, hb⟩ := hrel
    by_cases hk : k < l.length
    · obtain ⟨g, o, rfl, hg, c0⟩ := (HA.out.1.keep (w' := wr) fun p hp => hb.cell (by omega)).atMap hk
      obtain ⟨g', o', rfl, hg', d0⟩ := (HA.out.2.keep (w' := wr) fun p hp => hb.cell (by omega)).atMap hk
      have Hb := Lib.hid hb
      clear hb
      generalize l[k] = x at c0 d0
      go_wp2
      go_quiet (fail)
      go_wp2
      go_roundg (gk - 1)
      case measure => omega
      case rel => exact ⟨k + 1, by omega, by go_num, below_drewN Hb.out _⟩
    · have Hb := Lib.hid hb
      clear hb
      go_wp2
      go_ret
      exact ⟨rfl, Hb.out⟩
end Go.Proofs.Yticdjkkcfdbdcaa
