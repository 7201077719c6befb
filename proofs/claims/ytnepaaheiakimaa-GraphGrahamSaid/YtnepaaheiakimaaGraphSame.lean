/- The contract of Same over slots: two lists that are one. No conditions but that what is read is there. -/
import Derived.Test.YtnepaaheiakimaaPlanW
namespace Go.Proofs.Ytnepaaheiakimaa
open Go.ChangeShapes Go.WideShapes Go.ChangeAt Go.RowKit

set_option maxRecDepth 100000 in
set_option maxHeartbeats 1000000 in
theorem same_slots (w : World) (A A' : Option Addr) (n : Nat) (f : Nat → Int) (hn : n ≤ 1000) (hA : 0 < n → ∃ g, A = some ⟨g, 0, none⟩ ∧ Blk w g 33 (ints (fnI (n * 2) f)))
    (hA' : 0 < n → ∃ g, A' = some ⟨g, 0, none⟩ ∧ Blk w g 33 (ints (fnI (n * 2) f))) :
    Calls Try.prog 11 #[.slice A n n, .slice A' n n] w fun e w' => e = .returned (.bool true) ∧ Below w.heap.size w w' := by
  have HA := Lib.hid (And.intro hA hA'); clear hA hA'
  go_enter Try.func11, Try.ntmps11
  go_wp2
  go_loopg [13] n (fun gk i wr => ∃ k : Nat, gk + k = n ∧ i = .int .i64 k ∧ Below w.heap.size w wr)
  case atStart => exact ⟨0, by omega, rfl, Below.refl _ _⟩
  case round =>
    obtain ⟨k, hgk, rfl, hb⟩ := hrel
    by_cases hk : k < n
    · obtain ⟨g, rfl, hg⟩ := HA.out.1 (by omega)
      obtain ⟨g', rfl, hg'⟩ := HA.out.2 (by omega)
      have hr := hg.below hb hg.lt
      have hr' := hg'.below hb hg'.lt
      have c0 : wr.cell? ⟨g, k * 2, none⟩ = some (.int .i64 (f (k * 2))) := by rw [hr.cell, cellI (by omega)]
      have c1 : wr.cell? ⟨g, k * 2 + 1, none⟩ = some (.int .i64 (f (k * 2 + 1))) := by rw [hr.cell, cellI (by omega)]
      have d0 : wr.cell? ⟨g', k * 2, none⟩ = some (.int .i64 (f (k * 2))) := by rw [hr'.cell, cellI (by omega)]
      have d1 : wr.cell? ⟨g', k * 2 + 1, none⟩ = some (.int .i64 (f (k * 2 + 1))) := by rw [hr'.cell, cellI (by omega)]
      have Hb := Lib.hid hb
      clear hb hg hg' hr hr'
      go_wp2
      go_quiet (fail)
      go_wp2
      go_roundg (gk - 1)
      case measure => omega
      case rel => exact ⟨k + 1, by omega, by go_num, below_drewN Hb.out _⟩
    · have Hb := Lib.hid hb
      clear hb
      go_wp2
      go_ret
      exact ⟨rfl, Hb.out⟩
end Go.Proofs.Ytnepaaheiakimaa
