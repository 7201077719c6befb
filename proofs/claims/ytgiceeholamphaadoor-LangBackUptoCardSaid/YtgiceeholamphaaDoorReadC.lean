/- The deferred closure of lang.Read: its two contracts. No conditions but that the two results are there. -/
import Derived.Test.YtgiceeholamphaaDoorRdr
import Derived.Defers
import Derived.Recover
namespace Go.Proofs.YtgiceeholamphaaDoor
open Go.ChangeShapes Go.WideShapes Go.ChangeAt Go.RowKit Go.Maps

set_option maxHeartbeats 1000000 in
set_option maxRecDepth 100000 in
theorem catch_idle (lb fb : Nat) (w : World) :
    CallsD Tryd.prog 24 #[.pointer (some ⟨lb, 0, none⟩), .pointer (some ⟨fb, 0, none⟩)] .returning w fun e u' w' => e = .returned (.tuple #[]) ∧ u' = .returning ∧ w' = w := by
  refine callsD_of_wpS Tryd.func24 rfl fun c₀ cs hu => ?_
  show Code.wpS _ _ _ { tmps := #[.pointer (some ⟨lb, 0, none⟩), .pointer (some ⟨fb, 0, none⟩), undef, undef, undef, undef, undef, undef, undef, undef, undef, undef, undef, undef, undef, undef, undef, undef], defers := [] } _ _
  apply wpS_seq
  apply wpS_region
  simp [wpOpsS, go_sem, recoverD, hu, Tryd.ntmps24, Exit.thenS]
  refine wpS_of_wp ?_
  go_wp2_with fail
  refine ⟨rfl, .returning, ?_, .tuple #[], ?_, rfl, rfl, rfl⟩
  · cases c₀; simp_all
  · simp [results, Tryd.results24]
set_option maxHeartbeats 1000000 in
set_option maxRecDepth 100000 in
theorem catch_stop (lb fb : Nat) (n : Int) (w : World) (v0 f0 f1 : Value) (older : List PanicEntry) (hl : Blk w lb 22 [v0]) (hf : Blk w fb 30 [f0, f1]) (hne : lb ≠ fb) :
    CallsD Tryd.prog 24 #[.pointer (some ⟨lb, 0, none⟩), .pointer (some ⟨fb, 0, none⟩)] (.panicking ({ v := .iface 55 (.int .i64 n), recovered := false } :: older)) w fun e u' w' =>
      e = .returned (.tuple #[]) ∧ u' = .panicking ({ v := .iface 55 (.int .i64 n), recovered := true } :: older) ∧ w' = ((w.setCell ⟨lb, 0, none⟩ (.slice none 0 0)).setCell ⟨fb, 0, none⟩ (.int .i64 6)).setCell ⟨fb, 1, none⟩ (.int .i64 n) := by
  have hta : ∀ w : World, (Instr.typeAssert (.iface 55 (.int .i64 n)) 20 55 true).run Tryd.prog w = .ok (.tuple #[.int .i64 n, .bool true]) w := fun w => by simp [Instr.typeAssert, run_underlying Tryd.underlying55]
  have hne' : fb ≠ lb := fun e => hne e.symm
  have c0 := hl.cell 0
  have c1 := hf.cell 0
  have c2 := hf.cell 1
  have q0 := hl.frozen 0
  have q1 := hf.frozen 0
  have q2 := hf.frozen 1
  simp only [List.getElem?_cons_zero, List.getElem?_cons_succ] at c0 c1 c2
  refine callsD_of_wpS Tryd.func24 rfl fun c₀ cs hu => ?_
  show Code.wpS _ _ _ { tmps := #[.pointer (some ⟨lb, 0, none⟩), .pointer (some ⟨fb, 0, none⟩), undef, undef, undef, undef, undef, undef, undef, undef, undef, undef, undef, undef, undef, undef, undef, undef], defers := [] } _ _
  apply wpS_seq
  apply wpS_region
  simp [wpOpsS, go_sem, recoverD, hu, Tryd.ntmps24, Exit.thenS]
  refine wpS_of_wp ?_
  go_wp2_with fail
  refine ⟨rfl, .panicking ({ v := .iface 55 (.int .i64 n), recovered := true } :: older), ?_, .tuple #[], ?_, rfl, rfl, rfl⟩
  · cases c₀; simp_all
  · simp [results, Tryd.results24]
end Go.Proofs.YtgiceeholamphaaDoor
