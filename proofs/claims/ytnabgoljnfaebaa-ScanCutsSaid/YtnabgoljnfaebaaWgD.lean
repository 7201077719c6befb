/- The scripts of sync.WaitGroup's Add, Done and Wait, reckoned by the kernel from this program's forms. No conditions. -/
import Derived.Test.YtnabgoljnfaebaaWgG
import Derived.Test.YtnabgoljnfaebaaExt
namespace Go.Proofs.Ytnabgoljnfaebaa
open Go.Conc Go.ConcN
set_option maxRecDepth 100000 in
theorem add_script (Wg : Nat) (c : Frame) (cs : List Frame) : ∃ g0, QR Try.prog 52 Wg true (addIn Try.prog 26 Wg c cs) g0 ∧ AddS Try.prog 52 Wg g0 (G (c.finish (.tuple #[])) cs) :=
  add_of wgExt_ok (by kernel_rfl) (by kernel_rfl) (by kernel_rfl) (by kernel_rfl) (by kernel_rfl)
set_option maxRecDepth 100000 in
theorem done_script (Wg : Nat) (T : Array Value) (td : List Item) : ∃ g0, QR Try.prog 52 Wg false (dnIn Try.prog 27 28 Wg T td) g0 ∧ DoneS Try.prog 52 Wg g0 :=
  done_of wgExt_ok (by kernel_rfl) (by kernel_rfl) (by kernel_rfl) (by kernel_rfl) (by kernel_rfl) (by kernel_rfl) (by kernel_rfl) (by kernel_rfl) (by kernel_rfl) (by kernel_rfl) (by kernel_rfl) (by kernel_rfl) (by kernel_rfl) (by kernel_rfl)
set_option maxRecDepth 100000 in
theorem wait_script (Wg : Nat) (c : Frame) (cs : List Frame) : ∃ g0, QR Try.prog 52 Wg true (wtIn Try.prog 29 Wg c cs) g0 ∧ WaitS Try.prog 52 Wg g0 (G (c.finish (.tuple #[])) cs) :=
  wait_of (nt := 83) wgExt_ok (by kernel_rfl) (by kernel_rfl) (by kernel_rfl) (by kernel_rfl) (by kernel_rfl) (fun x => by kernel_rfl) (fun x => by kernel_rfl) (fun x => by kernel_rfl)
end Go.Proofs.Ytnabgoljnfaebaa
