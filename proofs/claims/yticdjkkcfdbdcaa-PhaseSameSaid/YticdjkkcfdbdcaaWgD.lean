/- The scripts of sync.WaitGroup's Add and Wait, reckoned by the kernel from this program's forms. No conditions. -/
import Derived.Test.YticdjkkcfdbdcaaWgG
import Derived.Test.YticdjkkcfdbdcaaExt
namespace Go.Proofs.Yticdjkkcfdbdcaa
open Go.Conc Go.ConcN
set_option maxRecDepth 100000 in
theorem add_script (Wg : Nat) (c : Frame) (cs : List Frame) : ∃ g0, QR Try.prog 114 Wg true (addIn Try.prog 48 Wg c cs) g0 ∧ AddS Try.prog 114 Wg g0 (G (c.finish (.tuple #[])) cs) :=
  add_of wgExt_ok (by kernel_rfl) (by kernel_rfl) (by kernel_rfl) (by kernel_rfl) (by kernel_rfl)
set_option maxRecDepth 100000 in
theorem wait_script (Wg : Nat) (c : Frame) (cs : List Frame) : ∃ g0, QR Try.prog 114 Wg true (wtIn Try.prog 52 Wg c cs) g0 ∧ WaitS Try.prog 114 Wg g0 (G (c.finish (.tuple #[])) cs) :=
  wait_of (nt := 83) wgExt_ok (by kernel_rfl) (by kernel_rfl) (by kernel_rfl) (by kernel_rfl) (by kernel_rfl) (fun x => by kernel_rfl) (fun x => by kernel_rfl) (fun x => by kernel_rfl)
end Go.Proofs.Yticdjkkcfdbdcaa
