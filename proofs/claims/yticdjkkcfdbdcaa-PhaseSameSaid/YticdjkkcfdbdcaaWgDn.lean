/- The script of sync.WaitGroup's Done at the end of this closure, reckoned by the kernel from this program's forms. No conditions. -/
import Derived.Test.YticdjkkcfdbdcaaWgG
import Derived.Test.YticdjkkcfdbdcaaExt
namespace Go.Proofs.Yticdjkkcfdbdcaa
open Go.Conc Go.ConcN
set_option maxRecDepth 100000 in
theorem done_phase (Wg : Nat) (T : Array Value) (td : List Item) : ∃ g0, QR Try.prog 114 Wg false (dnIn Try.prog 49 50 Wg T td) g0 ∧ DoneS Try.prog 114 Wg g0 :=
  done_of wgExt_ok (by kernel_rfl) (by kernel_rfl) (by kernel_rfl) (by kernel_rfl) (by kernel_rfl) (by kernel_rfl) (by kernel_rfl) (by kernel_rfl) (by kernel_rfl) (by kernel_rfl) (by kernel_rfl) (by kernel_rfl) (by kernel_rfl) (by kernel_rfl)
end Go.Proofs.Yticdjkkcfdbdcaa
