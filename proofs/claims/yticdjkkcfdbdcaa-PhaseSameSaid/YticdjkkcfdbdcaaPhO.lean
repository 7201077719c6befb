/- Phase's functions are fit for carrying over. No conditions. -/
import Derived.Test.YticdjkkcfdbdcaaOkB
import Derived.Test.YticdjkkcfdbdcaaOps
import Derived.Test.YticdjkkcfdbdcaaProg
import Derived.KernelRfl
namespace Go.Proofs.Yticdjkkcfdbdcaa
open Go.Conc Go.ConcN
def phL : List FuncId := [16, 17, 18, 19, 51, 53, 54, 46]
/-- Functions whose values lie about, but that no lone walk calls. -/
def phV : List FuncId := [49]
set_option maxRecDepth 100000 in
theorem ph_ok : OkFns (InV phL phV) Try.prog := okFnB_ok (by kernel_rfl)
def badTy : TypeId := 1000000
set_option maxRecDepth 100000 in
theorem bad_ty : BadT Try.prog badTy := ⟨fun c o n => by rfl, by rfl⟩
end Go.Proofs.Yticdjkkcfdbdcaa
