/- Graph's functions are fit for carrying over. No conditions. -/
import Derived.Test.YticdjkkcfdbdcaaDrawE
import Derived.Test.YticdjkkcfdbdcaaProg
import Derived.KernelRfl
namespace Go.Proofs.Yticdjkkcfdbdcaa
open Go.Conc Go.ConcN
def grL : List FuncId := [22, 55, 61, 17, 21, 59, 60, 23, 54, 46]
/-- Functions whose values lie about, but that no lone walk calls. -/
def grV : List FuncId := [57]
set_option maxRecDepth 100000 in
theorem gr_ok : OkFns (InV grL grV) Try.prog := okFnB_ok (by kernel_rfl)
def badTy : TypeId := 1000000
set_option maxRecDepth 100000 in
theorem bad_ty : BadT Try.prog badTy := ⟨fun c o n => by rfl, by rfl⟩
end Go.Proofs.Yticdjkkcfdbdcaa
