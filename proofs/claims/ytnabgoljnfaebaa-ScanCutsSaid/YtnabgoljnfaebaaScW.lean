/- The walk of scan.Scan$1 in company. No conditions but those named. -/
import Derived.Test.YtnabgoljnfaebaaOps
import Derived.Test.YtnabgoljnfaebaaOkB
import Derived.Test.YtnabgoljnfaebaaScF
import Derived.Test.YtnabgoljnfaebaaProg
import Derived.KernelRfl
namespace Go.Proofs.Ytnabgoljnfaebaa
open Go.Conc Go.ConcN Go.RowKit

def regOf (id : Nat) : Code → Option (Array Oper)
  | .region i ops _ => if i = id then some ops else none
  | .seq a b => (regOf id a).orElse fun _ => regOf id b
  | .cond _ a b => (regOf id a).orElse fun _ => regOf id b
  | .block _ a | .loop a | .scope a => regOf id a
  | _ => none
def opsOf (f : Func) (id : Nat) : Array Oper := (f.body.bind (regOf id)).getD #[]
/-- The functions that lone walks may run. -/
def scanL : List FuncId := [6, 8, 9, 10, 11, 12, 13, 14, 16, 17,
  18, 19, 20, 21, 22, 23, 24, 25, 30, 31]
set_option maxRecDepth 100000 in
theorem scan_ok : OkFns (InL scanL) Try.prog := okFnB_ok (by kernel_rfl)
def badTy : TypeId := 1000000
theorem bad_ty : BadT Try.prog badTy := ⟨fun c o n => by rfl, by rfl⟩
theorem mixed_orders : Try.prog.follows .mixedOrders = true := by kernel_rfl
theorem under_int : Try.prog.underlying 3 = some (.int .i64) := by kernel_rfl
theorem under_ints : Try.prog.underlying 22 = some (.slice 2) := by kernel_rfl
theorem body_opF {op : Int} : ∃ g, Try.prog.funcs[opF op]? = some g ∧ (g.name == "runtime.NumGoroutine") = false ∧ g.body.isNone = false := by
  unfold opF
  split
  · exact ⟨_, Try.func22, by kernel_rfl, by kernel_rfl⟩
  · split
    · exact ⟨_, Try.func23, by kernel_rfl, by kernel_rfl⟩
    · split
      · exact ⟨_, Try.func24, by kernel_rfl, by kernel_rfl⟩
      · exact ⟨_, Try.func25, by kernel_rfl, by kernel_rfl⟩
theorem inL_opF (op : Int) : InL scanL (opF op) := by
  unfold opF InL
  split
  · decide
  · split
    · decide
    · split
      · decide
      · decide
end Go.Proofs.Ytnabgoljnfaebaa
