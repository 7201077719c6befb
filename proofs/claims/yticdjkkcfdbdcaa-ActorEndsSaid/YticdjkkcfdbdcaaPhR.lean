/- The region of (*process).phase that sends a letter, alone. No conditions but that what is read is there. -/
import Derived.Test.YticdjkkcfdbdcaaAcA
import Derived.Test.YticdjkkcfdbdcaaScO
import Derived.Test.YticdjkkcfdbdcaaDrawE
import Derived.Test.YticdjkkcfdbdcaaProg
import Derived.Test.YticdjkkcfdbdcaaRows
import Derived.KernelRfl
namespace Go.Proofs.Yticdjkkcfdbdcaa
open Go.Conc Go.ConcN Go.RowKit
theorem mixed_orders : Try.prog.follows .mixedOrders = true := by kernel_rfl
theorem w64_wrap (n : Int) : IntKind.i64.wrap n = w64 n := by unfold w64 wrap64; exact IntKind.wrap_i64 n
section
variable {e : Operand → Value} {o : Oper} {w : World}
theorem q_move {x : Operand} (hop : o.op = .move x) : (execOp e o).run Try.prog w = .ok (.value (e x)) w := by simp [go_sem, hop, execOp]
theorem q_nil {x : Operand} {p : Addr} (hop : o.op = .nilCheck x) (hx : e x = .pointer (some p)) : (execOp e o).run Try.prog w = .ok (.value (.pointer (some p))) w := by simp [go_sem, hop, hx, execOp]
theorem q_field {s n : Nat} {x : Operand} {p q : Addr} (hop : o.op = .fieldAddr s x n) (hx : e x = .pointer (some p)) (hf : ∀ w, (Instr.fieldAt s (.pointer (some p)) n).run Try.prog w = .ok (.pointer (some q)) w) : (execOp e o).run Try.prog w = .ok (.value (.pointer (some q))) w := by
  have := hf w
  simp only [execOp, hop, hx]
  simp [this]
theorem q_load {t : TypeId} {x : Operand} {p : Addr} {v : Value} (hop : o.op = .load t x) (hx : e x = .pointer (some p)) (hag : ∀ w, (isAgg t).run Try.prog w = .ok false w) (hc : w.cell? p = some v) : (execOp e o).run Try.prog w = .ok (.value v) w := by
  simp [go_sem, hop, hx, hag, hc, execOp, Instr.loadAt]
end
end Go.Proofs.Yticdjkkcfdbdcaa
