/- phase.Run in company, told of the lone world. No conditions but those named. -/
import Derived.Test.YticdjkkcfdbdcaaPhU
import Derived.Test.YticdjkkcfdbdcaaPhY
import Derived.Test.YticdjkkcfdbdcaaPhN
import Derived.Conc.SmallLaws
namespace Go.Proofs.Yticdjkkcfdbdcaa
open Go.Conc Go.ConcN Go.RowKit Go.ChangeShapes Go.WideShapes Go.ChangeAt
theorem run_mv (e : Operand → Value) (o : Oper) {x : Operand} (hop : o.op = .move x) (w : World) : (execOp e o).runT Try.prog w #[] = (.ok (.value (e x)) w, #[]) := by simp [go_sem, hop, execOp]
theorem pack_three {fn : Func} {i j k : Tmp} (h : fn.results = #[.tmp i, .tmp j, .tmp k]) (T : Array Value) : pack (resVals fn T) = .tuple #[T.getD i undef, T.getD j undef, T.getD k undef] := by
  simp [resVals, h, pack]
theorem act_lit (N : Nat) {a : Act} (h : a.tmps.size = N) : ∃ f : Nat → Value, a.tmps = ((List.range N).map f).toArray ∧ ∀ i, f i = a.eval (.tmp i) := by
  refine ⟨fun i => a.eval (.tmp i), ?_, fun _ => rfl⟩
  apply Array.ext
  · simp [h]
  · intro i h1 h2
    simp only [List.getElem_toArray, List.getElem_map, List.getElem_range]
    exact (eval_of (Array.getElem?_eq_getElem h1)).symm
end Go.Proofs.Yticdjkkcfdbdcaa
