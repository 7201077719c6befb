/- The reference's Played: where something is wrong; what it comes to. No conditions but that what is read is there. -/
import Derived.Test.YticdjkkcfdbdcaaAcPb
import Derived.OwnWalk
import Derived.Deep.LoopGhost
import Derived.Carry
namespace Go.Proofs.Yticdjkkcfdbdcaa
open Go.ChangeShapes Go.WideShapes Go.ChangeAt Go.RowKit Go.Conc Go.ConcN
/-- What a run says ahead of all work. -/
noncomputable def goCode (R : List RulR) (ls : List LetR) (E wk : Int) : Int := if actCode R ls ≠ 0 then actCode R ls else if (0 ≤ E ∧ E ≤ 1000) ∧ wkOk wk then 0 else 1
/-- What is to come when nothing has happened yet. -/
def comeL (ls : List LetR) : Come := ls.foldl Come.add fun _ _ => []
end Go.Proofs.Yticdjkkcfdbdcaa
