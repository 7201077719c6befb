/- The contract of the reference's Worked: each job's number. No conditions but that what is read is there. -/
import Derived.Test.YticdjkkcfdbdcaaGrRf
import Derived.BigQuiet
import Derived.BigRegion
import Derived.Deep.QuietTactic
import Derived.StillTailTactics
namespace Go.Proofs.Yticdjkkcfdbdcaa
open Go.ChangeShapes Go.WideShapes Go.ChangeAt Go.RowKit
section
variable {w0 w w' : World} {g : Nat} {outs : List Int} {bs : List Bool}
theorem Blk.heap {g : Nat} {t : TypeId} {vs : List Value} (h : Blk w g t vs) (e : w'.heap = w.heap) : Blk w' g t vs := by unfold Blk at h ⊢; rw [e]; exact h
end
noncomputable def foldJ (J : List JobR) (i m : Nat) : Int := ((aft J i).take m).foldl (fun s a => step31 s (valJ J a.toNat)) (numJ J i)
end Go.Proofs.Yticdjkkcfdbdcaa
