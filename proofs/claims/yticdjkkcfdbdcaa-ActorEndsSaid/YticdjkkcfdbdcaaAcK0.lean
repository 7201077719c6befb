/- Phase's functions are fit for carrying over. No conditions. -/
import Derived.Test.YticdjkkcfdbdcaaDrawE
import Derived.Test.YticdjkkcfdbdcaaProg
import Derived.KernelRfl
import Derived.Test.YticdjkkcfdbdcaaSpawnB
import Derived.Test.YticdjkkcfdbdcaaAcDn
import Derived.Test.YticdjkkcfdbdcaaPhR
import Derived.Test.YticdjkkcfdbdcaaScO
import Derived.Test.YticdjkkcfdbdcaaRows
import Derived.Deep.DeepCutAuto
import Derived.Deep.LoopGhost
import Derived.BigQuiet
import Derived.BigRegion
import Derived.Deep.QuietTactic
import Derived.StillTailTactics
import Derived.Deep.RegionLaw
import Derived.WalkSmall
import Derived.Test.YticdjkkcfdbdcaaImpX
namespace Go.Proofs.Yticdjkkcfdbdcaa
open Go.Conc Go.ConcN
def badTy : TypeId := 1000000
set_option maxRecDepth 100000 in
theorem bad_ty : BadT Try.prog badTy := ⟨fun c o n => by rfl, by rfl⟩
end Go.Proofs.Yticdjkkcfdbdcaa

/- A call of (*process).phase by a worker: told of a small lone world. No conditions but those named. -/
namespace Go.Proofs.Yticdjkkcfdbdcaa
open Go.Conc Go.ConcN Go.RowKit
theorem cell_inv {w : World} {b i : Nat} {v : Value} (h : w.cell? ⟨b, i, none⟩ = some v) : ∃ x e fz, w.heap[b]? = some (.cells x e fz) ∧ x[i]? = some v := by
  unfold World.cell? at h
  cases hb : w.heap[b]? with
  | none => simp [hb] at h
  | some o =>
    cases o with
    | cells x e fz => simp [hb] at h; exact ⟨x, e, fz, rfl, h⟩
    | _ => simp [hb] at h
end Go.Proofs.Yticdjkkcfdbdcaa

/- The functions of actor and its reference that serve in company. No conditions. -/
namespace Go.Proofs.Yticdjkkcfdbdcaa
open Go.Conc Go.ConcN
/-- Functions that lone walks may call. -/
def acL : List FuncId := [17, 26, 25, 27, 28, 46, 54, 62, 64, 65, 66, 67, 106]
/-- Functions whose values lie about, but that no lone walk calls. -/
def acV : List FuncId := [63]
set_option maxRecDepth 100000 in
theorem ac_ok : OkFns (InV acL acV) Try.prog := okFnB_ok (by kernel_rfl)
end Go.Proofs.Yticdjkkcfdbdcaa
