/-
  No cell of these rows narrows 'for every input' (looked for: loops, veiled, ifaces, maps, wideKeys, modest, calm, conditions, laid).
  DERIVED. THE GIVEN ROWS OF THIS SEAT. 5 by the template 'for every input the law returns true; each argument reads behind the call as it read before'; 0 by the template 'total and deterministic' (their statements: YtnepaaheiakimaaTotals.lean).
  GIVEN WITH THE SEED: the statements are not yours to turn. If you find one false, say at which input.
  Laid BY PROGRAM, IN A SANDBOX (cutbox-rows.mjs): the forced cells as the released guide's own fill.sh prints them over the translation 891e168409268ef3… (all of the seat's roots in one cut). By AI agents, Wed Nov 11 2026. No macro, syntax, notation, axiom, sorry.
-/
import Derived.Test.YtnepaaheiakimaaChecked
import GoSem.Claim
import GoSem.ClaimJoined
import GoSem.ClaimMapViews
import Derived.JoinedTies
import Derived.KernelRfl
namespace Go.Proofs.Ytnepaaheiakimaa
/- THE CELL 'sum', in the pinned program and in every row, IS THE sha256 OF THE DUMP (.gsa) THAT YtnepaaheiakimaaProg.lean LOADS. Nothing in Lean hashes anything: it is a label: what it is worth is what the hold of that sum in a sandbox is worth. -/
noncomputable def Try.pinned : Pinned := { name := "ytnepaaheiakimaa", sum := "891e168409268ef322944b083c85dd0f45981642fe0410ebbce17c3164966490", checked := Try.checked }
namespace Rows
def none {H : Type} : Left H := { results := [], args := [] }

/-- 'steplaw.Names': WHATEVER THE INPUT: true; the input reads as it did. -/
def namesSpec : ChangeSpec := { name := "names", fn := fun _ => fun
  | [] => { results := [.lit (.bool true)], args := [] }
  | _ => none }
def namesRow : OpenClaim := { program := "ytnepaaheiakimaa", sum := "891e168409268ef322944b083c85dd0f45981642fe0410ebbce17c3164966490", func := "lockstep/steplaw.Names", spec := "names", apart := false }
def NamesSaid : Prop := namesRow.holds Try.pinned (OpenSpec.ofChange namesSpec)

/-- ITS FALSE NEIGHBOUR: 'it returns false'. Refute it at one input. -/
def namesWrong : ChangeSpec := { name := "names", fn := fun _ => fun
  | [] => { results := [.lit (.bool false)], args := [] }
  | _ => none }
def NamesWrongFalsely : Prop := namesRow.holds Try.pinned (OpenSpec.ofChange namesWrong)

/-- 'steplaw.GraphPlans': WHATEVER THE INPUT: true; the input reads as it did. -/
def graphPlansSpec : ChangeSpec := { name := "graphPlans", fn := fun _ => fun
  | [d1, d2] => { results := [.lit (.bool true)], args := [d1, d2] }
  | _ => none }
def graphPlansRow : OpenClaim := { program := "ytnepaaheiakimaa", sum := "891e168409268ef322944b083c85dd0f45981642fe0410ebbce17c3164966490", func := "lockstep/steplaw.GraphPlans", spec := "graphPlans", unfollowed := true, recurses := true, leaving := true, apart := false }
def GraphPlansSaid : Prop := graphPlansRow.holds Try.pinned (OpenSpec.ofChange graphPlansSpec)

/-- ITS FALSE NEIGHBOUR: 'it returns false'. Refute it at one input. -/
def graphPlansWrong : ChangeSpec := { name := "graphPlans", fn := fun _ => fun
  | [d1, d2] => { results := [.lit (.bool false)], args := [d1, d2] }
  | _ => none }
def GraphPlansWrongFalsely : Prop := graphPlansRow.holds Try.pinned (OpenSpec.ofChange graphPlansWrong)

/-- 'stepkeep.GraphGraham': WHATEVER THE INPUT: true; the input reads as it did. -/
def graphGrahamSpec : ChangeSpec := { name := "graphGraham", fn := fun _ => fun
  | [d1, d2] => { results := [.lit (.bool true)], args := [d1, d2] }
  | _ => none }
def graphGrahamRow : OpenClaim := { program := "ytnepaaheiakimaa", sum := "891e168409268ef322944b083c85dd0f45981642fe0410ebbce17c3164966490", func := "lockstep/stepkeep.GraphGraham", spec := "graphGraham", unfollowed := true, recurses := true, leaving := true, apart := false }
def GraphGrahamSaid : Prop := graphGrahamRow.holds Try.pinned (OpenSpec.ofChange graphGrahamSpec)

/-- ITS FALSE NEIGHBOUR: 'it returns false'. Refute it at one input. -/
def graphGrahamWrong : ChangeSpec := { name := "graphGraham", fn := fun _ => fun
  | [d1, d2] => { results := [.lit (.bool false)], args := [d1, d2] }
  | _ => none }
def GraphGrahamWrongFalsely : Prop := graphGrahamRow.holds Try.pinned (OpenSpec.ofChange graphGrahamWrong)

/-- 'steplaw.GraphRuns': WHATEVER THE INPUT: true; the input reads as it did. -/
def graphRunsSpec : ChangeSpec := { name := "graphRuns", fn := fun _ => fun
  | [d1, d2] => { results := [.lit (.bool true)], args := [d1, d2] }
  | _ => none }
def graphRunsRow : OpenClaim := { program := "ytnepaaheiakimaa", sum := "891e168409268ef322944b083c85dd0f45981642fe0410ebbce17c3164966490", func := "lockstep/steplaw.GraphRuns", spec := "graphRuns", inPlace := ["sync/atomic.StoreInt64", "(*sync.WaitGroup).Add", "internal/race.ReleaseMerge", "internal/race.Disable", "internal/race.Enable", "internal/synctest.IsInBubble", "internal/synctest.Associate[sync.WaitGroup]", "sync.fatal", "sync/atomic.OrUint64", "sync/atomic.AddUint64", "internal/race.Read", "sync/atomic.LoadUint64", "sync/atomic.StoreUint64", "internal/synctest.Disassociate[sync.WaitGroup]", "sync.runtime_Semrelease", "(*sync.WaitGroup).Done", "sync/atomic.AddInt64", "(*sync.WaitGroup).Wait", "internal/race.Acquire", "internal/synctest.IsAssociated[sync.WaitGroup]", "sync/atomic.CompareAndSwapUint64", "internal/race.Write", "sync.runtime_SemacquireWaitGroup"], unfollowed := true, recurses := true, leaving := true, apart := false }
def GraphRunsSaid : Prop := graphRunsRow.holds Try.pinned (OpenSpec.ofChange graphRunsSpec)

/-- ITS FALSE NEIGHBOUR: 'it returns false'. Refute it at one input. -/
def graphRunsWrong : ChangeSpec := { name := "graphRuns", fn := fun _ => fun
  | [d1, d2] => { results := [.lit (.bool false)], args := [d1, d2] }
  | _ => none }
def GraphRunsWrongFalsely : Prop := graphRunsRow.holds Try.pinned (OpenSpec.ofChange graphRunsWrong)

/-- 'stepkeep.GraphSame': WHATEVER THE INPUT: true; the input reads as it did. -/
def graphSameSpec : ChangeSpec := { name := "graphSame", fn := fun _ => fun
  | [d1, d2, d3] => { results := [.lit (.bool true)], args := [d1, d2, d3] }
  | _ => none }
def graphSameRow : OpenClaim := { program := "ytnepaaheiakimaa", sum := "891e168409268ef322944b083c85dd0f45981642fe0410ebbce17c3164966490", func := "lockstep/stepkeep.GraphSame", spec := "graphSame", inPlace := ["sync/atomic.StoreInt64", "(*sync.WaitGroup).Add", "internal/race.ReleaseMerge", "internal/race.Disable", "internal/race.Enable", "internal/synctest.IsInBubble", "internal/synctest.Associate[sync.WaitGroup]", "sync.fatal", "sync/atomic.OrUint64", "sync/atomic.AddUint64", "internal/race.Read", "sync/atomic.LoadUint64", "sync/atomic.StoreUint64", "internal/synctest.Disassociate[sync.WaitGroup]", "sync.runtime_Semrelease", "(*sync.WaitGroup).Done", "sync/atomic.AddInt64", "(*sync.WaitGroup).Wait", "internal/race.Acquire", "internal/synctest.IsAssociated[sync.WaitGroup]", "sync/atomic.CompareAndSwapUint64", "internal/race.Write", "sync.runtime_SemacquireWaitGroup"], unfollowed := true, recurses := true, leaving := true, apart := false }
def GraphSameSaid : Prop := graphSameRow.holds Try.pinned (OpenSpec.ofChange graphSameSpec)

/-- ITS FALSE NEIGHBOUR: 'it returns false'. Refute it at one input. -/
def graphSameWrong : ChangeSpec := { name := "graphSame", fn := fun _ => fun
  | [d1, d2, d3] => { results := [.lit (.bool false)], args := [d1, d2, d3] }
  | _ => none }
def GraphSameWrongFalsely : Prop := graphSameRow.holds Try.pinned (OpenSpec.ofChange graphSameWrong)

/- THE SECOND FORM. 'bulk': how many values and letters a reading holds, each counted each time it is reached (what is shared counts as often as it is met; a slice's spare places count too). A statement '..UptoSaid' is the law's where the arguments, and the package variables that the reading takes, are together of bulk at most 1048576: NARROWER than '..Said'. Prove '..Said' where nothing that the law and all that it calls make is longer than what came in: it says more and counts as full. Else prove '..UptoSaid'. A law counts once. -/
mutual
def uptoBulk {H : Type} : DataW H → Nat
  | .lit (.string bytes) => bytes.length + 1
  | .lit _ => 1
  | .nil => 1
  | .ptr d => uptoBulk d + 1
  | .slice elems spare => uptoBulkAll elems + uptoBulkAll spare + 1
  | .agg parts => uptoBulkAll parts + 1
  | .iface _ d => uptoBulk d + 1
  | .map entries => uptoBulkEntries entries + 1
  | .held _ => 1
def uptoBulkAll {H : Type} : List (DataW H) → Nat
  | [] => 0
  | d :: r => uptoBulk d + uptoBulkAll r
def uptoBulkEntries {H : Type} : List (Lit × DataW H) → Nat
  | [] => 0
  | x :: r => uptoBulkEntry x + uptoBulkEntries r
def uptoBulkEntry {H : Type} : Lit × DataW H → Nat
  | (.string bytes, d) => bytes.length + uptoBulk d + 1
  | (_, d) => uptoBulk d + 1
 end
def uptoSmall : (H : Type) → List (DataW H) → Bool := fun _ ds => decide (uptoBulkAll ds ≤ 1048576)
def OpenSpec.upto (s : _root_.Go.ChangeSpec) : _root_.Go.OpenSpec := { _root_.Go.OpenSpec.ofChange s with cond := some uptoSmall }

/-- 'steplaw.Names', WHERE WHAT IT READS IS OF BULK AT MOST 1048576: true; the input reads as it did. -/
def namesUptoRow : OpenClaim := { program := "ytnepaaheiakimaa", sum := "891e168409268ef322944b083c85dd0f45981642fe0410ebbce17c3164966490", func := "lockstep/steplaw.Names", spec := "names", apart := false, narrowed := true }
def NamesUptoSaid : Prop := namesUptoRow.holds Try.pinned (OpenSpec.upto namesSpec)

/-- 'steplaw.GraphPlans', WHERE WHAT IT READS IS OF BULK AT MOST 1048576: true; the input reads as it did. -/
def graphPlansUptoRow : OpenClaim := { program := "ytnepaaheiakimaa", sum := "891e168409268ef322944b083c85dd0f45981642fe0410ebbce17c3164966490", func := "lockstep/steplaw.GraphPlans", spec := "graphPlans", unfollowed := true, recurses := true, leaving := true, apart := false, narrowed := true }
def GraphPlansUptoSaid : Prop := graphPlansUptoRow.holds Try.pinned (OpenSpec.upto graphPlansSpec)

/-- 'stepkeep.GraphGraham', WHERE WHAT IT READS IS OF BULK AT MOST 1048576: true; the input reads as it did. -/
def graphGrahamUptoRow : OpenClaim := { program := "ytnepaaheiakimaa", sum := "891e168409268ef322944b083c85dd0f45981642fe0410ebbce17c3164966490", func := "lockstep/stepkeep.GraphGraham", spec := "graphGraham", unfollowed := true, recurses := true, leaving := true, apart := false, narrowed := true }
def GraphGrahamUptoSaid : Prop := graphGrahamUptoRow.holds Try.pinned (OpenSpec.upto graphGrahamSpec)

/-- 'steplaw.GraphRuns', WHERE WHAT IT READS IS OF BULK AT MOST 1048576: true; the input reads as it did. -/
def graphRunsUptoRow : OpenClaim := { program := "ytnepaaheiakimaa", sum := "891e168409268ef322944b083c85dd0f45981642fe0410ebbce17c3164966490", func := "lockstep/steplaw.GraphRuns", spec := "graphRuns", inPlace := ["sync/atomic.StoreInt64", "(*sync.WaitGroup).Add", "internal/race.ReleaseMerge", "internal/race.Disable", "internal/race.Enable", "internal/synctest.IsInBubble", "internal/synctest.Associate[sync.WaitGroup]", "sync.fatal", "sync/atomic.OrUint64", "sync/atomic.AddUint64", "internal/race.Read", "sync/atomic.LoadUint64", "sync/atomic.StoreUint64", "internal/synctest.Disassociate[sync.WaitGroup]", "sync.runtime_Semrelease", "(*sync.WaitGroup).Done", "sync/atomic.AddInt64", "(*sync.WaitGroup).Wait", "internal/race.Acquire", "internal/synctest.IsAssociated[sync.WaitGroup]", "sync/atomic.CompareAndSwapUint64", "internal/race.Write", "sync.runtime_SemacquireWaitGroup"], unfollowed := true, recurses := true, leaving := true, apart := false, narrowed := true }
def GraphRunsUptoSaid : Prop := graphRunsUptoRow.holds Try.pinned (OpenSpec.upto graphRunsSpec)

/-- 'stepkeep.GraphSame', WHERE WHAT IT READS IS OF BULK AT MOST 1048576: true; the input reads as it did. -/
def graphSameUptoRow : OpenClaim := { program := "ytnepaaheiakimaa", sum := "891e168409268ef322944b083c85dd0f45981642fe0410ebbce17c3164966490", func := "lockstep/stepkeep.GraphSame", spec := "graphSame", inPlace := ["sync/atomic.StoreInt64", "(*sync.WaitGroup).Add", "internal/race.ReleaseMerge", "internal/race.Disable", "internal/race.Enable", "internal/synctest.IsInBubble", "internal/synctest.Associate[sync.WaitGroup]", "sync.fatal", "sync/atomic.OrUint64", "sync/atomic.AddUint64", "internal/race.Read", "sync/atomic.LoadUint64", "sync/atomic.StoreUint64", "internal/synctest.Disassociate[sync.WaitGroup]", "sync.runtime_Semrelease", "(*sync.WaitGroup).Done", "sync/atomic.AddInt64", "(*sync.WaitGroup).Wait", "internal/race.Acquire", "internal/synctest.IsAssociated[sync.WaitGroup]", "sync/atomic.CompareAndSwapUint64", "internal/race.Write", "sync.runtime_SemacquireWaitGroup"], unfollowed := true, recurses := true, leaving := true, apart := false, narrowed := true }
def GraphSameUptoSaid : Prop := graphSameUptoRow.holds Try.pinned (OpenSpec.upto graphSameSpec)

end Rows
end Go.Proofs.Ytnepaaheiakimaa
