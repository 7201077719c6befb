/-
  DERIVED. GIVEN WITH THE SEED: THE CARDS: each row of YtgiceeholamphaaDoorRows.lean that lists a variable, with what it lists TIED to the program's text (the seventh form; the later family's looks); each row that meets fmt, with fmt's text TOLD by the authors' own Lean function (tested against real Go, not proved from fmt's source: count such statements apart). THE CARD IS WHAT COUNTS. Prove the row's statement (the work); the ties are given (YtgiceeholamphaaDoorTie.lean); close each card by the builder's one call (the guide's Derived/Test/ToyasCard.lean, 'card_holds'). Laid BY PROGRAM, IN A SANDBOX (cutbox-door.mjs). By AI agents, Wed Nov 11 2026. No macro, syntax, notation, axiom, sorry.
-/
import Derived.Test.YtgiceeholamphaaDoorRows
import GoSem.ClaimSeven
namespace Go.Proofs.YtgiceeholamphaaDoor
namespace Rows

/-- THE TIED CARD OF 'steplaw.LangWrites'. -/
def langWritesCard : Claim7 := { stood := { row := langWritesRow, standIns := [], harness := (true, "92118501a4415e73c1fc962f85108c320e7de419b650410dd6b7649e939c8fd1"), looks := true }, kinds := [], alts := [], laidByText := true, laidKinds := [.data, .data, .data], laidTests := true, laidLooks := .later }
def LangWritesCardSaid : Prop := Claim7.holds Tryd.pinned (.plain (OpenSpec.ofChange langWritesSpec)) langWritesCard

/-- THE TIED CARD OF 'steplaw.LangReads'. -/
def langReadsCard : Claim7 := { stood := { row := langReadsRow, standIns := [], harness := (true, "92118501a4415e73c1fc962f85108c320e7de419b650410dd6b7649e939c8fd1"), looks := true }, kinds := [], alts := [], laidByText := true, laidKinds := [.data, .data, .data, .sentinel, .sentinel], laidTests := true, laidLooks := .later }
def LangReadsCardSaid : Prop := Claim7.holds Tryd.pinned (.plain (OpenSpec.ofChange langReadsSpec)) langReadsCard

/-- THE TIED CARD OF 'stepkeep.LangBack'. -/
def langBackCard : Claim7 := { stood := { row := langBackRow, standIns := [], harness := (true, "92118501a4415e73c1fc962f85108c320e7de419b650410dd6b7649e939c8fd1"), looks := true }, kinds := [], alts := [], laidByText := true, laidKinds := [.data, .data, .data, .sentinel, .sentinel], laidTests := true, laidLooks := .later }
def LangBackCardSaid : Prop := Claim7.holds Tryd.pinned (.plain (OpenSpec.ofChange langBackSpec)) langBackCard

/-- THE SECOND FORM's CARD OF 'steplaw.LangWrites'. -/
def langWritesUptoCard : Claim7 := { stood := { row := langWritesUptoRow, standIns := [], harness := (true, "92118501a4415e73c1fc962f85108c320e7de419b650410dd6b7649e939c8fd1"), looks := true }, kinds := [], alts := [], laidByText := true, laidKinds := [.data, .data, .data], laidTests := true, laidLooks := .later }
def LangWritesUptoCardSaid : Prop := Claim7.holds Tryd.pinned (.plain (OpenSpec.upto langWritesSpec)) langWritesUptoCard

/-- THE SECOND FORM's CARD OF 'steplaw.LangReads'. -/
def langReadsUptoCard : Claim7 := { stood := { row := langReadsUptoRow, standIns := [], harness := (true, "92118501a4415e73c1fc962f85108c320e7de419b650410dd6b7649e939c8fd1"), looks := true }, kinds := [], alts := [], laidByText := true, laidKinds := [.data, .data, .data, .sentinel, .sentinel], laidTests := true, laidLooks := .later }
def LangReadsUptoCardSaid : Prop := Claim7.holds Tryd.pinned (.plain (OpenSpec.upto langReadsSpec)) langReadsUptoCard

/-- THE SECOND FORM's CARD OF 'stepkeep.LangBack'. -/
def langBackUptoCard : Claim7 := { stood := { row := langBackUptoRow, standIns := [], harness := (true, "92118501a4415e73c1fc962f85108c320e7de419b650410dd6b7649e939c8fd1"), looks := true }, kinds := [], alts := [], laidByText := true, laidKinds := [.data, .data, .data, .sentinel, .sentinel], laidTests := true, laidLooks := .later }
def LangBackUptoCardSaid : Prop := Claim7.holds Tryd.pinned (.plain (OpenSpec.upto langBackSpec)) langBackUptoCard
end Rows
end Go.Proofs.YtgiceeholamphaaDoor
