/-
  DERIVED. GIVEN WITH THE SEED: THE CARDS: each row of YtmikbfdpenggjaaGreatDoorRows.lean that lists a variable, with what it lists TIED to the program's text (the seventh form; the later family's looks); each row that meets fmt, with fmt's text TOLD by the authors' own Lean function (tested against real Go, not proved from fmt's source: count such statements apart). THE CARD IS WHAT COUNTS. Prove the row's statement (the work); the ties are given (YtmikbfdpenggjaaGreatDoorTie.lean); close each card by the builder's one call (the guide's Derived/Test/ToyasCard.lean, 'card_holds'). Laid BY PROGRAM, IN A SANDBOX (cutbox-door.mjs). By AI agents, Wed Nov 11 2026. No macro, syntax, notation, axiom, sorry.
-/
import Derived.Test.YtmikbfdpenggjaaGreatDoorRows
import GoSem.ClaimSeven
namespace Go.Proofs.YtmikbfdpenggjaaGreatDoor
namespace Rows

/-- THE TIED CARD OF 'debuggerlaw22.BuildErrors'. -/
def buildErrorsCard : Claim7 := { stood := { row := buildErrorsRow, standIns := [], harness := (true, "a73f06bc24210afeb78cfa55c7e90bccb11ea20307a1bed2efd1e15f61497768"), looks := true }, kinds := [], alts := [], laidByText := true, laidKinds := [.data, .data, .data], laidTests := true, laidLooks := .later }
def BuildErrorsCardSaid : Prop := Claim7.holds Tryz.pinned (.plain (OpenSpec.ofChange buildErrorsSpec)) buildErrorsCard

/-- THE SECOND FORM's CARD OF 'debuggerlaw22.BuildErrors'. -/
def buildErrorsUptoCard : Claim7 := { stood := { row := buildErrorsUptoRow, standIns := [], harness := (true, "a73f06bc24210afeb78cfa55c7e90bccb11ea20307a1bed2efd1e15f61497768"), looks := true }, kinds := [], alts := [], laidByText := true, laidKinds := [.data, .data, .data], laidTests := true, laidLooks := .later }
def BuildErrorsUptoCardSaid : Prop := Claim7.holds Tryz.pinned (.plain (OpenSpec.upto buildErrorsSpec)) buildErrorsUptoCard
end Rows
end Go.Proofs.YtmikbfdpenggjaaGreatDoor
