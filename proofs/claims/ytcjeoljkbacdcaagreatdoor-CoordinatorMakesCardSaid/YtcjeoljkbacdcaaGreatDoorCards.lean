/-
  DERIVED. GIVEN WITH THE SEED: THE CARDS: each row of YtcjeoljkbacdcaaGreatDoorRows.lean that lists a variable, with what it lists TIED to the program's text (the seventh form; the later family's looks); each row that meets fmt, with fmt's text TOLD by the authors' own Lean function (tested against real Go, not proved from fmt's source: count such statements apart). THE CARD IS WHAT COUNTS. Prove the row's statement (the work); the ties are given (YtcjeoljkbacdcaaGreatDoorTie.lean); close each card by the builder's one call (the guide's Derived/Test/ToyasCard.lean, 'card_holds'). Laid BY PROGRAM, IN A SANDBOX (cutbox-door.mjs). By AI agents, Wed Nov 11 2026. No macro, syntax, notation, axiom, sorry.
-/
import Derived.Test.YtcjeoljkbacdcaaGreatDoorRows
import GoSem.ClaimSeven
namespace Go.Proofs.YtcjeoljkbacdcaaGreatDoor
namespace Rows

/-- THE TIED CARD OF 'gristmilllaw21.CoordinatorMakes'. -/
def coordinatorMakesCard : Claim7 := { stood := { row := coordinatorMakesRow, standIns := [], harness := (true, "3f396788ccd14554d1de80cc1d6cba17223f06ec0687cc00a1918b12c411db4e"), looks := false }, kinds := [], alts := [], laidByText := true, laidKinds := [.data, .data, .data], laidTests := true, laidLooks := .later }
def CoordinatorMakesCardSaid : Prop := Claim7.holds Tryz.pinned (.plain (OpenSpec.ofChange coordinatorMakesSpec)) coordinatorMakesCard

/-- THE SECOND FORM's CARD OF 'gristmilllaw21.CoordinatorMakes'. -/
def coordinatorMakesUptoCard : Claim7 := { stood := { row := coordinatorMakesUptoRow, standIns := [], harness := (true, "3f396788ccd14554d1de80cc1d6cba17223f06ec0687cc00a1918b12c411db4e"), looks := false }, kinds := [], alts := [], laidByText := true, laidKinds := [.data, .data, .data], laidTests := true, laidLooks := .later }
def CoordinatorMakesUptoCardSaid : Prop := Claim7.holds Tryz.pinned (.plain (OpenSpec.upto coordinatorMakesSpec)) coordinatorMakesUptoCard
end Rows
end Go.Proofs.YtcjeoljkbacdcaaGreatDoor
