/-
  DERIVED. GIVEN WITH THE SEED: THE CARDS: each row of YtpehfhnmcpdllaaGreatDoorRows.lean that lists a variable, with what it lists TIED to the program's text (the seventh form; the later family's looks); each row that meets fmt, with fmt's text TOLD by the authors' own Lean function (tested against real Go, not proved from fmt's source: count such statements apart). THE CARD IS WHAT COUNTS. Prove the row's statement (the work); the ties are given (YtpehfhnmcpdllaaGreatDoorTie.lean); close each card by the builder's one call (the guide's Derived/Test/ToyasCard.lean, 'card_holds'). Laid BY PROGRAM, IN A SANDBOX (cutbox-door.mjs). By AI agents, Wed Nov 11 2026. No macro, syntax, notation, axiom, sorry.
-/
import Derived.Test.YtpehfhnmcpdllaaGreatDoorRows
import GoSem.ClaimSeven
namespace Go.Proofs.YtpehfhnmcpdllaaGreatDoor
namespace Rows

/-- THE TIED CARD OF 'gristmilllaw19.RealtimeMakes'. -/
def realtimeMakesCard : Claim7 := { stood := { row := realtimeMakesRow, standIns := [], harness := (true, "a146573f599d01020f33aedbcc2c85a6bd7032c18715414e055ca5dc42254e65"), looks := false }, kinds := [], alts := [], laidByText := true, laidKinds := [.data, .data, .data], laidTests := true, laidLooks := .later }
def RealtimeMakesCardSaid : Prop := Claim7.holds Tryz.pinned (.plain (OpenSpec.ofChange realtimeMakesSpec)) realtimeMakesCard

/-- THE SECOND FORM's CARD OF 'gristmilllaw19.RealtimeMakes'. -/
def realtimeMakesUptoCard : Claim7 := { stood := { row := realtimeMakesUptoRow, standIns := [], harness := (true, "a146573f599d01020f33aedbcc2c85a6bd7032c18715414e055ca5dc42254e65"), looks := false }, kinds := [], alts := [], laidByText := true, laidKinds := [.data, .data, .data], laidTests := true, laidLooks := .later }
def RealtimeMakesUptoCardSaid : Prop := Claim7.holds Tryz.pinned (.plain (OpenSpec.upto realtimeMakesSpec)) realtimeMakesUptoCard
end Rows
end Go.Proofs.YtpehfhnmcpdllaaGreatDoor
