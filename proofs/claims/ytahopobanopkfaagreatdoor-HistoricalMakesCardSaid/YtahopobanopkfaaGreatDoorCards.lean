/-
  DERIVED. GIVEN WITH THE SEED: THE CARDS: each row of YtahopobanopkfaaGreatDoorRows.lean that lists a variable, with what it lists TIED to the program's text (the seventh form; the later family's looks); each row that meets fmt, with fmt's text TOLD by the authors' own Lean function (tested against real Go, not proved from fmt's source: count such statements apart). THE CARD IS WHAT COUNTS. Prove the row's statement (the work); the ties are given (YtahopobanopkfaaGreatDoorTie.lean); close each card by the builder's one call (the guide's Derived/Test/ToyasCard.lean, 'card_holds'). Laid BY PROGRAM, IN A SANDBOX (cutbox-door.mjs). By AI agents, Wed Nov 11 2026. No macro, syntax, notation, axiom, sorry.
-/
import Derived.Test.YtahopobanopkfaaGreatDoorRows
import GoSem.ClaimSeven
namespace Go.Proofs.YtahopobanopkfaaGreatDoor
namespace Rows

/-- THE TIED CARD OF 'gristmilllaw20.HistoricalTerms'. -/
def historicalTermsCard : Claim7 := { stood := { row := historicalTermsRow, standIns := [], harness := (true, "fae29ebce205205b92fa21cf91dd767d8f2cc419f7ee6d6531770cd4a1cb5e07"), looks := true }, kinds := [], alts := [], laidByText := true, laidKinds := [.data, .data, .data, .sentinel, .sentinel], laidTests := true, laidLooks := .later }
def HistoricalTermsCardSaid : Prop := Claim7.holds Tryz.pinned (.plain (OpenSpec.ofChange historicalTermsSpec)) historicalTermsCard

/-- THE TIED CARD OF 'gristmilllaw20.HistoricalMakes'. -/
def historicalMakesCard : Claim7 := { stood := { row := historicalMakesRow, standIns := [], harness := (true, "fae29ebce205205b92fa21cf91dd767d8f2cc419f7ee6d6531770cd4a1cb5e07"), looks := true }, kinds := [], alts := [], laidByText := true, laidKinds := [.data, .data, .data, .sentinel, .sentinel], laidTests := true, laidLooks := .later }
def HistoricalMakesCardSaid : Prop := Claim7.holds Tryz.pinned (.plain (OpenSpec.ofChange historicalMakesSpec)) historicalMakesCard

/-- THE SECOND FORM's CARD OF 'gristmilllaw20.HistoricalTerms'. -/
def historicalTermsUptoCard : Claim7 := { stood := { row := historicalTermsUptoRow, standIns := [], harness := (true, "fae29ebce205205b92fa21cf91dd767d8f2cc419f7ee6d6531770cd4a1cb5e07"), looks := true }, kinds := [], alts := [], laidByText := true, laidKinds := [.data, .data, .data, .sentinel, .sentinel], laidTests := true, laidLooks := .later }
def HistoricalTermsUptoCardSaid : Prop := Claim7.holds Tryz.pinned (.plain (OpenSpec.upto historicalTermsSpec)) historicalTermsUptoCard

/-- THE SECOND FORM's CARD OF 'gristmilllaw20.HistoricalMakes'. -/
def historicalMakesUptoCard : Claim7 := { stood := { row := historicalMakesUptoRow, standIns := [], harness := (true, "fae29ebce205205b92fa21cf91dd767d8f2cc419f7ee6d6531770cd4a1cb5e07"), looks := true }, kinds := [], alts := [], laidByText := true, laidKinds := [.data, .data, .data, .sentinel, .sentinel], laidTests := true, laidLooks := .later }
def HistoricalMakesUptoCardSaid : Prop := Claim7.holds Tryz.pinned (.plain (OpenSpec.upto historicalMakesSpec)) historicalMakesUptoCard
end Rows
end Go.Proofs.YtahopobanopkfaaGreatDoor
