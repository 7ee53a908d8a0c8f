/-
  DERIVED. GIVEN WITH THE SEED: THE CARDS: each row of YtekpdopbiklkfaaGreatDoorRows.lean that lists a variable, with what it lists TIED to the program's text (the seventh form; the later family's looks); each row that meets fmt, with fmt's text TOLD by the authors' own Lean function (tested against real Go, not proved from fmt's source: count such statements apart). THE CARD IS WHAT COUNTS. Prove the row's statement (the work); the ties are given (YtekpdopbiklkfaaGreatDoorTie.lean); close each card by the builder's one call (the guide's Derived/Test/ToyasCard.lean, 'card_holds'). Laid BY PROGRAM, IN A SANDBOX (cutbox-door.mjs). By AI agents, Wed Nov 11 2026. No macro, syntax, notation, axiom, sorry.
-/
import Derived.Test.YtekpdopbiklkfaaGreatDoorRows
import GoSem.ClaimSeven
namespace Go.Proofs.YtekpdopbiklkfaaGreatDoor
namespace Rows

/-- THE TIED CARD OF 'gristmilllaw14.MetaOwn'. -/
def metaOwnCard : Claim7 := { stood := { row := metaOwnRow, standIns := [], harness := (true, "87828cf2165bc95ef888c390fa4de929fd2237ba6ad2cd72d5fadffccc7332dc"), looks := true }, kinds := [], alts := [], laidByText := true, laidKinds := [.data, .data, .data, .handle, .sentinel, .sentinel], laidTests := true, laidLooks := .later }
def MetaOwnCardSaid : Prop := Claim7.holds Tryz.pinned (.plain (OpenSpec.ofChange metaOwnSpec)) metaOwnCard

/-- THE TIED CARD OF 'gristmilllaw14.MetaFull'. -/
def metaFullCard : Claim7 := { stood := { row := metaFullRow, standIns := [], harness := (true, "87828cf2165bc95ef888c390fa4de929fd2237ba6ad2cd72d5fadffccc7332dc"), looks := true }, kinds := [], alts := [], laidByText := true, laidKinds := [.data, .data, .data, .handle, .sentinel, .sentinel], laidTests := true, laidLooks := .later }
def MetaFullCardSaid : Prop := Claim7.holds Tryz.pinned (.plain (OpenSpec.ofChange metaFullSpec)) metaFullCard

/-- THE TIED CARD OF 'gristmilllaw14.MetaOthers'. -/
def metaOthersCard : Claim7 := { stood := { row := metaOthersRow, standIns := [], harness := (true, "87828cf2165bc95ef888c390fa4de929fd2237ba6ad2cd72d5fadffccc7332dc"), looks := true }, kinds := [], alts := [], laidByText := true, laidKinds := [.data, .data, .data, .handle, .sentinel, .sentinel], laidTests := true, laidLooks := .later }
def MetaOthersCardSaid : Prop := Claim7.holds Tryz.pinned (.plain (OpenSpec.ofChange metaOthersSpec)) metaOthersCard

/-- THE TIED CARD OF 'gristmilllaw14.MetaOne'. -/
def metaOneCard : Claim7 := { stood := { row := metaOneRow, standIns := [], harness := (true, "87828cf2165bc95ef888c390fa4de929fd2237ba6ad2cd72d5fadffccc7332dc"), looks := true }, kinds := [], alts := [], laidByText := true, laidKinds := [.data, .data, .data, .handle, .sentinel, .sentinel], laidTests := true, laidLooks := .later }
def MetaOneCardSaid : Prop := Claim7.holds Tryz.pinned (.plain (OpenSpec.ofChange metaOneSpec)) metaOneCard

/-- THE TIED CARD OF 'gristmilllaw14.MetaPlays'. -/
def metaPlaysCard : Claim7 := { stood := { row := metaPlaysRow, standIns := [], harness := (true, "87828cf2165bc95ef888c390fa4de929fd2237ba6ad2cd72d5fadffccc7332dc"), looks := true }, kinds := [], alts := [], laidByText := true, laidKinds := [.data, .data, .data, .handle, .sentinel, .sentinel], laidTests := true, laidLooks := .later }
def MetaPlaysCardSaid : Prop := Claim7.holds Tryz.pinned (.plain (OpenSpec.ofChange metaPlaysSpec)) metaPlaysCard

/-- THE TIED CARD OF 'gristmilllaw14.MetaAgain'. -/
def metaAgainCard : Claim7 := { stood := { row := metaAgainRow, standIns := [], harness := (true, "87828cf2165bc95ef888c390fa4de929fd2237ba6ad2cd72d5fadffccc7332dc"), looks := true }, kinds := [], alts := [], laidByText := true, laidKinds := [.data, .data, .data, .handle, .sentinel, .sentinel], laidTests := true, laidLooks := .later }
def MetaAgainCardSaid : Prop := Claim7.holds Tryz.pinned (.plain (OpenSpec.ofChange metaAgainSpec)) metaAgainCard

/-- THE TIED CARD OF 'gristmilllaw14.MetaKeeps'. -/
def metaKeepsCard : Claim7 := { stood := { row := metaKeepsRow, standIns := [], harness := (true, "87828cf2165bc95ef888c390fa4de929fd2237ba6ad2cd72d5fadffccc7332dc"), looks := true }, kinds := [], alts := [], laidByText := true, laidKinds := [.data, .data, .data, .handle, .sentinel, .sentinel], laidTests := true, laidLooks := .later }
def MetaKeepsCardSaid : Prop := Claim7.holds Tryz.pinned (.plain (OpenSpec.ofChange metaKeepsSpec)) metaKeepsCard

/-- THE SECOND FORM's CARD OF 'gristmilllaw14.MetaOwn'. -/
def metaOwnUptoCard : Claim7 := { stood := { row := metaOwnUptoRow, standIns := [], harness := (true, "87828cf2165bc95ef888c390fa4de929fd2237ba6ad2cd72d5fadffccc7332dc"), looks := true }, kinds := [], alts := [], laidByText := true, laidKinds := [.data, .data, .data, .handle, .sentinel, .sentinel], laidTests := true, laidLooks := .later }
def MetaOwnUptoCardSaid : Prop := Claim7.holds Tryz.pinned (.plain (OpenSpec.upto metaOwnSpec)) metaOwnUptoCard

/-- THE SECOND FORM's CARD OF 'gristmilllaw14.MetaFull'. -/
def metaFullUptoCard : Claim7 := { stood := { row := metaFullUptoRow, standIns := [], harness := (true, "87828cf2165bc95ef888c390fa4de929fd2237ba6ad2cd72d5fadffccc7332dc"), looks := true }, kinds := [], alts := [], laidByText := true, laidKinds := [.data, .data, .data, .handle, .sentinel, .sentinel], laidTests := true, laidLooks := .later }
def MetaFullUptoCardSaid : Prop := Claim7.holds Tryz.pinned (.plain (OpenSpec.upto metaFullSpec)) metaFullUptoCard

/-- THE SECOND FORM's CARD OF 'gristmilllaw14.MetaOthers'. -/
def metaOthersUptoCard : Claim7 := { stood := { row := metaOthersUptoRow, standIns := [], harness := (true, "87828cf2165bc95ef888c390fa4de929fd2237ba6ad2cd72d5fadffccc7332dc"), looks := true }, kinds := [], alts := [], laidByText := true, laidKinds := [.data, .data, .data, .handle, .sentinel, .sentinel], laidTests := true, laidLooks := .later }
def MetaOthersUptoCardSaid : Prop := Claim7.holds Tryz.pinned (.plain (OpenSpec.upto metaOthersSpec)) metaOthersUptoCard

/-- THE SECOND FORM's CARD OF 'gristmilllaw14.MetaOne'. -/
def metaOneUptoCard : Claim7 := { stood := { row := metaOneUptoRow, standIns := [], harness := (true, "87828cf2165bc95ef888c390fa4de929fd2237ba6ad2cd72d5fadffccc7332dc"), looks := true }, kinds := [], alts := [], laidByText := true, laidKinds := [.data, .data, .data, .handle, .sentinel, .sentinel], laidTests := true, laidLooks := .later }
def MetaOneUptoCardSaid : Prop := Claim7.holds Tryz.pinned (.plain (OpenSpec.upto metaOneSpec)) metaOneUptoCard

/-- THE SECOND FORM's CARD OF 'gristmilllaw14.MetaPlays'. -/
def metaPlaysUptoCard : Claim7 := { stood := { row := metaPlaysUptoRow, standIns := [], harness := (true, "87828cf2165bc95ef888c390fa4de929fd2237ba6ad2cd72d5fadffccc7332dc"), looks := true }, kinds := [], alts := [], laidByText := true, laidKinds := [.data, .data, .data, .handle, .sentinel, .sentinel], laidTests := true, laidLooks := .later }
def MetaPlaysUptoCardSaid : Prop := Claim7.holds Tryz.pinned (.plain (OpenSpec.upto metaPlaysSpec)) metaPlaysUptoCard

/-- THE SECOND FORM's CARD OF 'gristmilllaw14.MetaAgain'. -/
def metaAgainUptoCard : Claim7 := { stood := { row := metaAgainUptoRow, standIns := [], harness := (true, "87828cf2165bc95ef888c390fa4de929fd2237ba6ad2cd72d5fadffccc7332dc"), looks := true }, kinds := [], alts := [], laidByText := true, laidKinds := [.data, .data, .data, .handle, .sentinel, .sentinel], laidTests := true, laidLooks := .later }
def MetaAgainUptoCardSaid : Prop := Claim7.holds Tryz.pinned (.plain (OpenSpec.upto metaAgainSpec)) metaAgainUptoCard

/-- THE SECOND FORM's CARD OF 'gristmilllaw14.MetaKeeps'. -/
def metaKeepsUptoCard : Claim7 := { stood := { row := metaKeepsUptoRow, standIns := [], harness := (true, "87828cf2165bc95ef888c390fa4de929fd2237ba6ad2cd72d5fadffccc7332dc"), looks := true }, kinds := [], alts := [], laidByText := true, laidKinds := [.data, .data, .data, .handle, .sentinel, .sentinel], laidTests := true, laidLooks := .later }
def MetaKeepsUptoCardSaid : Prop := Claim7.holds Tryz.pinned (.plain (OpenSpec.upto metaKeepsSpec)) metaKeepsUptoCard
end Rows
end Go.Proofs.YtekpdopbiklkfaaGreatDoor
