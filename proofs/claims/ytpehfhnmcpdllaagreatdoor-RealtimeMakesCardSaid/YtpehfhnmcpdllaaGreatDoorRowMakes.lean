/-
  The card of RealtimeMakes.
-/
import Derived.Test.YtpehfhnmcpdllaaGreatDoorRowMakesH
set_option linter.unusedVariables false
set_option linter.unusedSimpArgs false
namespace Go.Proofs.YtpehfhnmcpdllaaGreatDoor
open Go Go.AW Go.ChangeShapes Go.WideShapes Go.ChangeAt Go.RowKit
/-- For every input the law answers true: the card. -/
theorem realtimeMakes_card : Rows.RealtimeMakesCardSaid :=
  Claim7.holds_tied_plain_at .later [] [.data, .data, .data] true (true, "a146573f599d01020f33aedbcc2c85a6bd7032c18715414e055ca5dc42254e65") false
    realtimeMakes_holds (fun _ h => by cases h) (by as_aux_lemma => kernel_rfl) (fun _ h => by cases h) realtimeMakes_row_tie rfl ⟨rfl, rfl⟩ (by as_aux_lemma => kernel_rfl) rfl
    (fun f fn hf hfn => by
      obtain rfl : f = 3 := Option.some.inj ((show Tryz.prog.funcNamed "gristmill/gristmilllaw19.RealtimeMakes" = some 3 by kernel_rfl).symm.trans hf) |>.symm
      obtain rfl : fn = Tryz.f3 := (Option.some.inj (Tryz.func3.symm.trans hfn)).symm
      exact ⟨by as_aux_lemma => kernel_rfl, fun j t ht => by
        rw [Tryz.params3] at ht
        have hm : t ∈ [25, 3, 26, 3] := by simpa using Array.mem_of_getElem? ht
        have hall : ([25, 3, 26, 3].all fun u => !Tryz.prog.wantsStandIn u) = true := by kernel_rfl
        exact (show Tryz.prog.wantsStandIn t = false by simpa using List.all_eq_true.1 hall t hm)⟩)
    (by as_aux_lemma => kernel_rfl)
#print axioms realtimeMakes_card
end Go.Proofs.YtpehfhnmcpdllaaGreatDoor
