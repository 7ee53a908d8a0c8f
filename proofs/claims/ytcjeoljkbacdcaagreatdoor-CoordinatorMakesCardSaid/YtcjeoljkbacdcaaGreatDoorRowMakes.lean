/-
  For every input the law CoordinatorMakes answers true; each argument reads behind the call as it read before: the row, out of the law's contract.
-/
import Derived.Test.YtcjeoljkbacdcaaGreatDoorRows
import Derived.Test.YtcjeoljkbacdcaaGreatDoorCards
import Derived.Test.YtcjeoljkbacdcaaGreatDoorTie
import Derived.LaidMore
import Derived.Stop.Joined
import Derived.SevenTiedAt
import Derived.Test.YtcjeoljkbacdcaaGreatDoorLaw
import Derived.Test.YtcjeoljkbacdcaaGreatDoorAwTop
set_option linter.unusedVariables false
set_option linter.unusedSimpArgs false
namespace Go.Proofs.YtcjeoljkbacdcaaGreatDoor
open Go Go.AW Go.ChangeShapes Go.WideShapes Go.ChangeAt Go.RowKit
open Go.ChangeMaps (open_string shut_string)
set_option linter.unusedVariables false
theorem own_coordinatorMakes : ownKnob Tryz.prog.godebug = none := by kernel_rfl
theorem laidOut_coordinatorMakes : laidOutB Tryz.prog = true := by kernel_rfl
theorem doorMet_coordinatorMakes (os : Os) (args : Array Value) : laidMetH Tryz.prog Rows.coordinatorMakesRow.laid ((World.doorLaid Tryz.prog 24 os).forCall (fun _ _ => 0) ⟨#[], args, []⟩).memory :=
  laidMetH_of_parts3 (fuel := 8) (laidMet_of_run' 8 (by kernel_rfl) (by kernel_rfl)) (by kernel_rfl) (by kernel_rfl)
set_option maxRecDepth 100000 in
theorem lifted_coordinatorMakes (os : Os) (started : os.Started) (H : Type) (enc : TypeId × Value → H) :
    ReturnsInHanded {} Tryz.checked os 3 .any (fun w args => (Rows.coordinatorMakesSpec.pre enc Tryz.prog Tryz.f3 Rows.coordinatorMakesRow.domain false w args ∧ laidMetH Tryz.prog Rows.coordinatorMakesRow.laid w) ∧ sizedMet enc Tryz.prog Tryz.f3 (OpenSpec.ofChange Rows.coordinatorMakesSpec) false w args) (Rows.coordinatorMakesSpec.post enc Tryz.prog Tryz.f3 false true false false) := by
  refine returnsInHanded_of_change_and (C := Tryz.checked) (X := fun w _ => laidMetH Tryz.prog Rows.coordinatorMakesRow.laid w) (fun _ _ _ hh h => h.of_heap hh) own_coordinatorMakes started (by kernel_rfl) Tryz.func3
    (ChangeSpec.witness_shaped (enc := enc) (C := Tryz.checked) (os := os) (X := fun w _ => laidMetH Tryz.prog Rows.coordinatorMakesRow.laid w) false (World.doorLaid Tryz.prog 24 os) #[.agg #[.int .i64 0, .int .i64 0, .int .i64 0, .int .i64 0, .int .i64 0, .int .i64 0, .int .i64 0, .int .i64 0, .int .i64 0, .int .i64 0], .int .i64 0, .agg #[.int .i64 0, .int .i64 0]] 8 rfl (World.shaped_of_RefB (by kernel_rfl) (by kernel_rfl)) (by kernel_rfl) (by kernel_rfl) (by kernel_rfl) (doorMet_coordinatorMakes os _)) ?_
  intro W base args ds gs before hval0 hW hcnd hsz0 _ _
  have hval : ∀ (j : Nat) t v, Tryz.f3.params[j]? = some t → args[j]? = some v → Value.okWide Tryz.prog W .any base t v := hval0
  have hW' := hW
  obtain ⟨p, q, hA0, hV, rfl, hfz, hnd⟩ := hW
  have hA : DataW.TrodAll enc Tryz.prog W 0 (fun _ => true) true Tryz.f3.params.toList args.toList ds p := hA0
  rw [Tryz.params3] at hA hval
  obtain ⟨v0, vs0, d0, ds0, p0, q0, hargs, rfl, rfl, h0, r0⟩ := trodAll_cons hA
  obtain ⟨v1, vs1, d1, ds1, p1, q1, rfl, rfl, rfl, h1, r1⟩ := trodAll_cons r0
  obtain ⟨v2, vs2, d2, ds2, p2, q2, rfl, rfl, rfl, h2, r2⟩ := trodAll_cons r1
  obtain ⟨rfl, rfl, rfl⟩ := trodAll_nil r2
  obtain rfl : args = #[v0, v1, v2] := by cases args; simp_all
  obtain ⟨rfl, rfl⟩ := trodVars_none hV
  have k0 := h0
  have lt0 : ∀ x ∈ p0, x.block < W.heap.size := by obtain ⟨m, hm⟩ := k0; exact DataW.trod_lt m _ _ _ hm
  obtain ⟨cs0, rfl, fit0⟩ := open_struct (d := 10) (ks := [.int .i64, .int .i64, .int .i64, .int .i64, .int .i64, .int .i64, .int .i64, .int .i64, .int .i64, .int .i64]) Tryz.underlying25 (by kernel_rfl) (hval 0 25 v0 rfl rfl) h0
  have vr0 := vr_struct fit0
  obtain ⟨s0, rfl, wf0⟩ := decSetup cs0 fit0
  obtain ⟨a1, rfl, rfl, rfl, w1⟩ := open_int Tryz.underlying3 (hval 1 3 v1 rfl rfl) h1
  have k2 := h2
  have lt2 : ∀ x ∈ p2, x.block < W.heap.size := by obtain ⟨m, hm⟩ := k2; exact DataW.trod_lt m _ _ _ hm
  obtain ⟨cs2, rfl, fit2⟩ := open_struct (d := 10) (ks := [.int .i64, .int .i64]) Tryz.underlying27 (by kernel_rfl) (hval 2 27 v2 rfl rfl) h2
  have vr2 := vr_struct fit2
  obtain ⟨f2, t2, rfl, wf2⟩ := decSpan cs2 fit2
  have good : ∀ o ∈ ([] : List AW.Given), AW.Good W o := by
    intro o ho
    cases ho
  have main := calls_true [] good (coordinatorMakes s0 a1 f2 t2 _) (VRs.cons (vr0 _) (VRs.cons (.int _ _) (VRs.cons (vr2 _) VRs.nil)))
  refine main.mono fun e W' ⟨he, bel⟩ => ?_
  subst he
  exact ⟨_, rfl, _, _, _, [], _, [], hW', trodAll_mk1 (shut_bool Tryz.underlying4 _), (trodAll_cons_mk (Below.trod laidOut_coordinatorMakes (by kernel_rfl) (of_decide_eq_true (by kernel_rfl)) k0 bel lt0) (trodAll_cons_mk (shut_int Tryz.underlying3 w1) (trodAll_cons_mk (Below.trod laidOut_coordinatorMakes (by kernel_rfl) (of_decide_eq_true (by kernel_rfl)) k2 bel lt2) trodAll_mk0))), rfl, bel.frame _, fun h => by cases h⟩
set_option maxRecDepth 100000 in
set_option maxHeartbeats 8000000 in
theorem joined_coordinatorMakes : joinedFacts Tryz.pinned.checked.prog 3 Tryz.f3 Rows.coordinatorMakesSpec Rows.coordinatorMakesRow = true := by
  unfold joinedFacts
  repeat' (first | with_reducible refine and_true2 ?_ ?_ | (as_aux_lemma => kernel_rfl))
theorem named_coordinatorMakes : Tryz.pinned.checked.prog.funcNamed Rows.coordinatorMakesRow.func = some 3 := by kernel_rfl
theorem inst_coordinatorMakes : Tryz.f3.isInstance Tryz.pinned.checked.prog Rows.coordinatorMakesRow.origin Rows.coordinatorMakesRow.targs := of_decide_eq_true (by kernel_rfl)
theorem wrap_coordinatorMakes : Tryz.f3.isWrapper Tryz.pinned.checked.prog Rows.coordinatorMakesRow.wrapper Rows.coordinatorMakesRow.mainSum := by unfold Func.isWrapper; first | (rw [if_pos (by decide +kernel)]; kernel_rfl) | (rw [if_neg (by decide +kernel)]; exact ⟨rfl, rfl⟩)
/-- For every input the law answers true. -/
theorem coordinatorMakes_holds : Rows.CoordinatorMakesSaid :=
  OpenClaim.holds_of_wide 3 Tryz.f3 rfl rfl rfl rfl rfl rfl rfl ⟨rfl, rfl, rfl, rfl, rfl⟩ rfl rfl rfl rfl rfl named_coordinatorMakes Tryz.func3 joined_coordinatorMakes inst_coordinatorMakes wrap_coordinatorMakes
    (fun os started H enc _ => lifted_coordinatorMakes os started H enc)
/-- For every input the law answers true: the card. -/
theorem coordinatorMakes_card : Rows.CoordinatorMakesCardSaid :=
  Claim7.holds_tied_plain_at .later [] [.data, .data, .data] true (true, "3f396788ccd14554d1de80cc1d6cba17223f06ec0687cc00a1918b12c411db4e") false
    coordinatorMakes_holds (fun _ h => by cases h) (by kernel_rfl) (fun _ h => by cases h) coordinatorMakes_row_tie rfl ⟨rfl, rfl⟩ (by kernel_rfl) rfl
    (fun f fn hf hfn => by
      obtain rfl : f = 3 := Option.some.inj ((show Tryz.prog.funcNamed "gristmill/gristmilllaw21.CoordinatorMakes" = some 3 by kernel_rfl).symm.trans hf) |>.symm
      obtain rfl : fn = Tryz.f3 := (Option.some.inj (Tryz.func3.symm.trans hfn)).symm
      exact ⟨by kernel_rfl, fun j t ht => by
        rw [Tryz.params3] at ht
        have hm : t ∈ [25, 3, 27] := by simpa using Array.mem_of_getElem? ht
        have hall : ([25, 3, 27].all fun u => !Tryz.prog.wantsStandIn u) = true := by kernel_rfl
        exact (show Tryz.prog.wantsStandIn t = false by simpa using List.all_eq_true.1 hall t hm)⟩)
    (by kernel_rfl)
#print axioms coordinatorMakes_card
end Go.Proofs.YtcjeoljkbacdcaaGreatDoor
