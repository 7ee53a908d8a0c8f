/-
  For every input the law HistoricalMakes answers true; each argument reads behind the call as it read before: the row, out of the law's contract.
-/
import Derived.Test.YtahopobanopkfaaGreatDoorRows
import Derived.Test.YtahopobanopkfaaGreatDoorCards
import Derived.Test.YtahopobanopkfaaGreatDoorTie
import Derived.LaidMore
import Derived.Stop.Joined
import Derived.SevenTiedAt
import Derived.Test.YtahopobanopkfaaGreatDoorLawMakes
import Derived.Test.YtahopobanopkfaaGreatDoorAwTop
set_option linter.unusedVariables false
set_option linter.unusedSimpArgs false
namespace Go.Proofs.YtahopobanopkfaaGreatDoor
open Go Go.AW Go.ChangeShapes Go.WideShapes Go.ChangeAt Go.RowKit
open Go.ChangeMaps (open_string shut_string)
set_option linter.unusedVariables false
theorem own_historicalMakes : ownKnob Tryz.prog.godebug = none := by kernel_rfl
theorem laidOut_historicalMakes : laidOutB Tryz.prog = true := by kernel_rfl
theorem doorMet_historicalMakes (os : Os) (args : Array Value) : laidMetH Tryz.prog Rows.historicalMakesRow.laid ((World.doorLaid Tryz.prog 62 os).forCall (fun _ _ => 0) ⟨#[], args, []⟩).memory :=
  laidMetH_of_parts3 (fuel := 8) (laidMet_of_run' 8 (by kernel_rfl) (by kernel_rfl)) (by kernel_rfl) (by kernel_rfl)
set_option maxRecDepth 100000 in
theorem lifted_historicalMakes (os : Os) (started : os.Started) (H : Type) (enc : TypeId × Value → H) :
    ReturnsInHanded {} Tryz.checked os 4 .any (fun w args => (Rows.historicalMakesSpec.pre enc Tryz.prog Tryz.f4 Rows.historicalMakesRow.domain false w args ∧ laidMetH Tryz.prog Rows.historicalMakesRow.laid w) ∧ sizedMet enc Tryz.prog Tryz.f4 (OpenSpec.ofChange Rows.historicalMakesSpec) false w args) (Rows.historicalMakesSpec.post enc Tryz.prog Tryz.f4 false true false false) := by
  refine returnsInHanded_of_change_and (C := Tryz.checked) (X := fun w _ => laidMetH Tryz.prog Rows.historicalMakesRow.laid w) (fun _ _ _ hh h => h.of_heap hh) own_historicalMakes started (by kernel_rfl) Tryz.func4
    (ChangeSpec.witness_shaped (enc := enc) (C := Tryz.checked) (os := os) (X := fun w _ => laidMetH Tryz.prog Rows.historicalMakesRow.laid w) false (World.doorLaid Tryz.prog 62 os) #[.agg #[.int .i64 0, .int .i64 0, .int .i64 0, .int .i64 0, .int .i64 0, .int .i64 0, .int .i64 0, .int .i64 0, .int .i64 0, .int .i64 0], .int .i64 0, .bool false] 8 rfl (World.shaped_of_RefB (by kernel_rfl) (by kernel_rfl)) (by kernel_rfl) (by kernel_rfl) (by kernel_rfl) (doorMet_historicalMakes os _)) ?_
  intro W base args ds gs before hval0 hW hcnd hsz0 _ _
  have hval : ∀ (j : Nat) t v, Tryz.f4.params[j]? = some t → args[j]? = some v → Value.okWide Tryz.prog W .any base t v := hval0
  have hW' := hW
  obtain ⟨p, q, hA0, hV, rfl, hfz, hnd⟩ := hW
  have hA : DataW.TrodAll enc Tryz.prog W 0 (fun _ => true) true Tryz.f4.params.toList args.toList ds p := hA0
  rw [Tryz.params4] at hA hval
  obtain ⟨v0, vs0, d0, ds0, p0, q0, hargs, rfl, rfl, h0, r0⟩ := trodAll_cons hA
  obtain ⟨v1, vs1, d1, ds1, p1, q1, rfl, rfl, rfl, h1, r1⟩ := trodAll_cons r0
  obtain ⟨v2, vs2, d2, ds2, p2, q2, rfl, rfl, rfl, h2, r2⟩ := trodAll_cons r1
  obtain ⟨rfl, rfl, rfl⟩ := trodAll_nil r2
  obtain rfl : args = #[v0, v1, v2] := by cases args; simp_all
  obtain ⟨rfl, rfl⟩ := trodVars_none hV
  have k0 := h0
  have lt0 : ∀ x ∈ p0, x.block < W.heap.size := by obtain ⟨m, hm⟩ := k0; exact DataW.trod_lt m _ _ _ hm
  obtain ⟨cs0, rfl, fit0⟩ := open_struct (d := 10) (ks := [.int .i64, .int .i64, .int .i64, .int .i64, .int .i64, .int .i64, .int .i64, .int .i64, .int .i64, .int .i64]) Tryz.underlying25 (by kernel_rfl) (hval 0 25 v0 rfl rfl) h0
  have vr0 := vr_struct fit0
  obtain ⟨s0, rfl, wf0⟩ := decSetup cs0 fit0
  obtain ⟨a1, rfl, rfl, rfl, w1⟩ := open_int Tryz.underlying3 (hval 1 3 v1 rfl rfl) h1
  obtain ⟨a2, rfl, rfl, rfl⟩ := open_bool Tryz.underlying4 (hval 2 4 v2 rfl rfl) h2
  have good : ∀ o ∈ ([] : List AW.Given), AW.Good W o := by
    intro o ho
    cases ho
  have main := calls_true [] good (historicalMakes s0 a1 a2 _) (VRs.cons (vr0 _) (VRs.cons (.int _ _) (VRs.cons (.bool _) VRs.nil)))
  refine main.mono fun e W' ⟨he, bel⟩ => ?_
  subst he
  exact ⟨_, rfl, _, _, _, [], _, [], hW', trodAll_mk1 (shut_bool Tryz.underlying4 _), (trodAll_cons_mk (Below.trod laidOut_historicalMakes (by kernel_rfl) (of_decide_eq_true (by kernel_rfl)) k0 bel lt0) (trodAll_cons_mk (shut_int Tryz.underlying3 w1) (trodAll_cons_mk (shut_bool Tryz.underlying4 _) trodAll_mk0))), rfl, bel.frame _, fun h => by cases h⟩
set_option maxRecDepth 100000 in
set_option maxHeartbeats 8000000 in
theorem joined_historicalMakes : joinedFacts Tryz.pinned.checked.prog 4 Tryz.f4 Rows.historicalMakesSpec Rows.historicalMakesRow = true := by
  unfold joinedFacts
  repeat' (first | with_reducible refine and_true2 ?_ ?_ | (as_aux_lemma => kernel_rfl))
theorem named_historicalMakes : Tryz.pinned.checked.prog.funcNamed Rows.historicalMakesRow.func = some 4 := by kernel_rfl
theorem inst_historicalMakes : Tryz.f4.isInstance Tryz.pinned.checked.prog Rows.historicalMakesRow.origin Rows.historicalMakesRow.targs := of_decide_eq_true (by kernel_rfl)
theorem wrap_historicalMakes : Tryz.f4.isWrapper Tryz.pinned.checked.prog Rows.historicalMakesRow.wrapper Rows.historicalMakesRow.mainSum := by unfold Func.isWrapper; first | (rw [if_pos (by decide +kernel)]; kernel_rfl) | (rw [if_neg (by decide +kernel)]; exact ⟨rfl, rfl⟩)
/-- For every input the law answers true. -/
theorem historicalMakes_holds : Rows.HistoricalMakesSaid :=
  OpenClaim.holds_of_wide 4 Tryz.f4 rfl rfl rfl rfl rfl rfl rfl ⟨rfl, rfl, rfl, rfl, rfl⟩ rfl rfl rfl rfl rfl named_historicalMakes Tryz.func4 joined_historicalMakes inst_historicalMakes wrap_historicalMakes
    (fun os started H enc _ => lifted_historicalMakes os started H enc)
end Go.Proofs.YtahopobanopkfaaGreatDoor
