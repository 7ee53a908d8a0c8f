/-
  For every input the law RealtimeMakes answers true; each argument reads behind the call as it read before: the row, out of the law's contract.
-/
import Derived.Test.YtpehfhnmcpdllaaGreatDoorRows
import Derived.Test.YtpehfhnmcpdllaaGreatDoorCards
import Derived.Test.YtpehfhnmcpdllaaGreatDoorTie
import Derived.LaidMore
import Derived.Stop.Joined
import Derived.SevenTiedAt
import Derived.Test.YtpehfhnmcpdllaaGreatDoorLawMakes
import Derived.Test.YtpehfhnmcpdllaaGreatDoorAwTop
set_option linter.unusedVariables false
set_option linter.unusedSimpArgs false
namespace Go.Proofs.YtpehfhnmcpdllaaGreatDoor
open Go Go.AW Go.ChangeShapes Go.WideShapes Go.ChangeAt Go.RowKit
open Go.ChangeMaps (open_string shut_string)
set_option linter.unusedVariables false
theorem own_realtimeMakes : ownKnob Tryz.prog.godebug = none := by kernel_rfl
theorem laidOut_realtimeMakes : laidOutB Tryz.prog = true := by kernel_rfl
theorem doorMet_realtimeMakes (os : Os) (args : Array Value) : laidMetH Tryz.prog Rows.realtimeMakesRow.laid ((World.doorLaid Tryz.prog 24 os).forCall (fun _ _ => 0) ⟨#[], args, []⟩).memory :=
  laidMetH_of_parts3 (fuel := 8) (laidMet_of_run' 8 (by kernel_rfl) (by kernel_rfl)) (by kernel_rfl) (by kernel_rfl)
set_option maxRecDepth 100000 in
theorem lifted_realtimeMakes (os : Os) (started : os.Started) (H : Type) (enc : TypeId × Value → H) :
    ReturnsInHanded {} Tryz.checked os 3 .any (fun w args => (Rows.realtimeMakesSpec.pre enc Tryz.prog Tryz.f3 Rows.realtimeMakesRow.domain false w args ∧ laidMetH Tryz.prog Rows.realtimeMakesRow.laid w) ∧ sizedMet enc Tryz.prog Tryz.f3 (OpenSpec.ofChange Rows.realtimeMakesSpec) false w args) (Rows.realtimeMakesSpec.post enc Tryz.prog Tryz.f3 false true false false) := by
  refine returnsInHanded_of_change_and (C := Tryz.checked) (X := fun w _ => laidMetH Tryz.prog Rows.realtimeMakesRow.laid w) (fun _ _ _ hh h => h.of_heap hh) own_realtimeMakes started (by kernel_rfl) Tryz.func3
    (ChangeSpec.witness_shaped (enc := enc) (C := Tryz.checked) (os := os) (X := fun w _ => laidMetH Tryz.prog Rows.realtimeMakesRow.laid w) false (World.doorLaid Tryz.prog 24 os) #[.agg #[.int .i64 0, .int .i64 0, .int .i64 0, .int .i64 0, .int .i64 0, .int .i64 0, .int .i64 0, .int .i64 0, .int .i64 0, .int .i64 0], .int .i64 0, .slice none 0 0, .int .i64 0] 8 rfl (World.shaped_of_RefB (by kernel_rfl) (by kernel_rfl)) (by kernel_rfl) (by kernel_rfl) (by kernel_rfl) (doorMet_realtimeMakes os _)) ?_
  intro W base args ds gs before hval0 hW hcnd hsz0 _ _
  have hval : ∀ (j : Nat) t v, Tryz.f3.params[j]? = some t → args[j]? = some v → Value.okWide Tryz.prog W .any base t v := hval0
  have hW' := hW
  obtain ⟨p, q, hA0, hV, rfl, hfz, hnd⟩ := hW
  have hA : DataW.TrodAll enc Tryz.prog W 0 (fun _ => true) true Tryz.f3.params.toList args.toList ds p := hA0
  rw [Tryz.params3] at hA hval
  obtain ⟨v0, vs0, d0, ds0, p0, q0, hargs, rfl, rfl, h0, r0⟩ := trodAll_cons hA
  obtain ⟨v1, vs1, d1, ds1, p1, q1, rfl, rfl, rfl, h1, r1⟩ := trodAll_cons r0
  obtain ⟨v2, vs2, d2, ds2, p2, q2, rfl, rfl, rfl, h2, r2⟩ := trodAll_cons r1
  obtain ⟨v3, vs3, d3, ds3, p3, q3, rfl, rfl, rfl, h3, r3⟩ := trodAll_cons r2
  obtain ⟨rfl, rfl, rfl⟩ := trodAll_nil r3
  obtain rfl : args = #[v0, v1, v2, v3] := by cases args; simp_all
  obtain ⟨rfl, rfl⟩ := trodVars_none hV
  have k0 := h0
  have lt0 : ∀ x ∈ p0, x.block < W.heap.size := by obtain ⟨m, hm⟩ := k0; exact DataW.trod_lt m _ _ _ hm
  obtain ⟨cs0, rfl, fit0⟩ := open_struct (d := 10) (ks := [.int .i64, .int .i64, .int .i64, .int .i64, .int .i64, .int .i64, .int .i64, .int .i64, .int .i64, .int .i64]) Tryz.underlying25 (by kernel_rfl) (hval 0 25 v0 rfl rfl) h0
  have vr0 := vr_struct fit0
  obtain ⟨s0, rfl, wf0⟩ := decSetup cs0 fit0
  obtain ⟨a1, rfl, rfl, rfl, w1⟩ := open_int Tryz.underlying3 (hval 1 3 v1 rfl rfl) h1
  obtain ⟨a2, len2, cap2, rfl⟩ := okWide_slice Tryz.underlying26 (hval 2 26 v2 rfl rfl)
  have k2 := h2
  have lt2 : ∀ x ∈ p2, x.block < W.heap.size := by obtain ⟨m, hm⟩ := k2; exact DataW.trod_lt m _ _ _ hm
  obtain ⟨o2, good2, l2, c2, hl2, wf2, rd2⟩ := read_slice (cells := encU) Tryz.underlying26 (d := 10) (ks := [.int .u64]) (by kernel_rfl) rfl (by decide) decU h2 (by kernel_rfl)
  obtain ⟨a3, rfl, rfl, rfl, w3⟩ := open_int Tryz.underlying3 (hval 3 3 v3 rfl rfl) h3
  obtain ⟨e2, vr2, sl2, ar2⟩ := rd2 0 (renOf [o2]) ([o2].map objOf) rfl rfl
  have good : ∀ o ∈ ([o2] : List AW.Given), AW.Good W o := by
    intro o ho
    simp only [List.mem_cons, List.not_mem_nil, or_false] at ho
    subst ho
    · exact good2
  have main := calls_true [o2] good (realtimeMakes' s0 a1 l2 a3 e2 c2 _ sl2 ar2 wf2 w1 w3) (VRs.cons (vr0 _) (VRs.cons (.int _ _) (VRs.cons vr2 (VRs.cons (.int _ _) VRs.nil))))
  refine main.mono fun e W' ⟨he, bel⟩ => ?_
  subst he
  exact ⟨_, rfl, _, _, _, [], _, [], hW', trodAll_mk1 (shut_bool Tryz.underlying4 _), (trodAll_cons_mk (Below.trod laidOut_realtimeMakes (by kernel_rfl) (of_decide_eq_true (by kernel_rfl)) k0 bel lt0) (trodAll_cons_mk (shut_int Tryz.underlying3 w1) (trodAll_cons_mk (Below.trod laidOut_realtimeMakes (by kernel_rfl) (of_decide_eq_true (by kernel_rfl)) k2 bel lt2) (trodAll_cons_mk (shut_int Tryz.underlying3 w3) trodAll_mk0)))), rfl, bel.frame _, fun h => by cases h⟩
set_option maxRecDepth 100000 in
set_option maxHeartbeats 8000000 in
theorem joined_realtimeMakes : joinedFacts Tryz.pinned.checked.prog 3 Tryz.f3 Rows.realtimeMakesSpec Rows.realtimeMakesRow = true := by
  unfold joinedFacts
  repeat' (first | with_reducible refine and_true2 ?_ ?_ | (as_aux_lemma => kernel_rfl))
theorem named_realtimeMakes : Tryz.pinned.checked.prog.funcNamed Rows.realtimeMakesRow.func = some 3 := by kernel_rfl
theorem inst_realtimeMakes : Tryz.f3.isInstance Tryz.pinned.checked.prog Rows.realtimeMakesRow.origin Rows.realtimeMakesRow.targs := of_decide_eq_true (by kernel_rfl)
theorem wrap_realtimeMakes : Tryz.f3.isWrapper Tryz.pinned.checked.prog Rows.realtimeMakesRow.wrapper Rows.realtimeMakesRow.mainSum := by unfold Func.isWrapper; first | (rw [if_pos (by decide +kernel)]; kernel_rfl) | (rw [if_neg (by decide +kernel)]; exact ⟨rfl, rfl⟩)
/-- For every input the law answers true. -/
theorem realtimeMakes_holds : Rows.RealtimeMakesSaid :=
  OpenClaim.holds_of_wide 3 Tryz.f3 rfl rfl rfl rfl rfl rfl rfl ⟨rfl, rfl, rfl, rfl, rfl⟩ rfl rfl rfl rfl rfl named_realtimeMakes Tryz.func3 joined_realtimeMakes inst_realtimeMakes wrap_realtimeMakes
    (fun os started H enc _ => lifted_realtimeMakes os started H enc)
end Go.Proofs.YtpehfhnmcpdllaaGreatDoor
