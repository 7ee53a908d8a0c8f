/-
  For every input the law HistoricalTerms answers true; each argument reads behind the call as it read before: the row, out of the law's contract.
-/
import Derived.Test.YtahopobanopkfaaGreatDoorRows
import Derived.Test.YtahopobanopkfaaGreatDoorCards
import Derived.Test.YtahopobanopkfaaGreatDoorTie
import Derived.LaidMore
import Derived.Stop.Joined
import Derived.SevenTiedAt
import Derived.Test.YtahopobanopkfaaGreatDoorLawTerms
import Derived.Test.YtahopobanopkfaaGreatDoorAwTop
set_option linter.unusedVariables false
set_option linter.unusedSimpArgs false
namespace Go.Proofs.YtahopobanopkfaaGreatDoor
open Go Go.AW Go.ChangeShapes Go.WideShapes Go.ChangeAt Go.RowKit
open Go.ChangeMaps (open_string shut_string)
set_option linter.unusedVariables false
theorem own_historicalTerms : ownKnob Tryz.prog.godebug = none := by kernel_rfl
theorem laidOut_historicalTerms : laidOutB Tryz.prog = true := by kernel_rfl
theorem doorMet_historicalTerms (os : Os) (args : Array Value) : laidMetH Tryz.prog Rows.historicalTermsRow.laid ((World.doorLaid Tryz.prog 62 os).forCall (fun _ _ => 0) ⟨#[], args, []⟩).memory :=
  laidMetH_of_parts3 (fuel := 8) (laidMet_of_run' 8 (by kernel_rfl) (by kernel_rfl)) (by kernel_rfl) (by kernel_rfl)
set_option maxRecDepth 100000 in
theorem lifted_historicalTerms (os : Os) (started : os.Started) (H : Type) (enc : TypeId × Value → H) :
    ReturnsInHanded {} Tryz.checked os 3 .any (fun w args => (Rows.historicalTermsSpec.pre enc Tryz.prog Tryz.f3 Rows.historicalTermsRow.domain false w args ∧ laidMetH Tryz.prog Rows.historicalTermsRow.laid w) ∧ sizedMet enc Tryz.prog Tryz.f3 (OpenSpec.ofChange Rows.historicalTermsSpec) false w args) (Rows.historicalTermsSpec.post enc Tryz.prog Tryz.f3 false true false false) := by
  refine returnsInHanded_of_change_and (C := Tryz.checked) (X := fun w _ => laidMetH Tryz.prog Rows.historicalTermsRow.laid w) (fun _ _ _ hh h => h.of_heap hh) own_historicalTerms started (by kernel_rfl) Tryz.func3
    (ChangeSpec.witness_shaped (enc := enc) (C := Tryz.checked) (os := os) (X := fun w _ => laidMetH Tryz.prog Rows.historicalTermsRow.laid w) false (World.doorLaid Tryz.prog 62 os) #[.agg #[.int .i64 0, .int .i64 0, .int .i64 0, .int .i64 0, .int .i64 0, .int .i64 0, .int .i64 0, .int .i64 0, .int .i64 0, .int .i64 0], .slice none 0 0, .slice none 0 0] 8 rfl (World.shaped_of_RefB (by kernel_rfl) (by kernel_rfl)) (by kernel_rfl) (by kernel_rfl) (by kernel_rfl) (doorMet_historicalTerms os _)) ?_
  intro W base args ds gs before hval0 hW hcnd hsz0 _ _
  have hval : ∀ (j : Nat) t v, Tryz.f3.params[j]? = some t → args[j]? = some v → Value.okWide Tryz.prog W .any base t v := hval0
  have hW' := hW
  obtain ⟨p, q, hA0, hV, rfl, hfz, hnd⟩ := hW
  have hA : DataW.TrodAll enc Tryz.prog W 0 (fun _ => true) true Tryz.f3.params.toList args.toList ds p := hA0
  rw [Tryz.params3] at hA hval
  obtain ⟨v0, vs0, d0, ds0, p0, q0, hargs, rfl, rfl, h0, r0⟩ := trodAll_cons hA
  obtain ⟨v1, vs1, d1, ds1, p1, q1, rfl, rfl, rfl, h1, r1⟩ := trodAll_cons r0
  obtain ⟨v2, vs2, d2, ds2, p2, q2, rfl, rfl, rfl, h2, r2⟩ := trodAll_cons r1
  obtain ⟨rfl, rfl, rfl⟩ := trodAll_nil r2
  obtain rfl : args = #[v0, v1, v2] := by cases args; simp_all
  obtain ⟨rfl, rfl⟩ := trodVars_none hV
  have k0 := h0
  have lt0 : ∀ x ∈ p0, x.block < W.heap.size := by obtain ⟨m, hm⟩ := k0; exact DataW.trod_lt m _ _ _ hm
  obtain ⟨cs0, rfl, fit0⟩ := open_struct (d := 10) (ks := [.int .i64, .int .i64, .int .i64, .int .i64, .int .i64, .int .i64, .int .i64, .int .i64, .int .i64, .int .i64]) Tryz.underlying25 (by kernel_rfl) (hval 0 25 v0 rfl rfl) h0
  have vr0 := vr_struct fit0
  obtain ⟨s0, rfl, wf0⟩ := decSetup cs0 fit0
  obtain ⟨a1, len1, cap1, rfl⟩ := okWide_slice Tryz.underlying26 (hval 1 26 v1 rfl rfl)
  have k1 := h1
  have lt1 : ∀ x ∈ p1, x.block < W.heap.size := by obtain ⟨m, hm⟩ := k1; exact DataW.trod_lt m _ _ _ hm
  obtain ⟨o1, good1, l1, c1, hl1, wf1, rd1⟩ := read_slice (cells := encI) Tryz.underlying26 (d := 10) (ks := [.int .i64]) (by kernel_rfl) rfl (by decide) decInt h1 (by kernel_rfl)
  obtain ⟨a2, len2, cap2, rfl⟩ := okWide_slice Tryz.underlying26 (hval 2 26 v2 rfl rfl)
  have k2 := h2
  have lt2 : ∀ x ∈ p2, x.block < W.heap.size := by obtain ⟨m, hm⟩ := k2; exact DataW.trod_lt m _ _ _ hm
  obtain ⟨o2, good2, l2, c2, hl2, wf2, rd2⟩ := read_slice (cells := encI) Tryz.underlying26 (d := 10) (ks := [.int .i64]) (by kernel_rfl) rfl (by decide) decInt h2 (by kernel_rfl)
  obtain ⟨e1, vr1, sl1, ar1⟩ := rd1 0 (renOf [o1, o2]) ([o1, o2].map objOf) rfl rfl
  obtain ⟨e2, vr2, sl2, ar2⟩ := rd2 1 (renOf [o1, o2]) ([o1, o2].map objOf) rfl rfl
  have good : ∀ o ∈ ([o1, o2] : List AW.Given), AW.Good W o := by
    intro o ho
    simp only [List.mem_cons, List.not_mem_nil, or_false] at ho
    rcases ho with rfl | rfl
    · exact good1
    · exact good2
  have main := calls_true [o1, o2] good (historicalTerms s0 wf0 l1 l2 e1 e2 c1 c2 _ sl1 sl2 ar1 ar2) (VRs.cons (vr0 _) (VRs.cons vr1 (VRs.cons vr2 VRs.nil)))
  refine main.mono fun e W' ⟨he, bel⟩ => ?_
  subst he
  exact ⟨_, rfl, _, _, _, [], _, [], hW', trodAll_mk1 (shut_bool Tryz.underlying4 _), (trodAll_cons_mk (Below.trod laidOut_historicalTerms (by kernel_rfl) (of_decide_eq_true (by kernel_rfl)) k0 bel lt0) (trodAll_cons_mk (Below.trod laidOut_historicalTerms (by kernel_rfl) (of_decide_eq_true (by kernel_rfl)) k1 bel lt1) (trodAll_cons_mk (Below.trod laidOut_historicalTerms (by kernel_rfl) (of_decide_eq_true (by kernel_rfl)) k2 bel lt2) trodAll_mk0))), rfl, bel.frame _, fun h => by cases h⟩
set_option maxRecDepth 100000 in
set_option maxHeartbeats 8000000 in
theorem joined_historicalTerms : joinedFacts Tryz.pinned.checked.prog 3 Tryz.f3 Rows.historicalTermsSpec Rows.historicalTermsRow = true := by
  unfold joinedFacts
  repeat' (first | with_reducible refine and_true2 ?_ ?_ | (as_aux_lemma => kernel_rfl))
theorem named_historicalTerms : Tryz.pinned.checked.prog.funcNamed Rows.historicalTermsRow.func = some 3 := by kernel_rfl
theorem inst_historicalTerms : Tryz.f3.isInstance Tryz.pinned.checked.prog Rows.historicalTermsRow.origin Rows.historicalTermsRow.targs := of_decide_eq_true (by kernel_rfl)
theorem wrap_historicalTerms : Tryz.f3.isWrapper Tryz.pinned.checked.prog Rows.historicalTermsRow.wrapper Rows.historicalTermsRow.mainSum := by unfold Func.isWrapper; first | (rw [if_pos (by decide +kernel)]; kernel_rfl) | (rw [if_neg (by decide +kernel)]; exact ⟨rfl, rfl⟩)
/-- For every input the law answers true. -/
theorem historicalTerms_holds : Rows.HistoricalTermsSaid :=
  OpenClaim.holds_of_wide 3 Tryz.f3 rfl rfl rfl rfl rfl rfl rfl ⟨rfl, rfl, rfl, rfl, rfl⟩ rfl rfl rfl rfl rfl named_historicalTerms Tryz.func3 joined_historicalTerms inst_historicalTerms wrap_historicalTerms
    (fun os started H enc _ => lifted_historicalTerms os started H enc)
/-- For every input the law answers true: the card. -/
theorem historicalTerms_card : Rows.HistoricalTermsCardSaid :=
  Claim7.holds_tied_plain_at .later [] [.data, .data, .data, .sentinel, .sentinel] true (true, "fae29ebce205205b92fa21cf91dd767d8f2cc419f7ee6d6531770cd4a1cb5e07") true
    historicalTerms_holds (fun _ h => by cases h) (by kernel_rfl) (fun _ h => by cases h) historicalTerms_row_tie rfl ⟨rfl, rfl⟩ (by kernel_rfl) rfl
    (fun f fn hf hfn => by
      obtain rfl : f = 3 := Option.some.inj ((show Tryz.prog.funcNamed "gristmill/gristmilllaw20.HistoricalTerms" = some 3 by kernel_rfl).symm.trans hf) |>.symm
      obtain rfl : fn = Tryz.f3 := (Option.some.inj (Tryz.func3.symm.trans hfn)).symm
      exact ⟨by kernel_rfl, fun j t ht => by
        rw [Tryz.params3] at ht
        have hm : t ∈ [25, 26, 26] := by simpa using Array.mem_of_getElem? ht
        have hall : ([25, 26, 26].all fun u => !Tryz.prog.wantsStandIn u) = true := by kernel_rfl
        exact (show Tryz.prog.wantsStandIn t = false by simpa using List.all_eq_true.1 hall t hm)⟩)
    (by kernel_rfl)
#print axioms historicalTerms_card
end Go.Proofs.YtahopobanopkfaaGreatDoor
