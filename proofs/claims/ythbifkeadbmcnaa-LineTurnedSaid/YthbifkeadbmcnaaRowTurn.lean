/-
  For every input the law LineTurned answers true; each argument reads behind the call as it read before: the row, out of the law's contract.
-/
import Derived.Test.YthbifkeadbmcnaaRows
import Derived.Test.YthbifkeadbmcnaaDec
import Derived.Test.YthbifkeadbmcnaaLawTurn
import Derived.Test.YthbifkeadbmcnaaAwTop
set_option linter.unusedVariables false
set_option linter.unusedSimpArgs false
namespace Go.Proofs.Ythbifkeadbmcnaa
open Go Go.AW Go.ChangeShapes Go.WideShapes Go.ChangeAt Go.RowKit
open Go.ChangeMaps (open_string shut_string)
set_option linter.unusedVariables false
theorem own_lineTurned : ownKnob Try.prog.godebug = none := by kernel_rfl
theorem laidOut_lineTurned : laidOutB Try.prog = true := by kernel_rfl
set_option maxRecDepth 100000 in
theorem lifted_lineTurned (os : Os) (started : os.Started) (H : Type) (enc : TypeId × Value → H) :
    ReturnsInHanded {} Try.checked os 8 .any (Rows.lineTurnedSpec.pre6 enc Try.prog Try.f8 Rows.lineTurnedRow.domain false) (Rows.lineTurnedSpec.post enc Try.prog Try.f8 false true false false) := by
  refine returnsInHanded_of_change_sized (C := Try.checked) own_lineTurned started (by kernel_rfl) Try.func8
    (ChangeSpec.witness6 (enc := enc) (C := Try.checked) false ⟨#[], #[.slice none 0 0, .slice none 0 0, .int .i64 0], []⟩ 8 (by kernel_rfl) (by kernel_rfl) (by kernel_rfl) (by kernel_rfl)) ?_
  intro W base args ds gs before hval0 hW hcnd hsz0 _
  have hval : ∀ (j : Nat) t v, Try.f8.params[j]? = some t → args[j]? = some v → Value.okWide Try.prog W .any base t v := hval0
  have hW' := hW
  obtain ⟨p, q, hA0, hV, rfl, hfz, hnd⟩ := hW
  have hA : DataW.TrodAll enc Try.prog W 0 (fun _ => true) true Try.f8.params.toList args.toList ds p := hA0
  rw [Try.params8] at hA hval
  obtain ⟨v0, vs0, d0, ds0, p0, q0, hargs, rfl, rfl, h0, r0⟩ := trodAll_cons hA
  obtain ⟨v1, vs1, d1, ds1, p1, q1, rfl, rfl, rfl, h1, r1⟩ := trodAll_cons r0
  obtain ⟨v2, vs2, d2, ds2, p2, q2, rfl, rfl, rfl, h2, r2⟩ := trodAll_cons r1
  obtain ⟨rfl, rfl, rfl⟩ := trodAll_nil r2
  obtain rfl : args = #[v0, v1, v2] := by cases args; simp_all
  obtain ⟨rfl, rfl⟩ := trodVars_none hV
  obtain ⟨a0, len0, cap0, rfl⟩ := okWide_slice Try.underlying22 (hval 0 22 v0 rfl rfl)
  have k0 := h0
  have lt0 : ∀ x ∈ p0, x.block < W.heap.size := by obtain ⟨m, hm⟩ := k0; exact DataW.trod_lt m _ _ _ hm
  obtain ⟨o0, good0, l0, c0, hl0, wf0, rd0⟩ := read_slice (cells := Seg.cells) Try.underlying22 (d := 10) (ks := [.int .i64, .int .i64, .int .i64, .int .i64, .int .i64]) (by kernel_rfl) rfl (by decide) decSeg h0 (by kernel_rfl)
  obtain ⟨a1, len1, cap1, rfl⟩ := okWide_slice Try.underlying22 (hval 1 22 v1 rfl rfl)
  have k1 := h1
  have lt1 : ∀ x ∈ p1, x.block < W.heap.size := by obtain ⟨m, hm⟩ := k1; exact DataW.trod_lt m _ _ _ hm
  obtain ⟨o1, good1, l1, c1, hl1, wf1, rd1⟩ := read_slice (cells := Seg.cells) Try.underlying22 (d := 10) (ks := [.int .i64, .int .i64, .int .i64, .int .i64, .int .i64]) (by kernel_rfl) rfl (by decide) decSeg h1 (by kernel_rfl)
  obtain ⟨a2, rfl, rfl, rfl, w2⟩ := open_int Try.underlying3 (hval 2 3 v2 rfl rfl) h2
  obtain ⟨e0, vr0, sl0, ar0⟩ := rd0 0 (renOf [o0, o1]) ([o0, o1].map objOf) rfl rfl
  obtain ⟨e1, vr1, sl1, ar1⟩ := rd1 1 (renOf [o0, o1]) ([o0, o1].map objOf) rfl rfl
  have good : ∀ o ∈ ([o0, o1] : List AW.Given), AW.Good W o := by
    intro o ho
    simp only [List.mem_cons, List.not_mem_nil, or_false] at ho
    rcases ho with rfl | rfl
    · exact good0
    · exact good1
  have main := calls_true [o0, o1] good (lineTurned l0 l1 a2 e0 e1 c0 c1 _ sl0 sl1 ar0 ar1 wf0 wf1 w2) (VRs.cons vr0 (VRs.cons vr1 (VRs.cons (.int _ _) VRs.nil)))
  refine main.mono fun e W' ⟨he, bel⟩ => ?_
  subst he
  exact ⟨_, rfl, _, _, _, [], _, [], hW', trodAll_mk1 (shut_bool Try.underlying4 _), (trodAll_cons_mk (Below.trod laidOut_lineTurned (by kernel_rfl) (of_decide_eq_true (by kernel_rfl)) k0 bel lt0) (trodAll_cons_mk (Below.trod laidOut_lineTurned (by kernel_rfl) (of_decide_eq_true (by kernel_rfl)) k1 bel lt1) (trodAll_cons_mk (shut_int Try.underlying3 w2) trodAll_mk0))), rfl, bel.frame _, fun h => by cases h⟩
/-- For every input the law answers true. -/
theorem lineTurned_holds : Rows.LineTurnedSaid :=
  OpenClaim.holds_of_wide 8 Try.f8 rfl rfl rfl rfl rfl rfl rfl ⟨rfl, rfl, rfl, rfl, rfl⟩ rfl rfl rfl rfl rfl (by kernel_rfl) Try.func8 (by kernel_rfl)
    (of_decide_eq_true (by kernel_rfl)) (by unfold Func.isWrapper; first | (rw [if_pos (by decide +kernel)]; kernel_rfl) | (rw [if_neg (by decide +kernel)]; exact ⟨rfl, rfl⟩))
    (fun os started H enc _ => lifted_lineTurned os started H enc)
#print axioms lineTurned_holds
end Go.Proofs.Ythbifkeadbmcnaa
