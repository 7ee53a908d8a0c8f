/-
  blob.tried: of what throws nothing.
-/
import Derived.Test.YtahopobanopkfaaGreatDoorFacts
import Derived.Test.YtahopobanopkfaaGreatDoorAwSplit
import Derived.Recover
set_option linter.unusedVariables false
set_option linter.unusedSimpArgs false
namespace Go.Proofs.YtahopobanopkfaaGreatDoor
open Go Go.AW
set_option linter.unusedSimpArgs false
set_option maxRecDepth 100000

/-- the deferred function, where nothing was thrown -/
theorem triedEnd {ρ : Ren} {H : AHeap} {F : Frm} {w : World} {x x' : Value} (hR : Rel ρ H F w) (hx : VR ρ x x') :
    CallsD Tryz.prog 107 #[x'] .returning w fun e u' w' => (∃ v, e = .returned v) ∧ u' = .returning ∧ ∃ ρ', Rel ρ' H F w' ∧ Ext H ρ ρ' := by
  refine callsD_of_wpS Tryz.func107 rfl fun c₀ cs hc => ?_
  have hT0 := TR.start (n := 12) (VRs.cons hx VRs.nil) (by simp)
  rw [show (Tryz.f107).ntmps = 12 by kernel_rfl]
  have hact : ({ tmps := #[x'] ++ Array.replicate (12 - (#[x'] : Array Value).size) undef, defers := [] } : Act) = { tmps := [x'].toArray ++ Array.replicate (12 - [x'].toArray.size) undef, defers := [] } := rfl
  rw [hact]
  generalize ({ tmps := [x'].toArray ++ Array.replicate (12 - [x'].toArray.size) undef, defers := [] } : Act) = a0 at hT0 ⊢
  refine wpS_seq (wpS_region ?_)
  have hrec : recoverD (c₀ :: cs) = none := by simp [recoverD, hc]
  have hT1 : TR ρ 12 [] (Tm.put (fun t => [x].getD t undef) (some 4) .nilIface) (a0.put (some 4) .nilIface) := hT0.put (d := some 4) (fun d hd => by obtain rfl := Option.some.inj hd; decide) .nilIface
  show wpOpsS _ _ _ [0] _ _ _
  have hrun : ∀ (e : Operand → Value), (do let d ← resolve e { callee := .builtin .recover, args := #[], argTypes := #[] } 20; invoke d.target d.args : Sem Next).run Tryz.prog w = .ok .recover w := fun e => by simp [resolve, invoke, builtin]
  simp only [wpOpsS, List.getElem?_toArray, List.getElem?_cons_zero, Region.wanted, execOp, hrun, hrec, if_true]
  refine wpS_of_wp ?_
  refine sim_code (n := 12) (F := F) (ds := []) mixed _ (by kernel_rfl) (Qa := fun e T' H' => e = .normal ∧ H' = H) ?_ hR hT1 ?_
  · simp -dsimp only [go_sem, ↓reduceIte, Nat.reduceEqDiff, Nat.reduceAdd, Nat.reduceMul, Nat.reduceSub, Nat.reduceLeDiff, Nat.reduceLT]
  · rintro e T' H' ρ' a' w' ⟨rfl, rfl⟩ hr hx hl ht
    refine ⟨ht.defers, .returning, by rw [← hc], ?_⟩
    obtain ⟨v', g1, g2⟩ := sim_results (fn := Tryz.f107) (vs := []) (by kernel_rfl) hr ht rfl
    exact ⟨v', g1, ⟨v', rfl⟩, rfl, ρ', hr, hx⟩

/-- what is tried throws nothing: OK -/
theorem triedLaw {g : FuncId} {cap : List Value} {H : AHeap} (h : Sound Tryz.prog g cap (H ++ [.row [.int .i64 0] 1 true]) fun _ H' => H ++ [.row [.int .i64 0] 1 true] <+: H') :
    Sound Tryz.prog 41 [.func (.func g) #[] cap.toArray] H fun v H' => v = .int .i64 0 ∧ H <+: H' := by
  refine ⟨enters_body Tryz.func41 (by kernel_rfl) rfl, fun ρ F w args' hR hv => calls_of_wp_defers Tryz.func41 rfl ?_⟩
  have hT0 := TR.start (n := 6) hv (by simp)
  rw [show (Tryz.f41).ntmps = 6 by kernel_rfl]
  generalize ({ tmps := args'.toArray ++ Array.replicate (6 - args'.toArray.size) undef, defers := [] } : Act) = a0 at hT0 ⊢
  refine wp_seq (sim_code (n := 6) (F := F) (ds := []) mixed _ (by kernel_rfl) (Qa := fun e T' H' => e = .normal ∧ T' 0 = .func (.func g) #[] cap.toArray ∧ T' 2 = .pointer (some ⟨H.length, 0, none⟩) ∧ H' = H ++ [.row [.int .i64 0] 1 true]) ?_ hR hT0 ?_)
  · simp -dsimp only [go_sem, ↓reduceIte, Nat.reduceEqDiff, Nat.reduceAdd, Nat.reduceMul, Nat.reduceSub, Nat.reduceLeDiff, Nat.reduceLT]
  rintro e T1 H1 ρ1 a1 w1 ⟨rfl, t0, t2, rfl⟩ hR1 hX1 hL1 hT1
  simp only [Exit.then]
  -- the function is deferred
  have hv2 : VR ρ1 (.pointer (some ⟨H.length, 0, none⟩)) (a1.eval (.tmp 2)) := by have := hT1.eval (x := .tmp 2) (by decide); rw [show aev T1 (.tmp 2) = _ from t2] at this; exact this
  obtain ⟨x', hx'⟩ : ∃ x', a1.eval (.tmp 2) = x' := ⟨_, rfl⟩
  rw [hx'] at hv2
  have hT2 : TR ρ1 6 [{ target := .fn (.func 107) #[x'], args := #[] }] (T1.put (some 3) (.func (.func 107) #[] #[.pointer (some ⟨H.length, 0, none⟩)])) ({ (a1.put (some 3) (.func (.func 107) #[] #[x'])) with defers := [{ target := .fn (.func 107) #[x'], args := #[] }] }) := by
    have := hT1.put (d := some 3) (fun d hd => by obtain rfl := Option.some.inj hd; decide) (show VR ρ1 (.func (.func 107) #[] #[.pointer (some ⟨H.length, 0, none⟩)]) (.func (.func 107) #[] #[x']) from .func _ rfl rfl (by simp) (fun i u u' hu hu' => by
      match i, hu, hu' with
      | 0, hu, hu' => simp at hu hu'; subst hu; subst hu'; exact hv2))
    exact ⟨this.size, rfl, this.vr⟩
  refine wp_seq (wp_region ?_)
  show wpOps _ _ _ [0, 1] _ _
  have e3 : (a1.put (some 3) (.func (.func 107) #[] #[x'])).eval (.tmp 3) = .func (.func 107) #[] #[x'] := by
    show (a1.tmps.setIfInBounds 3 _).getD 3 undef = _
    have hs : 3 < a1.tmps.size := by have := hT1.size; omega
    rw [Array.getD_eq_getD_getElem?, Array.getElem?_setIfInBounds, if_pos rfl, if_pos hs]; rfl
  simp only [wpOps, List.getElem?_toArray, List.getElem?_cons_zero, List.getElem?_cons_succ, Region.wanted, if_true]
  refine .inl ?_
  have r1 : (execOp a1.eval ⟨some 3, .makeFunc (.func 107) #[] #[.tmp 2], 1, "blob.go:33", #[], none⟩).run Tryz.prog w1 = .ok (.value (.func (.func 107) #[] #[x'])) w1 := by
    simp [execOp, Instr.makeFunc, hx']
  unfold Oper.wp
  rw [r1]
  rw [Oper.upon_value]
  refine .inl ?_
  have r2 : (execOp (a1.put (some 3) (.func (.func 107) #[] #[x'])).eval ⟨none, .defer { callee := .value (.tmp 3), args := #[], argTypes := #[] }, 0, "blob.go:33", #[{ on := 0, ground := .data }], none⟩).run Tryz.prog w1 = .ok (.defer { target := .fn (.func 107) #[x'], args := #[] }) w1 := by
    simp [execOp, resolve, e3, Deferred.ofValue]
  show Oper.upon _ _ _ _ _ ((execOp (a1.put (some 3) (.func (.func 107) #[] #[x'])).eval ⟨none, .defer { callee := .value (.tmp 3), args := #[], argTypes := #[] }, 0, "blob.go:33", #[{ on := 0, ground := .data }], none⟩).run Tryz.prog w1)
  rw [r2, Oper.upon_defer]
  simp only [Exit.then]
  have hact : (({ (a1.put (some 3) (.func (.func 107) #[] #[x'])) with defers := { target := .fn (.func 107) #[x'], args := #[] } :: (a1.put (some 3) (.func (.func 107) #[] #[x'])).defers } : Act).put none undef) = { (a1.put (some 3) (.func (.func 107) #[] #[x'])) with defers := [{ target := .fn (.func 107) #[x'], args := #[] }] } := by
    simp [Act.put, hT1.defers]
  refine Eq.mpr (congrArg (fun q => Code.wp _ _ _ q w1) hact) ?_
  generalize ({ (a1.put (some 3) (.func (.func 107) #[] #[x'])) with defers := [{ target := .fn (.func 107) #[x'], args := #[] }] } : Act) = a2 at hT2
  have t0' : (T1.put (some 3) (.func (.func 107) #[] #[.pointer (some ⟨H.length, 0, none⟩)])) 0 = .func (.func g) #[] cap.toArray := t0
  have t2' : (T1.put (some 3) (.func (.func 107) #[] #[.pointer (some ⟨H.length, 0, none⟩)])) 2 = .pointer (some ⟨H.length, 0, none⟩) := t2
  generalize T1.put (some 3) (.func (.func 107) #[] #[.pointer (some ⟨H.length, 0, none⟩)]) = T2 at hT2 t0' t2'
  refine sim_code (n := 6) (F := F) (ds := [{ target := .fn (.func 107) #[x'], args := #[] }]) mixed _ (by kernel_rfl) (Qa := fun e T' H' => e = .ret ∧ T' 2 = .pointer (some ⟨H.length, 0, none⟩) ∧ H ++ [.row [.int .i64 0] 1 true] <+: H') ?_ hR1 hT2 ?_
  · simp -dsimp only [go_sem, ↓reduceIte, Nat.reduceEqDiff, Nat.reduceAdd, Nat.reduceMul, Nat.reduceSub, Nat.reduceLeDiff, Nat.reduceLT, t0', t2']
    refine SoundP_of h ?_
    rintro v H2 p2
    have b2 := pre_get p2 (get_end H (AObj.row [.int .i64 0] 1 true) [])
    simp -dsimp only [go_sem, ↓reduceIte, Nat.reduceEqDiff, Nat.reduceAdd, Nat.reduceMul, Nat.reduceSub, Nat.reduceLeDiff, Nat.reduceLT, t0', t2', b2]
    refine p2.trans (List.prefix_iff_getElem?.2 fun j hj => ?_)
    by_cases e : j = H.length
    · subst e
      rw [List.getElem?_set_self hj, ← b2, List.getElem?_eq_getElem hj]
    · rw [List.getElem?_set_ne (Ne.symm e), List.getElem?_eq_getElem hj]
  · rintro e T3 H3 ρ3 a3 w3 ⟨rfl, t3, p3⟩ hr3 hx3 hl3 ht3
    show Leaves _ _ _ _ a3.defers .returning w3
    rw [ht3.defers]
    have hi : (invoke (.fn (.func 107) #[x']) #[]).run Tryz.prog w3 = .ok (.enter 107 #[x']) w3 := by
      have := enters_body Tryz.func107 (by kernel_rfl) rfl #[x'] w3
      simp only [invoke]
      exact this
    refine leaves_cons (by simp) hi ((triedEnd hr3 (hv2.mono (hR1.ext hx3))).mono ?_)
    rintro e u' w4 ⟨⟨v, rfl⟩, rfl, ρ4, hr4, hx4⟩
    have b3 := pre_get p3 (get_end H (AObj.row [.int .i64 0] 1 true) [])
    have hld : aresults [.cell 2 30] Tryz.prog T3 H3 = some [.int .i64 0] := by simp [aresults, t3, go_sem, b3]
    obtain ⟨v', g1, g2⟩ := sim_results (fn := Tryz.f41) (by kernel_rfl) hr4 (ht3.mono (hr3.ext hx4)) hld
    have l1 : H.length ≤ (H ++ [AObj.row [.int .i64 0] 1 true]).length := by simp
    exact ⟨v', g1, .int .i64 0, v', H3, ρ4, rfl, ⟨rfl, (List.prefix_append _ _).trans p3⟩, hr4, (hX1.trans hx3 l1).trans hx4 (by omega), by omega, g2⟩
end Go.Proofs.YtahopobanopkfaaGreatDoor
