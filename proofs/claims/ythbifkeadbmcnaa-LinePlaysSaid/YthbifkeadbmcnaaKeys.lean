/-
  maps.Keys over a timeline's sets, ranged over.
-/
import Derived.Test.YthbifkeadbmcnaaLook2
import Derived.Test.YthbifkeadbmcnaaAwRange
set_option linter.unusedVariables false
set_option linter.unusedSimpArgs false
namespace Go.Proofs.Ythbifkeadbmcnaa
open Go Go.AW
set_option linter.unusedSimpArgs false
set_option maxRecDepth 20000

abbrev keysF : FuncId := 62
/-- what the loop asks between two rounds: of what is still to come -/
structure Rounds (H : AHeap) (m : Nat) (M : List (Key × Nat)) (J : List (Key × Nat) → AHeap → Prop) : Prop where
  set : ∀ L H' o, J L H' → J L (H'.set H.length o)
  app : ∀ L H' o, J L H' → J L (H' ++ [o])
theorem keys_walk {n : Nat} {px : Tmp} {assign body : Code} (h1 : codeOk n assign = true) (h2 : codeOk n body = true) (q1 : quietC assign = true) (q2 : quietC body = true) (hpx : px < n)
    {ρ : Ren} {H : AHeap} {F : Frm} {W : World} {D L k : Nat} {fn : FuncId} {tmps : Array Value} {x : Obj} {T : Tm} {bx m : Nat} {cap' : Value} {M : List (Key × Nat)} {J : List (Key × Nat) → AHeap → Prop}
    (hR : Rel ρ H (F.two D L x (.loop { state := .ready, pending := none, fn, tmps, params := #[px], assign, body, defers := D })) W) (hT : TR ρ n [] T { tmps := tmps, defers := [] }) (hcap : VR ρ (ptrV bx) cap')
    (hbx : H[bx]? = some (.row [.map (some m)] 1 true)) (hM : DictAt H m Key.val ptrV M) (hJ : Rounds H m M J) (hJ0 : J M H)
    (hround : ∀ L1 k v L2 H', J (L1 ++ (k, v) :: L2) H' → DictAt H' m Key.val ptrV M → H.length < H'.length → awp Try.prog assign (Exit.thenA (awp Try.prog body (fun e _ H'' => e = .normal ∧ (J (L1 ++ L2) H'' ∧ H''[m]? = H'[m]? ∧ H''[H.length]? = H'[H.length]?))) (fun _ _ _ => False)) (T.put (some px) (Key.val k)) H') :
    CallsIn Fence.wide k Try.prog keysF (#[.func (.yield L) #[] #[]] ++ #[cap']) W fun e W' => (∃ v, e = .returned v) ∧ ∃ ρ' H', J [] H' ∧ Rel ρ' H' (F.two D L x (.loop { state := .ready, pending := none, fn, tmps, params := #[px], assign, body, defers := D })) W' ∧ Ext H ρ ρ' ∧ H.length ≤ H'.length := by
  have hR0 := hR
  have hvs : VRs ρ [.func (.yield L) #[] #[], ptrV bx] [.func (.yield L) #[] #[], cap'] := VRs.cons (.func _ rfl rfl (by simp) (by simp)) (VRs.cons hcap VRs.nil)
  have hT0 := TR.start (n := 14) hvs (by simp)
  refine callsIn_of_wp Try.func62 rfl trivial ?_
  have hact : ({ tmps := (#[Value.func (.yield L) #[] #[]] ++ #[cap']) ++ Array.replicate (14 - (#[Value.func (.yield L) #[] #[]] ++ #[cap']).size) undef, defers := [] } : Act) = { tmps := [Value.func (.yield L) #[] #[], cap'].toArray ++ Array.replicate (14 - [Value.func (.yield L) #[] #[], cap'].toArray.size) undef, defers := [] } := rfl
  rw [show (Try.f62).ntmps = 14 by kernel_rfl, hact]
  generalize ({ tmps := [Value.func (.yield L) #[] #[], cap'].toArray ++ Array.replicate (14 - [Value.func (.yield L) #[] #[], cap'].toArray.size) undef, defers := [] } : Act) = a0 at hT0 ⊢
  have hm : (Try.prog).follows .mixedOrders = true := mixed
  obtain ⟨o3, e3, hr⟩ := hM.range (t := 68) un68
  refine wpIn_seq (sim_codeIn (n := 14) hm open_wide _ (by kernel_rfl) (by kernel_rfl) (Qa := fun e T' H' => e = .normal ∧ T' 0 = .func (.yield L) #[] #[] ∧ T' 5 = ptrV H.length ∧ H' = H ++ [o3]) ?_ hR hT0 ?_ ?_)
  · simp -dsimp only [go_sem, ↓reduceIte, Nat.reduceEqDiff, Nat.reduceAdd, Nat.reduceMul, Nat.reduceSub, Nat.reduceLeDiff, Nat.reduceLT, hbx, e3]
  · rintro e T1 H1 ρ1 a1 w1 ⟨rfl, t0, t5, hH1⟩ hR1 hX1 hL1 hT1
    refine wpIn_block (wpIn_loop_rounds (M.length + 1) ?_)
    have hrM : RangeAt H1 H.length m Key.val ptrV M M := by rw [hH1]; exact hr
    have hJM : J M H1 := by rw [hH1]; exact hJ.app _ _ _ hJ0
    have hlt1 : H.length < H1.length := by rw [hH1]; simp
    clear hH1 hL1 hT0 hR hr e3
    obtain ⟨left, hleft⟩ : ∃ left, left = M := ⟨M, rfl⟩
    have hq : left.length < M.length + 1 := by rw [hleft]; omega
    have hr1 : RangeAt H1 H.length m Key.val ptrV M left := by rw [hleft]; exact hrM
    have hJ1 : J left H1 := by rw [hleft]; exact hJM
    clear hleft hrM hJM
    generalize M.length + 1 = q at *
    induction q generalizing left ρ1 H1 w1 T1 a1 with
    | zero => omega
    | succ q ih =>
      rw [roundsIn_succ]
      refine wpIn_seq (sim_codeIn (n := 14) hm open_wide _ (by kernel_rfl) (by kernel_rfl) (Qa := fun e T' H' => e = .normal ∧ T' 0 = .func (.yield L) #[] #[] ∧ T' 5 = ptrV H.length ∧ ((T' 7 = .bool false ∧ J [] H') ∨ (T' 7 = .bool true ∧ ∃ L1 k v L2, left = L1 ++ (k, v) :: L2 ∧ RangeAt H' H.length m Key.val ptrV M (L1 ++ L2) ∧ EntryAt H' H.length m Key.val ptrV k v ∧ J left H' ∧ H.length < H'.length))) ?_ hR1 hT1 ?_ ?_)
      · simp -dsimp only [go_sem, ↓reduceIte, Nat.reduceEqDiff, Nat.reduceAdd, Nat.reduceMul, Nat.reduceSub, Nat.reduceLeDiff, Nat.reduceLT, t5]
        refine hr1.next2 ?_ ?_
        · rintro rfl
          simp -dsimp only [go_sem, ↓reduceIte, Nat.reduceEqDiff, Nat.reduceAdd, Nat.reduceMul, Nat.reduceSub, Nat.reduceLeDiff, Nat.reduceLT, t0, t5]
          exact .inl hJ1
        · intro L1 k2 v L2 o hL hr2 he
          simp -dsimp only [go_sem, ↓reduceIte, Nat.reduceEqDiff, Nat.reduceAdd, Nat.reduceMul, Nat.reduceSub, Nat.reduceLeDiff, Nat.reduceLT, t0, t5]
          exact .inr ⟨L1, k2, v, L2, hL, hr2, he, hJ.set _ _ _ hJ1, by rw [List.length_set]; exact hlt1⟩
      · rintro e T2 H2 ρ2 a2 w2 ⟨rfl, t0, t5, hcase⟩ hR2 hX2 hL2 hT2
        rcases hcase with ⟨t7, hJe⟩ | ⟨t7, L1, k2, v, L2, rfl, hr2, he, hJ2, hlt2⟩
        · have hv7 := hT2.vr 7 (by decide)
          rw [t7] at hv7
          have h7 : a2.eval (.tmp 7) = .bool false := by
            show a2.tmps.getD 7 undef = _
            revert hv7; generalize a2.tmps.getD 7 undef = u; intro hv7; cases hv7; rfl
          refine wpIn_seq (wpIn_cond_false h7 (wpIn_exit ?_))
          simp only [Exit.then, Exit.inBlock, if_true]
          obtain ⟨v', hv', -⟩ := sim_results (n := 14) (fn := Try.f62) (vs := []) (by kernel_rfl) hR2 hT2 (by kernel_rfl)
          exact ⟨hT2.defers, v', hv', ⟨v', rfl⟩, ρ2, H2, hJe, hR2, hX1.trans hX2 (by omega), by omega⟩
        · have hv7 := hT2.vr 7 (by decide)
          rw [t7] at hv7
          have h7 : a2.eval (.tmp 7) = .bool true := by
            show a2.tmps.getD 7 undef = _
            revert hv7; generalize a2.tmps.getD 7 undef = u; intro hv7; cases hv7; rfl
          refine wpIn_seq (wpIn_cond_true h7 (wpIn_skip ?_))
          refine wpIn_block ?_
          refine wpIn_seq (sim_codeIn (n := 14) hm open_wide _ (by kernel_rfl) (by kernel_rfl) (Qa := fun e T' H' => e = .normal ∧ T' 0 = .func (.yield L) #[] #[] ∧ T' 5 = ptrV H.length ∧ T' 3 = ptrV H2.length ∧ H' = H2 ++ [.row [.int .i64 k2.f, .int .i64 k2.t, .int .i64 k2.v] 3 true]) ?_ hR2 hT2 ?_ ?_)
          · simp -dsimp only [go_sem, ↓reduceIte, Nat.reduceEqDiff, Nat.reduceAdd, Nat.reduceMul, Nat.reduceSub, Nat.reduceLeDiff, Nat.reduceLT, t0, t5, he.get]
          · rintro e T3 H3 ρ3 a3 w3 ⟨rfl, t0, t5, t3, hH3⟩ hR3 hX3 hL3 hT3
            have hk3 : H3[H2.length]? = some (.row [.int .i64 k2.f, .int .i64 k2.t, .int .i64 k2.v] 3 true) := by rw [hH3]; exact get_end _ _ _
            refine wpIn_seq (wpIn_region ?_)
            show wpOpsIn _ _ _ _ _ [0, 1, 2, 3] _ _
            refine sim_opIn (n := 14) (o := ⟨some 10, .move (.tmp 0), 102, "iter.go:28", #[], none⟩) open_wide rfl (by kernel_rfl) rfl rfl hR3 hT3 (K := fun v H' => v = .func (.yield L) #[] #[] ∧ H' = H3) ?_ ?_
            · simp -dsimp only [go_sem, ↓reduceIte, Nat.reduceEqDiff, Nat.reduceAdd, Nat.reduceMul, Nat.reduceSub, Nat.reduceLeDiff, Nat.reduceLT, t0]
            rintro _ v4 H4 ρ4 w4 ⟨rfl, rfl⟩ hR4 hX4 hL4 hT4
            refine sim_opIn (n := 14) (o := ⟨some 11, .load 64 (.tmp 3), 64, "iter.go:28", #[], none⟩) open_wide rfl (by kernel_rfl) rfl rfl hR4 hT4 (K := fun v H'' => v = Key.val k2 ∧ H'' = H4) ?_ ?_
            · simp -dsimp only [go_sem, ↓reduceIte, Nat.reduceEqDiff, Nat.reduceAdd, Nat.reduceMul, Nat.reduceSub, Nat.reduceLeDiff, Nat.reduceLT, t3, hk3]
            rintro _ v5 H5 ρ5 w5 ⟨rfl, rfl⟩ hR5 hX5 hL5 hT5
            have X5 : Ext H ρ ρ5 := ((((hX1.trans hX2 (by omega)).trans hX3 (by omega)).trans hX4 (by omega)).trans hX5 (by omega))
            have lt5 : H.length < H5.length := by omega
            have hJ5 : J (L1 ++ (k2, v) :: L2) H5 := by rw [hH3]; exact hJ.app _ _ _ hJ2
            have hr5 : RangeAt H5 H.length m Key.val ptrV M (L1 ++ L2) := hr2.pre (by rw [hH3]; exact List.prefix_append _ _)
            have hv10 := hT5.vr 10 (by decide)
            have h10 : Act.eval ((a3.put (some 10) v4).put (some 11) v5) (.tmp 10) = .func (.yield L) #[] #[] := by
              show Array.getD _ 10 undef = _
              revert hv10
              rw [show (Tm.put (Tm.put T3 (some 10) (Value.func (.yield L) #[] #[])) (some 11) (Key.val k2)) 10 = .func (.yield L) #[] #[] from rfl]
              generalize Array.getD _ 10 undef = u
              intro hv10
              obtain ⟨as', bs', rfl, ha, hb⟩ := hv10.func_inv
              have e1 : as' = #[] := by
                have := ha.1; apply Array.toList_inj.1; exact List.length_eq_zero_iff.1 (by simpa using this.symm)
              have e2 : bs' = #[] := by
                have := hb.1; apply Array.toList_inj.1; exact List.length_eq_zero_iff.1 (by simpa using this.symm)
              rw [e1, e2]
            have hv11 : VR ρ5 (Key.val k2) (Act.eval ((a3.put (some 10) v4).put (some 11) v5) (.tmp 11)) := hT5.vr 11 (by decide)
            obtain ⟨tmps', hy, hround'⟩ := round_sim (k := k - 1) hm h1 h2 q1 q2 hR5 (hT.mono (hR0.ext X5)) hpx hv11 (hround L1 k2 v L2 H5 hJ5 hr5.map lt5)
            rw [wpOpsIn_cons]
            unfold wpOpIn
            simp only [List.getElem?_toArray, List.getElem?_cons_succ, List.getElem?_cons_zero]
            rw [if_pos (by rfl)]
            refine ⟨fun _ _ => trivial, ?_⟩
            have hrun : (Oper.semAt Fence.wide.round (Act.eval ((a3.put (some 10) v4).put (some 11) v5)) ⟨some 12, .call ⟨.value (.tmp 10), #[.tmp 11], #[64]⟩, 4, "iter.go:28", #[⟨0, .data⟩, ⟨1, .data⟩], none⟩).run Try.prog w5 = .ok (.round L fn tmps' assign body) w5 := by
              rw [show Fence.wide.round = none from rfl, Oper.semAt_none]
              simp only [execOp, resolve, h10, Deferred.ofValue, Sem.run_bind, Sem.run_pure, Result.andThen_ok, invoke]
              simpa using hy
            rw [hrun]
            refine ⟨(fun q => by cases q), RoundIn.mono hround' ?_⟩
            rintro e W' ⟨rfl, ρ6, H6, ⟨hJ6, hm6, hr6⟩, hR6, hX6, hL6⟩
            have hT6 := (hT5.mono (hR5.ext hX6)).put (d := some 12) (fun t q => by cases q; decide) (VR.bool (ρ := ρ6) true)
            refine sim_opIn (n := 14) (o := ⟨some 13, .unOp .not 4 (.tmp 12), 4, "iter.go:28", #[⟨2, .data⟩], none⟩) open_wide rfl (by kernel_rfl) rfl rfl hR6 hT6 (K := fun v H'' => v = .bool false ∧ H'' = H6) ?_ ?_
            · simp -dsimp only [go_sem, ↓reduceIte, Nat.reduceEqDiff, Nat.reduceAdd, Nat.reduceMul, Nat.reduceSub, Nat.reduceLeDiff, Nat.reduceLT]
            rintro _ v7 H7 ρ7 w7 ⟨rfl, rfl⟩ hR7 hX7 hL7 hT7
            have hv13 := hT7.vr 13 (by decide)
            simp only [wpOpsIn, Exit.then]
            refine wpIn_cond_false ?_ (wpIn_skip ?_)
            · show Array.getD _ 13 undef = _
              revert hv13
              rw [show (Tm.put (Tm.put (Tm.put (Tm.put T3 (some 10) (Value.func (.yield L) #[] #[])) (some 11) (Key.val k2)) (some 12) (.bool true)) (some 13) (.bool false)) 13 = .bool false from rfl]
              generalize Array.getD _ 13 undef = u
              intro hv13
              cases hv13; rfl
            · simp only [Exit.inBlock, Exit.then]
              refine ih _ H7 ρ7 _ _ ?_ ?_ hR7 ((X5.trans hX6 (by omega)).trans hX7 (by omega)) hT7 (by omega) (L1 ++ L2) (hr5.keep hm6 hr6) hJ6 ?_
              · exact t0
              · exact t5
              · simp at hq ⊢; omega
          · rintro ⟨_, _, ⟨v, q⟩, _⟩; cases q
      · rintro ⟨_, _, ⟨v, q⟩, _⟩; cases q
  · rintro ⟨_, _, ⟨v, q⟩, _⟩; cases q
end Go.Proofs.Ythbifkeadbmcnaa
