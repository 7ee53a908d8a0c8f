/-
  HistoricalMakes: the walk.
-/
import Derived.Test.YtahopobanopkfaaGreatDoorAwake
import Derived.Test.YtahopobanopkfaaGreatDoorServ
import Derived.Test.YtahopobanopkfaaGreatDoorLawTerms
set_option linter.unusedVariables false
set_option linter.unusedSimpArgs false
namespace Go.Proofs.YtahopobanopkfaaGreatDoor
open Go Go.AW
set_option linter.unusedSimpArgs false
set_option maxRecDepth 20000

abbrev askC : List Value := [.int .i64 3, .int .i64 0, .int .i64 0, .int .u64 0, .int .u64 0, .int .u64 0, .int .i64 0, .int .u64 0, .int .i64 0, .int .i64 0, .slice none 0 0, .slice none 0 0, .int .i64 0, .int .i64 0, .int .i64 0, .int .i64 0, .slice none 0 0, .int .i64 0, .int .i64 0, .slice none 0 0, .int .i64 0, .slice none 0 0, .slice none 0 0, .int .i64 0, .int .i64 0, .int .i64 0, .int .i64 0, .int .i64 0, .int .i64 0, .int .i64 0, .int .i64 0, .int .i64 0, .bool false, .int .i64 0, .int .i64 0, .int .i64 0, .int .i64 0, .int .i64 0, .int .i64 0, .slice none 0 0, .slice none 0 0]
theorem handleN (H : AHeap) : Sound Tryz.prog 9 [.pointer none, .agg askC.toArray] H fun v H' => v = .slice none 0 0 ∧ H <+: H' := by
  refine Sound.of_body (rs := [.tmp 4]) mixed Tryz.func9 rfl (by kernel_rfl) rfl (by kernel_rfl) ?_
  simp -dsimp only [go_sem, ↓reduceIte, Nat.reduceEqDiff, Nat.reduceAdd, Nat.reduceMul, Nat.reduceSub, Nat.reduceLeDiff, Nat.reduceLT]
  exact List.prefix_append _ _
set_option maxHeartbeats 2000000 in
theorem historicalMakes (s : SetupS) (id : Int) (off : Bool) (H : AHeap) :
    Sound Tryz.prog 4 [s.val, .int .i64 id, .bool off] H fun v _ => v = .bool true := by
  refine Sound.of_body (rs := [.tmp 6]) mixed Tryz.func4 rfl (by kernel_rfl) rfl (by kernel_rfl) ?_
  have b0 := get_end H (AObj.row s.cells 10 true) []
  simp -dsimp only [go_sem, ↓reduceIte, Nat.reduceEqDiff, Nat.reduceAdd, Nat.reduceMul, Nat.reduceSub, Nat.reduceLeDiff, Nat.reduceLT]
  generalize H ++ [AObj.row s.cells 10 true] = H0 at *
  refine SoundP_of (awakeLaw H0) ?_
  rintro _ K ⟨rfl, hK⟩
  rw [hK]
  simp -dsimp only [go_sem, ↓reduceIte, Nat.reduceEqDiff, Nat.reduceAdd, Nat.reduceMul, Nat.reduceSub, Nat.reduceLeDiff, Nat.reduceLT, b0]
  refine SoundP_of (diskNew _) ?_
  rintro _ H1 ⟨rfl, p1, hd1⟩
  have b1 := pre_get p1 b0
  simp -dsimp only [go_sem, ↓reduceIte, Nat.reduceEqDiff, Nat.reduceAdd, Nat.reduceMul, Nat.reduceSub, Nat.reduceLeDiff, Nat.reduceLT]
  have lp := get_lt b0
  have hlen : ∀ H2 : AHeap, H1.length ≤ H2.length → (∀ j, j < H1.length → j ≠ H0.length + 1 → H2[j]? = H1[j]?) → H2[H.length]? = some (AObj.row s.cells 10 true) := fun H2 _ h => by
    rw [h _ (get_lt b1) (by omega)]; exact b1
  generalize H0.length = h0 at *
  have u1 : Tryz.prog.underlying 65 = some (.pointer 72) := by kernel_rfl
  have u2 : Tryz.prog.underlying 73 = some (.pointer 76) := by kernel_rfl
  have z0 : (((0 : Nat) : Int) == (0 : Int)) = true := rfl
  cases off with
  | true =>
    simp -dsimp only [go_sem, ↓reduceIte, Nat.reduceEqDiff, Nat.reduceAdd, Nat.reduceMul, Nat.reduceSub, Nat.reduceLeDiff, Nat.reduceLT]
    refine SoundP_of (cutLaw hd1 (by omega)) ?_
    rintro _ H1' ⟨_, hfr, hd1'⟩
    have b1' := hlen H1' (by assumption) hfr
    simp -dsimp only [go_sem, ↓reduceIte, Nat.reduceEqDiff, Nat.reduceAdd, Nat.reduceMul, Nat.reduceSub, Nat.reduceLeDiff, Nat.reduceLT, b1']
    refine SoundP_of (newLaw s id hd1') ?_
    rintro v H2 ⟨p2, hv⟩
    have b2 := pre_get p2 b1'
    rcases hv with ⟨hmay, rfl⟩ | ⟨hmay, _, rfl⟩ | ⟨_, h, _⟩
    · simp -dsimp only [go_sem, ↓reduceIte, Nat.reduceEqDiff, Nat.reduceAdd, Nat.reduceMul, Nat.reduceSub, Nat.reduceLeDiff, Nat.reduceLT, b2]
      refine SoundP_of (newNil s id H2) ?_
      rintro v H3 ⟨rfl, p3⟩
      have b3 := pre_get p3 b2
      simp -dsimp only [go_sem, ↓reduceIte, Nat.reduceEqDiff, Nat.reduceAdd, Nat.reduceMul, Nat.reduceSub, Nat.reduceLeDiff, Nat.reduceLT]
      refine SoundP_of (handleN H3) ?_
      rintro _ H4 ⟨rfl, p4⟩
      have b4 := pre_get p4 b3
      simp -dsimp only [go_sem, ↓reduceIte, Nat.reduceEqDiff, Nat.reduceAdd, Nat.reduceMul, Nat.reduceSub, Nat.reduceLeDiff, Nat.reduceLT, z0, u1, u2]
      refine SoundP_of (tickN 1 _ _ _) ?_
      rintro _ H5 ⟨rfl, p5⟩
      have b5 := pre_get p5 (get_app b4 _)
      simp -dsimp only [go_sem, ↓reduceIte, Nat.reduceEqDiff, Nat.reduceAdd, Nat.reduceMul, Nat.reduceSub, Nat.reduceLeDiff, Nat.reduceLT, z0]
      refine SoundP_of (servedN _) ?_
      rintro _ _ ⟨rfl, rfl⟩
      simp -dsimp only [go_sem, ↓reduceIte, Nat.reduceEqDiff, Nat.reduceAdd, Nat.reduceMul, Nat.reduceSub, Nat.reduceLeDiff, Nat.reduceLT, z0]
      refine SoundP_of (waitingN _) ?_
      rintro _ _ ⟨rfl, rfl⟩
      simp -dsimp only [go_sem, ↓reduceIte, Nat.reduceEqDiff, Nat.reduceAdd, Nat.reduceMul, Nat.reduceSub, Nat.reduceLeDiff, Nat.reduceLT, Int.reduceBEq]
      refine SoundP_of (termNil _) ?_
      rintro _ _ ⟨rfl, rfl⟩
      simp -dsimp only [go_sem, ↓reduceIte, Nat.reduceEqDiff, Nat.reduceAdd, Nat.reduceMul, Nat.reduceSub, Nat.reduceLeDiff, Nat.reduceLT, Int.reduceBEq, Int.reduceBNe, b5]
      refine SoundP_of (refFits s _) ?_
      rintro _ H6 ⟨rfl, p6⟩
      have b6 := pre_get p6 b5
      cases hF : fitsB s with
      | false => simp -dsimp only [go_sem, ↓reduceIte, Nat.reduceEqDiff, Nat.reduceAdd, Nat.reduceMul, Nat.reduceSub, Nat.reduceLeDiff, Nat.reduceLT, hF, Int.reduceBEq]
      | true =>
      have hw : IntKind.i64.wrap (21 + s.stores) = 21 + s.stores := by have hf := (fitsB_iff s).1 hF; exact wr64 (by have := hf.t0; have := hf.t1; omega) (by have := hf.t0; have := hf.t1; omega)
      cases hA : decide (id < 21) with
      | true => simp -dsimp only [go_sem, ↓reduceIte, Nat.reduceEqDiff, Nat.reduceAdd, Nat.reduceMul, Nat.reduceSub, Nat.reduceLeDiff, Nat.reduceLT, hF, hA, Int.reduceBEq]
      | false =>
      have hB : decide (21 + s.stores ≤ id) = true := by
        have hA' := dec_false hA
        simp only [mayB, hF, Bool.true_and, Bool.and_eq_false_iff, decide_eq_false_iff_not] at hmay
        exact decide_eq_true (by omega)
      simp -dsimp only [go_sem, ↓reduceIte, Nat.reduceEqDiff, Nat.reduceAdd, Nat.reduceMul, Nat.reduceSub, Nat.reduceLeDiff, Nat.reduceLT, hF, hA, hw, b6, hB, Int.reduceBEq]
    · simp -dsimp only [go_sem, ↓reduceIte, Nat.reduceEqDiff, Nat.reduceAdd, Nat.reduceMul, Nat.reduceSub, Nat.reduceLeDiff, Nat.reduceLT, b2]
      refine SoundP_of (newNil s id H2) ?_
      rintro v H3 ⟨rfl, p3⟩
      have b3 := pre_get p3 b2
      simp -dsimp only [go_sem, ↓reduceIte, Nat.reduceEqDiff, Nat.reduceAdd, Nat.reduceMul, Nat.reduceSub, Nat.reduceLeDiff, Nat.reduceLT]
      refine SoundP_of (handleN H3) ?_
      rintro _ H4 ⟨rfl, p4⟩
      have b4 := pre_get p4 b3
      simp -dsimp only [go_sem, ↓reduceIte, Nat.reduceEqDiff, Nat.reduceAdd, Nat.reduceMul, Nat.reduceSub, Nat.reduceLeDiff, Nat.reduceLT, z0, u1, u2]
      refine SoundP_of (tickN 1 _ _ _) ?_
      rintro _ H5 ⟨rfl, p5⟩
      have b5 := pre_get p5 (get_app b4 _)
      simp -dsimp only [go_sem, ↓reduceIte, Nat.reduceEqDiff, Nat.reduceAdd, Nat.reduceMul, Nat.reduceSub, Nat.reduceLeDiff, Nat.reduceLT, z0]
      refine SoundP_of (servedN _) ?_
      rintro _ _ ⟨rfl, rfl⟩
      simp -dsimp only [go_sem, ↓reduceIte, Nat.reduceEqDiff, Nat.reduceAdd, Nat.reduceMul, Nat.reduceSub, Nat.reduceLeDiff, Nat.reduceLT, z0]
      refine SoundP_of (waitingN _) ?_
      rintro _ _ ⟨rfl, rfl⟩
      simp -dsimp only [go_sem, ↓reduceIte, Nat.reduceEqDiff, Nat.reduceAdd, Nat.reduceMul, Nat.reduceSub, Nat.reduceLeDiff, Nat.reduceLT, Int.reduceBEq]
      refine SoundP_of (termNil _) ?_
      rintro _ _ ⟨rfl, rfl⟩
      simp -dsimp only [go_sem, ↓reduceIte, Nat.reduceEqDiff, Nat.reduceAdd, Nat.reduceMul, Nat.reduceSub, Nat.reduceLeDiff, Nat.reduceLT, Int.reduceBEq, Int.reduceBNe, b5]
      refine SoundP_of (refFits s _) ?_
      rintro _ H6 ⟨rfl, p6⟩
      have b6 := pre_get p6 b5
      simp only [mayB, Bool.and_eq_true, decide_eq_true_eq] at hmay
      have hF := hmay.1
      have hw : IntKind.i64.wrap (21 + s.stores) = 21 + s.stores := by have hf := (fitsB_iff s).1 hF; exact wr64 (by have := hf.t0; have := hf.t1; omega) (by have := hf.t0; have := hf.t1; omega)
      have hA : decide (id < 21) = false := decide_eq_false (by omega)
      have hB : decide (21 + s.stores ≤ id) = false := decide_eq_false (by omega)
      simp -dsimp only [go_sem, ↓reduceIte, Nat.reduceEqDiff, Nat.reduceAdd, Nat.reduceMul, Nat.reduceSub, Nat.reduceLeDiff, Nat.reduceLT, hF, hA, hw, b6, hB, Int.reduceBEq, Int.reduceBNe]
    · cases h
  | false =>
    simp -dsimp only [go_sem, ↓reduceIte, Nat.reduceEqDiff, Nat.reduceAdd, Nat.reduceMul, Nat.reduceSub, Nat.reduceLeDiff, Nat.reduceLT, b1]
    refine SoundP_of (newLaw s id hd1) ?_
    rintro v H2 ⟨p2, hv⟩
    have b2 := pre_get p2 b1
    rcases hv with ⟨hmay, rfl⟩ | ⟨_, h, _⟩ | ⟨hmay, -, n, q, m1, rfl, -, hn, hm⟩
    · simp -dsimp only [go_sem, ↓reduceIte, Nat.reduceEqDiff, Nat.reduceAdd, Nat.reduceMul, Nat.reduceSub, Nat.reduceLeDiff, Nat.reduceLT, b2]
      refine SoundP_of (newNil s id H2) ?_
      rintro v H3 ⟨rfl, p3⟩
      have b3 := pre_get p3 b2
      simp -dsimp only [go_sem, ↓reduceIte, Nat.reduceEqDiff, Nat.reduceAdd, Nat.reduceMul, Nat.reduceSub, Nat.reduceLeDiff, Nat.reduceLT]
      refine SoundP_of (handleN H3) ?_
      rintro _ H4 ⟨rfl, p4⟩
      have b4 := pre_get p4 b3
      simp -dsimp only [go_sem, ↓reduceIte, Nat.reduceEqDiff, Nat.reduceAdd, Nat.reduceMul, Nat.reduceSub, Nat.reduceLeDiff, Nat.reduceLT, z0, u1, u2]
      refine SoundP_of (tickN 1 _ _ _) ?_
      rintro _ H5 ⟨rfl, p5⟩
      have b5 := pre_get p5 (get_app b4 _)
      simp -dsimp only [go_sem, ↓reduceIte, Nat.reduceEqDiff, Nat.reduceAdd, Nat.reduceMul, Nat.reduceSub, Nat.reduceLeDiff, Nat.reduceLT, z0]
      refine SoundP_of (servedN _) ?_
      rintro _ _ ⟨rfl, rfl⟩
      simp -dsimp only [go_sem, ↓reduceIte, Nat.reduceEqDiff, Nat.reduceAdd, Nat.reduceMul, Nat.reduceSub, Nat.reduceLeDiff, Nat.reduceLT, z0]
      refine SoundP_of (waitingN _) ?_
      rintro _ _ ⟨rfl, rfl⟩
      simp -dsimp only [go_sem, ↓reduceIte, Nat.reduceEqDiff, Nat.reduceAdd, Nat.reduceMul, Nat.reduceSub, Nat.reduceLeDiff, Nat.reduceLT, Int.reduceBEq]
      refine SoundP_of (termNil _) ?_
      rintro _ _ ⟨rfl, rfl⟩
      simp -dsimp only [go_sem, ↓reduceIte, Nat.reduceEqDiff, Nat.reduceAdd, Nat.reduceMul, Nat.reduceSub, Nat.reduceLeDiff, Nat.reduceLT, Int.reduceBEq, Int.reduceBNe, b5]
      refine SoundP_of (refFits s _) ?_
      rintro _ H6 ⟨rfl, p6⟩
      have b6 := pre_get p6 b5
      cases hF : fitsB s with
      | false => simp -dsimp only [go_sem, ↓reduceIte, Nat.reduceEqDiff, Nat.reduceAdd, Nat.reduceMul, Nat.reduceSub, Nat.reduceLeDiff, Nat.reduceLT, hF, Int.reduceBEq]
      | true =>
      have hw : IntKind.i64.wrap (21 + s.stores) = 21 + s.stores := by have hf := (fitsB_iff s).1 hF; exact wr64 (by have := hf.t0; have := hf.t1; omega) (by have := hf.t0; have := hf.t1; omega)
      cases hA : decide (id < 21) with
      | true => simp -dsimp only [go_sem, ↓reduceIte, Nat.reduceEqDiff, Nat.reduceAdd, Nat.reduceMul, Nat.reduceSub, Nat.reduceLeDiff, Nat.reduceLT, hF, hA, Int.reduceBEq]
      | false =>
      have hB : decide (21 + s.stores ≤ id) = true := by
        have hA' := dec_false hA
        simp only [mayB, hF, Bool.true_and, Bool.and_eq_false_iff, decide_eq_false_iff_not] at hmay
        exact decide_eq_true (by omega)
      simp -dsimp only [go_sem, ↓reduceIte, Nat.reduceEqDiff, Nat.reduceAdd, Nat.reduceMul, Nat.reduceSub, Nat.reduceLeDiff, Nat.reduceLT, hF, hA, hw, b6, hB, Int.reduceBEq]
    · cases h
    · simp -dsimp only [go_sem, ↓reduceIte, Nat.reduceEqDiff, Nat.reduceAdd, Nat.reduceMul, Nat.reduceSub, Nat.reduceLeDiff, Nat.reduceLT, b2]
      refine SoundP_of (newNil s id H2) ?_
      rintro v H3 ⟨rfl, p3⟩
      have b3 := pre_get p3 b2
      simp -dsimp only [go_sem, ↓reduceIte, Nat.reduceEqDiff, Nat.reduceAdd, Nat.reduceMul, Nat.reduceSub, Nat.reduceLeDiff, Nat.reduceLT]
      refine SoundP_of (handleN H3) ?_
      rintro _ H4 ⟨rfl, p4⟩
      have b4 := pre_get p4 b3
      simp -dsimp only [go_sem, ↓reduceIte, Nat.reduceEqDiff, Nat.reduceAdd, Nat.reduceMul, Nat.reduceSub, Nat.reduceLeDiff, Nat.reduceLT, z0, u1, u2]
      refine SoundP_of (tickN 1 _ _ _) ?_
      rintro _ H5 ⟨rfl, p5⟩
      have b5 := pre_get p5 (get_app b4 _)
      simp -dsimp only [go_sem, ↓reduceIte, Nat.reduceEqDiff, Nat.reduceAdd, Nat.reduceMul, Nat.reduceSub, Nat.reduceLeDiff, Nat.reduceLT, z0]
      refine SoundP_of (servedN _) ?_
      rintro _ _ ⟨rfl, rfl⟩
      simp -dsimp only [go_sem, ↓reduceIte, Nat.reduceEqDiff, Nat.reduceAdd, Nat.reduceMul, Nat.reduceSub, Nat.reduceLeDiff, Nat.reduceLT, z0]
      refine SoundP_of (waitingN _) ?_
      rintro _ _ ⟨rfl, rfl⟩
      simp -dsimp only [go_sem, ↓reduceIte, Nat.reduceEqDiff, Nat.reduceAdd, Nat.reduceMul, Nat.reduceSub, Nat.reduceLeDiff, Nat.reduceLT, Int.reduceBEq]
      refine SoundP_of (termNil _) ?_
      rintro _ _ ⟨rfl, rfl⟩
      simp -dsimp only [go_sem, ↓reduceIte, Nat.reduceEqDiff, Nat.reduceAdd, Nat.reduceMul, Nat.reduceSub, Nat.reduceLeDiff, Nat.reduceLT, Int.reduceBEq, Int.reduceBNe, b5]
      refine SoundP_of (refFits s _) ?_
      rintro _ H6 ⟨rfl, p6⟩
      have b6 := pre_get p6 b5
      simp only [mayB, Bool.and_eq_true, decide_eq_true_eq] at hmay
      have hF := hmay.1
      have hw : IntKind.i64.wrap (21 + s.stores) = 21 + s.stores := by have hf := (fitsB_iff s).1 hF; exact wr64 (by have := hf.t0; have := hf.t1; omega) (by have := hf.t0; have := hf.t1; omega)
      have hA : decide (id < 21) = false := decide_eq_false (by omega)
      have hB : decide (21 + s.stores ≤ id) = false := decide_eq_false (by omega)
      simp -dsimp only [go_sem, ↓reduceIte, Nat.reduceEqDiff, Nat.reduceAdd, Nat.reduceMul, Nat.reduceSub, Nat.reduceLeDiff, Nat.reduceLT, hF, hA, hw, b6, hB, Int.reduceBEq, Int.reduceBNe]
      have hn6 := pre_get (p3.trans (p4.trans ((List.prefix_append _ _).trans (p5.trans p6)))) hn
      have hm6 := pre_get (p3.trans (p4.trans ((List.prefix_append _ _).trans (p5.trans p6)))) hm
      refine SoundP_of (servedE hn6 hm6) ?_
      rintro _ H7 ⟨rfl, p7⟩
      simp -dsimp only [go_sem, ↓reduceIte, Nat.reduceEqDiff, Nat.reduceAdd, Nat.reduceMul, Nat.reduceSub, Nat.reduceLeDiff, Nat.reduceLT, z0, Int.reduceBEq]
      refine SoundP_of (termLaw (pre_get p7 hn6)) ?_
      rintro _ _ ⟨rfl, rfl⟩
      simp -dsimp only [go_sem, ↓reduceIte, Nat.reduceEqDiff, Nat.reduceAdd, Nat.reduceMul, Nat.reduceSub, Nat.reduceLeDiff, Nat.reduceLT, Int.reduceBEq]
end Go.Proofs.YtahopobanopkfaaGreatDoor
