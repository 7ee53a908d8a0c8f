/-
  The walk of CoordinatorMakes.
-/
import Derived.Test.YtcjeoljkbacdcaaGreatDoorAwake
import Derived.Test.YtcjeoljkbacdcaaGreatDoorAwTop
set_option linter.unusedVariables false
set_option linter.unusedSimpArgs false
namespace Go.Proofs.YtcjeoljkbacdcaaGreatDoor
open Go Go.AW
set_option linter.unusedSimpArgs false
set_option maxRecDepth 100000

abbrev spanV (f t : Int) : Value := .agg [.int .i64 f, .int .i64 t].toArray
theorem termLaw (s : SetupS) {p : Nat} {id : Int} {m1 m2 : Nat} {H : AHeap} (hp : H[p]? = some (.row (s.cells ++ [.int .i64 id, .int .i64 0, .map (some m1), .map (some m2), .slice none 0 0]) 15 true)) : Sound Tryz.prog 10 [ptrV p] H fun v H' => v = .int .i64 0 ∧ H <+: H' := by
  refine Sound.of_body (rs := [.tmp 2]) mixed Tryz.func10 rfl (by kernel_rfl) rfl (by kernel_rfl) ?_
  simp -dsimp only [go_sem, ↓reduceIte, Nat.reduceEqDiff, Nat.reduceAdd, Nat.reduceMul, Nat.reduceSub, Nat.reduceLeDiff, Nat.reduceLT, hp]
  exact List.prefix_refl _
theorem electNil (p : Nat) (H : AHeap) : Sound Tryz.prog 7 [ptrV p, .nilIface] H fun v H' => v = .int .i64 1 ∧ H <+: H' := by
  refine Sound.of_body (rs := [.tmp 4]) mixed Tryz.func7 rfl (by kernel_rfl) rfl (by kernel_rfl) ?_
  simp -dsimp only [go_sem, ↓reduceIte, Nat.reduceEqDiff, Nat.reduceAdd, Nat.reduceMul, Nat.reduceSub, Nat.reduceLeDiff, Nat.reduceLT]
  exact List.prefix_refl _
set_option maxHeartbeats 2000000 in
theorem coordinatorMakes (s : SetupS) (id f t : Int) (H : AHeap) : Sound Tryz.prog 3 [s.val, .int .i64 id, spanV f t] H fun v _ => v = .bool true := by
  refine Sound.of_body (rs := [.tmp 6]) mixed Tryz.func3 rfl (by kernel_rfl) rfl (by kernel_rfl) ?_
  have b0 := get_end H (AObj.row s.cells 10 true) [AObj.row [.int .i64 f, .int .i64 t] 2 true]
  have c0 := get_end1 H (AObj.row s.cells 10 true) (AObj.row [.int .i64 f, .int .i64 t] 2 true) []
  simp -dsimp only [go_sem, ↓reduceIte, Nat.reduceEqDiff, Nat.reduceAdd, Nat.reduceMul, Nat.reduceSub, Nat.reduceLeDiff, Nat.reduceLT]
  generalize H ++ [AObj.row s.cells 10 true, AObj.row [.int .i64 f, .int .i64 t] 2 true] = H0 at *
  refine SoundP_of (awakeLaw H0) ?_
  rintro _ K ⟨rfl, hK⟩
  rw [hK]
  simp -dsimp only [go_sem, ↓reduceIte, Nat.reduceEqDiff, Nat.reduceAdd, Nat.reduceMul, Nat.reduceSub, Nat.reduceLeDiff, Nat.reduceLT, b0]
  refine SoundP_of (newLaw s id H0) ?_
  rintro v H1 ⟨p1, hv⟩
  have b1 := pre_get p1 b0
  have c1 := pre_get p1 c0
  have u1 : Tryz.prog.underlying 56 = some (.pointer 64) := by kernel_rfl
  have u2 : Tryz.prog.underlying 65 = some (.pointer 68) := by kernel_rfl
  rcases hv with ⟨hno, rfl⟩ | ⟨hyes, p, m1, m2, rfl, d1⟩
  · simp -dsimp only [go_sem, ↓reduceIte, Nat.reduceEqDiff, Nat.reduceAdd, Nat.reduceMul, Nat.reduceSub, Nat.reduceLeDiff, Nat.reduceLT]
    refine SoundP_of (nilHandle _ H1) ?_
    rintro _ H2 p2
    have b2 := pre_get p2 b1
    have c2 := pre_get p2 c1
    have p3 : H2 <+: H2 ++ [AObj.row [.int .i64 0, .int .i64 0, .int .i64 0, .slice none 0 0, .slice none 0 0, .bool false, .int .i64 0, .slice none 0 0, .slice none 0 0] 9 true, AObj.row [.slice none 0 0, .bool false, .int .i64 0, .slice none 0 0] 4 true] := List.prefix_append _ _
    have b3 := pre_get p3 b2
    have c3 := pre_get p3 c2
    simp -dsimp only [go_sem, ↓reduceIte, Nat.reduceEqDiff, Nat.reduceAdd, Nat.reduceMul, Nat.reduceSub, Nat.reduceLeDiff, Nat.reduceLT, u1, u2]
    obtain ⟨H3, hH3⟩ : ∃ H3, H2 ++ [AObj.row [.int .i64 0, .int .i64 0, .int .i64 0, .slice none 0 0, .slice none 0 0, .bool false, .int .i64 0, .slice none 0 0, .slice none 0 0] 9 true, AObj.row [.slice none 0 0, .bool false, .int .i64 0, .slice none 0 0] 4 true] = H3 := ⟨_, rfl⟩
    rw [hH3] at b3 c3  ⊢
    refine SoundP_of (nilElect _ H3) ?_
    rintro _ H4 ⟨rfl, p4⟩
    have b4 := pre_get p4 b3
    have c4 := pre_get p4 c3
    simp -dsimp only [go_sem, ↓reduceIte, Nat.reduceEqDiff, Nat.reduceAdd, Nat.reduceMul, Nat.reduceSub, Nat.reduceLeDiff, Nat.reduceLT, u1, u2, c4]
    refine SoundP_of (nilCompact _ _ _ H4) ?_
    rintro _ H5 ⟨rfl, p5⟩
    have b5 := pre_get p5 b4
    have c5 := pre_get p5 c4
    simp -dsimp only [go_sem, ↓reduceIte, Nat.reduceEqDiff, Nat.reduceAdd, Nat.reduceMul, Nat.reduceSub, Nat.reduceLeDiff, Nat.reduceLT, u1, u2, c5]
    refine SoundP_of (nilWipe _ _ _ H5) ?_
    rintro _ H6 ⟨rfl, p6⟩
    have b6 := pre_get p6 b5
    have e11 : ((1 : Int) != (1 : Int)) = false := rfl
    have e00 : ((0 : Int) != (0 : Int)) = false := rfl
    have e0n : (((0 : Nat) : Int) != (0 : Int)) = false := rfl
    simp -dsimp only [go_sem, ↓reduceIte, Nat.reduceEqDiff, Nat.reduceAdd, Nat.reduceMul, Nat.reduceSub, Nat.reduceLeDiff, Nat.reduceLT, e11]
    refine SoundP_of (nilTerm H6) ?_
    rintro _ H7 ⟨rfl, p7⟩
    have b7 := pre_get p7 b6
    simp -dsimp only [go_sem, ↓reduceIte, Nat.reduceEqDiff, Nat.reduceAdd, Nat.reduceMul, Nat.reduceSub, Nat.reduceLeDiff, Nat.reduceLT, u1, u2, e00]
    refine SoundP_of (nilTick _ _ _ H7) ?_
    rintro _ H8 ⟨rfl, p8⟩
    have b8 := pre_get p8 b7
    simp -dsimp only [go_sem, ↓reduceIte, Nat.reduceEqDiff, Nat.reduceAdd, Nat.reduceMul, Nat.reduceSub, Nat.reduceLeDiff, Nat.reduceLT, e0n, b8]
    refine SoundP_of (refFits s H8) ?_
    rintro _ H9 ⟨rfl, p9⟩
    have b9 := pre_get p9 b8
    cases hF : fitsB s with
    | false => simp -dsimp only [go_sem, ↓reduceIte, Nat.reduceEqDiff, Nat.reduceAdd, Nat.reduceMul, Nat.reduceSub, Nat.reduceLeDiff, Nat.reduceLT, hF]; rfl
    | true =>
    cases hA : decide (id < 41) with
    | true => simp -dsimp only [go_sem, ↓reduceIte, Nat.reduceEqDiff, Nat.reduceAdd, Nat.reduceMul, Nat.reduceSub, Nat.reduceLeDiff, Nat.reduceLT, hF, hA]; rfl
    | false =>
    have hw : IntKind.i64.wrap (41 + s.leaders) = 41 + s.leaders := by have hf := (fitsB_iff s).1 hF; exact wr64 (by have := hf.l0; have := hf.l1; omega) (by have := hf.l0; have := hf.l1; omega)
    have hB : decide (41 + s.leaders ≤ id) = true := by
      have hA' := dec_false hA
      simp only [mayB, hF, Bool.true_and, Bool.and_eq_false_iff, decide_eq_false_iff_not] at hno
      exact decide_eq_true (by omega)
    simp -dsimp only [go_sem, ↓reduceIte, Nat.reduceEqDiff, Nat.reduceAdd, Nat.reduceMul, Nat.reduceSub, Nat.reduceLeDiff, Nat.reduceLT, hF, hA, hw, b9, hB]
    rfl
  · simp -dsimp only [go_sem, ↓reduceIte, Nat.reduceEqDiff, Nat.reduceAdd, Nat.reduceMul, Nat.reduceSub, Nat.reduceLeDiff, Nat.reduceLT]
    refine SoundP_of (nilHandle _ H1) ?_
    rintro _ H2 p2
    have b2 := pre_get p2 b1
    have c2 := pre_get p2 c1
    have d2 := pre_get p2 d1
    have p3 : H2 <+: H2 ++ [AObj.row [.int .i64 0, .int .i64 0, .int .i64 0, .slice none 0 0, .slice none 0 0, .bool false, .int .i64 0, .slice none 0 0, .slice none 0 0] 9 true, AObj.row [.slice none 0 0, .bool false, .int .i64 0, .slice none 0 0] 4 true] := List.prefix_append _ _
    have b3 := pre_get p3 b2
    have c3 := pre_get p3 c2
    have d3 := pre_get p3 d2
    simp -dsimp only [go_sem, ↓reduceIte, Nat.reduceEqDiff, Nat.reduceAdd, Nat.reduceMul, Nat.reduceSub, Nat.reduceLeDiff, Nat.reduceLT, u1, u2]
    obtain ⟨H3, hH3⟩ : ∃ H3, H2 ++ [AObj.row [.int .i64 0, .int .i64 0, .int .i64 0, .slice none 0 0, .slice none 0 0, .bool false, .int .i64 0, .slice none 0 0, .slice none 0 0] 9 true, AObj.row [.slice none 0 0, .bool false, .int .i64 0, .slice none 0 0] 4 true] = H3 := ⟨_, rfl⟩
    rw [hH3] at b3 c3 d3 ⊢
    refine SoundP_of (nilElect _ H3) ?_
    rintro _ H4 ⟨rfl, p4⟩
    have b4 := pre_get p4 b3
    have c4 := pre_get p4 c3
    have d4 := pre_get p4 d3
    simp -dsimp only [go_sem, ↓reduceIte, Nat.reduceEqDiff, Nat.reduceAdd, Nat.reduceMul, Nat.reduceSub, Nat.reduceLeDiff, Nat.reduceLT, u1, u2, c4]
    refine SoundP_of (nilCompact _ _ _ H4) ?_
    rintro _ H5 ⟨rfl, p5⟩
    have b5 := pre_get p5 b4
    have c5 := pre_get p5 c4
    have d5 := pre_get p5 d4
    simp -dsimp only [go_sem, ↓reduceIte, Nat.reduceEqDiff, Nat.reduceAdd, Nat.reduceMul, Nat.reduceSub, Nat.reduceLeDiff, Nat.reduceLT, u1, u2, c5]
    refine SoundP_of (nilWipe _ _ _ H5) ?_
    rintro _ H6 ⟨rfl, p6⟩
    have b6 := pre_get p6 b5
    have d6 := pre_get p6 d5
    have e11 : ((1 : Int) != (1 : Int)) = false := rfl
    have e00 : ((0 : Int) != (0 : Int)) = false := rfl
    have e0n : (((0 : Nat) : Int) != (0 : Int)) = false := rfl
    simp -dsimp only [go_sem, ↓reduceIte, Nat.reduceEqDiff, Nat.reduceAdd, Nat.reduceMul, Nat.reduceSub, Nat.reduceLeDiff, Nat.reduceLT, e11]
    refine SoundP_of (nilTerm H6) ?_
    rintro _ H7 ⟨rfl, p7⟩
    have b7 := pre_get p7 b6
    have d7 := pre_get p7 d6
    simp -dsimp only [go_sem, ↓reduceIte, Nat.reduceEqDiff, Nat.reduceAdd, Nat.reduceMul, Nat.reduceSub, Nat.reduceLeDiff, Nat.reduceLT, u1, u2, e00]
    refine SoundP_of (nilTick _ _ _ H7) ?_
    rintro _ H8 ⟨rfl, p8⟩
    have b8 := pre_get p8 b7
    have d8 := pre_get p8 d7
    simp -dsimp only [go_sem, ↓reduceIte, Nat.reduceEqDiff, Nat.reduceAdd, Nat.reduceMul, Nat.reduceSub, Nat.reduceLeDiff, Nat.reduceLT, e0n, b8]
    refine SoundP_of (refFits s H8) ?_
    rintro _ H9 ⟨rfl, p9⟩
    have b9 := pre_get p9 b8
    have d9 := pre_get p9 d8
    have hF : fitsB s = true := by simp only [mayB, Bool.and_eq_true] at hyes; exact hyes.1
    have hw : IntKind.i64.wrap (41 + s.leaders) = 41 + s.leaders := by have hf := (fitsB_iff s).1 hF; exact wr64 (by have := hf.l0; have := hf.l1; omega) (by have := hf.l0; have := hf.l1; omega)
    have hid : 41 ≤ id ∧ id < 41 + s.leaders := by simp only [mayB, Bool.and_eq_true, decide_eq_true_eq] at hyes; exact hyes.2
    have hA : decide (id < 41) = false := decide_eq_false (by omega)
    have hB : decide (41 + s.leaders ≤ id) = false := decide_eq_false (by omega)
    simp -dsimp only [go_sem, ↓reduceIte, Nat.reduceEqDiff, Nat.reduceAdd, Nat.reduceMul, Nat.reduceSub, Nat.reduceLeDiff, Nat.reduceLT, hF, hA, hw, b9, hB, e00]
    refine SoundP_of (electNil p H9) ?_
    rintro _ H10 ⟨rfl, p10⟩
    have d10 := pre_get p10 d9
    have e11' : ((1 : Int) == (1 : Int)) = true := rfl
    have e00' : ((0 : Int) == (0 : Int)) = true := rfl
    simp -dsimp only [go_sem, ↓reduceIte, Nat.reduceEqDiff, Nat.reduceAdd, Nat.reduceMul, Nat.reduceSub, Nat.reduceLeDiff, Nat.reduceLT, e11']
    refine SoundP_of (termLaw s d10) ?_
    rintro _ H11 ⟨rfl, p11⟩
    simp -dsimp only [go_sem, ↓reduceIte, Nat.reduceEqDiff, Nat.reduceAdd, Nat.reduceMul, Nat.reduceSub, Nat.reduceLeDiff, Nat.reduceLT, e00']
/-! ### how what is handed in is read -/
theorem decSetup : ∀ cs, AW.Fits [.int .i64, .int .i64, .int .i64, .int .i64, .int .i64, .int .i64, .int .i64, .int .i64, .int .i64, .int .i64] cs → ∃ s : SetupS, cs = s.cells ∧ True := by
  intro cs h
  obtain ⟨v0, r1, rfl, ⟨n0, rfl, w0⟩, h1⟩ := h.cons
  obtain ⟨v1, r2, rfl, ⟨n1, rfl, w1⟩, h2⟩ := h1.cons
  obtain ⟨v2, r3, rfl, ⟨n2, rfl, w2⟩, h3⟩ := h2.cons
  obtain ⟨v3, r4, rfl, ⟨n3, rfl, w3⟩, h4⟩ := h3.cons
  obtain ⟨v4, r5, rfl, ⟨n4, rfl, w4⟩, h5⟩ := h4.cons
  obtain ⟨v5, r6, rfl, ⟨n5, rfl, w5⟩, h6⟩ := h5.cons
  obtain ⟨v6, r7, rfl, ⟨n6, rfl, w6⟩, h7⟩ := h6.cons
  obtain ⟨v7, r8, rfl, ⟨n7, rfl, w7⟩, h8⟩ := h7.cons
  obtain ⟨v8, r9, rfl, ⟨n8, rfl, w8⟩, h9⟩ := h8.cons
  obtain ⟨v9, r10, rfl, ⟨n9, rfl, w9⟩, h10⟩ := h9.cons
  obtain rfl := h10.end_
  exact ⟨⟨n0, n1, n2, n3, n4, n5, n6, n7, n8, n9⟩, rfl, trivial⟩
theorem decSpan : ∀ cs, AW.Fits [.int .i64, .int .i64] cs → ∃ f t : Int, cs = [.int .i64 f, .int .i64 t] ∧ True := by
  intro cs h
  obtain ⟨v0, r1, rfl, ⟨n0, rfl, w0⟩, h1⟩ := h.cons
  obtain ⟨v1, r2, rfl, ⟨n1, rfl, w1⟩, h2⟩ := h1.cons
  obtain rfl := h2.end_
  exact ⟨n0, n1, rfl, trivial⟩
end Go.Proofs.YtcjeoljkbacdcaaGreatDoor
