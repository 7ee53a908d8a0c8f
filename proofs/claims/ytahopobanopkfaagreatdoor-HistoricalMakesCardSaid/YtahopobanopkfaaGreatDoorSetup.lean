/-
  A small setup, of raw numbers.
-/
import Derived.Test.YtahopobanopkfaaGreatDoorFit
set_option linter.unusedVariables false
set_option linter.unusedSimpArgs false
namespace Go.Proofs.YtahopobanopkfaaGreatDoor
open Go Go.AW
set_option linter.unusedSimpArgs false
set_option maxRecDepth 20000

def InI (n : Int) : Prop := -9223372036854775808 ≤ n ∧ n ≤ 9223372036854775807
def absZ (n : Int) : Int := if n < 0 then -(n + 1) else n
theorem absZ_ge (n : Int) : 0 ≤ absZ n := by unfold absZ; split <;> omega
theorem absZ_le {n : Int} (h : InI n) : absZ n ≤ 9223372036854775807 := by unfold absZ; have := h.1; have := h.2; split <;> omega
theorem absLaw (n : Int) (H : AHeap) (hn : InI n) : Sound Tryz.prog 16 [.int .i64 n] H fun v H' => v = .int .i64 (absZ n) ∧ H' = H := by
  have h1 := hn.1
  have h2 := hn.2
  refine Sound.of_body (rs := [.tmp 2]) mixed Tryz.func16 rfl (by kernel_rfl) rfl (by kernel_rfl) ?_
  cases h : decide (n < 0) with
  | true =>
    have h' := of_decide_eq_true h
    simp -dsimp only [go_sem, ↓reduceIte, Nat.reduceEqDiff, Nat.reduceAdd, Nat.reduceMul, Nat.reduceSub, Nat.reduceLeDiff, Nat.reduceLT, h, wr64 (i := n + 1) (by omega) (by omega), wr64 (i := 0 - (n + 1)) (by omega) (by omega)]
    simp only [absZ, if_pos h']
    congr 1; omega
  | false =>
    have h' := dec_false h
    simp -dsimp only [go_sem, ↓reduceIte, Nat.reduceEqDiff, Nat.reduceAdd, Nat.reduceMul, Nat.reduceSub, Nat.reduceLeDiff, Nat.reduceLT, h]
    simp only [absZ, if_neg h']
structure SetupI (s : SetupS) : Prop where
  i0 : InI s.dims
  i1 : InI s.meas
  i2 : InI s.streams
  i3 : InI s.stores
  i4 : InI s.leaders
  i5 : InI s.chunk
  i6 : InI s.replicas
  i7 : InI s.batch
  i8 : InI s.retry
  i9 : InI s.retention
/-- what it is made into -/
def smallS (s : SetupS) : SetupS := ⟨1 + (absZ s.dims).tmod 2, 1, 1 + (absZ s.streams).tmod 2, 1 + (absZ s.stores).tmod 3, 1 + (absZ s.leaders).tmod 2, 10 + (absZ (s.chunk.tmod 1000)).tmod 20, 1 + (absZ s.replicas).tmod 2, 2 + (absZ s.batch).tmod 6, 1 + (absZ s.retry).tmod 3, 3 + (absZ s.retention).tmod 6⟩
theorem tm_bd (n k : Int) (hk : 0 < k) : 0 ≤ (absZ n).tmod k ∧ (absZ n).tmod k < k := by
  rw [Int.tmod_eq_emod_of_nonneg (absZ_ge n)]
  exact ⟨Int.emod_nonneg _ (by omega), Int.emod_lt_of_pos _ hk⟩
theorem small_fits (s : SetupS) : FitsS (smallS s) := by
  have a1 := tm_bd s.dims 2 (by omega)
  have a2 := tm_bd s.streams 2 (by omega)
  have a3 := tm_bd s.stores 3 (by omega)
  have a4 := tm_bd s.leaders 2 (by omega)
  have a5 := tm_bd (s.chunk.tmod 1000) 20 (by omega)
  have a6 := tm_bd s.replicas 2 (by omega)
  have a7 := tm_bd s.batch 6 (by omega)
  have a8 := tm_bd s.retry 3 (by omega)
  have a9 := tm_bd s.retention 6 (by omega)
  constructor <;> simp only [smallS] <;> omega
set_option maxHeartbeats 2000000 in
theorem setupLaw (s : SetupS) (hs : SetupI s) (H : AHeap) : Sound Tryz.prog 6 [s.val] H fun v H' => v = (smallS s).val ∧ H <+: H' := by
  refine Sound.of_body (rs := [.cell 2 25]) mixed Tryz.func6 rfl (by kernel_rfl) rfl (by kernel_rfl) ?_
  have ht : InI (s.chunk.tmod 1000) := by
    have := hs.i5.1; have := hs.i5.2
    constructor
    · have := Int.lt_tmod_of_pos s.chunk (show (0 : Int) < 1000 by omega); omega
    · have := Int.tmod_lt_of_pos s.chunk (show (0 : Int) < 1000 by omega); omega
  have a1 := tm_bd s.dims 2 (by omega)
  have a2 := tm_bd s.streams 2 (by omega)
  have a3 := tm_bd s.stores 3 (by omega)
  have a4 := tm_bd s.leaders 2 (by omega)
  have a5 := tm_bd (s.chunk.tmod 1000) 20 (by omega)
  have a6 := tm_bd s.replicas 2 (by omega)
  have a7 := tm_bd s.batch 6 (by omega)
  have a8 := tm_bd s.retry 3 (by omega)
  have a9 := tm_bd s.retention 6 (by omega)
  have w1 : IntKind.i64.wrap (1 + (absZ s.dims).tmod 2) = 1 + (absZ s.dims).tmod 2 := wr64 (by omega) (by omega)
  have w2 : IntKind.i64.wrap (1 + (absZ s.streams).tmod 2) = 1 + (absZ s.streams).tmod 2 := wr64 (by omega) (by omega)
  have w3 : IntKind.i64.wrap (1 + (absZ s.stores).tmod 3) = 1 + (absZ s.stores).tmod 3 := wr64 (by omega) (by omega)
  have w4 : IntKind.i64.wrap (1 + (absZ s.leaders).tmod 2) = 1 + (absZ s.leaders).tmod 2 := wr64 (by omega) (by omega)
  have w5 : IntKind.i64.wrap (10 + (absZ (s.chunk.tmod 1000)).tmod 20) = 10 + (absZ (s.chunk.tmod 1000)).tmod 20 := wr64 (by omega) (by omega)
  have w6 : IntKind.i64.wrap (1 + (absZ s.replicas).tmod 2) = 1 + (absZ s.replicas).tmod 2 := wr64 (by omega) (by omega)
  have w7 : IntKind.i64.wrap (2 + (absZ s.batch).tmod 6) = 2 + (absZ s.batch).tmod 6 := wr64 (by omega) (by omega)
  have w8 : IntKind.i64.wrap (1 + (absZ s.retry).tmod 3) = 1 + (absZ s.retry).tmod 3 := wr64 (by omega) (by omega)
  have w9 : IntKind.i64.wrap (3 + (absZ s.retention).tmod 6) = 3 + (absZ s.retention).tmod 6 := wr64 (by omega) (by omega)
  simp -dsimp only [go_sem, ↓reduceIte, Nat.reduceEqDiff, Nat.reduceAdd, Nat.reduceMul, Nat.reduceSub, Nat.reduceLeDiff, Nat.reduceLT]
  refine adrawnP_of2 [(0, false), (1, false), (2, false), (7, false), (8, false), (12, false), (13, false), (17, false), (18, false), (22, false), (23, false), (24, false), (28, false), (29, false), (33, false), (34, false), (38, false), (39, false), (43, false), (44, false), (3, true), (4, false), (5, false), (6, false), (9, true), (10, false), (11, false), (14, true), (15, false), (16, false), (19, true), (20, false), (21, false), (25, true), (26, false), (27, false), (30, true), (31, false), (32, false), (35, true), (36, false), (37, false), (40, true), (41, false), (42, false), (45, true), (46, false), (47, false), (48, false), (49, false)] (by kernel_rfl) ?_
  simp -dsimp only [go_sem, ↓reduceIte, Nat.reduceEqDiff, Nat.reduceAdd, Nat.reduceMul, Nat.reduceSub, Nat.reduceLeDiff, Nat.reduceLT, Int.reduceEq]
  refine SoundP_of (absLaw _ _ hs.i0) ?_
  rintro _ _ ⟨rfl, rfl⟩
  simp -dsimp only [go_sem, ↓reduceIte, Nat.reduceEqDiff, Nat.reduceAdd, Nat.reduceMul, Nat.reduceSub, Nat.reduceLeDiff, Nat.reduceLT, Int.reduceEq, w1]
  refine SoundP_of (absLaw _ _ hs.i2) ?_
  rintro _ _ ⟨rfl, rfl⟩
  simp -dsimp only [go_sem, ↓reduceIte, Nat.reduceEqDiff, Nat.reduceAdd, Nat.reduceMul, Nat.reduceSub, Nat.reduceLeDiff, Nat.reduceLT, Int.reduceEq, w2]
  refine SoundP_of (absLaw _ _ hs.i3) ?_
  rintro _ _ ⟨rfl, rfl⟩
  simp -dsimp only [go_sem, ↓reduceIte, Nat.reduceEqDiff, Nat.reduceAdd, Nat.reduceMul, Nat.reduceSub, Nat.reduceLeDiff, Nat.reduceLT, Int.reduceEq, w3]
  refine SoundP_of (absLaw _ _ hs.i4) ?_
  rintro _ _ ⟨rfl, rfl⟩
  simp -dsimp only [go_sem, ↓reduceIte, Nat.reduceEqDiff, Nat.reduceAdd, Nat.reduceMul, Nat.reduceSub, Nat.reduceLeDiff, Nat.reduceLT, Int.reduceEq, w4]
  refine SoundP_of (absLaw _ _ ht) ?_
  rintro _ _ ⟨rfl, rfl⟩
  simp -dsimp only [go_sem, ↓reduceIte, Nat.reduceEqDiff, Nat.reduceAdd, Nat.reduceMul, Nat.reduceSub, Nat.reduceLeDiff, Nat.reduceLT, Int.reduceEq, w5]
  refine SoundP_of (absLaw _ _ hs.i6) ?_
  rintro _ _ ⟨rfl, rfl⟩
  simp -dsimp only [go_sem, ↓reduceIte, Nat.reduceEqDiff, Nat.reduceAdd, Nat.reduceMul, Nat.reduceSub, Nat.reduceLeDiff, Nat.reduceLT, Int.reduceEq, w6]
  refine SoundP_of (absLaw _ _ hs.i7) ?_
  rintro _ _ ⟨rfl, rfl⟩
  simp -dsimp only [go_sem, ↓reduceIte, Nat.reduceEqDiff, Nat.reduceAdd, Nat.reduceMul, Nat.reduceSub, Nat.reduceLeDiff, Nat.reduceLT, Int.reduceEq, w7]
  refine SoundP_of (absLaw _ _ hs.i8) ?_
  rintro _ _ ⟨rfl, rfl⟩
  simp -dsimp only [go_sem, ↓reduceIte, Nat.reduceEqDiff, Nat.reduceAdd, Nat.reduceMul, Nat.reduceSub, Nat.reduceLeDiff, Nat.reduceLT, Int.reduceEq, w8]
  refine SoundP_of (absLaw _ _ hs.i9) ?_
  rintro _ _ ⟨rfl, rfl⟩
  simp -dsimp only [go_sem, ↓reduceIte, Nat.reduceEqDiff, Nat.reduceAdd, Nat.reduceMul, Nat.reduceSub, Nat.reduceLeDiff, Nat.reduceLT, Int.reduceEq, w9]
  exact ⟨rfl, List.prefix_append _ _⟩
end Go.Proofs.YtahopobanopkfaaGreatDoor
