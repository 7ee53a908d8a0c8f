/-
  A coordinator that is made; nobody's calls.
-/
import Derived.Test.YtcjeoljkbacdcaaGreatDoorFit
set_option linter.unusedVariables false
set_option linter.unusedSimpArgs false
namespace Go.Proofs.YtcjeoljkbacdcaaGreatDoor
open Go Go.AW
set_option linter.unusedSimpArgs false
set_option maxRecDepth 20000

abbrev ptrV (p : Nat) : Value := .pointer (some ⟨p, 0, none⟩)
/-- may a coordinator be made? -/
def mayB (s : SetupS) (id : Int) : Bool := fitsB s && (decide (41 ≤ id) && decide (id < 41 + s.leaders))
set_option maxHeartbeats 1000000 in
theorem newLaw (s : SetupS) (id : Int) (H : AHeap) : Sound Tryz.prog 5 [.int .i64 id, s.val] H fun v H' => H <+: H' ∧
    (mayB s id = false ∧ v = .tuple #[.pointer none, .int .i64 1] ∨
     mayB s id = true ∧ ∃ p m1 m2, v = .tuple #[ptrV p, .int .i64 0] ∧ H'[p]? = some (.row (s.cells ++ [.int .i64 id, .int .i64 0, .map (some m1), .map (some m2), .slice none 0 0]) 15 true)) := by
  refine Sound.of_body (rs := [.tmp 4, .tmp 5]) mixed Tryz.func5 rfl (by kernel_rfl) rfl (by kernel_rfl) ?_
  have b0 := get_end H (AObj.row s.cells 10 true) []
  have p0 := List.prefix_append H [AObj.row s.cells 10 true]
  simp -dsimp only [go_sem, ↓reduceIte, Nat.reduceEqDiff, Nat.reduceAdd, Nat.reduceMul, Nat.reduceSub, Nat.reduceLeDiff, Nat.reduceLT]
  generalize H ++ [AObj.row s.cells 10 true] = H0 at *
  refine SoundP_of (fitsLaw s H0) ?_
  rintro _ H1 ⟨rfl, p1⟩
  have b1 := pre_get p1 b0
  have q1 := p0.trans p1
  cases hA : fitsB s with
  | false =>
    simp -dsimp only [go_sem, ↓reduceIte, Nat.reduceEqDiff, Nat.reduceAdd, Nat.reduceMul, Nat.reduceSub, Nat.reduceLeDiff, Nat.reduceLT, hA]
    exact ⟨q1, .inl (by simp [mayB, hA])⟩
  | true =>
  cases hB : decide (id < 41) with
  | true =>
    simp -dsimp only [go_sem, ↓reduceIte, Nat.reduceEqDiff, Nat.reduceAdd, Nat.reduceMul, Nat.reduceSub, Nat.reduceLeDiff, Nat.reduceLT, hA, hB]
    exact ⟨q1, .inl (by have := of_decide_eq_true hB; simp [mayB, hA]; omega)⟩
  | false =>
  have hB' := dec_false hB
  have hf := (fitsB_iff s).1 hA
  have hw : IntKind.i64.wrap (41 + s.leaders) = 41 + s.leaders := wr64 (by have := hf.l0; have := hf.l1; omega) (by have := hf.l0; have := hf.l1; omega)
  cases hC : decide (41 + s.leaders ≤ id) with
  | true =>
    simp -dsimp only [go_sem, ↓reduceIte, Nat.reduceEqDiff, Nat.reduceAdd, Nat.reduceMul, Nat.reduceSub, Nat.reduceLeDiff, Nat.reduceLT, hA, hB, hC, b1, hw]
    exact ⟨q1, .inl (by have := of_decide_eq_true hC; simp [mayB, hA]; omega)⟩
  | false =>
  have hC' := dec_false hC
  simp -dsimp only [go_sem, ↓reduceIte, Nat.reduceEqDiff, Nat.reduceAdd, Nat.reduceMul, Nat.reduceSub, Nat.reduceLeDiff, Nat.reduceLT, hA, hB, hC, b1, hw]
  exact ⟨q1.trans (List.prefix_append _ _), .inr ⟨by simp [mayB, hA]; omega, _, _, _, rfl, get_end2 _ _ _ _ _⟩⟩
/-- nobody's calls -/
theorem nilHandle (vs : List Value) (H : AHeap) : Sound Tryz.prog 6 [.pointer none, .agg vs.toArray] H fun _ H' => H <+: H' := by
  refine Sound.of_body (rs := []) mixed Tryz.func6 rfl (by kernel_rfl) rfl (by kernel_rfl) ?_
  simp -dsimp only [go_sem, ↓reduceIte, Nat.reduceEqDiff, Nat.reduceAdd, Nat.reduceMul, Nat.reduceSub, Nat.reduceLeDiff, Nat.reduceLT]
  refine adrawnP_of2 [(0, false), (1, false), (2, false), (3, false), (4, false), (5, false), (6, false), (7, false), (8, false), (9, false), (10, false), (11, false), (12, false), (13, false), (14, false), (15, false), (16, false), (17, false), (18, false), (19, false), (20, false), (21, false), (22, false)] (by kernel_rfl) ?_
  simp -dsimp only [go_sem, ↓reduceIte, Nat.reduceEqDiff, Nat.reduceAdd, Nat.reduceMul, Nat.reduceSub, Nat.reduceLeDiff, Nat.reduceLT]
  exact List.prefix_append _ _
theorem nilElect (v : Value) (H : AHeap) : Sound Tryz.prog 7 [.pointer none, v] H fun v H' => v = .int .i64 1 ∧ H <+: H' := by
  refine Sound.of_body (rs := [.tmp 4]) mixed Tryz.func7 rfl (by kernel_rfl) rfl (by kernel_rfl) ?_
  simp -dsimp only [go_sem, ↓reduceIte, Nat.reduceEqDiff, Nat.reduceAdd, Nat.reduceMul, Nat.reduceSub, Nat.reduceLeDiff, Nat.reduceLT]
  exact List.prefix_refl _
theorem nilCompact (vs : List Value) (u v : Value) (H : AHeap) : Sound Tryz.prog 8 [.pointer none, .agg vs.toArray, u, v] H fun v H' => v = .int .i64 1 ∧ H <+: H' := by
  refine Sound.of_body (rs := [.tmp 8]) mixed Tryz.func8 rfl (by kernel_rfl) rfl (by kernel_rfl) ?_
  simp -dsimp only [go_sem, ↓reduceIte, Nat.reduceEqDiff, Nat.reduceAdd, Nat.reduceMul, Nat.reduceSub, Nat.reduceLeDiff, Nat.reduceLT]
  exact List.prefix_append _ _
theorem nilWipe (vs : List Value) (u v : Value) (H : AHeap) : Sound Tryz.prog 9 [.pointer none, .agg vs.toArray, u, v] H fun v H' => v = .int .i64 1 ∧ H <+: H' := by
  refine Sound.of_body (rs := [.tmp 8]) mixed Tryz.func9 rfl (by kernel_rfl) rfl (by kernel_rfl) ?_
  simp -dsimp only [go_sem, ↓reduceIte, Nat.reduceEqDiff, Nat.reduceAdd, Nat.reduceMul, Nat.reduceSub, Nat.reduceLeDiff, Nat.reduceLT]
  exact List.prefix_append _ _
theorem nilTerm (H : AHeap) : Sound Tryz.prog 10 [.pointer none] H fun v H' => v = .int .i64 0 ∧ H <+: H' := by
  refine Sound.of_body (rs := [.tmp 2]) mixed Tryz.func10 rfl (by kernel_rfl) rfl (by kernel_rfl) ?_
  simp -dsimp only [go_sem, ↓reduceIte, Nat.reduceEqDiff, Nat.reduceAdd, Nat.reduceMul, Nat.reduceSub, Nat.reduceLeDiff, Nat.reduceLT]
  exact List.prefix_refl _
theorem nilTick (n : Value) (u v : Value) (H : AHeap) : Sound Tryz.prog 11 [.pointer none, n, u, v] H fun v H' => v = .slice none 0 0 ∧ H <+: H' := by
  refine Sound.of_body (rs := [.tmp 8]) mixed Tryz.func11 rfl (by kernel_rfl) rfl (by kernel_rfl) ?_
  simp -dsimp only [go_sem, ↓reduceIte, Nat.reduceEqDiff, Nat.reduceAdd, Nat.reduceMul, Nat.reduceSub, Nat.reduceLeDiff, Nat.reduceLT]
  exact List.prefix_refl _
end Go.Proofs.YtcjeoljkbacdcaaGreatDoor
