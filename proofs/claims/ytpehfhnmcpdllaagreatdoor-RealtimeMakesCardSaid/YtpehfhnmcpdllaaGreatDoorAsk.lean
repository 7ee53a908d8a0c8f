/-
  What a new node says, and what no node says.
-/
import Derived.Test.YtpehfhnmcpdllaaGreatDoorNew
import Derived.Test.YtpehfhnmcpdllaaGreatDoorAwRun
set_option linter.unusedVariables false
set_option linter.unusedSimpArgs false
namespace Go.Proofs.YtpehfhnmcpdllaaGreatDoor
open Go Go.AW
set_option linter.unusedSimpArgs false
set_option maxRecDepth 100000

theorem zlt : decide ((0 : Int) < ((0 : Nat) : Int)) = false := rfl
theorem sealN (H : AHeap) : Sound Tryz.prog 8 [.pointer none] H fun _ H' => H' = H := by
  refine Sound.of_body (rs := []) mixed Tryz.func8 rfl (by kernel_rfl) rfl (by kernel_rfl) ?_
  simp -dsimp only [go_sem, ↓reduceIte, Nat.reduceEqDiff, Nat.reduceAdd, Nat.reduceMul, Nat.reduceSub, Nat.reduceLeDiff, Nat.reduceLT]
theorem takenN (H : AHeap) : Sound Tryz.prog 9 [.pointer none] H fun v H' => v = .int .u64 0 ∧ H' = H := by
  refine Sound.of_body (rs := [.tmp 2]) mixed Tryz.func9 rfl (by kernel_rfl) rfl (by kernel_rfl) ?_
  simp -dsimp only [go_sem, ↓reduceIte, Nat.reduceEqDiff, Nat.reduceAdd, Nat.reduceMul, Nat.reduceSub, Nat.reduceLeDiff, Nat.reduceLT]
theorem waitingN (H : AHeap) : Sound Tryz.prog 11 [.pointer none] H fun v H' => v = .int .i64 0 ∧ H' = H := by
  refine Sound.of_body (rs := [.tmp 2]) mixed Tryz.func11 rfl (by kernel_rfl) rfl (by kernel_rfl) ?_
  simp -dsimp only [go_sem, ↓reduceIte, Nat.reduceEqDiff, Nat.reduceAdd, Nat.reduceMul, Nat.reduceSub, Nat.reduceLeDiff, Nat.reduceLT]
theorem servingN (H : AHeap) : Sound Tryz.prog 22 [.pointer none] H fun v H' => v = .slice none 0 0 ∧ H' = H := by
  refine Sound.of_body (rs := [.tmp 2]) mixed Tryz.func22 rfl (by kernel_rfl) rfl (by kernel_rfl) ?_
  simp -dsimp only [go_sem, ↓reduceIte, Nat.reduceEqDiff, Nat.reduceAdd, Nat.reduceMul, Nat.reduceSub, Nat.reduceLeDiff, Nat.reduceLT]
theorem sortN (H : AHeap) : Sound Tryz.prog 23 [.slice none 0 0, .func (.func 24) #[] #[]] H fun u K => u = .tuple #[] ∧ K = H :=
  Sound.of_ran (pl := []) (lf := 50) (n := 20) (ext := noExt) mixed (noExt_ok _) rfl (by kernel_rfl) (by kernel_rfl) (by kernel_rfl) H
theorem servedN (H : AHeap) : Sound Tryz.prog 10 [.pointer none] H fun v H' => v = .slice none 0 0 ∧ H <+: H' := by
  refine Sound.of_body (rs := [.tmp 2]) mixed Tryz.func10 rfl (by kernel_rfl) rfl (by kernel_rfl) ?_
  simp -dsimp only [go_sem, ↓reduceIte, Nat.reduceEqDiff, Nat.reduceAdd, Nat.reduceMul, Nat.reduceSub, Nat.reduceLeDiff, Nat.reduceLT]
  refine SoundP_of (servingN H) ?_
  rintro _ _ ⟨rfl, rfl⟩
  simp -dsimp only [go_sem, ↓reduceIte, Nat.reduceEqDiff, Nat.reduceAdd, Nat.reduceMul, Nat.reduceSub, Nat.reduceLeDiff, Nat.reduceLT]
  refine aloopP_once ?_
  simp -dsimp only [go_sem, ↓reduceIte, Nat.reduceEqDiff, Nat.reduceAdd, Nat.reduceMul, Nat.reduceSub, Nat.reduceLeDiff, Nat.reduceLT, zlt]
  refine SoundP_of (sortN _) ?_
  rintro v H' ⟨rfl, rfl⟩
  simp -dsimp only [go_sem, ↓reduceIte, Nat.reduceEqDiff, Nat.reduceAdd, Nat.reduceMul, Nat.reduceSub, Nat.reduceLeDiff, Nat.reduceLT]
  exact List.prefix_refl _
theorem tickN (t : Int) (v1 v2 : Value) (H : AHeap) : Sound Tryz.prog 13 [.pointer none, .int .i64 t, v1, v2] H fun v H' => v = .slice none 0 0 ∧ H <+: H' := by
  refine Sound.of_body (rs := [.tmp 8]) mixed Tryz.func13 rfl (by kernel_rfl) rfl (by kernel_rfl) ?_
  simp -dsimp only [go_sem, ↓reduceIte, Nat.reduceEqDiff, Nat.reduceAdd, Nat.reduceMul, Nat.reduceSub, Nat.reduceLeDiff, Nat.reduceLT]
  exact List.prefix_refl _
abbrev factC : List Value := [.int .i64 1, .int .i64 0, .int .i64 0, .int .u64 0, .int .u64 0, .int .u64 0, .int .i64 0, .int .u64 0, .int .i64 0, .int .i64 0, .slice none 0 0, .slice none 0 0, .int .i64 0, .int .i64 0, .int .i64 0, .int .i64 0, .slice none 0 0, .int .i64 0, .int .i64 0, .slice none 0 0, .int .i64 0, .slice none 0 0, .slice none 0 0, .int .i64 0, .int .i64 0, .int .i64 0, .int .i64 0, .int .i64 0, .int .i64 0, .int .i64 0, .int .i64 0, .int .i64 0, .bool false, .int .i64 0, .int .i64 0, .int .i64 0, .int .i64 0, .int .i64 0, .int .i64 0, .slice none 0 0, .slice none 0 0]
theorem handleN (H : AHeap) : Sound Tryz.prog 12 [.pointer none, .agg factC.toArray] H fun v H' => v = .slice none 0 0 ∧ H <+: H' := by
  refine Sound.of_body (rs := [.tmp 4]) mixed Tryz.func12 rfl (by kernel_rfl) rfl (by kernel_rfl) ?_
  simp -dsimp only [go_sem, ↓reduceIte, Nat.reduceEqDiff, Nat.reduceAdd, Nat.reduceMul, Nat.reduceSub, Nat.reduceLeDiff, Nat.reduceLT]
  exact List.prefix_append _ _
theorem get13 (pre : List Value) (hp : pre.length = 12) (a b c d e f : Value) : (pre ++ [a, b, c, d, e, f])[12]? = some a ∧ (pre ++ [a, b, c, d, e, f])[13]? = some b ∧ (pre ++ [a, b, c, d, e, f])[15]? = some d := by
  refine ⟨?_, ?_, ?_⟩ <;> rw [List.getElem?_append_right (by omega)] <;> simp [hp]
theorem nextLaw {q : Nat} {d m c : Value} {x : Int} {H : AHeap} (h : H[q]? = some (.row [d, m, c, .int .u64 x, .slice none 0 0, .int .i64 0, .slice none 0 0, .int .i64 0] 8 true)) : Sound Tryz.prog 21 [ptrV q] H fun v H' => v = .int .u64 x ∧ H' = H := by
  refine Sound.of_body (rs := [.tmp 2]) mixed Tryz.func21 rfl (by kernel_rfl) rfl (by kernel_rfl) ?_
  simp -dsimp only [go_sem, ↓reduceIte, Nat.reduceEqDiff, Nat.reduceAdd, Nat.reduceMul, Nat.reduceSub, Nat.reduceLeDiff, Nat.reduceLT, h]
theorem takenLaw {n : Nat} {x : Int} {H : AHeap} (h : NodeAt H n x) (h0 : 0 ≤ x) (h1 : x < 1099511627776) : Sound Tryz.prog 9 [ptrV n] H fun v H' => v = .int .u64 x ∧ H' = H := by
  obtain ⟨q, ⟨pre, hp, hn⟩, d, m, c, hq⟩ := h
  refine Sound.of_body (rs := [.tmp 2]) mixed Tryz.func9 rfl (by kernel_rfl) rfl (by kernel_rfl) ?_
  have hw : IntKind.u64.wrap (x + 1 - 1) = x := by rw [wrU (by omega) (by omega)]; omega
  have e12 := (get13 pre hp (ptrV q) (.int .u64 x) (.bool false) (.slice none 0 0) (.int .i64 0) (.bool false)).1
  simp -dsimp only [go_sem, ↓reduceIte, Nat.reduceEqDiff, Nat.reduceAdd, Nat.reduceMul, Nat.reduceSub, Nat.reduceLeDiff, Nat.reduceLT, hn, e12]
  refine SoundP_of (nextLaw hq) ?_
  rintro _ _ ⟨rfl, rfl⟩
  simp -dsimp only [go_sem, ↓reduceIte, Nat.reduceEqDiff, Nat.reduceAdd, Nat.reduceMul, Nat.reduceSub, Nat.reduceLeDiff, Nat.reduceLT, hw]
theorem waitingLaw {n : Nat} {x : Int} {H : AHeap} (h : NodeAt H n x) (h0 : 0 ≤ x) (h1 : x < 1099511627776) : Sound Tryz.prog 11 [ptrV n] H fun v H' => v = .int .i64 0 ∧ H' = H := by
  have h' := h
  obtain ⟨q, ⟨pre, hp, hn⟩, d, m, c, hq⟩ := h
  refine Sound.of_body (rs := [.tmp 2]) mixed Tryz.func11 rfl (by kernel_rfl) rfl (by kernel_rfl) ?_
  obtain ⟨-, e13, e15⟩ := get13 pre hp (ptrV q) (.int .u64 x) (.bool false) (.slice none 0 0) (.int .i64 0) (.bool false)
  have hz : decide (x < x) = false := decide_eq_false (by omega)
  simp -dsimp only [go_sem, ↓reduceIte, Nat.reduceEqDiff, Nat.reduceAdd, Nat.reduceMul, Nat.reduceSub, Nat.reduceLeDiff, Nat.reduceLT, hn, e13, e15]
  refine adrawnP_of2 [(0, false), (2, false), (3, false), (4, false), (5, false), (1, true), (6, false)] (by kernel_rfl) ?_
  simp -dsimp only [go_sem, ↓reduceIte, Nat.reduceEqDiff, Nat.reduceAdd, Nat.reduceMul, Nat.reduceSub, Nat.reduceLeDiff, Nat.reduceLT, hn, e13, e15]
  refine SoundP_of (takenLaw h' h0 h1) ?_
  rintro v H' ⟨rfl, rfl⟩
  simp -dsimp only [go_sem, ↓reduceIte, Nat.reduceEqDiff, Nat.reduceAdd, Nat.reduceMul, Nat.reduceSub, Nat.reduceLeDiff, Nat.reduceLT]
  simp -dsimp only [go_sem, ↓reduceIte, Nat.reduceEqDiff, Nat.reduceAdd, Nat.reduceMul, Nat.reduceSub, Nat.reduceLeDiff, Nat.reduceLT, hn, e13, e15, hz]
  rfl
theorem servingLaw {n : Nat} {x : Int} {H : AHeap} (h : NodeAt H n x) : Sound Tryz.prog 22 [ptrV n] H fun v H' => v = .slice none 0 0 ∧ H' = H := by
  obtain ⟨q, ⟨pre, hp, hn⟩, d, m, c, hq⟩ := h
  refine Sound.of_body (rs := [.tmp 2]) mixed Tryz.func22 rfl (by kernel_rfl) rfl (by kernel_rfl) ?_
  obtain ⟨-, e13, e15⟩ := get13 pre hp (ptrV q) (.int .u64 x) (.bool false) (.slice none 0 0) (.int .i64 0) (.bool false)
  simp -dsimp only [go_sem, ↓reduceIte, Nat.reduceEqDiff, Nat.reduceAdd, Nat.reduceMul, Nat.reduceSub, Nat.reduceLeDiff, Nat.reduceLT, hn, e15]
  refine aloopP_once ?_
  simp -dsimp only [go_sem, ↓reduceIte, Nat.reduceEqDiff, Nat.reduceAdd, Nat.reduceMul, Nat.reduceSub, Nat.reduceLeDiff, Nat.reduceLT, zlt]
theorem servedLaw {n : Nat} {x : Int} {H : AHeap} (h : NodeAt H n x) : Sound Tryz.prog 10 [ptrV n] H fun v H' => v = .slice none 0 0 ∧ H <+: H' := by
  refine Sound.of_body (rs := [.tmp 2]) mixed Tryz.func10 rfl (by kernel_rfl) rfl (by kernel_rfl) ?_
  simp -dsimp only [go_sem, ↓reduceIte, Nat.reduceEqDiff, Nat.reduceAdd, Nat.reduceMul, Nat.reduceSub, Nat.reduceLeDiff, Nat.reduceLT]
  refine SoundP_of (servingLaw h) ?_
  rintro _ _ ⟨rfl, rfl⟩
  simp -dsimp only [go_sem, ↓reduceIte, Nat.reduceEqDiff, Nat.reduceAdd, Nat.reduceMul, Nat.reduceSub, Nat.reduceLeDiff, Nat.reduceLT]
  refine aloopP_once ?_
  simp -dsimp only [go_sem, ↓reduceIte, Nat.reduceEqDiff, Nat.reduceAdd, Nat.reduceMul, Nat.reduceSub, Nat.reduceLeDiff, Nat.reduceLT, zlt]
  refine SoundP_of (sortN _) ?_
  rintro v H' ⟨rfl, rfl⟩
  simp -dsimp only [go_sem, ↓reduceIte, Nat.reduceEqDiff, Nat.reduceAdd, Nat.reduceMul, Nat.reduceSub, Nat.reduceLeDiff, Nat.reduceLT]
  exact List.prefix_refl _
end Go.Proofs.YtpehfhnmcpdllaaGreatDoor
