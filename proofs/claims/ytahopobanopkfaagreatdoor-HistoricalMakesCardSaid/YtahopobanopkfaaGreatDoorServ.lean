/-
  What a node serves that has no segments; a disk that is cut; no node.
-/
import Derived.Test.YtahopobanopkfaaGreatDoorHist
set_option linter.unusedVariables false
set_option linter.unusedSimpArgs false
namespace Go.Proofs.YtahopobanopkfaaGreatDoor
open Go Go.AW
set_option linter.unusedSimpArgs false
set_option maxRecDepth 100000

theorem cutIn {H : AHeap} {p m ck : Nat} (h : DiskE H p m ck false) (hne : p ≠ m) : Sound Tryz.prog 27 [ptrV p, .int .i64 0] H fun _ H' => H.length ≤ H'.length ∧ (∀ j, j < H.length → j ≠ p → H'[j]? = H[j]?) ∧ DiskE H' p m ck true := by
  refine Sound.of_body (rs := []) mixed Tryz.func27 rfl (by kernel_rfl) rfl (by kernel_rfl) ?_
  obtain ⟨x, y, z, hr⟩ := h.row
  simp -dsimp only [go_sem, ↓reduceIte, Nat.reduceEqDiff, Nat.reduceAdd, Nat.reduceMul, Nat.reduceSub, Nat.reduceLeDiff, Nat.reduceLT, hr, arangeE un98 h.map]
  refine aloopP_once ?_
  simp -dsimp only [go_sem, ↓reduceIte, Nat.reduceEqDiff, Nat.reduceAdd, Nat.reduceMul, Nat.reduceSub, Nat.reduceLeDiff, Nat.reduceLT]
  refine anextP_empty (get_end _ _ _) (get_app h.map _) ?_
  have hr' := get_app hr [AObj.mapIter (some m) ck #[] ck]
  have lp : p < H.length := get_lt hr
  simp -dsimp only [go_sem, ↓reduceIte, Nat.reduceEqDiff, Nat.reduceAdd, Nat.reduceMul, Nat.reduceSub, Nat.reduceLeDiff, Nat.reduceLT, hr']
  refine ⟨by simp, fun j hj hjp => ?_, ⟨x, y, z, List.getElem?_set_self (by simp; omega)⟩, ?_⟩
  · rw [List.getElem?_set_ne (by omega), List.getElem?_append_left hj]
  · rw [List.getElem?_set_ne hne]; exact get_app h.map _
theorem cutLaw {H : AHeap} {p m ck : Nat} (h : DiskE H p m ck false) (hne : p ≠ m) : Sound Tryz.prog 12 [ptrV p, .int .i64 0] H fun _ H' => H.length ≤ H'.length ∧ (∀ j, j < H.length → j ≠ p → H'[j]? = H[j]?) ∧ DiskE H' p m ck true := by
  refine Sound.of_body (rs := []) mixed Tryz.func12 rfl (by kernel_rfl) rfl (by kernel_rfl) ?_
  obtain ⟨x, y, z, hr⟩ := h.row
  simp -dsimp only [go_sem, ↓reduceIte, Nat.reduceEqDiff, Nat.reduceAdd, Nat.reduceMul, Nat.reduceSub, Nat.reduceLeDiff, Nat.reduceLT, hr]
  refine SoundP_of (cutIn h hne) ?_
  rintro _ H1 h1
  simp -dsimp only [go_sem, ↓reduceIte, Nat.reduceEqDiff, Nat.reduceAdd, Nat.reduceMul, Nat.reduceSub, Nat.reduceLeDiff, Nat.reduceLT]
  exact h1
theorem keysS2 {m ck L bx : Nat} {H : AHeap} (hb : H[bx]? = some (.row [.map (some m)] 1 true)) (hm : H[m]? = some (.map #[] ck)) : Sound Tryz.prog 104 [.func (.yield L) #[] #[], ptrV bx] H fun _ H' => H <+: H' := by
  refine Sound.of_body (rs := []) mixed Tryz.func104 rfl (by kernel_rfl) rfl (by kernel_rfl) ?_
  simp -dsimp only [go_sem, ↓reduceIte, Nat.reduceEqDiff, Nat.reduceAdd, Nat.reduceMul, Nat.reduceSub, Nat.reduceLeDiff, Nat.reduceLT, hb, arangeE un84 hm]
  refine aloopP_once ?_
  simp -dsimp only [go_sem, ↓reduceIte, Nat.reduceEqDiff, Nat.reduceAdd, Nat.reduceMul, Nat.reduceSub, Nat.reduceLeDiff, Nat.reduceLT]
  refine anextP_empty (get_end _ _ _) (get_app hm _) ?_
  simp -dsimp only [go_sem, ↓reduceIte, Nat.reduceEqDiff, Nat.reduceAdd, Nat.reduceMul, Nat.reduceSub, Nat.reduceLeDiff, Nat.reduceLT]
  exact List.prefix_append _ _
theorem keysOfS2 (m : Nat) (H : AHeap) : Sound Tryz.prog 32 [.map (some m)] H fun v H' => v = .func (.func 104) #[] #[ptrV H.length] ∧ H' = H ++ [.row [.map (some m)] 1 true] := by
  refine Sound.of_body (rs := [.tmp 2]) mixed Tryz.func32 rfl (by kernel_rfl) rfl (by kernel_rfl) ?_
  simp -dsimp only [go_sem, ↓reduceIte, Nat.reduceEqDiff, Nat.reduceAdd, Nat.reduceMul, Nat.reduceSub, Nat.reduceLeDiff, Nat.reduceLT]
theorem entersKS2 (xs : Array Value) (w : World) : (callFunc 104 xs).run Tryz.prog w = .ok (.enter 104 xs) w := enters_body Tryz.func104 (by kernel_rfl) rfl xs w
theorem seqS2 {m ck bx : Nat} {H : AHeap} (hb : H[bx]? = some (.row [.map (some m)] 1 true)) (hm : H[m]? = some (.map #[] ck)) : Sound Tryz.prog 189 [.slice none 0 0, .func (.func 104) #[] #[ptrV bx]] H fun v H' => v = .slice none 0 0 ∧ H <+: H' := by
  refine Sound.of_range (rs := [.tmp 4]) mixed Tryz.func189 rfl (by kernel_rfl) rfl (by kernel_rfl) ?_
  simp -dsimp only [go_sem, ↓reduceIte, Nat.reduceEqDiff, Nat.reduceAdd, Nat.reduceMul, Nat.reduceSub, Nat.reduceLeDiff, Nat.reduceLT]
  have p1 := List.prefix_append H [AObj.row [.slice none 0 0] 1 true]
  have b1 := get_end H (AObj.row [.slice none 0 0] 1 true) []
  refine ⟨7, 104, _, fun H' => H ++ [AObj.row [.slice none 0 0] 1 true] <+: H', rfl, rfl, entersKS2, IterA.none fun L => keysS2 (pre_get p1 hb) (pre_get p1 hm), fun H' p2 _ => ?_⟩
  have b2 := pre_get p2 b1
  simp -dsimp only [go_sem, ↓reduceIte, Nat.reduceEqDiff, Nat.reduceAdd, Nat.reduceMul, Nat.reduceSub, Nat.reduceLeDiff, Nat.reduceLT, b2]
  exact p1.trans p2
theorem collectS2 {m ck bx : Nat} {H : AHeap} (hb : H[bx]? = some (.row [.map (some m)] 1 true)) (hm : H[m]? = some (.map #[] ck)) : Sound Tryz.prog 102 [.func (.func 104) #[] #[ptrV bx]] H fun v H' => v = .slice none 0 0 ∧ H <+: H' := by
  refine Sound.of_body (rs := [.tmp 2]) mixed Tryz.func102 rfl (by kernel_rfl) rfl (by kernel_rfl) ?_
  simp -dsimp only [go_sem, ↓reduceIte, Nat.reduceEqDiff, Nat.reduceAdd, Nat.reduceMul, Nat.reduceSub, Nat.reduceLeDiff, Nat.reduceLT]
  refine SoundP_of (seqS2 hb hm) ?_
  rintro _ H1 ⟨rfl, p1⟩
  simp -dsimp only [go_sem, ↓reduceIte, Nat.reduceEqDiff, Nat.reduceAdd, Nat.reduceMul, Nat.reduceSub, Nat.reduceLeDiff, Nat.reduceLT]
  exact p1
theorem sortS2 (H : AHeap) : Sound Tryz.prog 103 [.slice none 0 0, .func (.func 33) #[] #[]] H fun u K => u = .tuple #[] ∧ K = H :=
  Sound.of_ran (pl := []) (lf := 50) (n := 20) (ext := noExt) mixed (noExt_ok _) rfl (by kernel_rfl) (by kernel_rfl) (by kernel_rfl) H
theorem sortedS2 {m ck bx : Nat} {H : AHeap} (hb : H[bx]? = some (.row [.map (some m)] 1 true)) (hm : H[m]? = some (.map #[] ck)) : Sound Tryz.prog 31 [.func (.func 104) #[] #[ptrV bx], .func (.func 33) #[] #[]] H fun v H' => v = .slice none 0 0 ∧ H <+: H' := by
  refine Sound.of_body (rs := [.tmp 4]) mixed Tryz.func31 rfl (by kernel_rfl) rfl (by kernel_rfl) ?_
  simp -dsimp only [go_sem, ↓reduceIte, Nat.reduceEqDiff, Nat.reduceAdd, Nat.reduceMul, Nat.reduceSub, Nat.reduceLeDiff, Nat.reduceLT]
  refine SoundP_of (collectS2 hb hm) ?_
  rintro _ H1 ⟨rfl, p1⟩
  simp -dsimp only [go_sem, ↓reduceIte, Nat.reduceEqDiff, Nat.reduceAdd, Nat.reduceMul, Nat.reduceSub, Nat.reduceLeDiff, Nat.reduceLT]
  refine SoundP_of (sortS2 _) ?_
  rintro v H' ⟨rfl, rfl⟩
  simp -dsimp only [go_sem, ↓reduceIte, Nat.reduceEqDiff, Nat.reduceAdd, Nat.reduceMul, Nat.reduceSub, Nat.reduceLeDiff, Nat.reduceLT]
  exact p1
theorem servedE {n : Nat} {s : SetupS} {id : Int} {q m : Nat} {term : Int} {H : AHeap} (hn : H[n]? = some (.row (nodeC s id q m (.slice none 0 0) term) 18 true)) (hm : H[m]? = some (.map #[] 0)) : Sound Tryz.prog 14 [ptrV n] H fun v H' => v = .slice none 0 0 ∧ H <+: H' := by
  refine Sound.of_body (rs := [.tmp 2]) mixed Tryz.func14 rfl (by kernel_rfl) rfl (by kernel_rfl) ?_
  simp -dsimp only [go_sem, ↓reduceIte, Nat.reduceEqDiff, Nat.reduceAdd, Nat.reduceMul, Nat.reduceSub, Nat.reduceLeDiff, Nat.reduceLT, hn]
  refine SoundP_of (keysOfS2 m _) ?_
  rintro _ _ ⟨rfl, rfl⟩
  have p1 : H <+: H ++ [AObj.row [.map (some m)] 1 true] := List.prefix_append _ _
  simp -dsimp only [go_sem, ↓reduceIte, Nat.reduceEqDiff, Nat.reduceAdd, Nat.reduceMul, Nat.reduceSub, Nat.reduceLeDiff, Nat.reduceLT]
  refine SoundP_of (sortedS2 (get_end _ _ _) (pre_get p1 hm)) ?_
  rintro _ H2 ⟨rfl, p2⟩
  simp -dsimp only [go_sem, ↓reduceIte, Nat.reduceEqDiff, Nat.reduceAdd, Nat.reduceMul, Nat.reduceSub, Nat.reduceLeDiff, Nat.reduceLT]
  exact p1.trans p2
theorem servedN (H : AHeap) : Sound Tryz.prog 14 [.pointer none] H fun v H' => v = .slice none 0 0 ∧ H' = H := by
  refine Sound.of_body (rs := [.tmp 2]) mixed Tryz.func14 rfl (by kernel_rfl) rfl (by kernel_rfl) ?_
  simp -dsimp only [go_sem, ↓reduceIte, Nat.reduceEqDiff, Nat.reduceAdd, Nat.reduceMul, Nat.reduceSub, Nat.reduceLeDiff, Nat.reduceLT]
theorem waitingN (H : AHeap) : Sound Tryz.prog 11 [.pointer none] H fun v H' => v = .int .i64 0 ∧ H' = H := by
  refine Sound.of_body (rs := [.tmp 2]) mixed Tryz.func11 rfl (by kernel_rfl) rfl (by kernel_rfl) ?_
  simp -dsimp only [go_sem, ↓reduceIte, Nat.reduceEqDiff, Nat.reduceAdd, Nat.reduceMul, Nat.reduceSub, Nat.reduceLeDiff, Nat.reduceLT]
theorem termNil (H : AHeap) : Sound Tryz.prog 10 [.pointer none] H fun v H' => v = .int .i64 0 ∧ H' = H := by
  refine Sound.of_body (rs := [.tmp 2]) mixed Tryz.func10 rfl (by kernel_rfl) rfl (by kernel_rfl) ?_
  simp -dsimp only [go_sem, ↓reduceIte, Nat.reduceEqDiff, Nat.reduceAdd, Nat.reduceMul, Nat.reduceSub, Nat.reduceLeDiff, Nat.reduceLT]
theorem tickN (t : Int) (v1 v2 : Value) (H : AHeap) : Sound Tryz.prog 13 [.pointer none, .int .i64 t, v1, v2] H fun v H' => v = .slice none 0 0 ∧ H <+: H' := by
  refine Sound.of_body (rs := [.tmp 8]) mixed Tryz.func13 rfl (by kernel_rfl) rfl (by kernel_rfl) ?_
  simp -dsimp only [go_sem, ↓reduceIte, Nat.reduceEqDiff, Nat.reduceAdd, Nat.reduceMul, Nat.reduceSub, Nat.reduceLeDiff, Nat.reduceLT]
  exact List.prefix_refl _
end Go.Proofs.YtahopobanopkfaaGreatDoor
