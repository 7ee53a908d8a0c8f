/-
  Covered of a timeline without sets.
-/
import Derived.Test.YtcjeoljkbacdcaaGreatDoorMake
import Derived.Test.YtcjeoljkbacdcaaGreatDoorAwRun
import Derived.Test.YtcjeoljkbacdcaaGreatDoorAwSplit
set_option linter.unusedVariables false
set_option linter.unusedSimpArgs false
namespace Go.Proofs.YtcjeoljkbacdcaaGreatDoor
open Go Go.AW
set_option linter.unusedSimpArgs false
set_option maxRecDepth 100000

theorem sortE1 (H : AHeap) : Sound Tryz.prog 80 [.slice none 0 0, .func (.func 81) #[] #[]] H fun u K => u = .tuple #[] ∧ K = H :=
  Sound.of_ran (pl := []) (lf := 50) (n := 20) (ext := noExt) mixed (noExt_ok _) rfl (by kernel_rfl) (by kernel_rfl) (by kernel_rfl) H
theorem sortE2 (H : AHeap) : Sound Tryz.prog 83 [.slice none 0 0] H fun u K => u = .tuple #[] ∧ K = H :=
  Sound.of_ran (pl := []) (lf := 50) (n := 20) (ext := noExt) mixed (noExt_ok _) rfl (by kernel_rfl) (by kernel_rfl) (by kernel_rfl) H
theorem compactE (H : AHeap) : Sound Tryz.prog 84 [.slice none 0 0] H fun u K => u = .slice none 0 0 ∧ K = H :=
  Sound.of_ran (pl := []) (lf := 50) (n := 20) (ext := noExt) mixed (noExt_ok _) rfl (by kernel_rfl) (by kernel_rfl) (by kernel_rfl) H
theorem sortE3 (H : AHeap) : Sound Tryz.prog 63 [.slice none 0 0, .func (.func 64) #[] #[]] H fun u K => u = .tuple #[] ∧ K = H :=
  Sound.of_ran (pl := []) (lf := 50) (n := 20) (ext := noExt) mixed (noExt_ok _) rfl (by kernel_rfl) (by kernel_rfl) (by kernel_rfl) H
set_option maxHeartbeats 1000000 in
theorem strE {p m ck : Nat} {H : AHeap} (hp : H[p]? = some (.row [.map (some m)] 1 true)) (hm : H[m]? = some (.map #[] ck)) : Sound Tryz.prog 47 [ptrV p] H fun v H' => v = .slice none 0 0 ∧ H <+: H' := by
  refine Sound.of_body (rs := [.tmp 2]) mixed Tryz.func47 rfl (by kernel_rfl) rfl (by kernel_rfl) ?_
  simp -dsimp only [go_sem, ↓reduceIte, Nat.reduceEqDiff, Nat.reduceAdd, Nat.reduceMul, Nat.reduceSub, Nat.reduceLeDiff, Nat.reduceLT, hp, arangeE un165 hm]
  refine aloopP_once ?_
  simp -dsimp only [go_sem, ↓reduceIte, Nat.reduceEqDiff, Nat.reduceAdd, Nat.reduceMul, Nat.reduceSub, Nat.reduceLeDiff, Nat.reduceLT]
  refine anextP_empty (get_end _ _ _) (get_app hm _) ?_
  simp -dsimp only [go_sem, ↓reduceIte, Nat.reduceEqDiff, Nat.reduceAdd, Nat.reduceMul, Nat.reduceSub, Nat.reduceLeDiff, Nat.reduceLT]
  refine SoundP_of (sortE1 _) ?_
  rintro v H' ⟨rfl, rfl⟩
  simp -dsimp only [go_sem, ↓reduceIte, Nat.reduceEqDiff, Nat.reduceAdd, Nat.reduceMul, Nat.reduceSub, Nat.reduceLeDiff, Nat.reduceLT]
  refine SoundP_of (sortE2 _) ?_
  rintro v H' ⟨rfl, rfl⟩
  simp -dsimp only [go_sem, ↓reduceIte, Nat.reduceEqDiff, Nat.reduceAdd, Nat.reduceMul, Nat.reduceSub, Nat.reduceLeDiff, Nat.reduceLT]
  refine SoundP_of (compactE _) ?_
  rintro v H' ⟨rfl, rfl⟩
  simp -dsimp only [go_sem, ↓reduceIte, Nat.reduceEqDiff, Nat.reduceAdd, Nat.reduceMul, Nat.reduceSub, Nat.reduceLeDiff, Nat.reduceLT]
  refine aloopP_once ?_
  have z : decide ((1 : Int) < ((0 : Nat) : Int)) = false := rfl
  simp -dsimp only [go_sem, ↓reduceIte, Nat.reduceEqDiff, Nat.reduceAdd, Nat.reduceMul, Nat.reduceSub, Nat.reduceLeDiff, Nat.reduceLT, z]
  exact List.prefix_append _ _
theorem keysE {m ck L bx : Nat} {H : AHeap} (hb : H[bx]? = some (.row [.map (some m)] 1 true)) (hm : H[m]? = some (.map #[] ck)) : Sound Tryz.prog 111 [.func (.yield L) #[] #[], ptrV bx] H fun _ H' => H <+: H' := by
  refine Sound.of_body (rs := []) mixed Tryz.func111 rfl (by kernel_rfl) rfl (by kernel_rfl) ?_
  simp -dsimp only [go_sem, ↓reduceIte, Nat.reduceEqDiff, Nat.reduceAdd, Nat.reduceMul, Nat.reduceSub, Nat.reduceLeDiff, Nat.reduceLT, hb, arangeE un165 hm]
  refine aloopP_once ?_
  simp -dsimp only [go_sem, ↓reduceIte, Nat.reduceEqDiff, Nat.reduceAdd, Nat.reduceMul, Nat.reduceSub, Nat.reduceLeDiff, Nat.reduceLT]
  refine anextP_empty (get_end _ _ _) (get_app hm _) ?_
  simp -dsimp only [go_sem, ↓reduceIte, Nat.reduceEqDiff, Nat.reduceAdd, Nat.reduceMul, Nat.reduceSub, Nat.reduceLeDiff, Nat.reduceLT]
  exact List.prefix_append _ _
theorem keysOfE (m : Nat) (H : AHeap) : Sound Tryz.prog 61 [.map (some m)] H fun v H' => v = .func (.func 111) #[] #[ptrV H.length] ∧ H' = H ++ [.row [.map (some m)] 1 true] := by
  refine Sound.of_body (rs := [.tmp 2]) mixed Tryz.func61 rfl (by kernel_rfl) rfl (by kernel_rfl) ?_
  simp -dsimp only [go_sem, ↓reduceIte, Nat.reduceEqDiff, Nat.reduceAdd, Nat.reduceMul, Nat.reduceSub, Nat.reduceLeDiff, Nat.reduceLT]
theorem entersKE (xs : Array Value) (w : World) : (callFunc 111 xs).run Tryz.prog w = .ok (.enter 111 xs) w := enters_body Tryz.func111 (by kernel_rfl) rfl xs w
theorem covE {p m ck : Nat} {H : AHeap} (hp : H[p]? = some (.row [.map (some m)] 1 true)) (hm : H[m]? = some (.map #[] ck)) : Sound Tryz.prog 31 [ptrV p] H fun v H' => v = .slice none 0 0 ∧ H <+: H' := by
  refine Sound.of_range (rs := [.tmp 2]) mixed Tryz.func31 rfl (by kernel_rfl) rfl (by kernel_rfl) ?_
  have b0 := get_end H (AObj.row [ptrV p] 1 true) []
  have p0 := List.prefix_append H [AObj.row [ptrV p] 1 true]
  simp -dsimp only [go_sem, ↓reduceIte, Nat.reduceEqDiff, Nat.reduceAdd, Nat.reduceMul, Nat.reduceSub, Nat.reduceLeDiff, Nat.reduceLT]
  generalize hH0 : H ++ [AObj.row [ptrV p] 1 true] = H0 at *
  refine SoundP_of (strE (pre_get p0 hp) (pre_get p0 hm)) ?_
  rintro _ H1 ⟨rfl, p1⟩
  have p2 := List.prefix_append H1 [AObj.row [.slice none 0 0] 1 true, AObj.row [.slice none 0 0] 1 true]
  have q2 := p0.trans (p1.trans p2)
  have b2 := pre_get (p1.trans p2) b0
  have h2 := pre_get q2 hp
  have m2 := pre_get q2 hm
  have o2 := get_end1 H1 (AObj.row [.slice none 0 0] 1 true) (AObj.row [.slice none 0 0] 1 true) []
  simp -dsimp only [go_sem, ↓reduceIte, Nat.reduceEqDiff, Nat.reduceAdd, Nat.reduceMul, Nat.reduceSub, Nat.reduceLeDiff, Nat.reduceLT, b2, h2]
  refine SoundP_of (keysOfE m _) ?_
  rintro _ _ ⟨rfl, rfl⟩
  generalize H1 ++ [AObj.row [.slice none 0 0] 1 true, AObj.row [.slice none 0 0] 1 true] = H2 at *
  have p3 := List.prefix_append H2 [AObj.row [.map (some m)] 1 true]
  have q3 := q2.trans p3
  have o3 := pre_get p3 o2
  simp -dsimp only [go_sem, ↓reduceIte, Nat.reduceEqDiff, Nat.reduceAdd, Nat.reduceMul, Nat.reduceSub, Nat.reduceLeDiff, Nat.reduceLT]
  refine ⟨15, 111, _, fun H' => H2 ++ [AObj.row [.map (some m)] 1 true] <+: H', rfl, rfl, entersKE, IterA.none fun L => keysE (get_end _ _ _) (pre_get p3 m2), fun H' p4 _ => ?_⟩
  have o4 := pre_get p4 o3
  simp -dsimp only [go_sem, ↓reduceIte, Nat.reduceEqDiff, Nat.reduceAdd, Nat.reduceMul, Nat.reduceSub, Nat.reduceLeDiff, Nat.reduceLT, o4]
  refine SoundP_of (sortE3 _) ?_
  rintro v H' ⟨rfl, rfl⟩
  simp -dsimp only [go_sem, ↓reduceIte, Nat.reduceEqDiff, Nat.reduceAdd, Nat.reduceMul, Nat.reduceSub, Nat.reduceLeDiff, Nat.reduceLT]
  simp -dsimp only [go_sem, ↓reduceIte, Nat.reduceEqDiff, Nat.reduceAdd, Nat.reduceMul, Nat.reduceSub, Nat.reduceLeDiff, Nat.reduceLT, o4]
  exact q3.trans p4
end Go.Proofs.YtcjeoljkbacdcaaGreatDoor
