/-
  A disk without files; a store on it.
-/
import Derived.Test.YtahopobanopkfaaGreatDoorFit
import Derived.Test.YtahopobanopkfaaGreatDoorTried
import Derived.Test.YtahopobanopkfaaGreatDoorAwRun
set_option linter.unusedVariables false
set_option linter.unusedSimpArgs false
namespace Go.Proofs.YtahopobanopkfaaGreatDoor
open Go Go.AW
set_option linter.unusedSimpArgs false
set_option maxRecDepth 100000

abbrev ptrV (p : Nat) : Value := .pointer (some ⟨p, 0, none⟩)
theorem zlt : decide ((0 : Int) < ((0 : Nat) : Int)) = false := rfl
/-- no files -/
structure DiskE (H : AHeap) (p m ck : Nat) (off : Bool) : Prop where
  row : ∃ x y z : Value, H[p]? = some (.row [.map (some m), .bool off, x, y, z] 5 true)
  map : H[m]? = some (.map #[] ck)
theorem DiskE.pre {H H' : AHeap} {p m ck : Nat} {off : Bool} (h : DiskE H p m ck off) (hp : H <+: H') : DiskE H' p m ck off := by
  obtain ⟨x, y, z, hr⟩ := h.row
  exact ⟨⟨x, y, z, pre_get hp hr⟩, pre_get hp h.map⟩
theorem diskNew (H : AHeap) : Sound Tryz.prog 8 [] H fun v H' => v = ptrV (H.length + 1) ∧ H <+: H' ∧ DiskE H' (H.length + 1) H.length 0 false := by
  refine Sound.of_body (rs := [.tmp 0]) mixed Tryz.func8 rfl (by kernel_rfl) rfl (by kernel_rfl) ?_
  simp -dsimp only [go_sem, ↓reduceIte, Nat.reduceEqDiff, Nat.reduceAdd, Nat.reduceMul, Nat.reduceSub, Nat.reduceLeDiff, Nat.reduceLT]
  exact ⟨List.prefix_append _ _, ⟨_, _, _, get_end1 _ _ _ _⟩, get_end _ _ _⟩
theorem offLaw {H : AHeap} {p m ck : Nat} {off : Bool} (h : DiskE H p m ck off) : Sound Tryz.prog 40 [ptrV p] H fun v H' => v = .bool off ∧ H <+: H' := by
  refine Sound.of_body (rs := [.tmp 2]) mixed Tryz.func40 rfl (by kernel_rfl) rfl (by kernel_rfl) ?_
  obtain ⟨x, y, z, hr⟩ := h.row
  simp -dsimp only [go_sem, ↓reduceIte, Nat.reduceEqDiff, Nat.reduceAdd, Nat.reduceMul, Nat.reduceSub, Nat.reduceLeDiff, Nat.reduceLT, hr]
  exact List.prefix_refl _
theorem keysS {m ck L bx : Nat} {H : AHeap} (hb : H[bx]? = some (.row [.map (some m)] 1 true)) (hm : H[m]? = some (.map #[] ck)) : Sound Tryz.prog 193 [.func (.yield L) #[] #[], ptrV bx] H fun _ H' => H <+: H' := by
  refine Sound.of_body (rs := []) mixed Tryz.func193 rfl (by kernel_rfl) rfl (by kernel_rfl) ?_
  simp -dsimp only [go_sem, ↓reduceIte, Nat.reduceEqDiff, Nat.reduceAdd, Nat.reduceMul, Nat.reduceSub, Nat.reduceLeDiff, Nat.reduceLT, hb, arangeE un98 hm]
  refine aloopP_once ?_
  simp -dsimp only [go_sem, ↓reduceIte, Nat.reduceEqDiff, Nat.reduceAdd, Nat.reduceMul, Nat.reduceSub, Nat.reduceLeDiff, Nat.reduceLT]
  refine anextP_empty (get_end _ _ _) (get_app hm _) ?_
  simp -dsimp only [go_sem, ↓reduceIte, Nat.reduceEqDiff, Nat.reduceAdd, Nat.reduceMul, Nat.reduceSub, Nat.reduceLeDiff, Nat.reduceLT]
  exact List.prefix_append _ _
theorem keysOfS (m : Nat) (H : AHeap) : Sound Tryz.prog 109 [.map (some m)] H fun v H' => v = .func (.func 193) #[] #[ptrV H.length] ∧ H' = H ++ [.row [.map (some m)] 1 true] := by
  refine Sound.of_body (rs := [.tmp 2]) mixed Tryz.func109 rfl (by kernel_rfl) rfl (by kernel_rfl) ?_
  simp -dsimp only [go_sem, ↓reduceIte, Nat.reduceEqDiff, Nat.reduceAdd, Nat.reduceMul, Nat.reduceSub, Nat.reduceLeDiff, Nat.reduceLT]
theorem entersKS (xs : Array Value) (w : World) : (callFunc 193 xs).run Tryz.prog w = .ok (.enter 193 xs) w := enters_body Tryz.func193 (by kernel_rfl) rfl xs w
theorem seqS {m ck bx : Nat} {H : AHeap} (hb : H[bx]? = some (.row [.map (some m)] 1 true)) (hm : H[m]? = some (.map #[] ck)) : Sound Tryz.prog 256 [.slice none 0 0, .func (.func 193) #[] #[ptrV bx]] H fun v H' => v = .slice none 0 0 ∧ H <+: H' := by
  refine Sound.of_range (rs := [.tmp 4]) mixed Tryz.func256 rfl (by kernel_rfl) rfl (by kernel_rfl) ?_
  simp -dsimp only [go_sem, ↓reduceIte, Nat.reduceEqDiff, Nat.reduceAdd, Nat.reduceMul, Nat.reduceSub, Nat.reduceLeDiff, Nat.reduceLT]
  have p1 := List.prefix_append H [AObj.row [.slice none 0 0] 1 true]
  have b1 := get_end H (AObj.row [.slice none 0 0] 1 true) []
  refine ⟨7, 193, _, fun H' => H ++ [AObj.row [.slice none 0 0] 1 true] <+: H', rfl, rfl, entersKS, IterA.none fun L => keysS (pre_get p1 hb) (pre_get p1 hm), fun H' p2 _ => ?_⟩
  have b2 := pre_get p2 b1
  simp -dsimp only [go_sem, ↓reduceIte, Nat.reduceEqDiff, Nat.reduceAdd, Nat.reduceMul, Nat.reduceSub, Nat.reduceLeDiff, Nat.reduceLT, b2]
  exact p1.trans p2
theorem collectS {m ck bx : Nat} {H : AHeap} (hb : H[bx]? = some (.row [.map (some m)] 1 true)) (hm : H[m]? = some (.map #[] ck)) : Sound Tryz.prog 191 [.func (.func 193) #[] #[ptrV bx]] H fun v H' => v = .slice none 0 0 ∧ H <+: H' := by
  refine Sound.of_body (rs := [.tmp 2]) mixed Tryz.func191 rfl (by kernel_rfl) rfl (by kernel_rfl) ?_
  simp -dsimp only [go_sem, ↓reduceIte, Nat.reduceEqDiff, Nat.reduceAdd, Nat.reduceMul, Nat.reduceSub, Nat.reduceLeDiff, Nat.reduceLT]
  refine SoundP_of (seqS hb hm) ?_
  rintro _ H1 ⟨rfl, p1⟩
  simp -dsimp only [go_sem, ↓reduceIte, Nat.reduceEqDiff, Nat.reduceAdd, Nat.reduceMul, Nat.reduceSub, Nat.reduceLeDiff, Nat.reduceLT]
  exact p1
theorem sortS (H : AHeap) : Sound Tryz.prog 192 [.slice none 0 0] H fun u K => u = .tuple #[] ∧ K = H :=
  Sound.of_ran (pl := []) (lf := 50) (n := 20) (ext := noExt) mixed (noExt_ok _) rfl (by kernel_rfl) (by kernel_rfl) (by kernel_rfl) H
theorem sortedS {m ck bx : Nat} {H : AHeap} (hb : H[bx]? = some (.row [.map (some m)] 1 true)) (hm : H[m]? = some (.map #[] ck)) : Sound Tryz.prog 108 [.func (.func 193) #[] #[ptrV bx]] H fun v H' => v = .slice none 0 0 ∧ H <+: H' := by
  refine Sound.of_body (rs := [.tmp 2]) mixed Tryz.func108 rfl (by kernel_rfl) rfl (by kernel_rfl) ?_
  simp -dsimp only [go_sem, ↓reduceIte, Nat.reduceEqDiff, Nat.reduceAdd, Nat.reduceMul, Nat.reduceSub, Nat.reduceLeDiff, Nat.reduceLT]
  refine SoundP_of (collectS hb hm) ?_
  rintro _ H1 ⟨rfl, p1⟩
  simp -dsimp only [go_sem, ↓reduceIte, Nat.reduceEqDiff, Nat.reduceAdd, Nat.reduceMul, Nat.reduceSub, Nat.reduceLeDiff, Nat.reduceLT]
  refine SoundP_of (sortS _) ?_
  rintro v H' ⟨rfl, rfl⟩
  simp -dsimp only [go_sem, ↓reduceIte, Nat.reduceEqDiff, Nat.reduceAdd, Nat.reduceMul, Nat.reduceSub, Nat.reduceLeDiff, Nat.reduceLT]
  exact p1
theorem indexE (v : Value) (H : AHeap) : Sound Tryz.prog 115 [.slice none 0 0, v] H fun u K => u = .int .i64 (-1) ∧ K = H := by
  refine Sound.of_body (rs := [.tmp 4]) mixed Tryz.func115 rfl (by kernel_rfl) rfl (by kernel_rfl) ?_
  simp -dsimp only [go_sem, ↓reduceIte, Nat.reduceEqDiff, Nat.reduceAdd, Nat.reduceMul, Nat.reduceSub, Nat.reduceLeDiff, Nat.reduceLT]
  refine aloopP_once ?_
  simp -dsimp only [go_sem, ↓reduceIte, Nat.reduceEqDiff, Nat.reduceAdd, Nat.reduceMul, Nat.reduceSub, Nat.reduceLeDiff, Nat.reduceLT, zlt]
theorem deleteE (v : Value) (H : AHeap) : Sound Tryz.prog 46 [.slice none 0 0, v] H fun u K => u = .slice none 0 0 ∧ K = H := by
  refine Sound.of_body (rs := [.tmp 4]) mixed Tryz.func46 rfl (by kernel_rfl) rfl (by kernel_rfl) ?_
  simp -dsimp only [go_sem, ↓reduceIte, Nat.reduceEqDiff, Nat.reduceAdd, Nat.reduceMul, Nat.reduceSub, Nat.reduceLeDiff, Nat.reduceLT]
  refine SoundP_of (indexE _ _) ?_
  rintro v H' ⟨rfl, rfl⟩
  simp -dsimp only [go_sem, ↓reduceIte, Nat.reduceEqDiff, Nat.reduceAdd, Nat.reduceMul, Nat.reduceSub, Nat.reduceLeDiff, Nat.reduceLT]
  have z : ((-1 : Int) == (-1 : Int)) = true := rfl
  simp -dsimp only [go_sem, ↓reduceIte, Nat.reduceEqDiff, Nat.reduceAdd, Nat.reduceMul, Nat.reduceSub, Nat.reduceLeDiff, Nat.reduceLT, z]
theorem listE {H : AHeap} {p m ck : Nat} (s : ByteArray) (h : DiskE H p m ck false) : Sound Tryz.prog 43 [ptrV p, .string s] H fun v H' => v = .slice none 0 0 ∧ H <+: H' := by
  refine Sound.of_body (rs := [.tmp 4]) mixed Tryz.func43 rfl (by kernel_rfl) rfl (by kernel_rfl) ?_
  have p1 := List.prefix_append H [AObj.row [.string s] 1 true]
  have h1 := h.pre p1
  obtain ⟨x, y, z, hr⟩ := h1.row
  simp -dsimp only [go_sem, ↓reduceIte, Nat.reduceEqDiff, Nat.reduceAdd, Nat.reduceMul, Nat.reduceSub, Nat.reduceLeDiff, Nat.reduceLT, hr]
  refine SoundP_of (keysOfS m _) ?_
  rintro _ _ ⟨rfl, rfl⟩
  have p2 : H <+: H ++ [AObj.row [.string s] 1 true, AObj.row [.map (some m)] 1 true] := List.prefix_append _ _
  have b2 := get_end1 H (AObj.row [.string s] 1 true) (AObj.row [.map (some m)] 1 true) []
  have e1 : (H ++ [AObj.row [.string s] 1 true]).length = H.length + 1 := by simp
  have m2 := pre_get p2 h.map
  simp -dsimp only [go_sem, ↓reduceIte, Nat.reduceEqDiff, Nat.reduceAdd, Nat.reduceMul, Nat.reduceSub, Nat.reduceLeDiff, Nat.reduceLT, e1]
  refine SoundP_of (sortedS b2 m2) ?_
  rintro _ H2 ⟨rfl, p3⟩
  simp -dsimp only [go_sem, ↓reduceIte, Nat.reduceEqDiff, Nat.reduceAdd, Nat.reduceMul, Nat.reduceSub, Nat.reduceLeDiff, Nat.reduceLT]
  refine SoundP_of (deleteE _ _) ?_
  rintro v H' ⟨rfl, rfl⟩
  simp -dsimp only [go_sem, ↓reduceIte, Nat.reduceEqDiff, Nat.reduceAdd, Nat.reduceMul, Nat.reduceSub, Nat.reduceLeDiff, Nat.reduceLT]
  exact p2.trans p3
theorem openE1 {H : AHeap} {bx p m ck : Nat} (hb : H[bx]? = some (.row [ptrV p] 1 true)) (h : DiskE H p m ck false) : Sound Tryz.prog 42 [ptrV bx] H fun _ H' => H <+: H' := by
  refine Sound.of_body (rs := []) mixed Tryz.func42 rfl (by kernel_rfl) rfl (by kernel_rfl) ?_
  simp -dsimp only [go_sem, ↓reduceIte, Nat.reduceEqDiff, Nat.reduceAdd, Nat.reduceMul, Nat.reduceSub, Nat.reduceLeDiff, Nat.reduceLT, hb]
  refine SoundP_of (listE _ h) ?_
  rintro _ H1 ⟨rfl, p1⟩
  simp -dsimp only [go_sem, ↓reduceIte, Nat.reduceEqDiff, Nat.reduceAdd, Nat.reduceMul, Nat.reduceSub, Nat.reduceLeDiff, Nat.reduceLT]
  refine aloopP_once ?_
  simp -dsimp only [go_sem, ↓reduceIte, Nat.reduceEqDiff, Nat.reduceAdd, Nat.reduceMul, Nat.reduceSub, Nat.reduceLeDiff, Nat.reduceLT, zlt]
  exact p1
theorem openE {H : AHeap} {p m ck : Nat} {off : Bool} (h : DiskE H p m ck off) : Sound Tryz.prog 18 [ptrV p] H fun v H' => H <+: H' ∧ (off = true ∧ v = .tuple #[.pointer none, .int .i64 122] ∨ off = false ∧ ∃ q, v = .tuple #[ptrV q, .int .i64 0] ∧ H'[q]? = some (.row [ptrV p] 1 true)) := by
  refine Sound.of_body (rs := [.tmp 2, .tmp 3]) mixed Tryz.func18 rfl (by kernel_rfl) rfl (by kernel_rfl) ?_
  have p0 := List.prefix_append H [AObj.row [ptrV p] 1 true]
  have b0 := get_end H (AObj.row [ptrV p] 1 true) []
  have h0 := h.pre p0
  simp -dsimp only [go_sem, ↓reduceIte, Nat.reduceEqDiff, Nat.reduceAdd, Nat.reduceMul, Nat.reduceSub, Nat.reduceLeDiff, Nat.reduceLT]
  generalize H ++ [AObj.row [ptrV p] 1 true] = H0 at *
  refine SoundP_of (offLaw h0) ?_
  rintro _ H1 ⟨rfl, p1⟩
  have b1 := pre_get p1 b0
  have h1 := h0.pre p1
  have q1 := p0.trans p1
  cases off with
  | true =>
    simp -dsimp only [go_sem, ↓reduceIte, Nat.reduceEqDiff, Nat.reduceAdd, Nat.reduceMul, Nat.reduceSub, Nat.reduceLeDiff, Nat.reduceLT]
    exact ⟨q1, .inl trivial⟩
  | false =>
    simp -dsimp only [go_sem, ↓reduceIte, Nat.reduceEqDiff, Nat.reduceAdd, Nat.reduceMul, Nat.reduceSub, Nat.reduceLeDiff, Nat.reduceLT]
    have p2 := List.prefix_append H1 [AObj.row [.int .i64 0] 1 true]
    refine SoundP_of (triedLaw (cap := [ptrV H.length]) (openE1 (pre_get p2 b1) (h1.pre p2))) ?_
    rintro _ H2 ⟨rfl, p3⟩
    have b2 := pre_get p3 b1
    have z : ((0 : Int) != (0 : Int)) = false := rfl
    simp -dsimp only [go_sem, ↓reduceIte, Nat.reduceEqDiff, Nat.reduceAdd, Nat.reduceMul, Nat.reduceSub, Nat.reduceLeDiff, Nat.reduceLT, z, b2]
    exact ⟨q1.trans (p3.trans (List.prefix_append _ _)), .inr ⟨_, rfl, get_end _ _ _⟩⟩
theorem storeList {H : AHeap} {q p m ck : Nat} (hq : H[q]? = some (.row [ptrV p] 1 true)) (h : DiskE H p m ck false) : Sound Tryz.prog 19 [ptrV q] H fun v H' => v = .slice none 0 0 ∧ H <+: H' := by
  refine Sound.of_body (rs := [.tmp 2]) mixed Tryz.func19 rfl (by kernel_rfl) rfl (by kernel_rfl) ?_
  simp -dsimp only [go_sem, ↓reduceIte, Nat.reduceEqDiff, Nat.reduceAdd, Nat.reduceMul, Nat.reduceSub, Nat.reduceLeDiff, Nat.reduceLT, hq]
  refine SoundP_of (listE _ h) ?_
  rintro _ H1 ⟨rfl, p1⟩
  simp -dsimp only [go_sem, ↓reduceIte, Nat.reduceEqDiff, Nat.reduceAdd, Nat.reduceMul, Nat.reduceSub, Nat.reduceLeDiff, Nat.reduceLT]
  refine aloopP_once ?_
  simp -dsimp only [go_sem, ↓reduceIte, Nat.reduceEqDiff, Nat.reduceAdd, Nat.reduceMul, Nat.reduceSub, Nat.reduceLeDiff, Nat.reduceLT, zlt]
  refine SoundP_of (deleteE _ _) ?_
  rintro v H' ⟨rfl, rfl⟩
  simp -dsimp only [go_sem, ↓reduceIte, Nat.reduceEqDiff, Nat.reduceAdd, Nat.reduceMul, Nat.reduceSub, Nat.reduceLeDiff, Nat.reduceLT]
  exact p1
end Go.Proofs.YtahopobanopkfaaGreatDoor
