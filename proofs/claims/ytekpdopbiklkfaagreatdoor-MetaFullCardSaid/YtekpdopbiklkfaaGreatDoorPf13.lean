/-
  Parts of the proof, joined: Frame, Dk1, AwSort, AwSort2, Idx, Dk2.
-/
import Derived.Shelf.SlSortCmp.WholeK
import Derived.Shelf.SlSortCmp.NoneTotal
import Derived.Shelf.SortM.Plain
import Derived.Shelf.SortM.SortNone
import Derived.Test.YtekpdopbiklkfaaGreatDoorPf12
section
set_option linter.unusedVariables false
set_option linter.unusedSimpArgs false
namespace Go.Proofs.YtekpdopbiklkfaaGreatDoor
open Go Go.AW
set_option linter.unusedSimpArgs false
set_option maxRecDepth 20000
theorem equalB (l : List UInt8) (a a2 : Option Addr) (c c2 : Nat) (H : AHeap) (h1 : SlA H encB 1 a l) (h2 : SlA H encB 1 a2 l) (hl : l.length < 4000000) :
    Sound Tryz.prog 174 [.slice a l.length c, .slice a2 l.length c2] H fun v H' => v = .bool true ∧ H' = H := by
  refine Sound.of_body (rs := [.tmp 4]) mixed Tryz.func174 rfl (by kernel_rfl) rfl (by kernel_rfl) ?_
  have z : ((l.length : Int) != (l.length : Int)) = false := by simp
  simp -dsimp only [go_sem, ↓reduceIte, Nat.reduceEqDiff, Nat.reduceAdd, Nat.reduceMul, Nat.reduceSub, Nat.reduceLeDiff, Nat.reduceLT, z]
  refine aloopP_of (fun n T H' => ∃ i : Nat, n = l.length - i ∧ i ≤ l.length ∧ H' = H ∧ T 0 = .slice a l.length c ∧ T 1 = .slice a2 l.length c2 ∧ T 12 = .int .i64 l.length ∧ T 13 = .int .i64 (i : Nat)) (n := l.length) ?_ ?_
  · refine ⟨0, ?_⟩
    simp -dsimp only [go_sem, ↓reduceIte, Nat.reduceEqDiff, Nat.reduceAdd, Nat.reduceMul, Nat.reduceSub, Nat.reduceLeDiff, Nat.reduceLT]
    exact ⟨rfl, Nat.zero_le _, rfl⟩
  · rintro n T H' ⟨i, rfl, hi, rfl, t0, t1, t12, t13⟩
    simp -dsimp only [go_sem, ↓reduceIte, Nat.reduceEqDiff, Nat.reduceAdd, Nat.reduceMul, Nat.reduceSub, Nat.reduceLeDiff, Nat.reduceLT, t0, t1, t12, t13]
    refine acondP_of (fun h => ?_) (fun h => ?_)
    · simp at h
      obtain ⟨x, hx⟩ := get_ex h
      obtain ⟨id, off, rfl, hat⟩ := h1.at (by omega)
      obtain ⟨id2, off2, rfl, hat2⟩ := h2.at (by omega)
      have zx : ((x.toNat : Int) != (x.toNat : Int)) = false := by simp
      simp -dsimp only [go_sem, ↓reduceIte, Nat.reduceEqDiff, Nat.reduceAdd, Nat.reduceMul, Nat.reduceSub, Nat.reduceLeDiff, Nat.reduceLT, t0, t1, t12, t13]
      refine adrawnP_of2 [(0, false), (1, false), (2, false), (3, false), (4, false), (5, false), (6, false), (7, false), (8, false)] (by kernel_rfl) ?_
      simp -dsimp only [go_sem, ↓reduceIte, Nat.reduceEqDiff, Nat.reduceAdd, Nat.reduceMul, Nat.reduceSub, Nat.reduceLeDiff, Nat.reduceLT, t0, t1, t12, t13, inRange h, rowLoad_one0 (hat i x hx), rowLoad_one0 (hat2 i x hx), zx, wrS (show i < 4611686018427387904 by omega)]
      exact ⟨_, by omega, i + 1, rfl, h, rfl⟩
    · simp at h
      simp -dsimp only [go_sem, ↓reduceIte, Nat.reduceEqDiff, Nat.reduceAdd, Nat.reduceMul, Nat.reduceSub, Nat.reduceLeDiff, Nat.reduceLT, t0, t1, t12, t13]
theorem alloc_bytes {T : Tm} {d : Option Tmp} {ty : TypeId} {pos : String} {aft : Array Edge} {gd : Option (Nat × Bool)} {l c : Operand} {n : Nat} (h1 : aev T l = .int .i64 (n : Nat)) (h2 : aev T c = .int .i64 (n : Nat)) (hn : n < 4000000) :
    aalloc Tryz.prog T ⟨d, .makeSlice 59 l c, ty, pos, aft, gd⟩ = some (.row (List.replicate n (.int .u8 0)) 1 true, fun id => .slice (some ⟨id, 0, none⟩) n n) := by
  obtain ⟨i, i1, i2, i3, i4⟩ := inf5
  simp only [aalloc, h1, h2, el59, i1, i2, i3, i4, Option.bind_some, Int.toNat_natCast]
  rw [if_pos ⟨by omega, by omega, by omega, by omega, by omega, rfl, rfl⟩]
  congr 3
  rw [Nat.mul_one]
  apply List.ext_getElem?
  intro j
  simp only [Array.toList_map, Array.toList_range, List.getElem?_map, List.getElem?_replicate]
  rcases Nat.lt_or_ge j n with q | q
  · rw [if_pos q, List.getElem?_range q]
    simp [Value.cells, Nat.mod_one]
  · rw [if_neg (by omega), List.getElem?_eq_none (by simpa using q)]; rfl
theorem frameB_len (l : List UInt8) : (frameB l).length = 8 + l.length := by rw [frameB, List.length_append, List.length_append, fourB_len, fourB_len]; omega
set_option maxHeartbeats 1000000 in
theorem unframeLaw (l : List UInt8) (hl0 : 0 < l.length) (hl : l.length ≤ 1048576) {v : Value} {H : AHeap} (hv : BAt H v (frameB l)) :
    Sound Tryz.prog 133 [v] H fun w H' => H <+: H' ∧ ∃ v1, w = .tuple #[v1, .int .i64 0] ∧ BAt H' v1 l := by
  refine Sound.of_body (rs := [.tmp 2, .tmp 3]) mixed Tryz.func133 rfl (by kernel_rfl) rfl (by kernel_rfl) ?_
  have hL := frameB_len l
  obtain ⟨va, ba, oa, ca, -, -⟩ := hv.cut 4 8 (by omega) (by omega)
  have ca := ca .i64 .i64
  have e1 : ((frameB l).take 8).drop 4 = fourB l.length := by
    rw [frameB, ← List.append_assoc]
    rw [List.take_left' (by rw [List.length_append, fourB_len, fourB_len])]
    rw [List.drop_left' (by rw [fourB_len])]
  have e2 : ((frameB l).take 4).drop 0 = fourB (sumL (fourB l.length ++ l)) := by
    rw [frameB, List.take_left' (by rw [fourB_len]), List.drop_zero]
  have e3 : ((frameB l).take (frameB l).length).drop 4 = fourB l.length ++ l := by
    rw [List.take_length, frameB, List.drop_left' (by rw [fourB_len])]
  have e4 : ((frameB l).take (frameB l).length).drop 8 = l := by
    rw [List.take_length, frameB, ← List.append_assoc, List.drop_left' (by rw [List.length_append, fourB_len, fourB_len])]
  rw [e1] at ba
  obtain ⟨a, c, rfl, -⟩ := hv.sl
  have key : ∀ H', H <+: H' → (∃ vb, BAt H' vb (fourB (sumL (fourB l.length ++ l))) ∧ aslice Tryz.prog H' 59 (.slice a (frameB l).length c) none (some (.int .i64 4)) none = some vb) ∧
      (∃ vc, BAt H' vc (fourB l.length ++ l) ∧ aslice Tryz.prog H' 59 (.slice a (frameB l).length c) (some (.int .i64 4)) none none = some vc) ∧
      (∃ vd, BAt H' vd l ∧ aslice Tryz.prog H' 59 (.slice a (frameB l).length c) (some (.int .i64 8)) none none = some vd) := fun H' hp => by
    obtain ⟨vb, bb, ob, -, cb, -⟩ := (hv.pre hp).cut 0 4 (by omega) (by omega)
    obtain ⟨vc, bc, oc, -, -, cc⟩ := (hv.pre hp).cut 4 (frameB l).length (by omega) (Nat.le_refl _)
    obtain ⟨vd, bd, od, -, -, cd⟩ := (hv.pre hp).cut 8 (frameB l).length (by omega) (Nat.le_refl _)
    rw [e2] at bb
    rw [e3] at bc
    rw [e4] at bd
    exact ⟨⟨vb, bb, cb rfl .i64⟩, ⟨vc, bc, cc rfl .i64⟩, ⟨vd, bd, cd rfl .i64⟩⟩
  rw [hL] at *
  have z1 : decide (((8 + l.length : Nat) : Int) < 8) = false := decide_eq_false (by omega)
  have w1 : IntKind.i64.wrap (((8 + l.length : Nat) : Int) - 8) = (l.length : Int) := by rw [wr64 (by omega) (by omega)]; omega
  have z2 : decide ((1048576 : Int) < (l.length : Int)) = false := decide_eq_false (by omega)
  have w2 : IntKind.u32.wrap (l.length : Int) = (l.length : Int) := wrap32 _ (by omega)
  generalize 8 + l.length = n at *
  have ca : aslice Tryz.prog H 59 (.slice a n c) (some (.int .i64 4)) (some (.int .i64 8)) none = some va := ca
  simp -dsimp only [go_sem, ↓reduceIte, Nat.reduceEqDiff, Nat.reduceAdd, Nat.reduceMul, Nat.reduceSub, Nat.reduceLeDiff, Nat.reduceLT, z1]
  refine adrawnP_of2 [(0, false), (1, false), (2, false), (3, false), (4, false), (5, false), (6, false), (7, false), (8, false), (9, false), (10, false), (11, true), (12, false), (13, false), (14, false), (15, false)] (by kernel_rfl) ?_
  simp -dsimp only [go_sem, ↓reduceIte, Nat.reduceEqDiff, Nat.reduceAdd, Nat.reduceMul, Nat.reduceSub, Nat.reduceLeDiff, Nat.reduceLT, w1, z2, w2, ca]
  refine SoundP_of (fourLaw l.length (by omega) H) ?_
  rintro _ H1 ⟨rfl, hH1⟩
  have p1 : H <+: H1 := by rw [hH1]; exact List.prefix_append _ _
  have o1 := own4 l.length H
  rw [← hH1] at o1
  clear hH1
  refine grown_any p1 ?_
  obtain ⟨aa, caa, hva, sa⟩ := ba.sl
  obtain ⟨x1, x2, hx, sx⟩ := o1.sl (fun _ => rfl)
  rw [fourB_len] at hva hx
  cases hx
  rw [hva] at ca
  simp -dsimp only [go_sem, ↓reduceIte, Nat.reduceEqDiff, Nat.reduceAdd, Nat.reduceMul, Nat.reduceSub, Nat.reduceLeDiff, Nat.reduceLT, hva]
  refine SoundP_of (equalB (fourB l.length) aa (some ⟨H.length, 0, none⟩) caa 4 H1 (sa.pre p1) sx (by rw [fourB_len]; omega)) ?_
  rintro _ K ⟨rfl, hK⟩
  rw [hK]
  clear hK
  simp -dsimp only [go_sem, ↓reduceIte, Nat.reduceEqDiff, Nat.reduceAdd, Nat.reduceMul, Nat.reduceSub, Nat.reduceLeDiff, Nat.reduceLT]
  obtain ⟨⟨vb, bb, cb⟩, ⟨vc, bc, cc⟩, -⟩ := key H1 p1
  obtain ⟨ab, cab, hvb, sb⟩ := bb.sl
  obtain ⟨ac, cac, hvc, sc⟩ := bc.sl
  have hl4 : (fourB l.length ++ l).length = 4 + l.length := by rw [List.length_append, fourB_len]
  have hsl := sumL_lt (fourB l.length ++ l)
  generalize hb : fourB l.length ++ l = B at *
  rw [fourB_len] at hvb
  rw [hvb] at cb
  rw [hvc] at cc
  refine adrawnP_of2 [(0, false), (1, false), (2, false), (3, false), (4, true), (5, true), (6, false), (7, false), (8, false)] (by kernel_rfl) ?_
  simp -dsimp only [go_sem, ↓reduceIte, Nat.reduceEqDiff, Nat.reduceAdd, Nat.reduceMul, Nat.reduceSub, Nat.reduceLeDiff, Nat.reduceLT, cb, cc]
  refine SoundP_of (sumLaw B ac cac H1 sc (by omega)) ?_
  rintro _ H2 ⟨rfl, p2⟩
  refine grown_any p2 ?_
  simp -dsimp only [go_sem, ↓reduceIte, Nat.reduceEqDiff, Nat.reduceAdd, Nat.reduceMul, Nat.reduceSub, Nat.reduceLeDiff, Nat.reduceLT]
  refine SoundP_of (fourLaw _ hsl H2) ?_
  rintro _ H3 ⟨rfl, hH3⟩
  have p3 : H2 <+: H3 := by rw [hH3]; exact List.prefix_append _ _
  have o3 := own4 (sumL B) H2
  rw [← hH3] at o3
  clear hH3
  refine grown_any p3 ?_
  obtain ⟨x1, x2, hx, sx3⟩ := o3.sl (fun _ => rfl)
  rw [fourB_len] at hx
  cases hx
  simp -dsimp only [go_sem, ↓reduceIte, Nat.reduceEqDiff, Nat.reduceAdd, Nat.reduceMul, Nat.reduceSub, Nat.reduceLeDiff, Nat.reduceLT]
  refine SoundP_of (equalB (fourB (sumL B)) ab (some ⟨H2.length, 0, none⟩) cab 4 H3 ((sb.pre p2).pre p3) sx3 (by rw [fourB_len]; omega)) ?_
  rintro _ K ⟨rfl, hK⟩
  rw [hK]
  clear hK
  have q3 := (p1.trans p2).trans p3
  simp -dsimp only [go_sem, ↓reduceIte, Nat.reduceEqDiff, Nat.reduceAdd, Nat.reduceMul, Nat.reduceSub, Nat.reduceLeDiff, Nat.reduceLT, w1]
  refine bindP_of (alloc_bytes (n := l.length) (by simp -dsimp only [go_sem, ↓reduceIte, Nat.reduceEqDiff, Nat.reduceAdd, Nat.reduceMul, Nat.reduceSub, Nat.reduceLeDiff, Nat.reduceLT]) (by simp -dsimp only [go_sem, ↓reduceIte, Nat.reduceEqDiff, Nat.reduceAdd, Nat.reduceMul, Nat.reduceSub, Nat.reduceLeDiff, Nat.reduceLT]) (by omega)) ?_
  have px := List.prefix_append H3 [AObj.row (List.replicate l.length (Value.int .u8 0)) 1 true]
  have cx := get_end H3 (AObj.row (List.replicate l.length (Value.int .u8 0)) 1 true) []
  obtain ⟨-, -, ⟨vd, bd, cd⟩⟩ := key _ (q3.trans px)
  obtain ⟨ad, cad, hvd, sd⟩ := bd.sl
  rw [hvd] at cd
  have eC := copy_row (c := l.length) (off := 0) (n := l.length) el59 sz5 cx (asrc_sl (c := cad) un59 sd (fun _ => rfl)) (by simpa using hl0) (by simp) (by rw [flatB_len, Nat.mul_one]) (flat_one (fun _ => rfl) _)
  have er : (List.replicate l.length (Value.int .u8 0)).take 0 ++ (l.flatMap encB).take (min l.length l.length * 1) ++ (List.replicate l.length (Value.int .u8 0)).drop (0 + min l.length l.length * 1) = l.flatMap encB := by
    rw [Nat.min_self, Nat.mul_one, Nat.zero_add, List.take_zero, List.nil_append, List.take_of_length_le (by rw [flatB_len]; exact Nat.le_refl _), List.drop_of_length_le (by simp), List.append_nil]
  rw [er] at eC
  simp -dsimp only [go_sem, ↓reduceIte, Nat.reduceEqDiff, Nat.reduceAdd, Nat.reduceMul, Nat.reduceSub, Nat.reduceLeDiff, Nat.reduceLT, cd, eC]
  exact ⟨q3.trans (List.prefix_append _ _), _, rfl, .inr ⟨H3.length, 0, l.length, [], [], rfl, by simp, rfl, .inr (Nat.le_refl _)⟩⟩
set_option maxHeartbeats 1000000 in
theorem frameLaw2 (l rest : List UInt8) (hl0 : 0 < l.length) (hl : l.length ≤ 1048576) (hr : rest.length < 4000000000) {v : Value} {H : AHeap} (hv : BAt H v (frameB l ++ rest)) :
    Sound Tryz.prog 94 [v] H fun w H' => H <+: H' ∧ ∃ v1 v2, w = .tuple #[v1, v2, .bool true] ∧ BAt H' v1 l ∧ BAt H' v2 rest := by
  refine Sound.of_body (rs := [.tmp 2, .tmp 3, .tmp 4]) mixed Tryz.func94 rfl (by kernel_rfl) rfl (by kernel_rfl) ?_
  have hL := frameB_len l
  have hT : (frameB l ++ rest).length = 8 + l.length + rest.length := by rw [List.length_append, hL]
  have hb : ∀ j (c : UInt8), (fourB l.length)[j]? = some c → (frameB l ++ rest)[4 + j]? = some c := fun j c hc => by
    have hj : j < 4 := by
      rcases Nat.lt_or_ge j 4 with q | q
      · exact q
      · rw [List.getElem?_eq_none (by rw [fourB_len]; exact q)] at hc; cases hc
    rw [List.getElem?_append_left (by rw [hL]; omega), frameB, List.getElem?_append_right (by rw [fourB_len]; omega), fourB_len, List.getElem?_append_left (by rw [fourB_len]; omega)]
    rw [Nat.add_sub_cancel_left]; exact hc
  have b4 := hb 0 _ rfl
  have b5 := hb 1 _ rfl
  have b6 := hb 2 _ rfl
  have b7 := hb 3 _ rfl
  obtain ⟨a, c, rfl, hs⟩ := hv.sl
  obtain ⟨id, off, rfl, hat⟩ := hs.at (by omega)
  have x4 : (H[id]?).bind (rowLoad (some false) (some 1) (off + Int.toNat 4 * 1)) = some (.int .u8 ((UInt8.ofNat l.length).toNat : Nat)) := rowLoad_one0 (hat 4 _ b4) (some 1)
  have x5 : (H[id]?).bind (rowLoad (some false) (some 1) (off + Int.toNat 5 * 1)) = some (.int .u8 ((UInt8.ofNat (l.length / 2 ^ 8)).toNat : Nat)) := rowLoad_one0 (hat 5 _ b5) (some 1)
  have x6 : (H[id]?).bind (rowLoad (some false) (some 1) (off + Int.toNat 6 * 1)) = some (.int .u8 ((UInt8.ofNat (l.length / 2 ^ 16)).toNat : Nat)) := rowLoad_one0 (hat 6 _ b6) (some 1)
  have x7 : (H[id]?).bind (rowLoad (some false) (some 1) (off + Int.toNat 7 * 1)) = some (.int .u8 ((UInt8.ofNat (l.length / 2 ^ 24)).toNat : Nat)) := rowLoad_one0 (hat 7 _ b7) (some 1)
  rw [UInt8.toNat_ofNat'] at x4 x5 x6 x7
  have key : ∀ H', H <+: H' → (∃ v1, BAt H' v1 (frameB l) ∧ aslice Tryz.prog H' 59 (.slice (some ⟨id, off, none⟩) (frameB l ++ rest).length c) none (some (.int .u64 ((8 + l.length : Nat) : Int))) none = some v1) ∧
      (∃ v2, BAt H' v2 rest ∧ aslice Tryz.prog H' 59 (.slice (some ⟨id, off, none⟩) (frameB l ++ rest).length c) (some (.int .u64 ((8 + l.length : Nat) : Int))) none none = some v2) := fun H' hp => by
    obtain ⟨v1, b1, -, -, c1, -⟩ := (hv.pre hp).cut 0 (8 + l.length) (by omega) (by omega)
    obtain ⟨v2, b2, -, -, -, c2⟩ := (hv.pre hp).cut (8 + l.length) (frameB l ++ rest).length (by omega) (Nat.le_refl _)
    rw [List.take_left' hL, List.drop_zero] at b1
    rw [List.take_length, List.drop_left' hL] at b2
    exact ⟨⟨v1, b1, c1 rfl .u64⟩, ⟨v2, b2, c2 rfl .u64⟩⟩
  rw [hT] at *
  have z1 : decide (((8 + l.length + rest.length : Nat) : Int) < 8) = false := decide_eq_false (by omega)
  generalize hn : 8 + l.length + rest.length = n at *
  simp -dsimp only [go_sem, ↓reduceIte, Nat.reduceEqDiff, Nat.reduceAdd, Nat.reduceMul, Nat.reduceSub, Nat.reduceLeDiff, Nat.reduceLT, z1]
  refine adrawnP_of2 [(0, false), (1, false), (2, false), (3, false), (4, false), (5, false), (6, false), (7, false), (8, false), (9, false), (10, false), (11, false), (12, false), (13, false), (14, false), (15, false), (16, false), (17, false), (18, false), (19, false), (20, false), (21, false), (22, false)] (by kernel_rfl) ?_
  have i4 : (0 : Int) ≤ 4 ∧ (4 : Int) < (n : Int) := ⟨by omega, by omega⟩
  have i5 : (0 : Int) ≤ 5 ∧ (5 : Int) < (n : Int) := ⟨by omega, by omega⟩
  have i6 : (0 : Int) ≤ 6 ∧ (6 : Int) < (n : Int) := ⟨by omega, by omega⟩
  have i7 : (0 : Int) ≤ 7 ∧ (7 : Int) < (n : Int) := ⟨by omega, by omega⟩
  have y : ∀ k : Nat, IntKind.u64.wrap ((k % 2 ^ 8 : Nat) : Int) = ((k % 2 ^ 8 : Nat) : Int) := fun k => wrap64 _ (by omega)
  have s1 : ashift .shl .u64 ((l.length / 2 ^ 8 % 2 ^ 8 : Nat) : Int) 8 = some (.int .u64 ((l.length / 2 ^ 8 % 2 ^ 8 * 2 ^ 8 : Nat) : Int)) := ashl64 _ 8 (by omega) (by omega)
  have s2 : ashift .shl .u64 ((l.length / 2 ^ 16 % 2 ^ 8 : Nat) : Int) 16 = some (.int .u64 ((l.length / 2 ^ 16 % 2 ^ 8 * 2 ^ 16 : Nat) : Int)) := ashl64 _ 16 (by omega) (by omega)
  have s3 : ashift .shl .u64 ((l.length / 2 ^ 24 % 2 ^ 8 : Nat) : Int) 24 = some (.int .u64 ((l.length / 2 ^ 24 % 2 ^ 8 * 2 ^ 24 : Nat) : Int)) := ashl64 _ 24 (by omega) (by omega)
  have f1 : l.length % 2 ^ 8 ||| l.length / 2 ^ 8 % 2 ^ 8 * 2 ^ 8 = l.length % 65536 := by rw [or_add (by omega)]; omega
  have f2 : l.length % 65536 ||| l.length / 2 ^ 16 % 2 ^ 8 * 2 ^ 16 = l.length % 16777216 := by rw [or_add (by omega)]; omega
  have f3 : l.length % 16777216 ||| l.length / 2 ^ 24 % 2 ^ 8 * 2 ^ 24 = l.length := by rw [or_add (by omega)]; omega
  have o1 : ∀ (H : AHeap) (t : TypeId) (o q : Operand), abin Tryz.prog H .or t o q (.int .u64 ((l.length % 2 ^ 8 : Nat) : Int)) (.int .u64 ((l.length / 2 ^ 8 % 2 ^ 8 * 2 ^ 8 : Nat) : Int)) = some (.int .u64 ((l.length % 65536 : Nat) : Int)) := fun H t o q => by
    rw [abin_or64 _ _ (by omega) (by omega), f1]
  have o2 : ∀ (H : AHeap) (t : TypeId) (o q : Operand), abin Tryz.prog H .or t o q (.int .u64 ((l.length % 65536 : Nat) : Int)) (.int .u64 ((l.length / 2 ^ 16 % 2 ^ 8 * 2 ^ 16 : Nat) : Int)) = some (.int .u64 ((l.length % 16777216 : Nat) : Int)) := fun H t o q => by
    rw [abin_or64 _ _ (by omega) (by omega), f2]
  have o3 : ∀ (H : AHeap) (t : TypeId) (o q : Operand), abin Tryz.prog H .or t o q (.int .u64 ((l.length % 16777216 : Nat) : Int)) (.int .u64 ((l.length / 2 ^ 24 % 2 ^ 8 * 2 ^ 24 : Nat) : Int)) = some (.int .u64 ((l.length : Nat) : Int)) := fun H t o q => by
    rw [abin_or64 _ _ (by omega) (by omega), f3]
  have w1 : IntKind.i64.wrap ((n : Int) - 8) = ((l.length + rest.length : Nat) : Int) := by rw [wr64 (by omega) (by omega)]; omega
  have w2 : IntKind.u64.wrap ((l.length + rest.length : Nat) : Int) = ((l.length + rest.length : Nat) : Int) := wrap64 _ (by omega)
  have z2 : decide (((l.length + rest.length : Nat) : Int) < (l.length : Int)) = false := decide_eq_false (by omega)
  have w3 : IntKind.u64.wrap (8 + (l.length : Int)) = ((8 + l.length : Nat) : Int) := by rw [show (8 + (l.length : Int)) = ((8 + l.length : Nat) : Int) by omega]; exact wrap64 _ (by omega)
  obtain ⟨⟨v1, bv1, c1⟩, -⟩ := key H (List.prefix_refl _)
  simp -dsimp only [go_sem, ↓reduceIte, Nat.reduceEqDiff, Nat.reduceAdd, Nat.reduceMul, Nat.reduceSub, Nat.reduceLeDiff, Nat.reduceLT, i4, i5, i6, i7, x4, x5, x6, x7, y, s1, s2, s3, o1, o2, o3, w1, w2, z2, w3, c1]
  refine SoundP_of (unframeLaw l hl0 hl bv1) ?_
  rintro _ H1 ⟨p1, w1', rfl, bw⟩
  obtain ⟨-, ⟨v2, bv2, c2⟩⟩ := key H1 p1
  simp -dsimp only [go_sem, ↓reduceIte, Nat.reduceEqDiff, Nat.reduceAdd, Nat.reduceMul, Nat.reduceSub, Nat.reduceLeDiff, Nat.reduceLT]
  refine adrawnP_of2 [(0, false), (1, false), (2, false), (3, false), (4, false), (5, false), (6, false), (7, false), (8, false), (9, false)] (by kernel_rfl) ?_
  simp -dsimp only [go_sem, ↓reduceIte, Nat.reduceEqDiff, Nat.reduceAdd, Nat.reduceMul, Nat.reduceSub, Nat.reduceLeDiff, Nat.reduceLT, w3, c2, Int.reduceBEq]
  exact ⟨p1, _, _, rfl, bw, bv2⟩
theorem frameNone {v : Value} {H : AHeap} (hv : BAt H v []) :
    Sound Tryz.prog 94 [v] H fun w H' => w = .tuple #[.slice none 0 0, .slice none 0 0, .bool false] ∧ H' = H := by
  refine Sound.of_body (rs := [.tmp 2, .tmp 3, .tmp 4]) mixed Tryz.func94 rfl (by kernel_rfl) rfl (by kernel_rfl) ?_
  obtain ⟨a, c, rfl, -⟩ := hv.sl
  have z : decide (((0 : Nat) : Int) < 8) = true := rfl
  simp -dsimp only [go_sem, ↓reduceIte, Nat.reduceEqDiff, Nat.reduceAdd, Nat.reduceMul, Nat.reduceSub, Nat.reduceLeDiff, Nat.reduceLT, z, Int.reduceLT]
end Go.Proofs.YtekpdopbiklkfaaGreatDoor
end
section
set_option linter.unusedVariables false
set_option linter.unusedSimpArgs false
namespace Go.Proofs.YtekpdopbiklkfaaGreatDoor
open Go Go.AW
set_option linter.unusedSimpArgs false
set_option maxRecDepth 20000
abbrev strV (s : ByteArray) : Value := .string s
theorem strLaw : KeyLaw Tryz.prog 9 strV where
  ok s := key9 s
  eq p q := by
    have h : aeq Tryz.prog [] 10000 9 (strV p) (strV q) = some _ := eq9 [] 9999 p q
    rw [h]
    congr 1
    exact bytes_beq p q
  bits p := sameBits_one rfl _
structure FileS where
  name : ByteArray
  id : Nat
  v : Value
  l : List UInt8
  synced : Int
structure FileAt (b : Nat) (H : AHeap) (x : FileS) : Prop where
  ge : b ≤ x.id
  at_ : H[x.id]? = some (.row [x.v, .int .i64 x.synced] 2 true)
  own : Own b H encB 1 x.v x.l
theorem FileAt.keep {b : Nat} {H H' : AHeap} {x : FileS} (h : FileAt b H x) (h1 : H'[x.id]? = H[x.id]?) (h2 : ∀ j, owner x.v = some j → H'[j]? = H[j]?) : FileAt b H' x :=
  ⟨h.ge, by rw [h1]; exact h.at_, h.own.keep h2⟩
theorem FileAt.pre {b : Nat} {H H' : AHeap} {x : FileS} (h : FileAt b H x) (hp : H <+: H') : FileAt b H' x := ⟨h.ge, pre_get hp h.at_, h.own.pre hp⟩
abbrev idsOf (M : List FileS) : List (ByteArray × Nat) := M.map fun x => (x.name, x.id)
abbrev diskC (m : Nat) (off : Bool) (ops at_ part : Int) : List Value := [.map (some m), .bool off, .int .i64 ops, .int .i64 at_, .int .i64 part]
abbrev Apart (M : List FileS) : Prop := M.Pairwise fun x y => x.id ≠ y.id ∧ ∀ j, owner x.v = some j → owner y.v ≠ some j
structure DiskAt (b : Nat) (H : AHeap) (d m : Nat) (off : Bool) (ops at_ part : Int) (M : List FileS) : Prop where
  bd : b ≤ d
  bm : b ≤ m
  at_ : H[d]? = some (.row (diskC m off ops at_ part) 5 true)
  dict : DictAt H m strV ptrV (idsOf M)
  files : ∀ x ∈ M, FileAt b H x
  apart : Apart M
theorem DiskAt.pre {b : Nat} {H H' : AHeap} {d m : Nat} {off : Bool} {ops at_ part : Int} {M : List FileS} (h : DiskAt b H d m off ops at_ part M) (hp : H <+: H') : DiskAt b H' d m off ops at_ part M :=
  ⟨h.bd, h.bm, pre_get hp h.at_, h.dict.pre hp, fun x hx => (h.files x hx).pre hp, h.apart⟩
def footD (d m : Nat) (M : List FileS) (j : Nat) : Prop := j = d ∨ j = m ∨ ∃ x ∈ M, j = x.id ∨ owner x.v = some j
theorem dict_ne_row {κ ν : Type} {H : AHeap} {id : Nat} {ek : κ → Value} {ev : ν → Value} {m : List (κ × ν)} (hd : DictAt H id ek ev m) {p : Nat} {cs : List Value} {k : Nat} {o : Bool} (h : H[p]? = some (.row cs k o)) : p ≠ id := by
  rintro rfl
  obtain ⟨es, ck, h1, _⟩ := hd
  rw [h1] at h; cases h
variable {b : Nat} {H H' : AHeap} {d m : Nat} {off : Bool} {ops at_ part : Int} {M : List FileS}
theorem DiskAt.lt (h : DiskAt b H d m off ops at_ part M) : d < H.length := get_lt h.at_
theorem DiskAt.foot (h : DiskAt b H d m off ops at_ part M) {j : Nat} (hj : footD d m M j) : b ≤ j ∧ j < H.length := by
  rcases hj with rfl | rfl | ⟨x, hx, rfl | hj⟩
  · exact ⟨h.bd, h.lt⟩
  · exact ⟨h.bm, h.dict.lt⟩
  · exact ⟨(h.files x hx).ge, get_lt (h.files x hx).at_⟩
  · exact (h.files x hx).own.owner_ge hj
theorem DiskAt.keep (h : DiskAt b H d m off ops at_ part M) (hk : ∀ j, footD d m M j → H'[j]? = H[j]?) : DiskAt b H' d m off ops at_ part M :=
  ⟨h.bd, h.bm, by rw [hk d (.inl rfl)]; exact h.at_, h.dict.keep (hk m (.inr (.inl rfl))), fun x hx => (h.files x hx).keep (hk _ (.inr (.inr ⟨x, hx, .inl rfl⟩))) fun j hj => hk j (.inr (.inr ⟨x, hx, .inr hj⟩)), h.apart⟩
theorem DiskAt.nodup (h : DiskAt b H d m off ops at_ part M) : (M.map FileS.name).Nodup := by
  obtain ⟨es, ck, h1, h2⟩ := h.dict
  have := h2.keys
  rwa [mkeys, idsOf, List.map_map] at this
theorem DiskAt.ne_m (h : DiskAt b H d m off ops at_ part M) {x : FileS} (hx : x ∈ M) : x.id ≠ m ∧ ∀ j, owner x.v = some j → j ≠ m :=
  ⟨dict_ne_row h.dict (h.files x hx).at_, fun j hj => by obtain ⟨cs, hr⟩ := own_rowK (h.files x hx).own hj; exact dict_ne_row h.dict hr⟩
theorem DiskAt.ne_d (h : DiskAt b H d m off ops at_ part M) {x : FileS} (hx : x ∈ M) : x.id ≠ d ∧ ∀ j, owner x.v = some j → j ≠ d := by
  refine ⟨fun q => ?_, fun j hj q => ?_⟩
  · have := (h.files x hx).at_
    rw [q, h.at_] at this
    simp at this
  · obtain ⟨cs, hr⟩ := own_rowK (h.files x hx).own hj
    rw [q, h.at_] at hr
    cases hr
theorem DiskAt.ne_dm (h : DiskAt b H d m off ops at_ part M) : d ≠ m := dict_ne_row h.dict h.at_
theorem DiskAt.put (h : DiskAt b H d m off ops at_ part M) (off2 : Bool) (ops2 at2 part2 : Int) : DiskAt b (H.set d (.row (diskC m off2 ops2 at2 part2) 5 true)) d m off2 ops2 at2 part2 M :=
  ⟨h.bd, h.bm, List.getElem?_set_self h.lt, h.dict.keep (List.getElem?_set_ne h.ne_dm), fun x hx => (h.files x hx).keep (List.getElem?_set_ne (Ne.symm (h.ne_d hx).1)) fun j hj => List.getElem?_set_ne (Ne.symm ((h.ne_d hx).2 j hj)), h.apart⟩
theorem DiskAt.look (h : DiskAt b H d m off ops at_ part M) (k : ByteArray) :
    alookup Tryz.prog H 82 (.map (some m)) (strV k) false = some (((mget (idsOf M) k).map ptrV).getD (.pointer none)) := by
  rw [h.dict.lookup strLaw mt82 ze98 rfl]
  rfl
theorem mget_at (hn : (M.map FileS.name).Nodup) {x : FileS} (hx : x ∈ M) : mget (idsOf M) x.name = some x.id :=
  mget_of_mem (by rwa [mkeys, idsOf, List.map_map]) (List.mem_map.2 ⟨x, hx, rfl⟩)
theorem mget_ids_none {k : ByteArray} : mget (idsOf M) k = none ↔ ∀ x ∈ M, x.name ≠ k := by
  rw [mget_none, mkeys, idsOf, List.map_map]
  simp
structure Chg (F F' : Nat → Prop) (H H' : AHeap) : Prop where
  len : H.length ≤ H'.length
  fr : ∀ j, j < H.length → ¬ F j → H'[j]? = H[j]?
  ow : ∀ j, F' j → F j ∨ H.length ≤ j
theorem Chg.trans {F F1 F2 : Nat → Prop} {H H1 H2 : AHeap} (h1 : Chg F F1 H H1) (h2 : Chg F1 F2 H1 H2) : Chg F F2 H H2 :=
  ⟨Nat.le_trans h1.len h2.len, fun j hj hn => (h2.fr j (Nat.lt_of_lt_of_le hj h1.len) fun q => (h1.ow j q).elim hn (by omega)).trans (h1.fr j hj hn), fun j hj => (h2.ow j hj).elim (fun q => h1.ow j q) fun q => .inr (Nat.le_trans h1.len q)⟩
theorem Chg.pre {F : Nat → Prop} {H H' : AHeap} (h : H <+: H') : Chg F F H H' :=
  ⟨pre_len h, fun j hj _ => by obtain ⟨L, rfl⟩ := h; exact List.getElem?_append_left hj, fun _ h => .inl h⟩
theorem apart_mid {A B : List FileS} {x : FileS} (h : Apart (A ++ x :: B)) : ∀ y, (y ∈ A ∨ y ∈ B) → y.id ≠ x.id ∧ ∀ j, owner x.v = some j → owner y.v ≠ some j := by
  rw [Apart, List.pairwise_append, List.pairwise_cons] at h
  rintro y (hy | hy)
  · exact ⟨(h.2.2 y hy x (by simp)).1, fun j hj hj2 => (h.2.2 y hy x (by simp)).2 j hj2 hj⟩
  · exact ⟨fun q => (h.2.1.1 y hy).1 q.symm, fun j hj => (h.2.1.1 y hy).2 j hj⟩
theorem apart_set {A B : List FileS} {x x' : FileS} (h : Apart (A ++ x :: B)) (h1 : ∀ y, (y ∈ A ∨ y ∈ B) → y.id ≠ x'.id ∧ ∀ j, owner x'.v = some j → owner y.v ≠ some j) : Apart (A ++ x' :: B) := by
  rw [Apart, List.pairwise_append, List.pairwise_cons] at h ⊢
  refine ⟨h.1, ⟨fun y hy => ⟨fun q => (h1 y (.inr hy)).1 q.symm, fun j hj => (h1 y (.inr hy)).2 j hj⟩, h.2.1.2⟩, fun y hy z hz => ?_⟩
  rcases List.mem_cons.1 hz with rfl | hz
  · exact ⟨(h1 y (.inl hy)).1, fun j hj hj2 => (h1 y (.inl hy)).2 j hj2 hj⟩
  · exact h.2.2 y hy z (List.mem_cons_of_mem _ hz)
theorem apart_cut {A B : List FileS} {x : FileS} (h : Apart (A ++ x :: B)) : Apart (A ++ B) := by
  refine List.Pairwise.sublist ?_ h
  exact List.Sublist.append (List.Sublist.refl A) (List.sublist_cons_self x B)
theorem DiskAt.file {A B : List FileS} {x : FileS} (h : DiskAt b H d m off ops at_ part (A ++ x :: B)) (x' : FileS) (hn : x'.name = x.name) (hi : x'.id = x.id) (hf : FileAt b H' x')
    (fr : ∀ j, j < H.length → j ≠ x.id → owner x.v ≠ some j → H'[j]? = H[j]?) (ow : ∀ j, owner x'.v = some j → owner x.v = some j ∨ H.length ≤ j) : DiskAt b H' d m off ops at_ part (A ++ x' :: B) := by
  have hx : x ∈ A ++ x :: B := by simp
  have hxa := h.files x hx
  have nd := h.ne_d hx
  have nm := h.ne_m hx
  have hm := apart_mid h.apart
  refine ⟨h.bd, h.bm, ?_, ?_, fun y hy => ?_, apart_set h.apart fun y hy => ?_⟩
  · rw [fr d h.lt (Ne.symm nd.1) fun q => nd.2 _ q rfl]; exact h.at_
  · have : idsOf (A ++ x' :: B) = idsOf (A ++ x :: B) := by simp [idsOf, hn, hi]
    rw [this]
    exact h.dict.keep (fr m h.dict.lt (Ne.symm nm.1) fun q => nm.2 _ q rfl)
  · rw [List.mem_append, List.mem_cons] at hy
    have old : (y ∈ A ∨ y ∈ B) → FileAt b H' y := fun hy2 => by
      have hy' : y ∈ A ++ x :: B := by rw [List.mem_append, List.mem_cons]; rcases hy2 with q | q <;> simp [q]
      have hya := h.files y hy'
      refine hya.keep (fr y.id (get_lt hya.at_) (hm y hy2).1 fun q => own_ne hxa.own hya.at_ (by decide) _ q rfl) fun j hj => fr j (hya.own.owner_ge hj).2 (own_ne hya.own hxa.at_ (by decide) j hj) fun q => (hm y hy2).2 j q hj
    rcases hy with hy | rfl | hy
    · exact old (.inl hy)
    · exact hf
    · exact old (.inr hy)
  · have hy' : y ∈ A ++ x :: B := by rw [List.mem_append, List.mem_cons]; rcases hy with q | q <;> simp [q]
    have hya := h.files y hy'
    refine ⟨by rw [hi]; exact (hm y hy).1, fun j hj hj2 => ?_⟩
    rcases ow j hj with q | q
    · exact (hm y hy).2 j q hj2
    · have := (hya.own.owner_ge hj2).2; omega
theorem DiskAt.file_chg {A B : List FileS} {x x' : FileS} {d m : Nat} (hi : x'.id = x.id) (hl : H.length ≤ H'.length)
    (fr : ∀ j, j < H.length → j ≠ x.id → owner x.v ≠ some j → H'[j]? = H[j]?) (ow : ∀ j, owner x'.v = some j → owner x.v = some j ∨ H.length ≤ j) : Chg (footD d m (A ++ x :: B)) (footD d m (A ++ x' :: B)) H H' := by
  refine ⟨hl, fun j hj hn => fr j hj (fun q => hn (.inr (.inr ⟨x, by simp, .inl q⟩))) fun q => hn (.inr (.inr ⟨x, by simp, .inr q⟩)), fun j hj => ?_⟩
  rcases hj with rfl | rfl | ⟨y, hy, hj⟩
  · exact .inl (.inl rfl)
  · exact .inl (.inr (.inl rfl))
  · rw [List.mem_append, List.mem_cons] at hy
    rcases hy with hy | rfl | hy
    · exact .inl (.inr (.inr ⟨y, by simp [hy], hj⟩))
    · rcases hj with rfl | hj
      · exact .inl (.inr (.inr ⟨x, by simp, .inl hi⟩))
      · rcases ow j hj with q | q
        · exact .inl (.inr (.inr ⟨x, by simp, .inr q⟩))
        · exact .inr q
    · exact .inl (.inr (.inr ⟨y, by simp [hy], hj⟩))
theorem DiskAt.more (h : DiskAt b H d m off ops at_ part M) (x : FileS) (hx : FileAt b H x) (hn : ∀ y ∈ M, y.name ≠ x.name) (ha : ∀ y ∈ M, y.id ≠ x.id ∧ ∀ j, owner x.v = some j → owner y.v ≠ some j) :
    ∃ o, amapPut Tryz.prog H 82 (.map (some m)) (strV x.name) (ptrV x.id) = some (H.set m o) ∧ DiskAt b (H.set m o) d m off ops at_ part (M ++ [x]) := by
  obtain ⟨o, h1, h2⟩ := h.dict.put (t := 82) strLaw mt82 x.name x.id
  have hg := mget_ids_none.2 hn
  refine ⟨o, h1, h.bd, h.bm, ?_, ?_, fun y hy => ?_, ?_⟩
  · rw [List.getElem?_set_ne (Ne.symm h.ne_dm)]; exact h.at_
  · rw [cells_push (ek := strV) (ev := ptrV) _ hg] at h2
    simpa [idsOf] using h2
  · rcases List.mem_append.1 hy with hy | hy
    · have := h.ne_m hy
      exact (h.files y hy).keep (List.getElem?_set_ne (Ne.symm this.1)) fun j hj => List.getElem?_set_ne (Ne.symm (this.2 j hj))
    · rw [List.mem_singleton] at hy; subst hy
      exact hx.keep (List.getElem?_set_ne (Ne.symm (dict_ne_row h.dict hx.at_))) fun j hj => by
        obtain ⟨cs, hr⟩ := own_rowK hx.own hj
        exact List.getElem?_set_ne (Ne.symm (dict_ne_row h.dict hr))
  · rw [Apart, List.pairwise_append]
    refine ⟨h.apart, by simp, fun y hy z hz => ?_⟩
    rw [List.mem_singleton] at hz; subst hz
    exact ⟨(ha y hy).1, fun j hj hj2 => (ha y hy).2 j hj2 hj⟩
theorem mdel_mid {A B : List FileS} {x : FileS} (h : ((A ++ x :: B).map FileS.name).Nodup) : mdel (idsOf (A ++ x :: B)) x.name = idsOf (A ++ B) := by
  induction A with
  | nil => simp [idsOf, mdel]
  | cons y A ih =>
    simp only [List.cons_append, List.map_cons, List.nodup_cons] at h
    have hne : y.name ≠ x.name := fun q => h.1 (by rw [q]; simp)
    simp only [idsOf, List.cons_append, List.map_cons, mdel]
    rw [if_neg hne]
    exact congrArg _ (ih h.2)
theorem DiskAt.less {A B : List FileS} {x : FileS} (h : DiskAt b H d m off ops at_ part (A ++ x :: B)) :
    ∃ o, adelete Tryz.prog H 82 (.map (some m)) (strV x.name) = some (H.set m o) ∧ DiskAt b (H.set m o) d m off ops at_ part (A ++ B) := by
  obtain ⟨o, h1, h2⟩ := h.dict.delete (t := 82) strLaw mt82 x.name
  rw [mdel_mid h.nodup] at h2
  refine ⟨o, h1, h.bd, h.bm, ?_, h2, fun y hy => ?_, apart_cut h.apart⟩
  · rw [List.getElem?_set_ne (Ne.symm h.ne_dm)]; exact h.at_
  · have hy' : y ∈ A ++ x :: B := by rw [List.mem_append] at hy; rw [List.mem_append, List.mem_cons]; rcases hy with q | q <;> simp [q]
    have := h.ne_m hy'
    exact (h.files y hy').keep (List.getElem?_set_ne (Ne.symm this.1)) fun j hj => List.getElem?_set_ne (Ne.symm (this.2 j hj))
def nameB (s : ByteArray) : Bool := (strB s).all (fun b => decide (33 ≤ b.toNat) && decide (b.toNat ≤ 126)) && (decide (0 < s.size) && decide (s.size ≤ 64))
theorem namedLaw (s : ByteArray) (hs : s.size < 4000000) (H : AHeap) : Sound Tryz.prog 82 [.string s] H fun v H' => v = .bool (nameB s) ∧ H' = H := by
  refine Sound.of_body (rs := [.tmp 2]) mixed Tryz.func82 rfl (by kernel_rfl) rfl (by kernel_rfl) ?_
  simp -dsimp only [go_sem, ↓reduceIte, Nat.reduceEqDiff, Nat.reduceAdd, Nat.reduceMul, Nat.reduceSub, Nat.reduceLeDiff, Nat.reduceLT]
  have hsz : (strB s).length = s.size := rfl
  refine aloopP_of (fun n T H' => ∃ i : Nat, n = s.size - i ∧ i ≤ s.size ∧ H' = H ∧ (∀ c ∈ (strB s).take i, 33 ≤ c.toNat ∧ c.toNat ≤ 126) ∧ T 0 = .string s ∧ T 5 = .int .i64 s.size ∧ T 6 = .int .i64 (i : Nat)) (n := s.size) ?_ ?_
  · refine ⟨0, ?_⟩
    simp -dsimp only [go_sem, ↓reduceIte, Nat.reduceEqDiff, Nat.reduceAdd, Nat.reduceMul, Nat.reduceSub, Nat.reduceLeDiff, Nat.reduceLT]
    exact ⟨rfl, Nat.zero_le _, by simp, rfl⟩
  · rintro n T H' ⟨i, rfl, hi, rfl, hlo, h0, h5, h6⟩
    simp -dsimp only [go_sem, ↓reduceIte, Nat.reduceEqDiff, Nat.reduceAdd, Nat.reduceMul, Nat.reduceSub, Nat.reduceLeDiff, Nat.reduceLT, h0, h5, h6]
    refine acondP_of (fun h => ?_) (fun h => ?_)
    · simp at h
      obtain ⟨c, hc⟩ := get_ex (l := strB s) (by rw [hsz]; exact h)
      have hix : aindex Tryz.prog 9 (.string s) (.int .i64 (i : Nat)) = some (.int .u8 c.toNat) := by
        have hs : s[i]? = some c := by
          have hlt : i < s.data.size := h
          have h2 : s.data[i]? = some c := by rw [← Array.getElem?_toList]; exact hc
          rw [Array.getElem?_eq_getElem hlt] at h2
          rw [getElem?_pos s i h]
          exact h2
        have hu : Tryz.prog.underlying 9 = some .string := by kernel_rfl
        simp only [aindex, hu, Int.toNat_natCast, hs, Option.map_some]
        rw [if_pos (by omega)]
      have bad : ¬ (33 ≤ c.toNat ∧ c.toNat ≤ 126) → nameB s = false := fun q => by
        have : (strB s).all (fun b => decide (33 ≤ b.toNat) && decide (b.toNat ≤ 126)) = false := by
          rw [List.all_eq_false]
          exact ⟨c, List.mem_of_getElem? hc, by simp; omega⟩
        simp only [nameB, this, Bool.false_and]
      cases hA : decide ((c.toNat : Int) < 33) with
      | true =>
        have hA' := of_decide_eq_true hA
        simp -dsimp only [go_sem, ↓reduceIte, Nat.reduceEqDiff, Nat.reduceAdd, Nat.reduceMul, Nat.reduceSub, Nat.reduceLeDiff, Nat.reduceLT, h0, h5, h6, hix, hA]
        rw [bad (by omega)]
      | false =>
        have hA' := of_decide_eq_false hA
        cases hB : decide ((126 : Int) < (c.toNat : Int)) with
        | true =>
          have hB' := of_decide_eq_true hB
          simp -dsimp only [go_sem, ↓reduceIte, Nat.reduceEqDiff, Nat.reduceAdd, Nat.reduceMul, Nat.reduceSub, Nat.reduceLeDiff, Nat.reduceLT, h0, h5, h6, hix, hA, hB]
          rw [bad (by omega)]
        | false =>
          have hB' := of_decide_eq_false hB
          simp -dsimp only [go_sem, ↓reduceIte, Nat.reduceEqDiff, Nat.reduceAdd, Nat.reduceMul, Nat.reduceSub, Nat.reduceLeDiff, Nat.reduceLT, h0, h5, h6, hix, hA, hB, wrS (show i < 4611686018427387904 by omega)]
          refine ⟨_, by omega, i + 1, rfl, h, fun z hz => ?_, rfl⟩
          rw [List.take_add_one, hc, List.mem_append] at hz
          rcases hz with hz | hz
          · exact hlo z hz
          · obtain rfl : z = c := by simpa using hz
            omega
    · simp at h
      have hall : (strB s).all (fun b => decide (33 ≤ b.toNat) && decide (b.toNat ≤ 126)) = true := by
        rw [List.all_eq_true]
        intro z hz
        rw [List.take_of_length_le (by rw [hsz]; omega)] at hlo
        simpa using hlo z hz
      cases hA : decide ((0 : Int) < (s.size : Int)) with
      | true =>
        have hA' := of_decide_eq_true hA
        simp -dsimp only [go_sem, ↓reduceIte, Nat.reduceEqDiff, Nat.reduceAdd, Nat.reduceMul, Nat.reduceSub, Nat.reduceLeDiff, Nat.reduceLT, h0, h5, h6, hA]
        simp only [nameB, hall, Bool.true_and]
        rw [show decide (0 < s.size) = true from decide_eq_true (by omega), Bool.true_and]
        congr 1
        rw [Bool.eq_iff_iff]; simp; omega
      | false =>
        have hA' := of_decide_eq_false hA
        simp -dsimp only [go_sem, ↓reduceIte, Nat.reduceEqDiff, Nat.reduceAdd, Nat.reduceMul, Nat.reduceSub, Nat.reduceLeDiff, Nat.reduceLT, h0, h5, h6, hA]
        simp only [nameB, hall, Bool.true_and]
        rw [show decide (0 < s.size) = false from decide_eq_false (by omega), Bool.false_and]
end Go.Proofs.YtekpdopbiklkfaaGreatDoor
end
section
set_option linter.unusedVariables false
set_option linter.unusedSimpArgs false
namespace Go.AW
open Go Go.Proofs
variable {P : Program}
def full (w : World) : Frm := ⟨fun b => w.heap[b]?, w.tape, w.os, w.output, w.drawn, w.heap.size⟩
theorem full_ok (w : World) : (full w).ok w := ⟨fun _ _ h => h, rfl, rfl, rfl, Nat.le_refl _, Nat.le_refl _⟩
theorem full_grow {w w' : World} (h : (full w).ok w') : ∃ q os, w' = Sort.grow (w.drewN q) os := by
  refine ⟨w'.drawn - w.drawn, w'.heap.extract w.heap.size w'.heap.size, ?_⟩
  have hs := h.size
  have hd := h.drawn
  have h1 := h.tape
  have h2 := h.os
  have h3 := h.output
  have h4 := h.heap
  simp only [full] at hs hd h1 h2 h3 h4
  have hh : w'.heap = w.heap ++ w'.heap.extract w.heap.size w'.heap.size := by
    apply Array.ext_getElem?
    intro i
    by_cases hi : i < w.heap.size
    · rw [Array.getElem?_append_left hi]
      exact h4 i _ (Array.getElem?_eq_getElem hi) |>.trans (Array.getElem?_eq_getElem hi).symm
    · rw [Array.getElem?_append_right (by omega), Array.getElem?_extract]
      by_cases hi2 : i < w'.heap.size
      · rw [if_pos (by omega)]; congr 1; omega
      · rw [if_neg (by omega), Array.getElem?_eq_none (by omega)]
  obtain ⟨heap, tape, drawn, os, output⟩ := w'
  obtain ⟨heap0, tape0, drawn0, os0, output0⟩ := w
  simp only at hs hd h1 h2 h3 hh
  simp only [Sort.grow, World.drewN, World.mk.injEq]
  exact ⟨hh, h1, by omega, h2, h3⟩
def dem (skip : Option Nat) (H : AHeap) : AHeap := H.mapIdx fun i o => if skip = some i then .gone else match o with | .row cs k _ => .row cs k false | _ => .gone
theorem dem_len (skip : Option Nat) (H : AHeap) : (dem skip H).length = H.length := by simp [dem]
def Seen (skip : Option Nat) (H H' : AHeap) : Prop := ∀ j cs k own, skip ≠ some j → H[j]? = some (.row cs k own) → ∃ own', H'[j]? = some (.row cs k own')
theorem seen_dem (skip : Option Nat) (H : AHeap) : Seen skip H (dem skip H) := fun j cs k own hs h => ⟨false, by simp [dem, h, hs]⟩
theorem Seen.aload {skip : Option Nat} {H H' : AHeap} (h : Seen skip H H') {a : Addr} {n : Nat} {cs : List Value} (hs : skip ≠ some a.block) (hl : aload H a n = some cs) : aload H' a n = some cs := by
  rw [aload_iff] at hl ⊢
  obtain ⟨h1, row, k, own, h2, h3⟩ := hl
  obtain ⟨own', h4⟩ := h _ _ _ _ hs h2
  exact ⟨h1, row, k, own', h4, h3⟩
theorem Rel.dem {ρ : Ren} {H : AHeap} {F : Frm} {w W : World} (h : Rel ρ H F w) (skip : Option Nat) (hW : ∀ i l cs k own, skip ≠ some i → ρ i = some l → H[i]? = some (.row cs k own) → W.heap[l.blk]? = w.heap[l.blk]?) :
    Rel ρ (dem skip H) (full W) W := by
  have key : ∀ (i : Nat) o, (AW.dem skip H)[i]? = some o → o = .gone ∨ ∃ cs k own, o = .row cs k false ∧ skip ≠ some i ∧ H[i]? = some (.row cs k own) := by
    intro i o ho
    simp only [AW.dem, List.getElem?_mapIdx, Option.map_eq_some_iff] at ho
    obtain ⟨p, hp, rfl⟩ := ho
    by_cases hs : skip = some i
    · rw [if_pos hs]; exact .inl rfl
    · rw [if_neg hs]
      cases p with
      | row cs k own => exact .inr ⟨cs, k, own, rfl, hs, hp⟩
      | _ => exact .inl rfl
  refine ⟨fun i l hl => by rw [dem_len]; exact h.dom i l hl, full_ok W, fun i l o hl ho => ?_, fun i j l m o p hl hm ho hp hij h1 h2 => ?_⟩
  · rcases key i o ho with rfl | ⟨cs, k, own, rfl, hs, hi⟩
    · trivial
    · obtain ⟨arr, e, fz, a1, a2, a3, _⟩ := h.obj i l _ hl hi
      have := hW i l cs k own hs hl hi
      exact ⟨arr, e, fz, by rw [this]; exact a1, a2, a3, fun q => Bool.noConfusion q, fun _ => by simp only [full]; rw [this, a1]; rfl⟩
  · rcases key i o ho with rfl | ⟨cs, k, own, rfl, _⟩ <;> simp [isOwn] at h1
def conc (ρ : Ren) (v : Value) : Value :=
  match v with
  | .pointer (some ⟨id, off, none⟩) => match ρ id with | some l => .pointer (some ⟨l.blk, l.base + off, none⟩) | none => v
  | v => v
def simple : Value → Bool
  | .bool _ | .int _ _ | .string _ | .float _ _ | .pointer none | .pointer (some ⟨_, _, none⟩) => true
  | _ => false
theorem conc_of {ρ : Ren} {v v' : Value} (h : VR ρ v v') (hs : simple v = true) : v' = conc ρ v := by
  cases h with
  | ptr hl => simp [conc, hl]
  | bool b => rfl
  | int k n => rfl
  | float k b => rfl
  | string s => rfl
  | ptrNil => rfl
  | _ => simp [simple, AW.emp] at hs
theorem simple_one {ρ : Ren} {v : Value} (hs : simple v = true) : (conc ρ v).oneCell' = true := by
  unfold conc
  split
  · split <;> rfl
  · cases v <;> first | rfl | simp [simple] at hs
theorem simple_agg {ρ : Ren} {l : List Value} (h : ∀ v ∈ l, VR ρ v (conc ρ v)) : VRs ρ l (l.map (conc ρ)) :=
  ⟨by simp, fun i u u' hu hu' => by
    rw [List.getElem?_map, hu] at hu'
    simp only [Option.map_some, Option.some.injEq] at hu'
    subst hu'
    exact h u (List.mem_of_getElem? hu)⟩
theorem flat_get {β : Type} {f : β → List Value} {k : Nat} (hk : ∀ x, (f x).length = k) (h0 : 0 < k) : ∀ (l : List β) (t : Nat), (l.flatMap f)[t]? = (l[t / k]?).bind fun x => (f x)[t % k]?
  | [], t => by simp
  | x :: l, t => by
    rw [List.flatMap_cons]
    by_cases ht : t < k
    · rw [List.getElem?_append_left (by rw [hk]; exact ht), Nat.div_eq_of_lt ht, Nat.mod_eq_of_lt ht]; simp
    · rw [List.getElem?_append_right (by rw [hk]; omega), hk, flat_get hk h0 l (t - k)]
      have e1 : t / k = (t - k) / k + 1 := by rw [Nat.div_eq_sub_div h0 (by omega)]
      have e2 : t % k = (t - k) % k := Nat.mod_eq_sub_mod (by omega)
      rw [e1, e2]; simp
theorem flatK_list {β : Type} [Inhabited β] {f : β → List Value} {k : Nat} (hk : ∀ x, (f x).length = k) (h0 : 0 < k) (d : Array β) : (Sort.flatK f k d).toList = d.toList.flatMap f := by
  apply List.ext_getElem?
  intro t
  rw [flat_get hk h0]
  by_cases ht : t < d.size * k
  · have hd : t / k < d.size := Nat.div_lt_of_lt_mul (by rwa [Nat.mul_comm] at ht)
    have hm : t % k < (f d[t / k]).length := by rw [hk]; exact Nat.mod_lt _ h0
    have hg := Sort.get_flatK f k d t ht
    rw [getElem!_pos (Sort.flatK f k d) t (by simpa using ht), getElem!_pos d (t / k) hd, getElem!_pos (f d[t / k]) (t % k) hm] at hg
    rw [Array.getElem?_toList, Array.getElem?_eq_getElem (by simpa using ht), hg, Array.getElem?_toList, Array.getElem?_eq_getElem hd, Option.bind_some, List.getElem?_eq_getElem hm]
  · rw [Array.getElem?_toList, Array.getElem?_eq_none (by simp; omega), Array.getElem?_toList, Array.getElem?_eq_none]
    · rfl
    · exact Nat.le_div_iff_mul_le h0 |>.2 (by omega)
theorem Rel.grow {ρ : Ren} {H : AHeap} {F : Frm} {w : World} (h : Rel ρ H F w) (os : Array Obj) : Rel ρ H F (Sort.grow w os) := by
  have old : ∀ {b : Nat} {o : Obj}, w.heap[b]? = some o → (Sort.grow w os).heap[b]? = some o := fun {b o} hb => by
    have : b < w.heap.size := by
      rcases Nat.lt_or_ge b w.heap.size with h | h
      · exact h
      · simp [Array.getElem?_eq_none h] at hb
    simp only [Sort.grow]
    rw [Array.getElem?_append_left this]; exact hb
  refine ⟨h.dom, ⟨fun b o hb => old (h.frm.heap b o hb), h.frm.tape, h.frm.os, h.frm.output, h.frm.drawn, ?_⟩, fun i l o hl ho => ?_, h.sep⟩
  · have := h.frm.size; simp only [Sort.grow, Array.size_append]; omega
  · have hob := h.obj i l o hl ho
    cases o with
    | row cs k own => obtain ⟨arr, e, fz, a1, a2⟩ := hob; exact ⟨arr, e, fz, old a1, a2⟩
    | map es ck => obtain ⟨a1, a2, es', a3, a4⟩ := hob; exact ⟨a1, a2, es', old a3, a4⟩
    | mapIter m s sn la =>
      obtain ⟨a1, a2, a3⟩ := hob
      refine ⟨a1, a2, ?_⟩
      cases m with
      | none => exact old a3
      | some id => obtain ⟨lm, b1, b2⟩ := a3; exact ⟨lm, b1, old b2⟩
    | strIter s p => exact ⟨hob.1, hob.2.1, old hob.2.2⟩
    | gone => trivial
    | rowx cs k ext => obtain ⟨arr, e, fz, a1, a2⟩ := hob; exact ⟨arr, e, fz, old a1, a2⟩
theorem sort_row {α : Type} {enc : α → List Value} {k : Nat} (hk : ∀ x, (enc x).length = k) {l : List α} (h1 : ∀ x ∈ l, (enc x).all simple = true)
    {ρ : Ren} {H : AHeap} {F : Frm} {w : World} (hR : Rel ρ H F w) {id : Nat} {lc : Loc} {rest : List Value} (hid : ρ id = some lc) (hH : H[id]? = some (.row (l.flatMap enc ++ rest) k true)) :
    (∀ v ∈ l.flatMap enc, VR ρ v (conc ρ v)) ∧
    (∀ (F2 : Array Value), F2.toList = (l.flatMap enc).map (conc ρ) → Sort.Holds (_root_.id : Value → Value) w lc.blk (lc.base + 0) F2) ∧ lc.blk < w.heap.size ∧
    (∀ i l2 cs k2 own, i ≠ id → ρ i = some l2 → H[i]? = some (.row cs k2 own) → l2.blk ≠ lc.blk) ∧
    (∀ (l' : List α), l'.Perm l → ∀ (F2 : Array Value), F2.toList = (l'.flatMap enc).map (conc ρ) → ∀ n os, Rel ρ (H.set id (.row (l'.flatMap enc ++ rest) k true)) F (Sort.grow (Sort.putRow (_root_.id : Value → Value) (Sort.ahead w n) lc.blk (lc.base + 0) F2) os)) := by
  obtain ⟨arr, e, fz, a1, a2, a3, a4, -⟩ := hR.obj id lc _ hid hH
  obtain ⟨b1, b2, b3, b4, b5⟩ := a4 rfl
  have hsz : (l.flatMap enc).length + rest.length + lc.base ≤ arr.size := by simpa [Nat.add_comm, Nat.add_left_comm] using a2
  have hcell : ∀ i v, (l.flatMap enc)[i]? = some v → arr[lc.base + i]? = some (conc ρ v) ∧ VR ρ v (conc ρ v) := by
    intro i v hv
    have hi : i < (l.flatMap enc).length := by
      rcases Nat.lt_or_ge i (l.flatMap enc).length with h | h
      · exact h
      · simp [List.getElem?_eq_none h] at hv
    have hlt : lc.base + i < arr.size := by omega
    have hvr := a3 i v _ (by rw [List.getElem?_append_left hi]; exact hv) (Array.getElem?_eq_getElem hlt)
    have hs : simple v = true := by
      obtain ⟨x, hx, hxv⟩ := List.mem_flatMap.1 (List.mem_of_getElem? hv)
      exact List.all_eq_true.1 (h1 x hx) v hxv
    have := conc_of hvr hs
    rw [this] at hvr
    exact ⟨by rw [Array.getElem?_eq_getElem hlt, this], hvr⟩
  have hblk : lc.blk < w.heap.size := by
    rcases Nat.lt_or_ge lc.blk w.heap.size with h | h
    · exact h
    · simp [Array.getElem?_eq_none h] at a1
  refine ⟨fun v hv => ?_, fun F2 hF2 j hj => ?_, hblk, fun i l2 cs k2 own hi hl2 hHi => ?_, fun l' hp F2 hF2 n os => ?_⟩
  · obtain ⟨i, hi⟩ := List.getElem?_of_mem hv
    exact (hcell i v hi).2
  · have hj2 : j < (l.flatMap enc).length := by
      have := congrArg List.length hF2; simp only [Array.length_toList, List.length_map] at this; omega
    have hv := List.getElem?_eq_getElem hj2
    have := (hcell j _ hv).1
    refine ⟨?_, ?_⟩
    · rw [cell?_of a1, Nat.add_zero, this, getElem!_pos F2 j hj]
      have h2 : F2[j]? = some (conc ρ (l.flatMap enc)[j]) := by rw [← Array.getElem?_toList, hF2, List.getElem?_map, hv]; rfl
      rw [Array.getElem?_eq_getElem hj] at h2
      simpa using h2.symm
    · have := b3 (lc.base + j) (by omega)
      simp only [World.frozen?, a1, Nat.add_zero]
      simpa using this
  · cases own with
    | true => exact hR.sep i id l2 lc _ _ hl2 hid hHi hH hi rfl rfl
    | false =>
      obtain ⟨_, _, _, _, _, _, _, c5⟩ := hR.obj i l2 _ hl2 hHi
      intro q
      have := c5 rfl
      rw [q, b5] at this
      simp at this
  · have hl : (l'.flatMap enc).length = (l.flatMap enc).length := by rw [flat_len hk, flat_len hk, hp.length_eq]
    have hF : F2.size = (l.flatMap enc).length := by
      have := congrArg List.length hF2; simpa [hl] using this
    have hmem : ∀ v, v ∈ l'.flatMap enc → VR ρ v (conc ρ v) := fun v hv => by
      obtain ⟨x, hx, hxv⟩ := List.mem_flatMap.1 hv
      have : v ∈ l.flatMap enc := List.mem_flatMap.2 ⟨x, hp.mem_iff.1 hx, hxv⟩
      obtain ⟨i, hi⟩ := List.getElem?_of_mem this
      exact (hcell i v hi).2
    have hnew : ObjAt ρ F.heap lc (some (.cells (Sort.putCells (_root_.id : Value → Value) (lc.base + 0) F2 arr) e fz)) (.row (l'.flatMap enc ++ rest) k true) := by
      refine ⟨_, e, fz, rfl, by simp only [Sort.putCells, Array.size_mapIdx]; simp only [List.length_append, hl]; omega, fun i v v' hv hv' => ?_, fun _ => ⟨b1, by simpa [Sort.putCells] using b2, fun i hi => b3 i (by simpa [Sort.putCells] using hi), b4, b5⟩, by simp⟩
      simp only [Sort.putCells, Array.getElem?_mapIdx, Option.map_eq_some_iff] at hv'
      obtain ⟨u, hu, hu2⟩ := hv'
      by_cases hi : i < (l'.flatMap enc).length
      · rw [List.getElem?_append_left hi] at hv
        rw [if_pos (by omega)] at hu2
        have h2 : F2[i]? = some (conc ρ v) := by rw [← Array.getElem?_toList, hF2, List.getElem?_map, hv]; rfl
        have hi2 : i < F2.size := by omega
        rw [show lc.base + i - (lc.base + 0) = i by omega, getElem!_pos F2 i hi2] at hu2
        rw [Array.getElem?_eq_getElem hi2] at h2
        simp only [Option.some.injEq] at h2
        rw [h2] at hu2
        simp only [_root_.id] at hu2
        subst hu2
        exact hmem v (List.mem_of_getElem? hv)
      · rw [List.getElem?_append_right (by omega), hl] at hv
        rw [if_neg (by omega)] at hu2
        subst hu2
        refine a3 i v u ?_ hu
        rw [List.getElem?_append_right (by omega)]
        exact hv
    have ht := hR.turn hid hH rfl hnew
    have hg := (ht.drew n).grow os
    have e2 : Sort.putRow (_root_.id : Value → Value) (Sort.ahead w n) lc.blk (lc.base + 0) F2 = { w with heap := w.heap.setIfInBounds lc.blk (.cells (Sort.putCells (_root_.id : Value → Value) (lc.base + 0) F2 arr) e fz), drawn := w.drawn + n } := by
      simp only [Sort.putRow, Sort.mapBlock, Sort.ahead, World.mk.injEq, and_true]
      apply Array.ext_getElem?
      intro i
      rw [Array.getElem?_modify]
      by_cases hi : lc.blk = i
      · subst hi
        rw [if_pos rfl, a1, Array.getElem?_setIfInBounds_self_of_lt hblk]; rfl
      · rw [if_neg hi, Array.getElem?_setIfInBounds_ne hi]
    rw [e2]
    exact hg
theorem attach_inhabited {α : Type} {l : List α} (h : l ≠ []) : Nonempty {x // x ∈ l} := by
  cases l with
  | nil => exact absurd rfl h
  | cons x l => exact ⟨⟨x, List.mem_cons_self ..⟩⟩
structure CmpOn {α : Type} (cf : α → α → Int) (l : List α) : Prop where
  irrefl : ∀ x ∈ l, ¬ cf x x < 0
  trans : ∀ x ∈ l, ∀ y ∈ l, ∀ z ∈ l, cf x y < 0 → cf y z < 0 → cf x z < 0
  ntrans : ∀ x ∈ l, ∀ y ∈ l, ∀ z ∈ l, ¬ cf x y < 0 → ¬ cf y z < 0 → ¬ cf x z < 0
theorem sortFunc_struct {R : Shelf.Ren} (L : SlLaysF0.n6 P R) {k : Nat} (aE : aggT P (R.t 24) = some true) (zE : szT P (R.t 24) = some k) (h0 : 0 < k) {α : Type} {enc : α → List Value} (hk : ∀ x, (enc x).length = k) {l : List α}
    (h1 : ∀ x ∈ l, (enc x).all simple = true) (cf : α → α → Int) (hO : CmpOn cf l) (g : FuncId) (cb : Array Value) {b : Nat} {H : AHeap} {v : Value} (hown : Own b H enc k v l) (hlen : l.length < 4611686018427387904)
    (hcf : ∀ H' x y, x ∈ l → y ∈ l → Seen (owner v) H H' → H'.length = H.length → Sound P g ([.agg (enc x).toArray, .agg (enc y).toArray] ++ cb.toList) H' fun r _ => r = .int .i64 (cf x y)) :
    Sound P (R.f 6) [v, .func (.func g) #[] cb] H fun r H' => r = .tuple #[] ∧ ∃ l', l'.Perm l ∧ l'.Pairwise (fun x y => ¬ cf y x < 0) ∧ Own b H' enc k v l' ∧ H'.length = H.length ∧ ∀ j, owner v ≠ some j → H'[j]? = H[j]? := by
  refine ⟨L.f6.enters rfl, fun ρ F w args' hR hv => ?_⟩
  obtain ⟨v', as2, rfl, hv1, hv⟩ := hv.inv
  obtain ⟨f', as3, rfl, hf1, hv⟩ := hv.inv
  obtain rfl : as3 = [] := List.eq_nil_of_length_eq_zero hv.1.symm
  obtain ⟨asx9', cb', rfl, hfa, hcb⟩ := hf1.func_inv
  obtain rfl : asx9' = #[] := by have := hfa.1; simp only [Array.length_toList, List.size_toArray, List.length_nil] at this; exact Array.eq_empty_of_size_eq_zero this.symm
  by_cases hl : l = []
  · subst hl
    have hz : ∃ p c, v' = .slice p 0 c := by
      rcases hown with ⟨_, rfl | rfl⟩ | ⟨id, rest, c, _, rfl, _, _⟩
      · cases hv1; exact ⟨_, _, rfl⟩
      · unfold AW.emp at hv1
        cases hv1 <;> exact ⟨_, _, rfl⟩
      · cases hv1 <;> exact ⟨_, _, rfl⟩
    obtain ⟨p, c, rfl⟩ := hz
    refine (AnyF.slices_SortFunc_none L p c _ w).mono ?_
    rintro e w' ⟨rfl, rfl⟩
    exact ⟨.tuple #[], .tuple #[], H, ρ, rfl, ⟨rfl, [], .refl _, .nil, hown, rfl, fun _ _ => rfl⟩, hR, Ext.refl _ _, Nat.le_refl _, VR.undef _⟩
  · obtain ⟨inh⟩ := attach_inhabited hl
    haveI : Inhabited {x // x ∈ l} := ⟨inh⟩
    rcases hown with ⟨rfl, _⟩ | ⟨id, rest, c, hb, rfl, hrow, hcap⟩
    · exact absurd rfl hl
    have hpos : 0 < l.length := by cases l with | nil => exact absurd rfl hl | cons => simp
    obtain ⟨lc, c', hid, rfl, _⟩ := slice_inv hv1 rfl hpos
    simp only at hid
    obtain ⟨r1, r2, r3, r4, r5⟩ := sort_row hk h1 hR hid hrow
    have ow : owner (.slice (some ⟨id, 0, none⟩) l.length c) = some id := rfl
    rw [ow] at hcf
    have hk2 : ∀ x : {x // x ∈ l}, ((enc x.1).map (conc ρ)).length = k := fun x => by rw [List.length_map]; exact hk x.1
    have flatEq : ∀ d : Array {x // x ∈ l}, (Sort.flatK (fun x : {x // x ∈ l} => (enc x.1).map (conc ρ)) k d).toList = ((d.toList.map Subtype.val).flatMap enc).map (conc ρ) := fun d => by
      rw [flatK_list hk2 h0, List.flatMap_map, List.map_flatMap]
    have hvr : ∀ x ∈ l, VRs ρ (enc x) ((enc x).map (conc ρ)) := fun x hx => simple_agg fun v hv => r1 v (List.mem_flatMap.2 ⟨x, hx, hv⟩)
    have main := AnyQ.slices_SortFunc L k (fun w => run_isAgg (w := w) aE) (fun w => run_sizeOf (w := w) zE) (fun x : {x // x ∈ l} => (enc x.1).map (conc ρ)) hk2
      (fun x v hv => by
        obtain ⟨u, hu, rfl⟩ := List.mem_map.1 hv
        exact simple_one (List.all_eq_true.1 (h1 x.1 x.2) u hu))
      (fun x y => cf x.1 y.1)
      ⟨fun x => by simpa [ltOf] using hO.irrefl x.1 x.2, fun x y z a b => by
          simp only [ltOf, decide_eq_true_eq] at *; exact hO.trans _ x.2 _ y.2 _ z.2 a b, fun x y z a b => by
          simp only [ltOf, decide_eq_false_iff_not] at *; exact hO.ntrans _ x.2 _ y.2 _ z.2 a b⟩
      g cb' lc.blk (lc.base + 0) c' l.attach.toArray w
      (hcf _ inh.1 inh.1 inh.2 inh.2 (seen_dem _ H) (dem_len _ _)).1
      (fun m os dk hdk x y => by
        have hW := Rel.dem (W := sortWorldK (fun x : {x // x ∈ l} => (enc x.1).map (conc ρ)) k w lc.blk (lc.base + 0) m dk os) hR (some id) (fun i l2 cs k2 own hi hl2 hHi => by
          have hne := r4 i l2 cs k2 own (fun q => hi (by rw [q])) hl2 hHi
          obtain ⟨arr, e, fz, a1, _⟩ := hR.obj i l2 _ hl2 hHi
          have hlt : l2.blk < w.heap.size := by
            rcases Nat.lt_or_ge l2.blk w.heap.size with h | h
            · exact h
            · simp [Array.getElem?_eq_none h] at a1
          simp only [sortWorldK, Sort.putRowK, Sort.putRow, Sort.mapBlock, Sort.grow, Sort.ahead]
          rw [Array.getElem?_append_left (by simpa using hlt), Array.getElem?_modify, if_neg (Ne.symm hne)])
        have hs := (hcf (dem (some id) H) x.1 y.1 x.2 y.2 (seen_dem _ H) (dem_len _ _)).2 ρ _ _ ([Value.agg ((enc x.1).map (conc ρ)).toArray, .agg ((enc y.1).map (conc ρ)).toArray] ++ cb'.toList) hW
          (VRs.app (VRs.cons (VR.agg' (hvr x.1 x.2)) (VRs.cons (VR.agg' (hvr y.1 y.2)) VRs.nil)) hcb)
        have e1 : ([Value.agg ((enc x.1).map (conc ρ)).toArray, .agg ((enc y.1).map (conc ρ)).toArray] ++ cb'.toList).toArray = #[.agg ((enc x.1).map (conc ρ)).toArray, .agg ((enc y.1).map (conc ρ)).toArray] ++ cb' := by
          apply Array.toList_inj.1; simp
        rw [e1] at hs
        refine hs.mono ?_
        rintro e w' ⟨r, r', H', ρ', rfl, rfl, hR', _, _, hr⟩
        cases hr
        exact ⟨rfl, full_grow hR'.frm⟩)
      (by
        unfold Sort.HoldsK
        exact r2 _ (by rw [flatEq]; simp))
      r3 (by simpa using hlen)
    have es : l.attach.toArray.size = l.length := by simp
    rw [es] at main
    refine main.mono ?_
    rintro e w' ⟨rfl, d', n, os, hp, hs, rfl⟩
    have hd : d'.toList.Perm l.attach := by
      obtain ⟨q1, q2, q3⟩ := hp
      rw [es] at q1
      have w1 := Array.extract_size (xs := d')
      have w2 := Array.extract_size (xs := l.attach.toArray)
      rw [q1] at w1
      rw [es] at w2
      rw [w1, w2] at q3
      simpa using q3
    have hds : d'.size = l.length := by have := hd.length_eq; simpa using this
    have hperm : (d'.toList.map Subtype.val).Perm l := by
      have := hd.map Subtype.val
      rwa [List.attach_map_subtype_val] at this
    refine ⟨.tuple #[], .tuple #[], _, ρ, rfl, ⟨rfl, d'.toList.map Subtype.val, hperm, ?_, .inr ⟨id, rest, c, hb, by rw [hperm.length_eq], List.getElem?_set_self (get_lt hrow), ?_⟩, by simp, fun j hj => ?_⟩, r5 _ hperm _ (flatEq d') n os, Ext.refl _ _, by simp, VR.undef _⟩
    · rw [List.pairwise_map, List.pairwise_iff_getElem]
      intro i j hi hj hij
      have hj' : j < d'.size := by simpa using hj
      have := hs i j (Nat.zero_le _) hij (by omega)
      rw [getElem!_pos d' j hj', getElem!_pos d' i (by omega)] at this
      simpa [ltOf] using this
    · rcases hcap with h | ⟨h, h2⟩
      · exact .inl h
      · refine .inr ⟨h, ?_⟩
        rw [h2]; simp only [List.length_append]
        rw [flat_len hk, flat_len hk, hperm.length_eq]
    · rw [List.getElem?_set_ne]; intro q; rw [q] at hj; exact hj rfl
end Go.AW
end
section
set_option linter.unusedVariables false
set_option linter.unusedSimpArgs false
namespace Go.AW
open Go Go.Proofs
variable {P : Program}
abbrev encStrB (s : ByteArray) : List Value := [.string s]
def bytesOf (s : ByteArray) : List UInt8 := s.data.toList
def textOf (l : List UInt8) : ByteArray := ⟨l.toArray⟩
theorem textOf_bytes (s : ByteArray) : textOf (bytesOf s) = s := by cases s; simp [textOf, bytesOf]
theorem bytesOf_text (l : List UInt8) : bytesOf (textOf l) = l := by simp [textOf, bytesOf]
theorem sort_str {R : Shelf.Ren} (L : SlLaysM.n6 P R) {l : List ByteArray} {b : Nat} {H : AHeap} {v : Value} (hown : Own b H encStrB 1 v l) (hlen : l.length < 4611686018427387904) :
    Sound P (R.f 6) [v] H fun r H' => r = .tuple #[] ∧ ∃ l', l'.Perm l ∧ Own b H' encStrB 1 v l' ∧ H'.length = H.length ∧ ∀ j, owner v ≠ some j → H'[j]? = H[j]? := by
  refine ⟨L.f6.enters rfl, fun ρ F w args' hR hv => ?_⟩
  obtain ⟨v', as2, rfl, hv1, hv⟩ := hv.inv
  obtain rfl : as2 = [] := List.eq_nil_of_length_eq_zero hv.1.symm
  by_cases hl : l = []
  · subst hl
    have hz : ∃ p c, v' = .slice p 0 c := by
      rcases hown with ⟨_, rfl | rfl⟩ | ⟨id, rest, c, _, rfl, _, _⟩
      · cases hv1; exact ⟨_, _, rfl⟩
      · unfold AW.emp at hv1
        cases hv1 <;> exact ⟨_, _, rfl⟩
      · cases hv1 <;> exact ⟨_, _, rfl⟩
    obtain ⟨p, c, rfl⟩ := hz
    refine (AnyM.slices_Sort_string_none L p c w).mono ?_
    rintro e w' ⟨rfl, rfl⟩
    exact ⟨.tuple #[], .tuple #[], H, ρ, rfl, ⟨rfl, [], .refl _, hown, rfl, fun _ _ => rfl⟩, hR, Ext.refl _ _, Nat.le_refl _, VR.undef _⟩
  · rcases hown with ⟨rfl, _⟩ | ⟨id, rest, c, hb, rfl, hrow, hcap⟩
    · exact absurd rfl hl
    have hpos : 0 < l.length := by cases l with | nil => exact absurd rfl hl | cons => simp
    obtain ⟨lc, c', hid, rfl, _⟩ := slice_inv hv1 rfl hpos
    simp only at hid
    obtain ⟨r1, r2, r3, r4, r5⟩ := sort_row (k := 1) (enc := encStrB) (fun _ => rfl) (fun x _ => rfl) hR hid hrow
    have fl : ∀ m : List ByteArray, (m.flatMap encStrB).map (conc ρ) = (m.map bytesOf).map Go.Proofs.encStr := fun m => by
      induction m with
      | nil => rfl
      | cons x m ih =>
        rw [List.flatMap_cons, List.map_append, ih]
        show Value.string x :: _ = Value.string (textOf (bytesOf x)) :: _
        rw [textOf_bytes]; rfl
    have hH : Sort.Holds Go.Proofs.encStr w lc.blk (lc.base + 0) (l.map bytesOf).toArray := fun j hj => by
      have h := r2 ((l.map bytesOf).map Go.Proofs.encStr).toArray (by rw [fl]) j (by simpa using hj)
      have hj' : j < l.length := by simpa using hj
      simp [hj'] at h ⊢
      exact h
    have pr : ∀ (W : World) (m : List (List UInt8)) (o : Nat), Sort.putRow Go.Proofs.encStr W lc.blk o m.toArray = Sort.putRow (_root_.id : Value → Value) W lc.blk o (m.map Go.Proofs.encStr).toArray := fun W m o => by
      unfold Sort.putRow
      refine Sort.mapBlock_congr _ _ _ _ fun cs _ _ _ => ?_
      unfold Sort.putCells
      apply Array.ext_getElem?
      intro i
      simp only [Array.getElem?_mapIdx, List.size_toArray, List.length_map]
      congr 1
      funext u
      split
      · rename_i q
        have : i - o < m.length := by omega
        simp [this]
      · rfl
    have hlm : (l.map bytesOf).length = l.length := List.length_map ..
    rw [← hlm]
    refine (AnyM.slices_Sort_string L lc.blk (lc.base + 0) c' (l.map bytesOf) w hH r3 (by rw [hlm]; exact hlen)).mono ?_
    rintro e w' ⟨rfl, n, os, rfl⟩
    have hperm0 : ((l.map bytesOf).mergeSort fun x y => decide (x ≤ y)).Perm (l.map bytesOf) := List.mergeSort_perm _ _
    rw [pr]
    generalize (l.map bytesOf).mergeSort (fun x y => decide (x ≤ y)) = m at hperm0
    have hperm : (m.map textOf).Perm l := by
      have := hperm0.map textOf
      rwa [List.map_map, show textOf ∘ bytesOf = _root_.id from funext textOf_bytes, List.map_id] at this
    have hm : (m.map textOf).map bytesOf = m := by
      rw [List.map_map, show bytesOf ∘ textOf = _root_.id from funext bytesOf_text, List.map_id]
    refine ⟨.tuple #[], .tuple #[], _, ρ, rfl, ⟨rfl, m.map textOf, hperm, .inr ⟨id, rest, c, hb, by rw [hperm.length_eq, hlm], List.getElem?_set_self (get_lt hrow), ?_⟩, by simp, fun j hj => ?_⟩, r5 _ hperm _ (by rw [fl, hm]) n os, Ext.refl _ _, by simp, VR.undef _⟩
    · rcases hcap with h | ⟨h, h2⟩
      · exact .inl h
      · refine .inr ⟨h, ?_⟩
        rw [h2]; simp only [List.length_append]
        rw [flat_len (k := 1) (fun _ => rfl), flat_len (k := 1) (fun _ => rfl), hperm.length_eq]
    · rw [List.getElem?_set_ne]; intro q; rw [q] at hj; exact hj rfl
end Go.AW
end
section
set_option linter.unusedVariables false
set_option linter.unusedSimpArgs false
namespace Go.Proofs.YtekpdopbiklkfaaGreatDoor
open Go Go.AW
set_option linter.unusedSimpArgs false
set_option maxRecDepth 20000
attribute [go_sem] encStrB
def idxL {α : Type} (p : α → Bool) : List α → Option Nat
  | [] => none
  | x :: l => if p x then some 0 else (idxL p l).map (· + 1)
theorem idxL_none {α : Type} {p : α → Bool} : ∀ {l : List α}, (∀ z ∈ l, p z = false) → idxL p l = none
  | [], _ => rfl
  | x :: l, h => by rw [idxL, h x (by simp), if_neg (by simp), idxL_none fun z hz => h z (by simp [hz])]; rfl
theorem idxL_at {α : Type} {p : α → Bool} : ∀ {l : List α} {i : Nat} {x : α}, (∀ z ∈ l.take i, p z = false) → l[i]? = some x → p x = true → idxL p l = some i
  | [], i, x, _, h, _ => by simp at h
  | y :: l, 0, x, _, h, hp => by
    simp at h; subst h
    rw [idxL, if_pos hp]
  | y :: l, i + 1, x, hn, h, hp => by
    rw [idxL, if_neg (by rw [hn y (by simp)]; simp), idxL_at (i := i) (fun z hz => hn z (by simp [hz])) (by simpa using h) hp]; rfl
theorem idxL_some {α : Type} {p : α → Bool} : ∀ {l : List α} {i : Nat}, idxL p l = some i → ∃ x, l[i]? = some x ∧ p x = true ∧ ∀ z ∈ l.take i, p z = false
  | [], i, h => by simp [idxL] at h
  | y :: l, i, h => by
    rw [idxL] at h
    by_cases hy : p y = true
    · rw [if_pos hy] at h
      obtain rfl : 0 = i := by simpa using h
      exact ⟨y, rfl, hy, by simp⟩
    · rw [if_neg hy] at h
      obtain ⟨j, hj, rfl⟩ := Option.map_eq_some_iff.1 h
      obtain ⟨x, h1, h2, h3⟩ := idxL_some hj
      exact ⟨x, by simpa using h1, h2, fun z hz => by
        rw [List.take_succ_cons] at hz
        rcases List.mem_cons.1 hz with rfl | hz
        · simpa using hy
        · exact h3 z hz⟩
theorem idxL_no {α : Type} {p : α → Bool} : ∀ {l : List α}, idxL p l = none → ∀ z ∈ l, p z = false
  | [], _ => by simp
  | y :: l, h => by
    rw [idxL] at h
    by_cases hy : p y = true
    · rw [if_pos hy] at h; cases h
    · rw [if_neg hy] at h
      intro z hz
      rcases List.mem_cons.1 hz with rfl | hz
      · simpa using hy
      · exact idxL_no (by simpa using h) z hz
def idxV (o : Option Nat) : Int := match o with | some i => i | none => -1
theorem idxV_ge {α : Type} (p : α → Bool) (l : List α) : decide (0 ≤ idxV (idxL p l)) = l.any p := by
  rw [Bool.eq_iff_iff, List.any_eq_true]
  cases h : idxL p l with
  | none => 
    have := idxL_no h
    simp only [decide_eq_true_eq]
    show (0 ≤ (-1 : Int)) ↔ _
    constructor
    · intro q; omega
    · rintro ⟨x, hx, hp⟩
      rw [this x hx] at hp; cases hp
  | some i =>
    obtain ⟨x, h1, h2, -⟩ := idxL_some h
    simp only [decide_eq_true_eq]
    show (0 ≤ ((i : Nat) : Int)) ↔ _
    exact ⟨fun _ => ⟨x, List.mem_of_getElem? h1, h2⟩, fun _ => by omega⟩
theorem indexSt (l : List ByteArray) (p : ByteArray → Bool) (g : FuncId) (fs cs : Array Value) (a : Option Addr) (c : Nat) (H : AHeap) (hs : SlA H encStrB 1 a l) (hl : l.length < 1000000)
    (hg : ∀ x ∈ l, ∀ H', H <+: H' → Sound Tryz.prog g (fs.toList ++ .string x :: cs.toList) H' fun v K => v = .bool (p x) ∧ H' <+: K) :
    Sound Tryz.prog 89 [.slice a l.length c, .func (.func g) fs cs] H fun v K => v = .int .i64 (idxV (idxL p l)) ∧ H <+: K := by
  refine Sound.of_body (rs := [.tmp 4]) mixed Tryz.func89 rfl (by kernel_rfl) rfl (by kernel_rfl) ?_
  simp -dsimp only [go_sem, ↓reduceIte, Nat.reduceEqDiff, Nat.reduceAdd, Nat.reduceMul, Nat.reduceSub, Nat.reduceLeDiff, Nat.reduceLT]
  refine aloopP_of (fun n T H' => ∃ i : Nat, n = l.length - i ∧ i ≤ l.length ∧ H <+: H' ∧ (∀ z ∈ l.take i, p z = false) ∧ T 0 = .slice a l.length c ∧ T 1 = .func (.func g) fs cs ∧ T 7 = .int .i64 l.length ∧ T 8 = .int .i64 (i : Nat)) (n := l.length) ?_ ?_
  · refine ⟨0, ?_⟩
    simp -dsimp only [go_sem, ↓reduceIte, Nat.reduceEqDiff, Nat.reduceAdd, Nat.reduceMul, Nat.reduceSub, Nat.reduceLeDiff, Nat.reduceLT]
    exact ⟨rfl, Nat.zero_le _, List.prefix_refl _, by simp, rfl⟩
  · rintro n T H' ⟨i, rfl, hi, hp, hlo, h0, h1, h7, h8⟩
    simp -dsimp only [go_sem, ↓reduceIte, Nat.reduceEqDiff, Nat.reduceAdd, Nat.reduceMul, Nat.reduceSub, Nat.reduceLeDiff, Nat.reduceLT, h0, h1, h7, h8]
    refine acondP_of (fun h => ?_) (fun h => ?_)
    · simp at h
      obtain ⟨x, hx⟩ := get_ex h
      obtain ⟨id, off, rfl, hat⟩ := (hs.pre hp).at (by omega)
      simp -dsimp only [go_sem, ↓reduceIte, Nat.reduceEqDiff, Nat.reduceAdd, Nat.reduceMul, Nat.reduceSub, Nat.reduceLeDiff, Nat.reduceLT, h0, h1, h7, h8, inRange h, rowLoad_one0 (hat i x hx)]
      refine SoundP_of (hg x (List.mem_of_getElem? hx) H' hp) ?_
      rintro _ H2 ⟨rfl, p2⟩
      cases hb : p x with
      | true =>
        simp -dsimp only [go_sem, ↓reduceIte, Nat.reduceEqDiff, Nat.reduceAdd, Nat.reduceMul, Nat.reduceSub, Nat.reduceLeDiff, Nat.reduceLT, h0, h1, h7, h8]
        exact ⟨by rw [idxL_at hlo hx hb]; rfl, hp.trans p2⟩
      | false =>
        simp -dsimp only [go_sem, ↓reduceIte, Nat.reduceEqDiff, Nat.reduceAdd, Nat.reduceMul, Nat.reduceSub, Nat.reduceLeDiff, Nat.reduceLT, h0, h1, h7, h8, wrS (show i < 4611686018427387904 by omega)]
        refine ⟨_, by omega, i + 1, rfl, h, hp.trans p2, fun z hz => ?_, rfl⟩
        rw [List.take_add_one, hx, List.mem_append] at hz
        rcases hz with hz | hz
        · exact hlo z hz
        · obtain rfl : z = x := by simpa using hz
          exact hb
    · simp at h
      rw [List.take_of_length_le h] at hlo
      simp -dsimp only [go_sem, ↓reduceIte, Nat.reduceEqDiff, Nat.reduceAdd, Nat.reduceMul, Nat.reduceSub, Nat.reduceLeDiff, Nat.reduceLT, h0, h1, h7, h8]
      exact ⟨by rw [idxL_none hlo]; rfl, hp⟩
theorem containsSt (l : List ByteArray) (p : ByteArray → Bool) (g : FuncId) (fs cs : Array Value) (a : Option Addr) (c : Nat) (H : AHeap) (hs : SlA H encStrB 1 a l) (hl : l.length < 1000000)
    (hg : ∀ x ∈ l, ∀ H', H <+: H' → Sound Tryz.prog g (fs.toList ++ .string x :: cs.toList) H' fun v K => v = .bool (p x) ∧ H' <+: K) :
    Sound Tryz.prog 80 [.slice a l.length c, .func (.func g) fs cs] H fun v K => v = .bool (l.any p) ∧ H <+: K := by
  refine Sound.of_body (rs := [.tmp 4]) mixed Tryz.func80 rfl (by kernel_rfl) rfl (by kernel_rfl) ?_
  simp -dsimp only [go_sem, ↓reduceIte, Nat.reduceEqDiff, Nat.reduceAdd, Nat.reduceMul, Nat.reduceSub, Nat.reduceLeDiff, Nat.reduceLT]
  refine SoundP_of (indexSt l p g fs cs a c H hs hl hg) ?_
  rintro _ H2 ⟨rfl, p2⟩
  simp -dsimp only [go_sem, ↓reduceIte, Nat.reduceEqDiff, Nat.reduceAdd, Nat.reduceMul, Nat.reduceSub, Nat.reduceLeDiff, Nat.reduceLT, idxV_ge]
  exact p2
theorem indexM (l : List Meta) (p : Meta → Bool) (g : FuncId) (fs cs : Array Value) (a : Option Addr) (c : Nat) (H : AHeap) (hs : SlA H Meta.cells 8 a l) (hl : l.length < 1000000)
    (hg : ∀ x ∈ l, ∀ H', H <+: H' → Sound Tryz.prog g (fs.toList ++ x.val :: cs.toList) H' fun v K => v = .bool (p x) ∧ H' <+: K) :
    Sound Tryz.prog 141 [.slice a l.length c, .func (.func g) fs cs] H fun v K => v = .int .i64 (idxV (idxL p l)) ∧ H <+: K := by
  refine Sound.of_body (rs := [.tmp 4]) mixed Tryz.func141 rfl (by kernel_rfl) rfl (by kernel_rfl) ?_
  simp -dsimp only [go_sem, ↓reduceIte, Nat.reduceEqDiff, Nat.reduceAdd, Nat.reduceMul, Nat.reduceSub, Nat.reduceLeDiff, Nat.reduceLT]
  refine aloopP_of (fun n T H' => ∃ i : Nat, n = l.length - i ∧ i ≤ l.length ∧ H <+: H' ∧ (∀ z ∈ l.take i, p z = false) ∧ T 0 = .slice a l.length c ∧ T 1 = .func (.func g) fs cs ∧ T 7 = .int .i64 l.length ∧ T 8 = .int .i64 (i : Nat)) (n := l.length) ?_ ?_
  · refine ⟨0, ?_⟩
    simp -dsimp only [go_sem, ↓reduceIte, Nat.reduceEqDiff, Nat.reduceAdd, Nat.reduceMul, Nat.reduceSub, Nat.reduceLeDiff, Nat.reduceLT]
    exact ⟨rfl, Nat.zero_le _, List.prefix_refl _, by simp, rfl⟩
  · rintro n T H' ⟨i, rfl, hi, hp, hlo, h0, h1, h7, h8⟩
    simp -dsimp only [go_sem, ↓reduceIte, Nat.reduceEqDiff, Nat.reduceAdd, Nat.reduceMul, Nat.reduceSub, Nat.reduceLeDiff, Nat.reduceLT, h0, h1, h7, h8]
    refine acondP_of (fun h => ?_) (fun h => ?_)
    · simp at h
      obtain ⟨x, hx⟩ := get_ex h
      obtain ⟨id, off, rfl, hat⟩ := (hs.pre hp).at (by omega)
      simp -dsimp only [go_sem, ↓reduceIte, Nat.reduceEqDiff, Nat.reduceAdd, Nat.reduceMul, Nat.reduceSub, Nat.reduceLeDiff, Nat.reduceLT, h0, h1, h7, h8, inRange h, rowLoad_whole (hat i x hx)]
      refine SoundP_of (hg x (List.mem_of_getElem? hx) H' hp) ?_
      rintro _ H2 ⟨rfl, p2⟩
      cases hb : p x with
      | true =>
        simp -dsimp only [go_sem, ↓reduceIte, Nat.reduceEqDiff, Nat.reduceAdd, Nat.reduceMul, Nat.reduceSub, Nat.reduceLeDiff, Nat.reduceLT, h0, h1, h7, h8]
        exact ⟨by rw [idxL_at hlo hx hb]; rfl, hp.trans p2⟩
      | false =>
        simp -dsimp only [go_sem, ↓reduceIte, Nat.reduceEqDiff, Nat.reduceAdd, Nat.reduceMul, Nat.reduceSub, Nat.reduceLeDiff, Nat.reduceLT, h0, h1, h7, h8, wrS (show i < 4611686018427387904 by omega)]
        refine ⟨_, by omega, i + 1, rfl, h, hp.trans p2, fun z hz => ?_, rfl⟩
        rw [List.take_add_one, hx, List.mem_append] at hz
        rcases hz with hz | hz
        · exact hlo z hz
        · obtain rfl : z = x := by simpa using hz
          exact hb
    · simp at h
      rw [List.take_of_length_le h] at hlo
      simp -dsimp only [go_sem, ↓reduceIte, Nat.reduceEqDiff, Nat.reduceAdd, Nat.reduceMul, Nat.reduceSub, Nat.reduceLeDiff, Nat.reduceLT, h0, h1, h7, h8]
      exact ⟨by rw [idxL_none hlo]; rfl, hp⟩
theorem containsM (l : List Meta) (p : Meta → Bool) (g : FuncId) (fs cs : Array Value) (a : Option Addr) (c : Nat) (H : AHeap) (hs : SlA H Meta.cells 8 a l) (hl : l.length < 1000000)
    (hg : ∀ x ∈ l, ∀ H', H <+: H' → Sound Tryz.prog g (fs.toList ++ x.val :: cs.toList) H' fun v K => v = .bool (p x) ∧ H' <+: K) :
    Sound Tryz.prog 99 [.slice a l.length c, .func (.func g) fs cs] H fun v K => v = .bool (l.any p) ∧ H <+: K := by
  refine Sound.of_body (rs := [.tmp 4]) mixed Tryz.func99 rfl (by kernel_rfl) rfl (by kernel_rfl) ?_
  simp -dsimp only [go_sem, ↓reduceIte, Nat.reduceEqDiff, Nat.reduceAdd, Nat.reduceMul, Nat.reduceSub, Nat.reduceLeDiff, Nat.reduceLT]
  refine SoundP_of (indexM l p g fs cs a c H hs hl hg) ?_
  rintro _ H2 ⟨rfl, p2⟩
  simp -dsimp only [go_sem, ↓reduceIte, Nat.reduceEqDiff, Nat.reduceAdd, Nat.reduceMul, Nat.reduceSub, Nat.reduceLeDiff, Nat.reduceLT, idxV_ge]
  exact p2
theorem indexS (l : List Seg) (p : Seg → Bool) (g : FuncId) (fs cs : Array Value) (a : Option Addr) (c : Nat) (H : AHeap) (hs : SlA H Seg.cells 5 a l) (hl : l.length < 1000000)
    (hg : ∀ x ∈ l, ∀ H', H <+: H' → Sound Tryz.prog g (fs.toList ++ x.val :: cs.toList) H' fun v K => v = .bool (p x) ∧ H' <+: K) :
    Sound Tryz.prog 142 [.slice a l.length c, .func (.func g) fs cs] H fun v K => v = .int .i64 (idxV (idxL p l)) ∧ H <+: K := by
  refine Sound.of_body (rs := [.tmp 4]) mixed Tryz.func142 rfl (by kernel_rfl) rfl (by kernel_rfl) ?_
  simp -dsimp only [go_sem, ↓reduceIte, Nat.reduceEqDiff, Nat.reduceAdd, Nat.reduceMul, Nat.reduceSub, Nat.reduceLeDiff, Nat.reduceLT]
  refine aloopP_of (fun n T H' => ∃ i : Nat, n = l.length - i ∧ i ≤ l.length ∧ H <+: H' ∧ (∀ z ∈ l.take i, p z = false) ∧ T 0 = .slice a l.length c ∧ T 1 = .func (.func g) fs cs ∧ T 7 = .int .i64 l.length ∧ T 8 = .int .i64 (i : Nat)) (n := l.length) ?_ ?_
  · refine ⟨0, ?_⟩
    simp -dsimp only [go_sem, ↓reduceIte, Nat.reduceEqDiff, Nat.reduceAdd, Nat.reduceMul, Nat.reduceSub, Nat.reduceLeDiff, Nat.reduceLT]
    exact ⟨rfl, Nat.zero_le _, List.prefix_refl _, by simp, rfl⟩
  · rintro n T H' ⟨i, rfl, hi, hp, hlo, h0, h1, h7, h8⟩
    simp -dsimp only [go_sem, ↓reduceIte, Nat.reduceEqDiff, Nat.reduceAdd, Nat.reduceMul, Nat.reduceSub, Nat.reduceLeDiff, Nat.reduceLT, h0, h1, h7, h8]
    refine acondP_of (fun h => ?_) (fun h => ?_)
    · simp at h
      obtain ⟨x, hx⟩ := get_ex h
      obtain ⟨id, off, rfl, hat⟩ := (hs.pre hp).at (by omega)
      simp -dsimp only [go_sem, ↓reduceIte, Nat.reduceEqDiff, Nat.reduceAdd, Nat.reduceMul, Nat.reduceSub, Nat.reduceLeDiff, Nat.reduceLT, h0, h1, h7, h8, inRange h, rowLoad_whole (hat i x hx)]
      refine SoundP_of (hg x (List.mem_of_getElem? hx) H' hp) ?_
      rintro _ H2 ⟨rfl, p2⟩
      cases hb : p x with
      | true =>
        simp -dsimp only [go_sem, ↓reduceIte, Nat.reduceEqDiff, Nat.reduceAdd, Nat.reduceMul, Nat.reduceSub, Nat.reduceLeDiff, Nat.reduceLT, h0, h1, h7, h8]
        exact ⟨by rw [idxL_at hlo hx hb]; rfl, hp.trans p2⟩
      | false =>
        simp -dsimp only [go_sem, ↓reduceIte, Nat.reduceEqDiff, Nat.reduceAdd, Nat.reduceMul, Nat.reduceSub, Nat.reduceLeDiff, Nat.reduceLT, h0, h1, h7, h8, wrS (show i < 4611686018427387904 by omega)]
        refine ⟨_, by omega, i + 1, rfl, h, hp.trans p2, fun z hz => ?_, rfl⟩
        rw [List.take_add_one, hx, List.mem_append] at hz
        rcases hz with hz | hz
        · exact hlo z hz
        · obtain rfl : z = x := by simpa using hz
          exact hb
    · simp at h
      rw [List.take_of_length_le h] at hlo
      simp -dsimp only [go_sem, ↓reduceIte, Nat.reduceEqDiff, Nat.reduceAdd, Nat.reduceMul, Nat.reduceSub, Nat.reduceLeDiff, Nat.reduceLT, h0, h1, h7, h8]
      exact ⟨by rw [idxL_none hlo]; rfl, hp⟩
theorem containsS (l : List Seg) (p : Seg → Bool) (g : FuncId) (fs cs : Array Value) (a : Option Addr) (c : Nat) (H : AHeap) (hs : SlA H Seg.cells 5 a l) (hl : l.length < 1000000)
    (hg : ∀ x ∈ l, ∀ H', H <+: H' → Sound Tryz.prog g (fs.toList ++ x.val :: cs.toList) H' fun v K => v = .bool (p x) ∧ H' <+: K) :
    Sound Tryz.prog 102 [.slice a l.length c, .func (.func g) fs cs] H fun v K => v = .bool (l.any p) ∧ H <+: K := by
  refine Sound.of_body (rs := [.tmp 4]) mixed Tryz.func102 rfl (by kernel_rfl) rfl (by kernel_rfl) ?_
  simp -dsimp only [go_sem, ↓reduceIte, Nat.reduceEqDiff, Nat.reduceAdd, Nat.reduceMul, Nat.reduceSub, Nat.reduceLeDiff, Nat.reduceLT]
  refine SoundP_of (indexS l p g fs cs a c H hs hl hg) ?_
  rintro _ H2 ⟨rfl, p2⟩
  simp -dsimp only [go_sem, ↓reduceIte, Nat.reduceEqDiff, Nat.reduceAdd, Nat.reduceMul, Nat.reduceSub, Nat.reduceLeDiff, Nat.reduceLT, idxV_ge]
  exact p2
end Go.Proofs.YtekpdopbiklkfaaGreatDoor
end
section
set_option linter.unusedVariables false
set_option linter.unusedSimpArgs false
namespace Go.Proofs.YtekpdopbiklkfaaGreatDoor
open Go Go.AW
set_option linter.unusedSimpArgs false
set_option maxRecDepth 20000
variable {b : Nat} {H H' : AHeap} {d m : Nat} {off : Bool} {ops at_ part : Int} {M : List FileS}
theorem refusedF (s : ByteArray) (hs : s.size < 4000000) (H : AHeap) : Sound Tryz.prog 81 [.string s] H fun v K => v = .bool (!nameB s) ∧ H <+: K := by
  refine Sound.of_body (rs := [.tmp 2]) mixed Tryz.func81 rfl (by kernel_rfl) rfl (by kernel_rfl) ?_
  simp -dsimp only [go_sem, ↓reduceIte, Nat.reduceEqDiff, Nat.reduceAdd, Nat.reduceMul, Nat.reduceSub, Nat.reduceLeDiff, Nat.reduceLT]
  refine SoundP_of (namedLaw s hs H) ?_
  rintro _ H2 ⟨rfl, rfl⟩
  simp -dsimp only [go_sem, ↓reduceIte, Nat.reduceEqDiff, Nat.reduceAdd, Nat.reduceMul, Nat.reduceSub, Nat.reduceLeDiff, Nat.reduceLT]
  exact List.prefix_refl _
def whyD (M : List FileS) (there : Bool) (names : List ByteArray) : Int :=
  if names.any (fun s => !nameB s) then 1 else if there && (mget (idsOf M) (names.headD ByteArray.empty)).isNone then 120 else 0
theorem refusedD (h : DiskAt b H d m false ops at_ part M) (there : Bool) (names : List ByteArray) (hn : 0 < names.length) (hl : names.length < 1000) (hs : ∀ s ∈ names, s.size < 4000000) (a : Option Addr) (c : Nat) (hsl : SlA H encStrB 1 a names) :
    Sound Tryz.prog 45 [ptrV d, .bool there, .slice a names.length c] H fun v K => v = .int .i64 (whyD M there names) ∧ H <+: K := by
  refine Sound.of_body (rs := [.tmp 6]) mixed Tryz.func45 rfl (by kernel_rfl) rfl (by kernel_rfl) ?_
  have hd := h.at_
  simp -dsimp only [go_sem, ↓reduceIte, Nat.reduceEqDiff, Nat.reduceAdd, Nat.reduceMul, Nat.reduceSub, Nat.reduceLeDiff, Nat.reduceLT, hd]
  refine SoundP_of (containsSt names (fun s => !nameB s) _ #[] #[] a c H hsl (by omega) fun x hx H' _ => refusedF x (hs x hx) H') ?_
  rintro _ H2 ⟨rfl, p2⟩
  have hd2 := pre_get p2 hd
  have h2 := h.pre p2
  cases hb : names.any (fun s => !nameB s) with
  | true =>
    simp -dsimp only [go_sem, ↓reduceIte, Nat.reduceEqDiff, Nat.reduceAdd, Nat.reduceMul, Nat.reduceSub, Nat.reduceLeDiff, Nat.reduceLT]
    exact ⟨by rw [whyD, if_pos hb], p2⟩
  | false =>
    have hw : whyD M there names = if there && (mget (idsOf M) (names.headD ByteArray.empty)).isNone then 120 else 0 := by
      rw [whyD, if_neg (by rw [hb]; simp)]
    cases there with
    | false =>
      simp -dsimp only [go_sem, ↓reduceIte, Nat.reduceEqDiff, Nat.reduceAdd, Nat.reduceMul, Nat.reduceSub, Nat.reduceLeDiff, Nat.reduceLT]
      refine adrawnP_of2 [(0, false), (1, false), (2, false), (3, false), (4, false), (5, false), (6, false), (7, false), (8, false), (9, false), (10, false), (11, false), (12, false)] (by kernel_rfl) ?_
      simp -dsimp only [go_sem, ↓reduceIte, Nat.reduceEqDiff, Nat.reduceAdd, Nat.reduceMul, Nat.reduceSub, Nat.reduceLeDiff, Nat.reduceLT]
      exact ⟨by rw [hw]; rfl, p2⟩
    | true =>
      obtain ⟨x, hx⟩ := get_ex hn
      obtain ⟨id, o, rfl, hat⟩ := (hsl.pre p2).at hn
      have hh : names.headD ByteArray.empty = x := by cases names with | nil => simp at hn | cons y l => simpa using hx
      have hl2 := h2.look x
      simp -dsimp only [go_sem, ↓reduceIte, Nat.reduceEqDiff, Nat.reduceAdd, Nat.reduceMul, Nat.reduceSub, Nat.reduceLeDiff, Nat.reduceLT]
      refine adrawnP_of2 [(0, false), (1, false), (2, false), (3, false), (4, false), (5, false), (6, false), (7, false), (8, false), (9, false), (10, false), (11, false), (12, false)] (by kernel_rfl) ?_
      have hpos : (0 : Int) ≤ 0 ∧ (0 : Int) < (names.length : Int) := ⟨by omega, by omega⟩
      have z0 := rowLoad_one0 (hat 0 x hx) (some 1)
      rw [Nat.zero_mul] at z0
      cases hm : mget (idsOf M) x with
      | none =>
        rw [hm] at hl2
        simp -dsimp only [go_sem, ↓reduceIte, Nat.reduceEqDiff, Nat.reduceAdd, Nat.reduceMul, Nat.reduceSub, Nat.reduceLeDiff, Nat.reduceLT, hd2, hpos, z0, hl2]
        refine ⟨fun q => absurd q (by decide), ?_⟩
        simp -dsimp only [go_sem, ↓reduceIte, Nat.reduceEqDiff, Nat.reduceAdd, Nat.reduceMul, Nat.reduceSub, Nat.reduceLeDiff, Nat.reduceLT]
        exact ⟨by rw [hw, hh, hm]; rfl, p2⟩
      | some q =>
        rw [hm] at hl2
        simp -dsimp only [go_sem, ↓reduceIte, Nat.reduceEqDiff, Nat.reduceAdd, Nat.reduceMul, Nat.reduceSub, Nat.reduceLeDiff, Nat.reduceLT, hd2, hpos, z0, hl2]
        refine ⟨fun q => absurd q (by decide), ?_⟩
        simp -dsimp only [go_sem, ↓reduceIte, Nat.reduceEqDiff, Nat.reduceAdd, Nat.reduceMul, Nat.reduceSub, Nat.reduceLeDiff, Nat.reduceLT]
        exact ⟨by rw [hw, hh, hm]; rfl, p2⟩
theorem doneD (h : DiskAt b H d m false ops at_ part M) (hat : ops ≠ at_) (ho : -1 ≤ ops ∧ ops < 4611686018427387904) (g : FuncId) (cs : Array Value) {K : AHeap → Prop}
    (hg : Sound Tryz.prog g cs.toList (H.set d (.row (diskC m false (ops + 1) at_ part) 5 true)) fun _ H' => K H') :
    Sound Tryz.prog 46 [ptrV d, .func (.func g) #[] cs] H fun v H' => v = .int .i64 0 ∧ K H' := by
  refine Sound.of_body (rs := [.tmp 4]) mixed Tryz.func46 rfl (by kernel_rfl) rfl (by kernel_rfl) ?_
  have hd := h.at_
  have e1 : IntKind.i64.wrap (ops + 1) = ops + 1 := wr64 (by omega) (by omega)
  have e2 : IntKind.i64.wrap (ops + 1 - 1) = ops := by rw [wr64 (by omega) (by omega)]; omega
  have e3 : (ops == at_) = false := by simpa using hat
  simp -dsimp only [go_sem, ↓reduceIte, Nat.reduceEqDiff, Nat.reduceAdd, Nat.reduceMul, Nat.reduceSub, Nat.reduceLeDiff, Nat.reduceLT, hd, e1]
  have h2 := (h.put false (ops + 1) at_ part).at_
  generalize H.set d (.row (diskC m false (ops + 1) at_ part) 5 true) = H2 at *
  refine adrawnP_of2 [(0, false), (1, false), (2, false), (3, false), (4, false), (5, false), (6, false), (7, false), (8, false), (9, false)] (by kernel_rfl) ?_
  simp -dsimp only [go_sem, ↓reduceIte, Nat.reduceEqDiff, Nat.reduceAdd, Nat.reduceMul, Nat.reduceSub, Nat.reduceLeDiff, Nat.reduceLT, h2, e2, e3]
  refine SoundP_of hg ?_
  intro v H3 h3
  simp -dsimp only [go_sem, ↓reduceIte, Nat.reduceEqDiff, Nat.reduceAdd, Nat.reduceMul, Nat.reduceSub, Nat.reduceLeDiff, Nat.reduceLT]
  exact h3
end Go.Proofs.YtekpdopbiklkfaaGreatDoor
end
