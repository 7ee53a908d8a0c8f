/-
  LineOne: plain, and the walk.
-/
import Derived.Test.YthbifkeadbmcnaaLawAll
set_option linter.unusedVariables false
set_option linter.unusedSimpArgs false
namespace Go.Proofs.Ythbifkeadbmcnaa
open Go Go.AW
set_option linter.unusedSimpArgs false
set_option maxRecDepth 20000

structure PieceOk (l : List Seg) (a b : Int) (x : Piece) : Prop where
  mem : x.seg ∈ l
  whole : wholeB l x.seg = true
  lt : x.f < x.t
  lo : max a x.seg.f ≤ x.f
  hi : x.t ≤ min b x.seg.t
  first : ∀ z ∈ l, z.f < x.t → x.f < z.t → aheadR z.key x.seg.key = true → wholeB l z = false
theorem piece_ok {l : List Seg} {C : List KL} (h : Made l C) (hg : GoodC C) {a b : Int} {x : Piece} (hx : x ∈ lookC C a b) : PieceOk l a b x := by
  obtain ⟨s, hs, h1, h2, h3, h4⟩ := lookS_mem.1 hx
  have ht := told_strs hg.keys
  have lt := ht.lt s hs
  obtain ⟨hW, h5, h6⟩ := strs_mem hg hs
  obtain ⟨hC, hwh⟩ := wholes_mem.1 hW
  have hk := (hg.good _ hC).key x.seg h2
  have kf : x.seg.f = s.k.f := congrArg Key.f hk
  have kt : x.seg.t = s.k.t := congrArg Key.t hk
  refine ⟨h.mem.2 ⟨_, hC, h2⟩, by rw [wholeB_eq h hg hC h2]; exact hwh, by omega, by omega, by omega, fun z hz z1 z2 z3 => ?_⟩
  obtain ⟨y, hy, hzy⟩ := h.mem.1 hz
  rw [wholeB_eq h hg hy hzy]
  cases hw : Go.Proofs.Ythbifkeadbmcnaa.whole y.2 with
  | false => rfl
  | true =>
    exfalso
    have hzk := (hg.good _ hy).key z hzy
    have zf : z.f = y.1.f := congrArg Key.f hzk
    have zt : z.t = y.1.t := congrArg Key.t hzk
    have zm := mayB_iff.1 ((hg.good _ hy).may z hzy)
    have hat := ht.at_ s hs (max z.f x.f) (by omega) (by omega)
    refine atC_first (wholes_sorted hg.keys) hat (wholes_mem.2 ⟨hy, hw⟩) (by simp only [covers, Bool.and_eq_true, decide_eq_true_eq]; omega) ?_
    rw [← hzk]
    show aheadR z.key s.k = true
    rw [← show x.seg.key = s.k from hk]
    exact z3
theorem piece_pair {C : List KL} (hg : GoodC C) (a b : Int) : (lookC C a b).Pairwise fun y x => (y.f = x.f ∧ y.t = x.t ∧ y.seg.key = x.seg.key ∧ y.seg.p < x.seg.p) ∨ y.t ≤ x.f :=
  look_pair (told_strs hg.keys) (fun s hs => by
    have := hg.good _ (wholes_mem.1 (strs_mem hg hs).1).1
    exact ⟨this.rise, this.key⟩) a b
theorem pair_at {α : Type} {r : α → α → Prop} {l : List α} (h : l.Pairwise r) {i : Nat} {y x : α} (hy : l[i]? = some y) (hx : l[i + 1]? = some x) : r y x := by
  obtain ⟨h1, rfl⟩ := List.getElem?_eq_some_iff.1 hy
  obtain ⟨h2, rfl⟩ := List.getElem?_eq_some_iff.1 hx
  exact List.pairwise_iff_getElem.1 h i (i + 1) h1 h2 (by omega)
set_option maxHeartbeats 2000000 in
theorem lineOne (raw : List Seg) (f0 t0 : Int) (a : Option Addr) (c : Nat) (H : AHeap) (hs : SegsAt H a raw) (ga : ArgSl a raw.length c) (hw : ∀ s ∈ raw, SegI s) :
    Sound Try.prog 3 [.slice a raw.length c, spanV f0 t0] H fun v _ => v = .bool true := by
  refine Sound.of_body (rs := [.tmp 4]) mixed Try.func3 rfl (by kernel_rfl) rfl (by kernel_rfl) ?_
  have b0 := get_end H (AObj.row [.int .i64 f0, .int .i64 t0] 2 true) []
  have hs0 := hs.pre (List.prefix_append H [AObj.row [.int .i64 f0, .int .i64 t0] 2 true])
  simp -dsimp only [go_sem, ↓reduceIte, Nat.reduceEqDiff, Nat.reduceAdd, Nat.reduceMul, Nat.reduceSub, Nat.reduceLeDiff, Nat.reduceLT]
  generalize H ++ [AObj.row [.int .i64 f0, .int .i64 t0] 2 true] = H0 at *
  generalize H.length = ib at *
  refine SoundP_of (awake H0) ?_
  rintro _ H1 ⟨rfl, p1⟩
  simp -dsimp only [go_sem, ↓reduceIte, Nat.reduceEqDiff, Nat.reduceAdd, Nat.reduceMul, Nat.reduceSub, Nat.reduceLeDiff, Nat.reduceLT]
  refine SoundP_of (made raw a c 40 H1 (hs0.pre p1) hw (by omega)) ?_
  rintro _ H2 ⟨p, m, M, vl, l, rfl, p2, hT, ol, hMd, hl, -⟩
  have b2 := pre_get (p1.trans p2) b0
  simp -dsimp only [go_sem, ↓reduceIte, Nat.reduceEqDiff, Nat.reduceAdd, Nat.reduceMul, Nat.reduceSub, Nat.reduceLeDiff, Nat.reduceLT, b2]
  have lM := hMd.len hT.good
  have hL1 : M.length < 100 := by omega
  have hL2 : ∀ x ∈ M, x.l.length < 100 := fun x hx => by have := lM.2 x hx; omega
  refine SoundP_of (tlLookup f0 t0 H1.length _ p m M hT hL1 hL2) ?_
  rintro v8 H3 ⟨o8, p3⟩
  have hPl := lookC_len hT.goodC (by rw [List.length_map]; omega) (fun x hx => by obtain ⟨y, hy, rfl⟩ := List.mem_map.1 hx; exact Nat.le_of_lt (hL2 y hy)) f0 t0
  have hok := fun x => piece_ok hMd hT.goodC (a := f0) (b := t0) (x := x)
  have hpp := piece_pair hT.goodC f0 t0
  generalize lookC (cont M) f0 t0 = P at *
  obtain ⟨a8, c8, rfl, s8⟩ := o8.sl (fun _ => rfl)
  obtain ⟨al, cl, rfl, sl0⟩ := ol.sl (fun _ => rfl)
  have sl := sl0.pre p3
  have b3 := pre_get p3 b2
  clear hs hs0 ga ol o8 hT b0 b2 sl0
  simp -dsimp only [go_sem, ↓reduceIte, Nat.reduceEqDiff, Nat.reduceAdd, Nat.reduceMul, Nat.reduceSub, Nat.reduceLeDiff, Nat.reduceLT]
  refine aloopP_of (fun k T H' => ∃ i : Nat, k = P.length - i ∧ i ≤ P.length ∧ H3 <+: H' ∧ T 3 = ptrV ib ∧ T 7 = .slice al l.length cl ∧ T 8 = .slice a8 P.length c8 ∧ T 9 = .int .i64 (i : Nat)) (n := P.length) ?_ ?_
  · refine ⟨0, ?_⟩
    simp -dsimp only [go_sem, ↓reduceIte, Nat.reduceEqDiff, Nat.reduceAdd, Nat.reduceMul, Nat.reduceSub, Nat.reduceLeDiff, Nat.reduceLT]
    exact ⟨rfl, Nat.zero_le _, List.prefix_refl _, rfl⟩
  rintro k T H4 ⟨i, rfl, hi, p4, t3, t7, t8, t9⟩
  simp -dsimp only [go_sem, ↓reduceIte, Nat.reduceEqDiff, Nat.reduceAdd, Nat.reduceMul, Nat.reduceSub, Nat.reduceLeDiff, Nat.reduceLT, t3, t7, t8, t9]
  refine acondP_of (fun hc => ?_) (fun hc => ?_)
  rotate_left
  · simp -dsimp only [go_sem, ↓reduceIte, Nat.reduceEqDiff, Nat.reduceAdd, Nat.reduceMul, Nat.reduceSub, Nat.reduceLeDiff, Nat.reduceLT, t3, t7, t8, t9]
  simp at hc
  obtain ⟨x, hx⟩ := get_ex hc
  have ok := hok x (List.mem_of_getElem? hx)
  obtain ⟨id, off, rfl, hat⟩ := (s8.pre p4).at (by omega)
  simp -dsimp only [go_sem, ↓reduceIte, Nat.reduceEqDiff, Nat.reduceAdd, Nat.reduceMul, Nat.reduceSub, Nat.reduceLeDiff, Nat.reduceLT, t3, t7, t8, t9, inRange hc, rowLoad_whole (hat i x hx)]
  have r5 := get_end H4 (AObj.row x.cells 7 true) []
  have p5 : H3 <+: H4 ++ [AObj.row x.cells 7 true] := p4.trans (List.prefix_append _ _)
  have l5 : (H4 ++ [AObj.row x.cells 7 true]).length = H4.length + 1 := by simp
  dsimp only [Piece.cells] at r5 p5 l5
  have hib := get_lt b3
  have b5 := pre_get p5 b3
  generalize hH5 : H4 ++ [AObj.row [.int .i64 x.seg.f, .int .i64 x.seg.t, .int .i64 x.seg.v, .int .i64 x.seg.p, .int .i64 x.seg.c, .int .i64 x.f, .int .i64 x.t] 7 true] = H5 at *
  generalize hix : H4.length = ix at *
  refine aloopP_of (fun k T H' => ∃ j : Nat, k = l.length - j ∧ j ≤ l.length ∧ H5 <+: H' ∧ T 3 = ptrV ib ∧ T 7 = .slice al l.length cl ∧ T 8 = .slice (some ⟨id, off, none⟩) P.length c8 ∧ T 9 = .int .i64 (i : Nat) ∧ T 10 = ptrV ix ∧ T 11 = .bool ((l.take j).any fun z => decide (z = x.seg)) ∧ T 12 = .int .i64 (j : Nat)) (n := l.length) ?_ ?_
  · refine ⟨0, ?_⟩
    simp -dsimp only [go_sem, ↓reduceIte, Nat.reduceEqDiff, Nat.reduceAdd, Nat.reduceMul, Nat.reduceSub, Nat.reduceLeDiff, Nat.reduceLT, t3, t7, t8, t9]
    exact ⟨rfl, Nat.zero_le _, List.prefix_refl _, rfl, rfl⟩
  rintro k T H6 ⟨j, rfl, hj, p6, t3, t7, t8, t9, t10, t11, t12⟩
  have r6 := pre_get p6 r5
  have b6 := pre_get p6 b5
  simp -dsimp only [go_sem, ↓reduceIte, Nat.reduceEqDiff, Nat.reduceAdd, Nat.reduceMul, Nat.reduceSub, Nat.reduceLeDiff, Nat.reduceLT, t3, t7, t8, t9, t10, t11, t12, r6]
  refine acondP_of (fun hc2 => ?_) (fun hc2 => ?_)
  · simp at hc2
    obtain ⟨z, hz⟩ := get_ex hc2
    obtain ⟨idl, offl, rfl, hatl⟩ := (sl.pre (p5.trans p6)).at (by omega)
    have hzz := hatl j z hz
    have g2 := rowLoad_cell hzz
    have gF : ∀ mm, (H6[idl]?).bind (rowLoad (some false) mm (offl + j * 5 + 0 + 0)) = some (.int .i64 z.f) := fun mm => g2 mm 0 (by decide)
    have gT : ∀ mm, (H6[idl]?).bind (rowLoad (some false) mm (offl + j * 5 + 0 + 1)) = some (.int .i64 z.t) := fun mm => g2 mm 1 (by decide)
    have gw := rowLoad_whole hzz
    have w1 := wrS (show j < 4611686018427387904 by omega)
    have stp : (l.take (j + 1)).any (fun z => decide (z = x.seg)) = ((l.take j).any (fun z => decide (z = x.seg)) || decide (z = x.seg)) := by
      rw [take_get hz, List.any_append]; simp
    have hzr := hMd.raw z (List.mem_of_getElem? hz)
    simp -dsimp only [go_sem, ↓reduceIte, Nat.reduceEqDiff, Nat.reduceAdd, Nat.reduceMul, Nat.reduceSub, Nat.reduceLeDiff, Nat.reduceLT, t3, t7, t8, t9, t10, t11, t12, r6]
    refine adrawnP_mid (fun T' H' => H' = H6 ∧ T' 3 = ptrV ib ∧ T' 7 = .slice (some ⟨idl, offl, none⟩) l.length cl ∧ T' 8 = .slice (some ⟨id, off, none⟩) P.length c8 ∧ T' 9 = .int .i64 (i : Nat) ∧ T' 10 = ptrV ix ∧ T' 11 = .bool ((l.take (j + 1)).any fun z => decide (z = x.seg)) ∧ T' 12 = .int .i64 (j : Nat)) ?_ ?_
    · refine adrawnP_of2 [(0, false), (1, false), (2, false), (3, false), (4, false), (5, false), (6, false), (7, false), (8, false), (9, false), (10, false)] (by kernel_rfl) ?_
      cases hb : (l.take j).any fun z => decide (z = x.seg) with
      | true =>
        simp -dsimp only [go_sem, ↓reduceIte, Nat.reduceEqDiff, Nat.reduceAdd, Nat.reduceMul, Nat.reduceSub, Nat.reduceLeDiff, Nat.reduceLT, t3, t7, t8, t9, t10, t11, t12, r6, hb]
        rw [stp, hb]
        simp
      | false =>
        simp -dsimp only [go_sem, ↓reduceIte, Nat.reduceEqDiff, Nat.reduceAdd, Nat.reduceMul, Nat.reduceSub, Nat.reduceLeDiff, Nat.reduceLT, t3, t7, t8, t9, t10, t11, t12, r6, hb, inRange hc2, gw, segEqB]
        rw [stp, hb]
        simp
    rintro T H' ⟨rfl, t3, t7, t8, t9, t10, t11, t12⟩
    simp -dsimp only [go_sem, ↓reduceIte, Nat.reduceEqDiff, Nat.reduceAdd, Nat.reduceMul, Nat.reduceSub, Nat.reduceLeDiff, Nat.reduceLT, t3, t7, t8, t9, t10, t11, t12, r6]
    refine adrawnP_of2 [(0, false), (1, false), (2, false), (3, false), (4, false), (5, false), (6, false), (7, false), (8, false), (9, false), (10, false), (11, false), (12, false), (13, false), (14, false), (15, false), (16, false), (17, false), (18, false), (19, false), (20, false), (21, false), (22, false), (23, false), (24, false), (25, false), (26, false), (27, false), (28, false), (29, false), (30, false), (31, false), (32, false), (33, false), (34, false), (35, false), (36, false), (37, false), (38, false)] (by kernel_rfl) ?_
    cases e1 : decide (z.f < x.t) with
    | false =>
      simp -dsimp only [go_sem, ↓reduceIte, Nat.reduceEqDiff, Nat.reduceAdd, Nat.reduceMul, Nat.reduceSub, Nat.reduceLeDiff, Nat.reduceLT, t3, t7, t8, t9, t10, t11, t12, r6, inRange hc2, gF, gT, e1, w1]
      exact ⟨_, by omega, j + 1, rfl, hc2, p6, rfl, rfl⟩
    | true =>
      cases e2 : decide (x.f < z.t) with
      | false =>
        simp -dsimp only [go_sem, ↓reduceIte, Nat.reduceEqDiff, Nat.reduceAdd, Nat.reduceMul, Nat.reduceSub, Nat.reduceLeDiff, Nat.reduceLT, t3, t7, t8, t9, t10, t11, t12, r6, inRange hc2, gF, gT, e1, e2, w1]
        exact ⟨_, by omega, j + 1, rfl, hc2, p6, rfl, rfl⟩
      | true =>
        simp -dsimp only [go_sem, ↓reduceIte, Nat.reduceEqDiff, Nat.reduceAdd, Nat.reduceMul, Nat.reduceSub, Nat.reduceLeDiff, Nat.reduceLT, t3, t7, t8, t9, t10, t11, t12, r6, inRange hc2, gF, gT, e1, e2, gw, w1]
        refine SoundP_of (refAhead z x.seg H') ?_
        rintro _ H7 ⟨rfl, p7⟩
        have r7 := pre_get p7 r6
        have gw7 := rowLoad_whole (aload_pre p7 hzz)
        cases e3 : aheadR z.key x.seg.key with
        | false =>
          simp -dsimp only [go_sem, ↓reduceIte, Nat.reduceEqDiff, Nat.reduceAdd, Nat.reduceMul, Nat.reduceSub, Nat.reduceLeDiff, Nat.reduceLT, t3, t7, t8, t9, t10, t11, t12, r6, e1, e2, e3, w1]
          exact ⟨_, by omega, j + 1, rfl, hc2, p6.trans p7, rfl, rfl⟩
        | true =>
          have hno := ok.first z (List.mem_of_getElem? hz) (of_decide_eq_true e1) (of_decide_eq_true e2) e3
          simp -dsimp only [go_sem, ↓reduceIte, Nat.reduceEqDiff, Nat.reduceAdd, Nat.reduceMul, Nat.reduceSub, Nat.reduceLeDiff, Nat.reduceLT, t3, t7, t8, t9, t10, t11, t12, r6, e1, e2, e3, inRange hc2, gw7, r7, w1]
          refine SoundP_of (lwhole l z (some ⟨idl, offl, none⟩) cl H7 (sl.pre ((p5.trans p6).trans p7)) (by omega) (by have := hzr.c; omega)) ?_
          rintro _ H8 ⟨rfl, p8⟩
          rw [hno]
          simp -dsimp only [go_sem, ↓reduceIte, Nat.reduceEqDiff, Nat.reduceAdd, Nat.reduceMul, Nat.reduceSub, Nat.reduceLeDiff, Nat.reduceLT, t3, t7, t8, t9, t10, t11, t12, r6, e1, e2, e3, w1]
          exact ⟨_, by omega, j + 1, rfl, hc2, (p6.trans p7).trans p8, rfl, rfl⟩
  simp at hc2
  rw [List.take_of_length_le hc2] at t11
  have hany : (l.any fun z => decide (z = x.seg)) = true := List.any_eq_true.2 ⟨x.seg, ok.mem, by simp⟩
  rw [hany] at t11
  have hxr := hMd.raw _ ok.mem
  have o1 : (!decide (x.f < x.t)) = false := by simp [ok.lt]
  have d1 : decide (x.t ≤ x.f) = false := by have := ok.lt; simp; omega
  have m1 : (if x.seg.f > f0 then x.seg.f else f0) = max f0 x.seg.f := by split <;> omega
  have m2 : (if x.seg.t < t0 then x.seg.t else t0) = min t0 x.seg.t := by split <;> omega
  have d2 : decide (x.f < max f0 x.seg.f) = false := by have := ok.lo; simp; omega
  have d3 : decide (min t0 x.seg.t < x.t) = false := by have := ok.hi; simp; omega
  simp -dsimp only [go_sem, ↓reduceIte, Nat.reduceEqDiff, Nat.reduceAdd, Nat.reduceMul, Nat.reduceSub, Nat.reduceLeDiff, Nat.reduceLT, t3, t7, t8, t9, t10, t11, t12, r6]
  refine SoundP_of (lwhole l x.seg al cl H6 (sl.pre (p5.trans p6)) (by omega) (by have := hxr.c; omega)) ?_
  rintro _ H7 ⟨rfl, p7⟩
  rw [ok.whole]
  have r7 := pre_get p7 r6
  have b7 := pre_get p7 b6
  simp -dsimp only [go_sem, ↓reduceIte, Nat.reduceEqDiff, Nat.reduceAdd, Nat.reduceMul, Nat.reduceSub, Nat.reduceLeDiff, Nat.reduceLT, t3, t7, t8, t9, t10, t11, t12, r6, r7, b7, d1, m1, m2, d2, d3]
  have p37 := (p5.trans p6).trans p7
  refine acondP_of (fun hi0 => ?_) (fun hi0 => ?_)
  · simp -dsimp only [go_sem, ↓reduceIte, Nat.reduceEqDiff, Nat.reduceAdd, Nat.reduceMul, Nat.reduceSub, Nat.reduceLeDiff, Nat.reduceLT, t3, t7, t8, t9, t10, t11, t12, r6, wrS (show i < 4611686018427387904 by omega)]
    exact ⟨_, by omega, i + 1, rfl, hc, p37, rfl⟩
  have hi0' : i ≠ 0 := by simpa using hi0
  obtain ⟨i', rfl⟩ : ∃ i', i = i' + 1 := ⟨i - 1, by omega⟩
  obtain ⟨y, hy⟩ := get_ex (show i' < P.length by omega)
  have hat7 := (s8.pre p37).at (by omega)
  obtain ⟨id', off', heq, hat7⟩ := hat7
  obtain ⟨rfl, rfl⟩ : id = id' ∧ off = off' := by simpa using heq
  have oky := hok y (List.mem_of_getElem? hy)
  have gY := rowLoad_whole (hat7 i' y hy)
  have w1 := wrS (show i' + 1 < 4611686018427387904 by omega)
  simp -dsimp only [go_sem, ↓reduceIte, Nat.reduceEqDiff, Nat.reduceAdd, Nat.reduceMul, Nat.reduceSub, Nat.reduceLeDiff, Nat.reduceLT, t3, t7, t8, t9, t10, t11, t12, r6, wrPS (show i' < 4611686018427387904 by omega), inRange (show i' < P.length by omega), gY]
  have r8 := get_app r7
  have p8 := List.prefix_append H7 [AObj.row y.cells 7 true]
  dsimp only [Piece.cells] at p8
  rcases pair_at hpp hy hx with ⟨q1, q2, q3, q4⟩ | q1
  · simp -dsimp only [go_sem, ↓reduceIte, Nat.reduceEqDiff, Nat.reduceAdd, Nat.reduceMul, Nat.reduceSub, Nat.reduceLeDiff, Nat.reduceLT, t3, t7, t8, t9, t10, t11, t12, r6, r8, q1, q2, beq_self_eq_true, Bool.and_self]
    refine SoundP_of (refOne y.seg x.seg _) ?_
    rintro _ H8 ⟨rfl, p9⟩
    have hk : decide (y.seg.key = x.seg.key) = true := by simpa using q3
    have d7 : decide (x.seg.p ≤ y.seg.p) = false := by simp; omega
    have r9 := pre_get p9 (r8 _)
    have r9y := pre_get p9 (get_end H7 _ [])
    simp -dsimp only [go_sem, ↓reduceIte, Nat.reduceEqDiff, Nat.reduceAdd, Nat.reduceMul, Nat.reduceSub, Nat.reduceLeDiff, Nat.reduceLT, t3, t7, t8, t9, t10, t11, t12, r6, hk, q1, q2, r9, r9y, d7, beq_self_eq_true, Bool.and_self, bne_self_eq_false, w1]
    exact ⟨_, by omega, i' + 1 + 1, rfl, hc, (p37.trans (List.prefix_append _ _)).trans p9, rfl⟩
  · have d5 : (y.f == x.f && y.t == x.t) = false := by have := ok.lt; have := oky.lt; simp; omega
    have d6 : decide (x.f < y.t) = false := by simp; omega
    simp -dsimp only [go_sem, ↓reduceIte, Nat.reduceEqDiff, Nat.reduceAdd, Nat.reduceMul, Nat.reduceSub, Nat.reduceLeDiff, Nat.reduceLT, t3, t7, t8, t9, t10, t11, t12, r6, r8, d5, d6, w1]
    exact ⟨_, by omega, i' + 1 + 1, rfl, hc, p37.trans p8, rfl⟩
end Go.Proofs.Ythbifkeadbmcnaa
