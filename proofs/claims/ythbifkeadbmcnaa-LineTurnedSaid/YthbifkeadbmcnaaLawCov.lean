/-
  The walk of LineCovered.
-/
import Derived.Test.YthbifkeadbmcnaaPureCov
import Derived.Test.YthbifkeadbmcnaaLawWaits
set_option linter.unusedVariables false
set_option linter.unusedSimpArgs false
namespace Go.Proofs.Ythbifkeadbmcnaa
open Go Go.AW Go.Bub
set_option linter.unusedSimpArgs false
set_option maxRecDepth 20000

theorem remTo_len {C C' : List KL} {s : Seg} {e : Int} (h : RemTo C s e C') {n : Nat} (hn : ∀ x ∈ C, x.2.length ≤ n) : C'.length ≤ C.length ∧ ∀ x ∈ C', x.2.length ≤ n := by
  cases h with
  | bad h => exact ⟨Nat.le_refl _, hn⟩
  | none h _ => exact ⟨Nat.le_refl _, hn⟩
  | @some A B l i h hc hi hl =>
    subst hc
    refine ⟨by simp, fun x hx => ?_⟩
    rcases List.mem_append.1 hx with hx | hx
    · exact hn x (by simp [hx])
    · rcases List.mem_cons.1 hx with rfl | hx
      · have h1 := hn (s.key, l) (by simp)
        simp only [List.length_append, List.length_take, List.length_drop] at h1 ⊢; omega
      · exact hn x (by simp [hx])
  | @last A B h hc =>
    subst hc
    refine ⟨by simp, fun x hx => ?_⟩
    rcases List.mem_append.1 hx with hx | hx
    · exact hn x (by simp [hx])
    · exact hn x (by simp [hx])
theorem flat_filter_len (C : List KL) (f : KL → Bool) : ((C.filter f).flatMap fun x => x.2).length ≤ (C.flatMap fun x => x.2).length := by
  induction C with
  | nil => simp
  | cons x C ih =>
    rw [List.filter_cons]
    split
    · rw [List.flatMap_cons, List.flatMap_cons, List.length_append, List.length_append]; omega
    · rw [List.flatMap_cons, List.length_append]; omega
theorem visL_len (C : List KL) : (visL C).length ≤ (C.flatMap fun x => x.2).length := by
  unfold visL
  rw [(sortL_perm _).length_eq]
  exact flat_filter_len _ _
theorem coverL_len (C : List KL) : (coverL C).length ≤ (C.flatMap fun x => x.2).length := by
  unfold coverL
  rw [(sortL_perm _).length_eq]
  exact flat_filter_len _ _
set_option maxHeartbeats 2000000 in
theorem lineCovered (raw : List Seg) (a : Option Addr) (c : Nat) (H : AHeap) (hs : SegsAt H a raw) (ga : ArgSl a raw.length c) (hw : ∀ s ∈ raw, SegI s) :
    Sound Try.prog 9 [.slice a raw.length c] H fun v _ => v = .bool true := by
  refine Sound.of_body (rs := [.tmp 2]) mixed Try.func9 rfl (by kernel_rfl) rfl (by kernel_rfl) ?_
  simp -dsimp only [go_sem, ↓reduceIte, Nat.reduceEqDiff, Nat.reduceAdd, Nat.reduceMul, Nat.reduceSub, Nat.reduceLeDiff, Nat.reduceLT]
  refine SoundP_of (awake H) ?_
  rintro _ H1 ⟨rfl, p1⟩
  simp -dsimp only [go_sem, ↓reduceIte, Nat.reduceEqDiff, Nat.reduceAdd, Nat.reduceMul, Nat.reduceSub, Nat.reduceLeDiff, Nat.reduceLT]
  refine SoundP_of (made raw a c 40 H1 (hs.pre p1) hw (by omega)) ?_
  rintro _ H2 ⟨p, m, M, vl, l, rfl, p2, hT, ol, hMd, hl, -⟩
  have lM := hMd.len hT.good
  have hg0 := hT.goodC
  have hfl : ((cont M).flatMap fun x => x.2).length ≤ 40 := by rw [← hMd.perm.length_eq]; exact hl
  have hvL := Nat.le_trans (visL_len (cont M)) hfl
  have hcL := Nat.le_trans (coverL_len (cont M)) hfl
  have p5 := List.prefix_append H2 [AObj.row [.int .i64 0, .int .i64 1099511627776] 2 true]
  have hT5 := hT.pre p5
  have r5 := get_end H2 (AObj.row [.int .i64 0, .int .i64 1099511627776] 2 true) []
  have f5 : ∀ j, footT p m M j → j < H2.length := fun j hj => (hT.foot hj).2
  have l5 : (H2 ++ [AObj.row [.int .i64 0, .int .i64 1099511627776] 2 true]).length = H2.length + 1 := by simp
  have n1 := pre_len p2
  clear hT p5 hs ga ol
  simp -dsimp only [go_sem, ↓reduceIte, Nat.reduceEqDiff, Nat.reduceAdd, Nat.reduceMul, Nat.reduceSub, Nat.reduceLeDiff, Nat.reduceLT]
  generalize hH5 : H2 ++ [AObj.row [.int .i64 0, .int .i64 1099511627776] 2 true] = H5 at *
  generalize hix : H2.length = ix at *
  refine SoundP_of (tlLookup 0 1099511627776 H1.length H5 p m M hT5 (by omega) (fun x hx => by have := lM.2 x hx; omega)) ?_
  rintro v7 H6 ⟨o7, p6⟩
  have hPl := lookC_len hg0 (by rw [List.length_map]; omega) (fun x hx => by obtain ⟨y, hy, rfl⟩ := List.mem_map.1 hx; have := lM.2 y hy; show y.l.length ≤ 100; omega) 0 1099511627776
  have hT6 := hT5.pre p6
  have r6 := pre_get p6 r5
  have n6 := pre_len p6
  simp -dsimp only [go_sem, ↓reduceIte, Nat.reduceEqDiff, Nat.reduceAdd, Nat.reduceMul, Nat.reduceSub, Nat.reduceLeDiff, Nat.reduceLT]
  refine SoundP_of (tlVisible H1.length H6 p m M hT6 (by omega) (fun x hx => by have := lM.2 x hx; omega)) ?_
  rintro v8 H7 ⟨o8, p7⟩
  have hT7 := hT6.pre p7
  have r7 := pre_get p7 r6
  have n7 := pre_len p7
  have o77 := o7.pre p7
  simp -dsimp only [go_sem, ↓reduceIte, Nat.reduceEqDiff, Nat.reduceAdd, Nat.reduceMul, Nat.reduceSub, Nat.reduceLeDiff, Nat.reduceLT]
  refine SoundP_of (tlCovered H1.length H7 p m M hT7 (by omega) (fun x hx => by have := lM.2 x hx; omega)) ?_
  rintro v9 H8 ⟨o9, p8⟩
  have hT8 := hT7.pre p8
  have r8 := pre_get p8 r7
  have n8 := pre_len p8
  have o78 := o77.pre p8
  have o88 := o8.pre p8
  have hv7 := fun j (hj : owner v7 = some j) => o78.owner_ge hj
  have hv8 := fun j (hj : owner v8 = some j) => o88.owner_ge hj
  have hv9 := fun j (hj : owner v9 = some j) => o9.owner_ge hj
  have hvis := fun y => @vis_cov _ hg0 y
  have hsrt := coverL_sorted hg0
  obtain ⟨Pr, hPr⟩ : ∃ Pr : Nat → Prop, Pr = fun j => j = ix ∨ owner v7 = some j ∨ owner v8 = some j ∨ owner v9 = some j := ⟨_, rfl⟩
  have prx : Pr ix := by rw [hPr]; exact .inl rfl
  have pr7 : ∀ j, owner v7 = some j → Pr j := fun j hj => by rw [hPr]; exact .inr (.inl hj)
  have pr8 : ∀ j, owner v8 = some j → Pr j := fun j hj => by rw [hPr]; exact .inr (.inr (.inl hj))
  have pr9 : ∀ j, owner v9 = some j → Pr j := fun j hj => by rw [hPr]; exact .inr (.inr (.inr hj))
  have prot8 : Prot H8 p m M Pr := fun j hj => by
    rw [hPr] at hj
    rcases hj with rfl | hj | hj | hj
    · exact ⟨by omega, fun q => by have := f5 _ q; omega⟩
    · have := hv7 j hj; exact ⟨by omega, fun q => by have := f5 _ q; omega⟩
    · have := hv8 j hj; exact ⟨by omega, fun q => by have := f5 _ q; omega⟩
    · have := hv9 j hj; exact ⟨by omega, fun q => by have := f5 _ q; omega⟩
  have hgone := gone_start hg0
  generalize hP : lookC (cont M) 0 1099511627776 = P at *
  generalize hV : visL (cont M) = V at *
  generalize hC : coverL (cont M) = C at *
  have b8 : H1.length ≤ H8.length := by omega
  clear hPr hv7 hv8 hv9 f5 o7 o77 o8 p6 p7 p8 r5 r6 r7 hT5 hT6 hT7 hH5 n6 n7 n8 l5
  simp -dsimp only [go_sem, ↓reduceIte, Nat.reduceEqDiff, Nat.reduceAdd, Nat.reduceMul, Nat.reduceSub, Nat.reduceLeDiff, Nat.reduceLT]
  refine aloopP_of (fun n T H' => ∃ (i : Nat) (M' : List SetS), n = C.length - i ∧ i ≤ C.length ∧ T 4 = ptrV p ∧ T 6 = ptrV ix ∧ T 7 = v7 ∧ T 8 = v8 ∧ T 9 = v9 ∧ T 10 = .int .i64 (i : Nat) ∧
      TimeAt H1.length H' p m M' ∧ Prot H' p m M' Pr ∧ H1.length ≤ H'.length ∧ H'[ix]? = some (.row [.int .i64 0, .int .i64 1099511627776] 2 true) ∧
      OwnP H5.length H' v7 P ∧ OwnS H6.length H' v8 V ∧ OwnS H7.length H' v9 C ∧ GoneC (cont M) (C.take i) (cont M') ∧ M'.length ≤ 40 ∧ (∀ x ∈ M', x.l.length ≤ 40)) (n := C.length) ?_ ?_
  · refine ⟨0, M, ?_⟩
    simp -dsimp only [go_sem, ↓reduceIte, Nat.reduceEqDiff, Nat.reduceAdd, Nat.reduceMul, Nat.reduceSub, Nat.reduceLeDiff, Nat.reduceLT]
    exact ⟨rfl, Nat.zero_le _, rfl, hT8, prot8, b8, r8, o78, o88, o9, by simpa using hgone, by omega, fun x hx => by have := lM.2 x hx; omega⟩
  clear hT8 prot8 b8 r8 o78 o88 o9 hgone
  rintro n T H9 ⟨i, M9, rfl, hi, t4, t6, t7, t8, t9, t10, hT9, prot9, b9, r9, o7, o8, o9, hgone, lM9, lL9⟩
  obtain ⟨a7, c7, rfl, s7⟩ := o7.sl (fun _ => rfl)
  obtain ⟨a8, c8, rfl, s8⟩ := o8.sl (fun _ => rfl)
  obtain ⟨a9, c9, rfl, s9⟩ := o9.sl (fun _ => rfl)
  simp -dsimp only [go_sem, ↓reduceIte, Nat.reduceEqDiff, Nat.reduceAdd, Nat.reduceMul, Nat.reduceSub, Nat.reduceLeDiff, Nat.reduceLT, t4, t6, t7, t8, t9, t10]
  refine acondP_of (fun hc => ?_) (fun hc => ?_)
  rotate_left
  · simp at hc
    obtain rfl : i = C.length := by omega
    simp -dsimp only [go_sem, ↓reduceIte, Nat.reduceEqDiff, Nat.reduceAdd, Nat.reduceMul, Nat.reduceSub, Nat.reduceLeDiff, Nat.reduceLT, t4, t6, t7, t8, t9, t10]
    refine SoundP_of (tlCovered H1.length H9 p m M9 hT9 (by omega) (fun x hx => by have := lL9 x hx; omega)) ?_
    rintro v10 H10 ⟨o10, -⟩
    rw [List.take_length, ← hC] at hgone
    rw [gone_all hg0 hgone] at o10
    obtain ⟨a10, c10, rfl, -⟩ := o10.sl (fun _ => rfl)
    simp -dsimp only [go_sem, ↓reduceIte, Nat.reduceEqDiff, Nat.reduceAdd, Nat.reduceMul, Nat.reduceSub, Nat.reduceLeDiff, Nat.reduceLT, t4, t6, t7, t8, t9, t10]
    simp
  simp at hc
  obtain ⟨s, hsi⟩ := get_ex hc
  have hsm := List.mem_of_getElem? hsi
  have hsV : ∀ y ∈ V, y ≠ s := fun y hy q => hvis y hy (by rw [q]; exact hsm)
  have hsn : ¬ s ∈ C.take i := fun q => by
    obtain ⟨k, hk⟩ := List.mem_iff_getElem?.1 q
    rw [List.getElem?_take] at hk
    split at hk
    · rename_i hki
      obtain ⟨h1, e1⟩ := List.getElem?_eq_some_iff.1 hk
      obtain ⟨h2, e2⟩ := List.getElem?_eq_some_iff.1 hsi
      have := List.pairwise_iff_getElem.1 hsrt k i h1 h2 hki
      rw [e1, e2] at this
      exact standsR_irrefl _ this
    · cases hk
  obtain ⟨id9, off9, rfl, hat9⟩ := s9.at (by omega)
  have hss := rowLoad_whole (hat9 i s hsi)
  simp -dsimp only [go_sem, ↓reduceIte, Nat.reduceEqDiff, Nat.reduceAdd, Nat.reduceMul, Nat.reduceSub, Nat.reduceLeDiff, Nat.reduceLT, t4, t6, t7, t8, t9, t10]
  refine aloopP_of (fun n T H' => ∃ (k : Nat), n = V.length - k ∧ k ≤ V.length ∧ H' = H9 ∧ T 4 = ptrV p ∧ T 6 = ptrV ix ∧ T 7 = .slice a7 P.length c7 ∧ T 8 = .slice a8 V.length c8 ∧ T 9 = .slice (some ⟨id9, off9, none⟩) C.length c9 ∧ T 10 = .int .i64 (i : Nat) ∧ T 11 = .int .i64 (k : Nat)) (n := V.length) ?_ ?_
  · refine ⟨0, ?_⟩
    simp -dsimp only [go_sem, ↓reduceIte, Nat.reduceEqDiff, Nat.reduceAdd, Nat.reduceMul, Nat.reduceSub, Nat.reduceLeDiff, Nat.reduceLT, t4, t6, t7, t8, t9, t10]
    exact ⟨rfl, Nat.zero_le _, rfl⟩
  rintro n T H' ⟨k, rfl, hk, rfl, t4, t6, t7, t8, t9, t10, t11⟩
  simp -dsimp only [go_sem, ↓reduceIte, Nat.reduceEqDiff, Nat.reduceAdd, Nat.reduceMul, Nat.reduceSub, Nat.reduceLeDiff, Nat.reduceLT, t4, t6, t7, t8, t9, t10, t11]
  refine acondP_of (fun hc2 => ?_) (fun hc2 => ?_)
  · simp at hc2
    obtain ⟨y, hy⟩ := get_ex hc2
    obtain ⟨id8, off8, rfl, hat8⟩ := s8.at (by omega)
    have hyy := rowLoad_whole (hat8 k y hy)
    have hne := hsV y (List.mem_of_getElem? hy)
    simp -dsimp only [go_sem, ↓reduceIte, Nat.reduceEqDiff, Nat.reduceAdd, Nat.reduceMul, Nat.reduceSub, Nat.reduceLeDiff, Nat.reduceLT, t4, t6, t7, t8, t9, t10, t11]
    refine adrawnP_of2 [(0, false), (1, false), (2, false), (3, false), (4, false), (5, false), (6, false), (7, false), (8, false)] (by kernel_rfl) ?_
    simp -dsimp only [go_sem, ↓reduceIte, Nat.reduceEqDiff, Nat.reduceAdd, Nat.reduceMul, Nat.reduceSub, Nat.reduceLeDiff, Nat.reduceLT, t4, t6, t7, t8, t9, t10, t11, inRange hc, inRange hc2, hss, hyy, segEqB, decide_eq_false hne, wrS (show k < 4611686018427387904 by omega)]
    exact ⟨_, by omega, k + 1, rfl, hc2, rfl⟩
  simp -dsimp only [go_sem, ↓reduceIte, Nat.reduceEqDiff, Nat.reduceAdd, Nat.reduceMul, Nat.reduceSub, Nat.reduceLeDiff, Nat.reduceLT, t4, t6, t7, t8, t9, t10, t11, inRange hc, hss]
  refine SoundP_of (tlRemove s H1.length _ p m M9 hT9 b9) ?_
  rintro _ H10 ⟨M10, e, rfl, hT10, hrem, n10, fr10, ft10⟩
  obtain ⟨pr10, kp10⟩ := prot_add prot9 n10 fr10 ft10
  obtain ⟨rfl, hgone10⟩ := gone_step hg0 hgone (by rw [hC]; exact hsm) hsn hrem hT10.goodC
  have r10 := (kp10 _ prx).trans r9
  have o710 := o7.keep fun j hj => kp10 j (pr7 j hj)
  have o810 := o8.keep fun j hj => kp10 j (pr8 j hj)
  have o910 := o9.keep fun j hj => kp10 j (pr9 j hj)
  have hlen := remTo_len hrem (n := 40) (fun x hx => by obtain ⟨y, hy, rfl⟩ := List.mem_map.1 hx; exact lL9 y hy)
  rw [List.length_map, List.length_map] at hlen
  have lL10 : ∀ x ∈ M10, x.l.length ≤ 40 := fun x hx => hlen.2 (x.k, x.l) (List.mem_map.2 ⟨x, hx, rfl⟩)
  have b10 : H1.length ≤ H10.length := by omega
  clear hT9 prot9 b9 r9 o7 o8 o9 hgone s7 s8 s9 hat9 hss fr10 ft10 kp10
  simp -dsimp only [go_sem, ↓reduceIte, Nat.reduceEqDiff, Nat.reduceAdd, Nat.reduceMul, Nat.reduceSub, Nat.reduceLeDiff, Nat.reduceLT, t4, t6, t7, t8, t9, t10, t11, r10, show ((0 : Int) != 0) = false from rfl]
  refine SoundP_of (tlLookup 0 1099511627776 H1.length H10 p m M10 hT10 (by omega) (fun x hx => by have := lL10 x hx; omega)) ?_
  rintro v11 H11 ⟨o11, p11⟩
  rw [gone_look hgone10, hP] at o11
  obtain ⟨a11, c11, rfl, s11⟩ := o11.sl (fun _ => rfl)
  simp -dsimp only [go_sem, ↓reduceIte, Nat.reduceEqDiff, Nat.reduceAdd, Nat.reduceMul, Nat.reduceSub, Nat.reduceLeDiff, Nat.reduceLT, t4, t6, t7, t8, t9, t10, t11]
  refine SoundP_of (samePieces P P a11 a7 c11 c7 H11 s11 ((o710.slA (fun _ => rfl)).2.pre p11) (by omega)) ?_
  rintro _ H12 ⟨rfl, p12⟩
  have p1012 := p11.trans p12
  have hT12 := hT10.pre p1012
  have n12 := pre_len p1012
  simp -dsimp only [go_sem, ↓reduceIte, Nat.reduceEqDiff, Nat.reduceAdd, Nat.reduceMul, Nat.reduceSub, Nat.reduceLeDiff, Nat.reduceLT, t4, t6, t7, t8, t9, t10, t11, show decide (P = P) = true by simp]
  refine SoundP_of (tlVisible H1.length H12 p m M10 hT12 (by omega) (fun x hx => by have := lL10 x hx; omega)) ?_
  rintro v13 H13 ⟨o13, p13⟩
  rw [gone_vis hg0 hgone10, hV] at o13
  obtain ⟨a13, c13, rfl, s13⟩ := o13.sl (fun _ => rfl)
  simp -dsimp only [go_sem, ↓reduceIte, Nat.reduceEqDiff, Nat.reduceAdd, Nat.reduceMul, Nat.reduceSub, Nat.reduceLeDiff, Nat.reduceLT, t4, t6, t7, t8, t9, t10, t11]
  refine SoundP_of (sameSegs V V a13 a8 c13 c8 H13 s13 ((o810.slA (fun _ => rfl)).2.pre (p1012.trans p13)) (by omega)) ?_
  rintro _ H14 ⟨rfl, p14⟩
  have p1014 := p1012.trans (p13.trans p14)
  have n14 := pre_len p1014
  simp -dsimp only [go_sem, ↓reduceIte, Nat.reduceEqDiff, Nat.reduceAdd, Nat.reduceMul, Nat.reduceSub, Nat.reduceLeDiff, Nat.reduceLT, t4, t6, t7, t8, t9, t10, t11, show decide (V = V) = true by simp, wrS (show i < 4611686018427387904 by omega)]
  refine ⟨_, by omega, i + 1, M10, rfl, hc, rfl, hT10.pre p1014, fun j hj => ⟨by have := pr10 j hj; omega, (pr10 j hj).2⟩, by omega, pre_get p1014 r10, o710.pre p1014, o810.pre p1014, o910.pre p1014, by rw [take_get hsi]; exact hgone10, by omega, lL10⟩
end Go.Proofs.Ythbifkeadbmcnaa
