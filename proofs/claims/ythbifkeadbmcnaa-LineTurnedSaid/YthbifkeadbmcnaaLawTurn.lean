/-
  The walk of LineTurned.
-/
import Derived.Test.YthbifkeadbmcnaaPureTurn
import Derived.Test.YthbifkeadbmcnaaLawCov
set_option linter.unusedVariables false
set_option linter.unusedSimpArgs false
namespace Go.Proofs.Ythbifkeadbmcnaa
open Go Go.AW Go.Bub
set_option linter.unusedSimpArgs false
set_option maxRecDepth 20000

/-- a step of a timeline keeps what isn't its own -/
theorem frame_step {B : Nat} {H0 H H' : AHeap} {p m : Nat} {M M' : List SetS} {vx : Value} {ex : List Seg} (hB : H0.length = B) (p0 : H0 <+: H) (hT : TimeAt B H p m M) (ox : OwnS B H vx ex) (dis : ∀ j, owner vx = some j → ¬ footT p m M j)
    (n : H.length ≤ H'.length) (fr : ∀ j, j < H.length → ¬ footT p m M j → H'[j]? = H[j]?) (ft : ∀ j, footT p m M' j → footT p m M j ∨ H.length ≤ j) :
    H0 <+: H' ∧ OwnS B H' vx ex ∧ ∀ j, owner vx = some j → ¬ footT p m M' j := by
  have g : ∀ {j : Nat}, footT p m M j → B ≤ j ∧ j < H.length := fun hj => hT.foot hj
  have n0 := pre_len p0
  refine ⟨List.prefix_iff_getElem?.2 fun j hj => ?_, ox.keep fun j hj => fr j (ox.owner_ge hj).2 (dis j hj), fun j hj q => ?_⟩
  · rw [fr j (by omega) (fun q => by have := g q; omega)]
    exact pre_get p0 (by simp [hj])
  · rcases ft j q with q | q
    · exact dis j hj q
    · have := (ox.owner_ge hj).2; omega
theorem one_iff (z s : Seg) : (decide (z.key = s.key) && z.p == s.p) = true ↔ z.key = s.key ∧ z.p = s.p := by simp
def thereB (l : List Seg) (s : Seg) : Bool := l.any fun z => decide (z.key = s.key) && z.p == s.p
set_option maxHeartbeats 2000000 in
theorem lineTurned (raw more : List Seg) (turn : Int) (a a2 : Option Addr) (c c2 : Nat) (H : AHeap) (hs : SegsAt H a raw) (hs2 : SegsAt H a2 more) (ga : ArgSl a raw.length c) (ga2 : ArgSl a2 more.length c2) (hw : ∀ s ∈ raw, SegI s) (hw2 : ∀ s ∈ more, SegI s) (ht : (Lit.int .i64 turn).wf = true) :
    Sound Try.prog 8 [.slice a raw.length c, .slice a2 more.length c2, .int .i64 turn] H fun v _ => v = .bool true := by
  refine Sound.of_body (rs := [.tmp 6]) mixed Try.func8 rfl (by kernel_rfl) rfl (by kernel_rfl) ?_
  simp -dsimp only [go_sem, ↓reduceIte, Nat.reduceEqDiff, Nat.reduceAdd, Nat.reduceMul, Nat.reduceSub, Nat.reduceLeDiff, Nat.reduceLT]
  refine SoundP_of (awake H) ?_
  rintro _ H1 ⟨rfl, p1⟩
  simp -dsimp only [go_sem, ↓reduceIte, Nat.reduceEqDiff, Nat.reduceAdd, Nat.reduceMul, Nat.reduceSub, Nat.reduceLeDiff, Nat.reduceLT]
  refine SoundP_of (made raw a c 30 H1 (hs.pre p1) hw (by omega)) ?_
  rintro _ H2 ⟨p, m, M, vl, l, rfl, p2, hT, ol, hMd, hl, -⟩
  obtain ⟨al, cl, rfl, sl⟩ := ol.sl (fun _ => rfl)
  have hg0 := hT.goodC
  simp -dsimp only [go_sem, ↓reduceIte, Nat.reduceEqDiff, Nat.reduceAdd, Nat.reduceMul, Nat.reduceSub, Nat.reduceLeDiff, Nat.reduceLT]
  refine SoundP_of (tlNew H2) ?_
  rintro _ H3 ⟨rfl, hH3, hTb⟩
  have p3 : H2 <+: H3 := by rw [hH3]; exact List.prefix_append _ _
  have sl2 := sl
  have smp2 := (hs2.pre p1).pre p2
  clear hH3 sl ol hs ga hs2
  generalize hB : H2.length = B at *
  obtain ⟨pb, hpb⟩ : ∃ pb : Nat, B + 1 = pb := ⟨_, rfl⟩
  rw [hpb] at hTb
  rw [hpb]
  have an := absL_nn turn
  simp -dsimp only [go_sem, ↓reduceIte, Nat.reduceEqDiff, Nat.reduceAdd, Nat.reduceMul, Nat.reduceSub, Nat.reduceLeDiff, Nat.reduceLT]
  refine aloop_join (fun T H' => ∃ (Mb : List SetS) (vx : Value) (ex : List Seg), T 2 = .int .i64 turn ∧ T 8 = ptrV p ∧ T 9 = .slice al l.length cl ∧ T 10 = ptrV pb ∧ T 11 = vx ∧
      H2 <+: H' ∧ TimeAt B H' pb B Mb ∧ OwnS B H' vx ex ∧ (∀ j, owner vx = some j → ¬ footT pb B Mb j) ∧ Made ex (cont Mb) ∧ ex.length ≤ 20 ∧ (∀ y ∈ ex, ∀ z ∈ l, ¬ (z.key = y.key ∧ z.p = y.p)))
    (fun n T H' => ∃ (i : Nat) (Mb : List SetS) (vx : Value) (ex : List Seg), n = 20 - i ∧ i ≤ 20 ∧ T 1 = .slice a2 more.length c2 ∧ T 2 = .int .i64 turn ∧ T 8 = ptrV p ∧ T 9 = .slice al l.length cl ∧ T 10 = ptrV pb ∧ T 11 = vx ∧ T 12 = .int .i64 (i : Nat) ∧
      H2 <+: H' ∧ TimeAt B H' pb B Mb ∧ OwnS B H' vx ex ∧ (∀ j, owner vx = some j → ¬ footT pb B Mb j) ∧ Made ex (cont Mb) ∧ ex.length ≤ i ∧ (∀ y ∈ ex, ∀ z ∈ l, ¬ (z.key = y.key ∧ z.p = y.p))) (n := 20) ?_ ?_ ?_
  · refine ⟨0, [], .slice none 0 0, [], ?_⟩
    simp -dsimp only [go_sem, ↓reduceIte, Nat.reduceEqDiff, Nat.reduceAdd, Nat.reduceMul, Nat.reduceSub, Nat.reduceLeDiff, Nat.reduceLT]
    exact ⟨rfl, p3, hTb, Own.nil _ _ _ _, fun j hj => by simp [owner] at hj, ⟨by simp, by simp⟩, by simp⟩
  · rintro n T H4 ⟨i, Mb, vx, ex, rfl, hi, t1, t2, t8, t9, t10, t11, t12, p4, hT4, ox4, dis4, hMx, hxi, hxl⟩
    have nB := pre_len p4
    cases hc1 : decide ((i : Int) < (more.length : Int)) with
    | false =>
      simp -dsimp only [go_sem, ↓reduceIte, Nat.reduceEqDiff, Nat.reduceAdd, Nat.reduceMul, Nat.reduceSub, Nat.reduceLeDiff, Nat.reduceLT, t1, t2, t8, t9, t10, t11, t12, hc1]
      exact ⟨Mb, vx, ex, rfl, p4, hT4, ox4, dis4, hMx, by omega, hxl⟩
    | true =>
      have hc1' : i < more.length := by simpa using hc1
      simp -dsimp only [go_sem, ↓reduceIte, Nat.reduceEqDiff, Nat.reduceAdd, Nat.reduceMul, Nat.reduceSub, Nat.reduceLeDiff, Nat.reduceLT, t1, t2, t8, t9, t10, t11, t12, hc1]
      refine acondP_of (fun hc2 => ?_) (fun hc2 => ?_)
      rotate_left
      · simp -dsimp only [go_sem, ↓reduceIte, Nat.reduceEqDiff, Nat.reduceAdd, Nat.reduceMul, Nat.reduceSub, Nat.reduceLeDiff, Nat.reduceLT, t1, t2, t8, t9, t10, t11, t12]
        exact ⟨Mb, vx, ex, rfl, p4, hT4, ox4, dis4, hMx, by omega, hxl⟩
      simp at hc2
      obtain ⟨s0, hsi⟩ := get_ex hc1'
      obtain ⟨id, off, rfl, hat⟩ := (smp2.pre p4).at (by omega)
      simp -dsimp only [go_sem, ↓reduceIte, Nat.reduceEqDiff, Nat.reduceAdd, Nat.reduceMul, Nat.reduceSub, Nat.reduceLeDiff, Nat.reduceLT, t1, t2, t8, t9, t10, t11, t12, inRange hc1', rowLoad_whole (hat _ s0 hsi)]
      refine SoundP_of (segLaw s0 _ (hw2 s0 (List.mem_of_getElem? hsi))) ?_
      rintro _ H5 ⟨rfl, p5⟩
      have hr := segL_raw s0
      generalize segL s0 = z at *
      have p56 := List.prefix_append H5 [AObj.row z.cells 5 true]
      have rz := get_end H5 (AObj.row z.cells 5 true) []
      have p46 := p5.trans p56
      have p6 := p4.trans p46
      have hT6 := hT4.pre p46
      have ox6 := ox4.pre p46
      have sl6 := sl2.pre p6
      have n5 := pre_len p5
      have zl : ¬ footT pb B Mb H5.length := fun q => by have := (hT4.foot q).2; omega
      have zo : owner vx ≠ some H5.length := fun q => by have := (ox4.owner_ge q).2; omega
      have l6 : (H5 ++ [AObj.row z.cells 5 true]).length = H5.length + 1 := by simp
      have b5 : B ≤ H5.length := by omega
      simp -dsimp only [go_sem, ↓reduceIte, Nat.reduceEqDiff, Nat.reduceAdd, Nat.reduceMul, Nat.reduceSub, Nat.reduceLeDiff, Nat.reduceLT, t1, t2, t8, t9, t10, t11, t12]
      generalize hH6 : H5 ++ [AObj.row z.cells 5 true] = H6 at *
      generalize hzi : H5.length = zi at *
      clear hat p4 hT4 ox4 p46 p56 hzi hH6
      refine aloopP_of (fun n T H' => ∃ (k : Nat), n = l.length - k ∧ k ≤ l.length ∧ T 1 = .slice (some ⟨id, off, none⟩) more.length c2 ∧ T 2 = .int .i64 turn ∧ T 8 = ptrV p ∧ T 9 = .slice al l.length cl ∧ T 10 = ptrV pb ∧ T 11 = vx ∧ T 12 = .int .i64 (i : Nat) ∧ T 13 = ptrV zi ∧ T 14 = .bool (thereB (l.take k) z) ∧ T 15 = .int .i64 (k : Nat) ∧ H6 <+: H') (n := l.length) ?_ ?_
      · refine ⟨0, ?_⟩
        simp -dsimp only [go_sem, ↓reduceIte, Nat.reduceEqDiff, Nat.reduceAdd, Nat.reduceMul, Nat.reduceSub, Nat.reduceLeDiff, Nat.reduceLT, t1, t2, t8, t9, t10, t11, t12]
        exact ⟨rfl, Nat.zero_le _, rfl, rfl, List.prefix_refl _⟩
      rintro n T H7 ⟨k, rfl, hk, t1, t2, t8, t9, t10, t11, t12, t13, t14, t15, p7⟩
      simp -dsimp only [go_sem, ↓reduceIte, Nat.reduceEqDiff, Nat.reduceAdd, Nat.reduceMul, Nat.reduceSub, Nat.reduceLeDiff, Nat.reduceLT, t1, t2, t8, t9, t10, t11, t12, t13, t14, t15]
      refine acondP_of (fun hc3 => ?_) (fun hc3 => ?_)
      · simp at hc3
        obtain ⟨y, hy⟩ := get_ex hc3
        obtain ⟨idl, offl, rfl, hatl⟩ := (sl6.pre p7).at (by omega)
        have hyy := hatl k y hy
        have gw := rowLoad_whole hyy
        have gP : ∀ mm, (H7[idl]?).bind (rowLoad (some false) mm (offl + k * 5 + 2 + 1)) = some (.int .i64 y.p) := fun mm => by rw [Nat.add_assoc]; exact rowLoad_cell hyy mm 3 (by decide)
        have rz7 := pre_get p7 rz
        have stp : thereB (l.take (k + 1)) z = (thereB (l.take k) z || (decide (y.key = z.key) && y.p == z.p)) := by
          unfold thereB; rw [take_get hy, List.any_append]; simp
        have w1 := wrS (show k < 4611686018427387904 by omega)
        simp -dsimp only [go_sem, ↓reduceIte, Nat.reduceEqDiff, Nat.reduceAdd, Nat.reduceMul, Nat.reduceSub, Nat.reduceLeDiff, Nat.reduceLT, t1, t2, t8, t9, t10, t11, t12, t13, t14, t15]
        refine adrawnP_of2 [(0, false), (1, false), (2, false), (3, false), (4, false), (5, false), (6, false), (7, false), (8, false), (9, false), (10, false), (11, false), (12, false), (13, false), (14, false), (15, false), (16, false), (17, false), (18, false), (19, false)] (by kernel_rfl) ?_
        cases hb : thereB (l.take k) z with
        | true =>
          simp -dsimp only [go_sem, ↓reduceIte, Nat.reduceEqDiff, Nat.reduceAdd, Nat.reduceMul, Nat.reduceSub, Nat.reduceLeDiff, Nat.reduceLT, t1, t2, t8, t9, t10, t11, t12, t13, t14, t15, hb, w1]
          exact ⟨_, by omega, k + 1, rfl, hc3, by rw [stp, hb]; rfl, rfl, p7⟩
        | false =>
          simp -dsimp only [go_sem, ↓reduceIte, Nat.reduceEqDiff, Nat.reduceAdd, Nat.reduceMul, Nat.reduceSub, Nat.reduceLeDiff, Nat.reduceLT, t1, t2, t8, t9, t10, t11, t12, t13, t14, t15, hb, inRange hc3, gw, rz7]
          refine SoundP_of (refOne y z H7) ?_
          rintro _ H8 ⟨rfl, p8⟩
          have rz8 := pre_get p8 rz7
          have gP8 : ∀ mm, (H8[idl]?).bind (rowLoad (some false) mm (offl + k * 5 + 3)) = some (.int .i64 y.p) := fun mm => by
            exact rowLoad_cell (aload_pre p8 hyy) mm 3 (by decide)
          cases hk : decide (y.key = z.key) with
          | false =>
            simp -dsimp only [go_sem, ↓reduceIte, Nat.reduceEqDiff, Nat.reduceAdd, Nat.reduceMul, Nat.reduceSub, Nat.reduceLeDiff, Nat.reduceLT, t1, t2, t8, t9, t10, t11, t12, t13, t14, t15, hb, hk, w1]
            exact ⟨_, by omega, k + 1, rfl, hc3, by rw [stp, hb, hk]; rfl, rfl, p7.trans p8⟩
          | true =>
            simp -dsimp only [go_sem, ↓reduceIte, Nat.reduceEqDiff, Nat.reduceAdd, Nat.reduceMul, Nat.reduceSub, Nat.reduceLeDiff, Nat.reduceLT, t1, t2, t8, t9, t10, t11, t12, t13, t14, t15, hb, hk, w1, inRange hc3, gP8, rz8]
            exact ⟨_, by omega, k + 1, rfl, hc3, by rw [stp, hb, hk]; rfl, rfl, p7.trans p8⟩
      simp at hc3
      obtain rfl : k = l.length := by omega
      rw [List.take_length] at t14
      have n7 := pre_len p7
      have p47 := p6.trans p7
      have hT7 := hT6.pre p7
      have ox7 := ox6.pre p7
      have rz7 := pre_get p7 rz
      have w1 := wrS (show i < 4611686018427387904 by omega)
      clear hT6 ox6 rz sl6 p6 p7
      cases hb : thereB l z with
      | true =>
        simp -dsimp only [go_sem, ↓reduceIte, Nat.reduceEqDiff, Nat.reduceAdd, Nat.reduceMul, Nat.reduceSub, Nat.reduceLeDiff, Nat.reduceLT, t1, t2, t8, t9, t10, t11, t12, t13, t14, t15, hb, w1]
        exact ⟨_, by omega, i + 1, Mb, vx, ex, rfl, by omega, rfl, rfl, p47, hT7, ox7, dis4, hMx, by omega, hxl⟩
      | false =>
        have hnl : ∀ y ∈ l, ¬ (y.key = z.key ∧ y.p = z.p) := fun y hy q => by
          have := List.any_eq_false.1 hb y hy
          rw [one_iff] at this
          exact this q
        have lM := hMx.len hT7.good
        simp -dsimp only [go_sem, ↓reduceIte, Nat.reduceEqDiff, Nat.reduceAdd, Nat.reduceMul, Nat.reduceSub, Nat.reduceLeDiff, Nat.reduceLT, t1, t2, t8, t9, t10, t11, t12, t13, t14, t15, hb, rz7]
        refine SoundP_of (tlAdd z B H7 pb B Mb hT7 (by omega) (fun x hx => by have := lM.2 x hx; omega)) ?_
        rintro _ H8 ⟨M8, e, rfl, hT8, hadd, n8, fr8, ft8⟩
        obtain ⟨p8, ox8, dis8⟩ := frame_step hB p47 hT7 ox7 dis4 n8 fr8 ft8
        have rz8 : H8[zi]? = some (.row z.cells 5 true) := by rw [fr8 zi (by omega) zl]; exact rz7
        simp -dsimp only [go_sem, ↓reduceIte, Nat.reduceEqDiff, Nat.reduceAdd, Nat.reduceMul, Nat.reduceSub, Nat.reduceLeDiff, Nat.reduceLT, t1, t2, t8, t9, t10, t11, t12, t13, t14, t15, hb]
        refine acondP_of (fun he => ?_) (fun he => ?_)
        · have he0 : e = 0 := by simpa using he
          obtain ⟨v9, H9, e9, o9, le9, fr9, ow9⟩ := Own.app1b (enc := Seg.cells) un22 el22 inf32 rfl (by decide) (by decide) (fun _ => rfl) (fun _ => rfl) (b := B) (H := H8) (by omega) ox8 z (by omega)
          dsimp only [Seg.cells] at e9 rz8
          simp -dsimp only [go_sem, ↓reduceIte, Nat.reduceEqDiff, Nat.reduceAdd, Nat.reduceMul, Nat.reduceSub, Nat.reduceLeDiff, Nat.reduceLT, t1, t2, t8, t9, t10, t11, t12, t13, t14, t15, rz8, e9, w1]
          refine ⟨_, by omega, i + 1, M8, v9, ex ++ [z], rfl, by omega, rfl, rfl, ?_, ?_, o9, ?_, made_add hMx hr hadd he0, ?_, ?_⟩
          · refine List.prefix_iff_getElem?.2 fun j hj => ?_
            rw [fr9 j (by have := pre_len p8; omega) (fun q => by have := (ox8.owner_ge q).1; omega)]
            exact pre_get p8 (by simp [hj])
          · exact hT8.keep fun j hj => fr9 j (hT8.foot hj).2 fun q => dis8 j q hj
          · intro j hj q
            rcases ow9 j hj with q2 | q2
            · exact dis8 j q2 q
            · have := (hT8.foot q).2; omega
          · rw [List.length_append, List.length_singleton]; omega
          · intro y hy x hx
            rcases List.mem_append.1 hy with hy | hy
            · exact hxl y hy x hx
            · rw [List.mem_singleton] at hy; subst hy; exact hnl x hx
        · have he0 : e ≠ 0 := by simpa using he
          simp -dsimp only [go_sem, ↓reduceIte, Nat.reduceEqDiff, Nat.reduceAdd, Nat.reduceMul, Nat.reduceSub, Nat.reduceLeDiff, Nat.reduceLT, t1, t2, t8, t9, t10, t11, t12, t13, t14, t15, w1]
          refine ⟨_, by omega, i + 1, M8, vx, ex, rfl, by omega, rfl, rfl, p8, hT8, ox8, dis8, ?_, by omega, hxl⟩
          rw [addTo_ne hadd he0]; exact hMx
  rintro T H4 ⟨Mb, vx, ex, t2, t8, t9, t10, t11, p4, hT4, ox4, dis4, hMx, hx20, hxl⟩
  clear p3 hTb smp2
  have ho := made_once hMd hg0
  obtain ⟨r, hr⟩ : ∃ r : Nat, (r : Int) = absL turn % l.length := ⟨(absL turn % l.length).toNat, by
    rcases Nat.eq_zero_or_pos l.length with q | q
    · rw [q]; simp; omega
    · have := Int.emod_nonneg (absL turn) (b := (l.length : Int)) (by omega); omega⟩
  have hr2 : r < l.length ∨ l.length = 0 := by
    rcases Nat.eq_zero_or_pos l.length with q | q
    · exact .inr q
    · have := Int.emod_lt_of_pos (absL turn) (b := (l.length : Int)) (by omega); omega
  simp -dsimp only [go_sem, ↓reduceIte, Nat.reduceEqDiff, Nat.reduceAdd, Nat.reduceMul, Nat.reduceSub, Nat.reduceLeDiff, Nat.reduceLT, t2, t8, t9, t10, t11]
  refine aloopP_of (fun n T H' => ∃ (i : Nat) (Mb : List SetS) (tk : List Seg), n = l.length - i ∧ i ≤ l.length ∧ T 2 = .int .i64 turn ∧ T 8 = ptrV p ∧ T 9 = .slice al l.length cl ∧ T 10 = ptrV pb ∧ T 11 = vx ∧ T 16 = .int .i64 (i : Nat) ∧
      H2 <+: H' ∧ TimeAt B H' pb B Mb ∧ OwnS B H' vx ex ∧ (∀ j, owner vx = some j → ¬ footT pb B Mb j) ∧ Made (ex ++ tk) (cont Mb) ∧ TakenL l r i tk ∧ tk.length = i) (n := l.length) ?_ ?_
  · refine ⟨0, Mb, [], ?_⟩
    simp -dsimp only [go_sem, ↓reduceIte, Nat.reduceEqDiff, Nat.reduceAdd, Nat.reduceMul, Nat.reduceSub, Nat.reduceLeDiff, Nat.reduceLT, t2, t8, t9, t10, t11]
    exact ⟨rfl, Nat.zero_le _, rfl, p4, hT4, ox4, dis4, by simpa using hMx, ⟨by simp⟩⟩
  clear p4 hT4 ox4 dis4 hMx
  rintro n T H5 ⟨i, M5, tk, rfl, hi, t2, t8, t9, t10, t11, t16, p5, hT5, ox5, dis5, hM5, htk, hli⟩
  have nB := pre_len p5
  have lM := hM5.len hT5.good
  rw [List.length_append] at lM
  simp -dsimp only [go_sem, ↓reduceIte, Nat.reduceEqDiff, Nat.reduceAdd, Nat.reduceMul, Nat.reduceSub, Nat.reduceLeDiff, Nat.reduceLT, t2, t8, t9, t10, t11, t16]
  refine acondP_of (fun hc => ?_) (fun hc => ?_)
  · simp at hc
    have hrl : r < l.length := by omega
    have htl := tix_lt hc hrl
    obtain ⟨s, hsi⟩ := get_ex htl
    have hsm := List.mem_of_getElem? hsi
    obtain ⟨idl, offl, rfl, hatl⟩ := (sl2.pre p5).at (by omega)
    have gs := rowLoad_whole (hatl _ s hsi)
    have w1 := wrS (show i < 4611686018427387904 by omega)
    simp -dsimp only [go_sem, ↓reduceIte, Nat.reduceEqDiff, Nat.reduceAdd, Nat.reduceMul, Nat.reduceSub, Nat.reduceLeDiff, Nat.reduceLT, t2, t8, t9, t10, t11, t16, wr64 (i := (l.length : Int) - 1) (by omega) (by omega), wr64 (i := (l.length : Int) - 1 - i) (by omega) (by omega)]
    refine SoundP_of (absLaw turn _ (wfI ht)) ?_
    rintro _ _ ⟨rfl, rfl⟩
    simp -dsimp only [go_sem, ↓reduceIte, Nat.reduceEqDiff, Nat.reduceAdd, Nat.reduceMul, Nat.reduceSub, Nat.reduceLeDiff, Nat.reduceLT, t2, t8, t9, t10, t11, t16, show ((l.length : Int) = 0) = False by simp only [eq_iff_iff, iff_false]; omega, tm (b := (l.length : Int)) an, ← hr, wr64 (i := (l.length : Int) - 1 - i + r) (by omega) (by omega), tm (b := (l.length : Int)) (show 0 ≤ (l.length : Int) - 1 - i + r by omega), tix_mod hc hrl, inRange htl, gs]
    refine SoundP_of (tlAdd s B _ pb B M5 hT5 (by omega) (fun x hx => by have := lM.2 x hx; omega)) ?_
    rintro _ H6 ⟨M6, e, rfl, hT6, hadd, n6, fr6, ft6⟩
    obtain ⟨p6, ox6, dis6⟩ := frame_step hB p5 hT5 ox5 dis5 n6 fr6 ft6
    have he := made_new hM5 hT5.goodC (hMd.raw s hsm) (fun z hz hk hp => by
      rcases List.mem_append.1 hz with hz | hz
      · exact hxl z hz s hsm ⟨hk.symm, hp.symm⟩
      · exact taken_new ho hc hrl htk hsi z hz hk hp) hadd
    subst he
    simp -dsimp only [go_sem, ↓reduceIte, Nat.reduceEqDiff, Nat.reduceAdd, Nat.reduceMul, Nat.reduceSub, Nat.reduceLeDiff, Nat.reduceLT, t2, t8, t9, t10, t11, t16, w1, show ((0 : Int) != 0) = false from rfl]
    refine ⟨_, by omega, i + 1, M6, tk ++ [s], rfl, hc, rfl, p6, hT6, ox6, dis6, by rw [← List.append_assoc]; exact made_add hM5 (hMd.raw s hsm) hadd rfl, taken_step htk hsi, by simp [hli]⟩
  simp at hc
  obtain rfl : i = l.length := by omega
  have htm := taken_all hr2 htk
  clear htk
  simp -dsimp only [go_sem, ↓reduceIte, Nat.reduceEqDiff, Nat.reduceAdd, Nat.reduceMul, Nat.reduceSub, Nat.reduceLeDiff, Nat.reduceLT, t2, t8, t9, t10, t11, t16]
  refine aloopP_of (fun n T H' => ∃ (i : Nat) (Mb : List SetS), n = ex.length - i ∧ i ≤ ex.length ∧ T 8 = ptrV p ∧ T 10 = ptrV pb ∧ T 11 = vx ∧ T 17 = .int .i64 (i : Nat) ∧
      H2 <+: H' ∧ TimeAt B H' pb B Mb ∧ OwnS B H' vx ex ∧ (∀ j, owner vx = some j → ¬ footT pb B Mb j) ∧ Made (ex.drop i ++ tk) (cont Mb)) (n := ex.length) ?_ ?_
  · refine ⟨0, M5, ?_⟩
    simp -dsimp only [go_sem, ↓reduceIte, Nat.reduceEqDiff, Nat.reduceAdd, Nat.reduceMul, Nat.reduceSub, Nat.reduceLeDiff, Nat.reduceLT, t2, t8, t9, t10, t11, t16]
    exact ⟨rfl, Nat.zero_le _, rfl, p5, hT5, ox5, dis5, by simpa using hM5⟩
  clear p5 hT5 ox5 dis5 hM5 lM
  rintro n T H6 ⟨i, M6, rfl, hi, t8, t10, t11, t17, p6, hT6, ox6, dis6, hM6⟩
  have nB := pre_len p6
  obtain ⟨ax, cx, rfl, sx⟩ := ox6.sl (fun _ => rfl)
  simp -dsimp only [go_sem, ↓reduceIte, Nat.reduceEqDiff, Nat.reduceAdd, Nat.reduceMul, Nat.reduceSub, Nat.reduceLeDiff, Nat.reduceLT, t8, t10, t11, t17]
  refine acondP_of (fun hc => ?_) (fun hc => ?_)
  · simp at hc
    obtain ⟨s, hsi⟩ := get_ex hc
    obtain ⟨idx, offx, rfl, hatx⟩ := sx.at (by omega)
    rw [drop_get hsi, List.cons_append] at hM6
    simp -dsimp only [go_sem, ↓reduceIte, Nat.reduceEqDiff, Nat.reduceAdd, Nat.reduceMul, Nat.reduceSub, Nat.reduceLeDiff, Nat.reduceLT, t8, t10, t11, t17, inRange hc, rowLoad_whole (hatx i s hsi)]
    refine SoundP_of (tlRemove s B _ pb B M6 hT6 (by omega)) ?_
    rintro _ H7 ⟨M7, e, rfl, hT7, hrem, n7, fr7, ft7⟩
    obtain ⟨p7, ox7, dis7⟩ := frame_step hB p6 hT6 ox6 dis6 n7 fr7 ft7
    obtain ⟨rfl, hM7⟩ := made_rem hM6 hT6.goodC hrem
    simp -dsimp only [go_sem, ↓reduceIte, Nat.reduceEqDiff, Nat.reduceAdd, Nat.reduceMul, Nat.reduceSub, Nat.reduceLeDiff, Nat.reduceLT, t8, t10, t11, t17, wrS (show i < 4611686018427387904 by omega), show ((0 : Int) != 0) = false from rfl]
    exact ⟨_, by omega, i + 1, M7, rfl, hc, rfl, p7, hT7, ox7, dis7, hM7⟩
  simp at hc
  obtain rfl : i = ex.length := by omega
  rw [List.drop_length, List.nil_append] at hM6
  have hsame := made_same hMd hM6 hg0 hT6.goodC htm
  have hTa := hT.pre p6
  have lM := hMd.len hT.good
  have lM6 := hM6.len hT6.good
  have htl : tk.length ≤ 30 := by rw [hli]; exact hl
  have e1 := fun a b => same_look hg0 hT6.goodC hsame a b
  have e2 := same_vis hg0 hT6.goodC hsame
  have e3 := same_cover hg0 hT6.goodC hsame
  have hfl : ((cont M).flatMap fun x => x.2).length ≤ 30 := by rw [← hMd.perm.length_eq]; exact hl
  have hvL := Nat.le_trans (visL_len (cont M)) hfl
  have hcL := Nat.le_trans (coverL_len (cont M)) hfl
  have hPl := lookC_len hg0 (by rw [List.length_map]; omega) (fun x hx => by obtain ⟨y, hy, rfl⟩ := List.mem_map.1 hx; have := lM.2 y hy; show y.l.length ≤ 100; omega) 0 1099511627776
  have p7 := List.prefix_append H6 [AObj.row [.int .i64 0, .int .i64 1099511627776] 2 true]
  have r7 := get_end H6 (AObj.row [.int .i64 0, .int .i64 1099511627776] 2 true) []
  have hTa7 := hTa.pre p7
  have hTb7 := hT6.pre p7
  clear hTa hT6 p6 hT sl2 ox6 sx
  simp -dsimp only [go_sem, ↓reduceIte, Nat.reduceEqDiff, Nat.reduceAdd, Nat.reduceMul, Nat.reduceSub, Nat.reduceLeDiff, Nat.reduceLT, t8, t10, t11, t17]
  generalize H6 ++ [AObj.row [.int .i64 0, .int .i64 1099511627776] 2 true] = H7 at *
  generalize H6.length = ix at *
  refine adrawnP_of2 [(0, false), (1, false), (3, false), (4, false), (2, true), (5, false), (6, false), (7, false)] (by kernel_rfl) ?_
  simp -dsimp only [go_sem, ↓reduceIte, Nat.reduceEqDiff, Nat.reduceAdd, Nat.reduceMul, Nat.reduceSub, Nat.reduceLeDiff, Nat.reduceLT, t8, t10, t11, t17, r7]
  refine SoundP_of (tlLookup 0 1099511627776 H1.length H7 p m M hTa7 (by have := pre_len p7; have := hTa7.lt; have := hTa7.bp; omega) (fun x hx => by have := lM.2 x hx; omega)) ?_
  rintro v8 H8 ⟨o8, p8⟩
  refine grown_any p8 ?_
  have r8 := pre_get p8 r7
  simp -dsimp only [go_sem, ↓reduceIte, Nat.reduceEqDiff, Nat.reduceAdd, Nat.reduceMul, Nat.reduceSub, Nat.reduceLeDiff, Nat.reduceLT, t8, t10, t11, t17]
  refine SoundP_of (tlLookup 0 1099511627776 B H8 pb B M6 (hTb7.pre p8) (by have := pre_len p8; have := pre_len p7; omega) (fun x hx => by have := lM6.2 x hx; omega)) ?_
  rintro v9 H9 ⟨o9, p9⟩
  rw [← e1] at o9
  obtain ⟨a8, c8, rfl, s8⟩ := o8.sl (fun _ => rfl)
  obtain ⟨a9, c9, rfl, s9⟩ := o9.sl (fun _ => rfl)
  simp -dsimp only [go_sem, ↓reduceIte, Nat.reduceEqDiff, Nat.reduceAdd, Nat.reduceMul, Nat.reduceSub, Nat.reduceLeDiff, Nat.reduceLT, t8, t10, t11, t17]
  refine SoundP_of (samePieces _ _ a8 a9 c8 c9 H9 (s8.pre p9) s9 (by omega)) ?_
  rintro _ H10 ⟨rfl, p10⟩
  have p710 := p8.trans (p9.trans p10)
  have hTa10 := hTa7.pre p710
  have hTb10 := hTb7.pre p710
  simp -dsimp only [go_sem, ↓reduceIte, Nat.reduceEqDiff, Nat.reduceAdd, Nat.reduceMul, Nat.reduceSub, Nat.reduceLeDiff, Nat.reduceLT, t8, t10, t11, t17, decide_eq_true_eq]
  refine SoundP_of (tlVisible H1.length H10 p m M hTa10 (by omega) (fun x hx => by have := lM.2 x hx; omega)) ?_
  rintro v11 H11 ⟨o11, p11⟩
  simp -dsimp only [go_sem, ↓reduceIte, Nat.reduceEqDiff, Nat.reduceAdd, Nat.reduceMul, Nat.reduceSub, Nat.reduceLeDiff, Nat.reduceLT, t8, t10, t11, t17]
  refine SoundP_of (tlVisible B H11 pb B M6 (hTb10.pre p11) (by omega) (fun x hx => by have := lM6.2 x hx; omega)) ?_
  rintro v12 H12 ⟨o12, p12⟩
  rw [← e2] at o12
  obtain ⟨a11, c11, rfl, s11⟩ := o11.sl (fun _ => rfl)
  obtain ⟨a12, c12, rfl, s12⟩ := o12.sl (fun _ => rfl)
  simp -dsimp only [go_sem, ↓reduceIte, Nat.reduceEqDiff, Nat.reduceAdd, Nat.reduceMul, Nat.reduceSub, Nat.reduceLeDiff, Nat.reduceLT, t8, t10, t11, t17]
  refine SoundP_of (sameSegs _ _ a11 a12 c11 c12 H12 (s11.pre p12) s12 (by omega)) ?_
  rintro _ H13 ⟨rfl, p13⟩
  have p1013 := p11.trans (p12.trans p13)
  have hTa13 := hTa10.pre p1013
  have hTb13 := hTb10.pre p1013
  simp -dsimp only [go_sem, ↓reduceIte, Nat.reduceEqDiff, Nat.reduceAdd, Nat.reduceMul, Nat.reduceSub, Nat.reduceLeDiff, Nat.reduceLT, t8, t10, t11, t17, decide_true]
  refine SoundP_of (tlCovered H1.length H13 p m M hTa13 (by omega) (fun x hx => by have := lM.2 x hx; omega)) ?_
  rintro v14 H14 ⟨o14, p14⟩
  simp -dsimp only [go_sem, ↓reduceIte, Nat.reduceEqDiff, Nat.reduceAdd, Nat.reduceMul, Nat.reduceSub, Nat.reduceLeDiff, Nat.reduceLT, t8, t10, t11, t17]
  refine SoundP_of (tlCovered B H14 pb B M6 (hTb13.pre p14) (by omega) (fun x hx => by have := lM6.2 x hx; omega)) ?_
  rintro v15 H15 ⟨o15, p15⟩
  rw [← e3] at o15
  obtain ⟨a14, c14, rfl, s14⟩ := o14.sl (fun _ => rfl)
  obtain ⟨a15, c15, rfl, s15⟩ := o15.sl (fun _ => rfl)
  simp -dsimp only [go_sem, ↓reduceIte, Nat.reduceEqDiff, Nat.reduceAdd, Nat.reduceMul, Nat.reduceSub, Nat.reduceLeDiff, Nat.reduceLT, t8, t10, t11, t17]
  refine SoundP_of (sameSegs _ _ a14 a15 c14 c15 H15 (s14.pre p15) s15 (by omega)) ?_
  rintro _ H16 ⟨rfl, p16⟩
  simp -dsimp only [go_sem, ↓reduceIte, Nat.reduceEqDiff, Nat.reduceAdd, Nat.reduceMul, Nat.reduceSub, Nat.reduceLeDiff, Nat.reduceLT, t8, t10, t11, t17, decide_true]
end Go.Proofs.Ythbifkeadbmcnaa
