/-
  The walk of LineAll.
-/
import Derived.Test.YthbifkeadbmcnaaAwake
import Derived.Test.YthbifkeadbmcnaaPureAll
import Derived.Test.YthbifkeadbmcnaaAwTop
set_option linter.unusedVariables false
set_option linter.unusedSimpArgs false
namespace Go.Proofs.Ythbifkeadbmcnaa
open Go Go.AW
set_option linter.unusedSimpArgs false
set_option maxRecDepth 20000

theorem wfI {n : Int} (h : (Lit.int .i64 n).wf = true) : InI n := by
  simp [Lit.wf, IntKind.min, IntKind.max, IntKind.bits, IntKind.signed] at h
  unfold InI; omega
theorem lineAll (raw : List Seg) (time : Int) (a : Option Addr) (c : Nat) (H : AHeap) (hs : SegsAt H a raw) (ga : ArgSl a raw.length c) (hw : ∀ s ∈ raw, SegI s) (ht : (Lit.int .i64 time).wf = true) :
    Sound Try.prog 4 [.slice a raw.length c, .int .i64 time] H fun v _ => v = .bool true := by
  refine Sound.of_body (rs := [.tmp 4]) mixed Try.func4 rfl (by kernel_rfl) rfl (by kernel_rfl) ?_
  simp -dsimp only [go_sem, ↓reduceIte, Nat.reduceEqDiff, Nat.reduceAdd, Nat.reduceMul, Nat.reduceSub, Nat.reduceLeDiff, Nat.reduceLT]
  refine SoundP_of (awake H) ?_
  rintro _ H1 ⟨rfl, p1⟩
  simp -dsimp only [go_sem, ↓reduceIte, Nat.reduceEqDiff, Nat.reduceAdd, Nat.reduceMul, Nat.reduceSub, Nat.reduceLeDiff, Nat.reduceLT]
  refine SoundP_of (made raw a c 40 H1 (hs.pre p1) hw (by omega)) ?_
  rintro _ H2 ⟨p, m, M, vl, l, rfl, p2, hT, ol, hMd, hl, -⟩
  simp -dsimp only [go_sem, ↓reduceIte, Nat.reduceEqDiff, Nat.reduceAdd, Nat.reduceMul, Nat.reduceSub, Nat.reduceLeDiff, Nat.reduceLT]
  refine SoundP_of (absLaw time _ (wfI ht)) ?_
  rintro _ _ ⟨rfl, rfl⟩
  have an := absL_nn time
  simp -dsimp only [go_sem, ↓reduceIte, Nat.reduceEqDiff, Nat.reduceAdd, Nat.reduceMul, Nat.reduceSub, Nat.reduceLeDiff, Nat.reduceLT, show ((22 : Int) = 0) = False by simp, tm (b := 22) an]
  obtain ⟨n, hn⟩ : ∃ n : Int, absL time % 22 = n := ⟨_, rfl⟩
  have hn0 : 0 ≤ n ∧ n < 22 := by omega
  rw [hn]
  simp -dsimp only [go_sem, ↓reduceIte, Nat.reduceEqDiff, Nat.reduceAdd, Nat.reduceMul, Nat.reduceSub, Nat.reduceLeDiff, Nat.reduceLT, wr64 (i := n + 1) (by omega) (by omega)]
  have lM := hMd.len hT.good
  refine SoundP_of (tlLookup n (n + 1) H1.length _ p m M hT (by omega) (fun x hx => by have := lM.2 x hx; omega)) ?_
  rintro v8 H3 ⟨o8, p3⟩
  have h1 := all_holds hMd hT.goodC n
  have h2 := fun q => all_count hMd hT.goodC n (q := q)
  generalize lookC (cont M) n (n + 1) = P at *
  obtain ⟨a8, c8, rfl, s8⟩ := o8.sl (fun _ => rfl)
  obtain ⟨al, cl, rfl, sl0⟩ := ol.sl (fun _ => rfl)
  have sl := sl0.pre p3
  clear hs ga sl0 ol o8 hT
  simp -dsimp only [go_sem, ↓reduceIte, Nat.reduceEqDiff, Nat.reduceAdd, Nat.reduceMul, Nat.reduceSub, Nat.reduceLeDiff, Nat.reduceLT]
  refine aloopP_of (fun k T H' => ∃ i : Nat, k = l.length - i ∧ i ≤ l.length ∧ H3 <+: H' ∧ T 1 = .int .i64 n ∧ T 7 = .slice al l.length cl ∧ T 8 = .slice a8 P.length c8 ∧ T 9 = .bool ((l.take i).any (holdsAt l n)) ∧ T 10 = .int .i64 (i : Nat)) (n := l.length) ?_ ?_
  · refine ⟨0, ?_⟩
    simp -dsimp only [go_sem, ↓reduceIte, Nat.reduceEqDiff, Nat.reduceAdd, Nat.reduceMul, Nat.reduceSub, Nat.reduceLeDiff, Nat.reduceLT]
    exact ⟨rfl, Nat.zero_le _, List.prefix_refl _, rfl, rfl⟩
  rintro k T H4 ⟨i, rfl, hi, p4, t1, t7, t8, t9, t10⟩
  simp -dsimp only [go_sem, ↓reduceIte, Nat.reduceEqDiff, Nat.reduceAdd, Nat.reduceMul, Nat.reduceSub, Nat.reduceLeDiff, Nat.reduceLT, t1, t7, t8, t9, t10]
  refine acondP_of (fun hc => ?_) (fun hc => ?_)
  · simp at hc
    obtain ⟨z, hz⟩ := get_ex hc
    have hzr := hMd.raw z (List.mem_of_getElem? hz)
    obtain ⟨id, off, rfl, hat⟩ := (sl.pre p4).at (by omega)
    have hzz := hat i z hz
    have g2 := rowLoad_cell hzz
    have gF : ∀ mm, (H4[id]?).bind (rowLoad (some false) mm (off + i * 5 + 0 + 0)) = some (.int .i64 z.f) := fun mm => g2 mm 0 (by decide)
    have gT : ∀ mm, (H4[id]?).bind (rowLoad (some false) mm (off + i * 5 + 0 + 1)) = some (.int .i64 z.t) := fun mm => g2 mm 1 (by decide)
    have gw := rowLoad_whole hzz
    have stp : (l.take (i + 1)).any (holdsAt l n) = ((l.take i).any (holdsAt l n) || (decide (z.f ≤ n) && (decide (n < z.t) && wholeB l z))) := by
      rw [take_get hz, List.any_append]; simp [holdsAt]
    have w1 := wrS (show i < 4611686018427387904 by omega)
    cases hb : (l.take i).any (holdsAt l n) with
    | true =>
      simp -dsimp only [go_sem, ↓reduceIte, Nat.reduceEqDiff, Nat.reduceAdd, Nat.reduceMul, Nat.reduceSub, Nat.reduceLeDiff, Nat.reduceLT, t1, t7, t8, t9, t10, hb, w1]
      refine ⟨_, by omega, i + 1, rfl, hc, p4, ?_, rfl⟩
      rw [stp, hb]; rfl
    | false =>
      rw [hb] at stp
      cases e1 : decide (z.f ≤ n) with
      | false =>
        simp -dsimp only [go_sem, ↓reduceIte, Nat.reduceEqDiff, Nat.reduceAdd, Nat.reduceMul, Nat.reduceSub, Nat.reduceLeDiff, Nat.reduceLT, t1, t7, t8, t9, t10, hb, inRange hc, gF, gT, e1, w1]
        refine ⟨_, by omega, i + 1, rfl, hc, p4, ?_, rfl⟩
        rw [stp, e1]; rfl
      | true =>
        cases e2 : decide (n < z.t) with
        | false =>
          simp -dsimp only [go_sem, ↓reduceIte, Nat.reduceEqDiff, Nat.reduceAdd, Nat.reduceMul, Nat.reduceSub, Nat.reduceLeDiff, Nat.reduceLT, t1, t7, t8, t9, t10, hb, inRange hc, gF, gT, e1, e2, w1]
          refine ⟨_, by omega, i + 1, rfl, hc, p4, ?_, rfl⟩
          rw [stp, e1, e2]; rfl
        | true =>
          simp -dsimp only [go_sem, ↓reduceIte, Nat.reduceEqDiff, Nat.reduceAdd, Nat.reduceMul, Nat.reduceSub, Nat.reduceLeDiff, Nat.reduceLT, t1, t7, t8, t9, t10, hb, inRange hc, gF, gT, e1, e2, gw, w1]
          refine SoundP_of (lwhole l z (some ⟨id, off, none⟩) cl H4 (sl.pre p4) (by omega) (by have := hzr.c; omega)) ?_
          rintro _ H5 ⟨rfl, p5⟩
          simp -dsimp only [go_sem, ↓reduceIte, Nat.reduceEqDiff, Nat.reduceAdd, Nat.reduceMul, Nat.reduceSub, Nat.reduceLeDiff, Nat.reduceLT, t1, t7, t8, t9, t10, hb, e1, e2, w1]
          refine ⟨_, by omega, i + 1, rfl, hc, p4.trans p5, ?_, rfl⟩
          rw [stp, e1, e2]; rfl
  simp at hc
  rw [List.take_of_length_le hc, h1] at t9
  have e3 : decide ((0 : Int) < (P.length : Int)) = decide (0 < P.length) := by rw [Bool.eq_iff_iff]; simp
  simp -dsimp only [go_sem, ↓reduceIte, Nat.reduceEqDiff, Nat.reduceAdd, Nat.reduceMul, Nat.reduceSub, Nat.reduceLeDiff, Nat.reduceLT, t1, t7, t8, t9, t10, e3]
  rw [show (!(decide (0 < P.length) == decide (0 < P.length))) = false by simp]
  simp -dsimp only [go_sem, ↓reduceIte, Nat.reduceEqDiff, Nat.reduceAdd, Nat.reduceMul, Nat.reduceSub, Nat.reduceLeDiff, Nat.reduceLT, t1, t7, t8, t9, t10]
  refine aloopP_of (fun k T H' => ∃ i q : Nat, k = l.length - i ∧ i ≤ l.length ∧ H4 <+: H' ∧ T 7 = .slice al l.length cl ∧ T 8 = .slice a8 P.length c8 ∧ T 11 = .int .i64 (q : Nat) ∧ q ≤ i ∧ T 12 = .int .i64 (i : Nat) ∧ (P.length = 0 → q = 0) ∧ (∀ x, P[0]? = some x → q = (l.take i).countP (fun z => decide (z.key = x.seg.key)))) (n := l.length) ?_ ?_
  · refine ⟨0, 0, ?_⟩
    simp -dsimp only [go_sem, ↓reduceIte, Nat.reduceEqDiff, Nat.reduceAdd, Nat.reduceMul, Nat.reduceSub, Nat.reduceLeDiff, Nat.reduceLT, t1, t7, t8, t9, t10]
    exact ⟨rfl, Nat.zero_le _, List.prefix_refl _, rfl, rfl, fun _ => trivial, fun x _ => rfl⟩
  rintro k T H5 ⟨i, q, rfl, hi, p5, t7, t8, t11, hqi, t12, hq0, hq1⟩
  simp -dsimp only [go_sem, ↓reduceIte, Nat.reduceEqDiff, Nat.reduceAdd, Nat.reduceMul, Nat.reduceSub, Nat.reduceLeDiff, Nat.reduceLT, t7, t8, t11, t12]
  refine acondP_of (fun hc => ?_) (fun hc => ?_)
  · simp at hc
    obtain ⟨z, hz⟩ := get_ex hc
    have p35 := p4.trans p5
    obtain ⟨id, off, rfl, hat⟩ := (sl.pre p35).at (by omega)
    have hzz := rowLoad_whole (hat i z hz)
    have w1 := wrS (show i < 4611686018427387904 by omega)
    have w2 := wrS (show q < 4611686018427387904 by omega)
    simp -dsimp only [go_sem, ↓reduceIte, Nat.reduceEqDiff, Nat.reduceAdd, Nat.reduceMul, Nat.reduceSub, Nat.reduceLeDiff, Nat.reduceLT, t7, t8, t11, t12]
    refine adrawnP_of2 [(0, false), (1, false), (2, false), (3, false), (4, false), (5, false), (6, false), (7, false), (8, false), (9, false), (10, false), (11, false), (12, false), (13, false)] (by kernel_rfl) ?_
    rcases Nat.eq_zero_or_pos P.length with hP | hP
    · have e0 : decide ((0 : Int) < (P.length : Int)) = false := by simp [hP]
      simp -dsimp only [go_sem, ↓reduceIte, Nat.reduceEqDiff, Nat.reduceAdd, Nat.reduceMul, Nat.reduceSub, Nat.reduceLeDiff, Nat.reduceLT, t7, t8, t11, t12, e0, w1]
      refine ⟨_, by omega, i + 1, q, rfl, hc, p5, rfl, by omega, rfl, hq0, fun x hx => ?_⟩
      rw [List.getElem?_eq_none (by omega)] at hx; cases hx
    · obtain ⟨x, hx⟩ := get_ex hP
      have e0 : decide ((0 : Int) < (P.length : Int)) = true := by simp; omega
      obtain ⟨id8, off8, rfl, hat8⟩ := (s8.pre p35).at hP
      have hxx := rowLoad_whole (aload_sub (hat8 0 x hx) 0 5 (by decide))
      have i0 : ((0 : Int) ≤ 0 ∧ (0 : Int) < (P.length : Int)) = True := by simp; omega
      have hcnt := hq1 x hx
      have stp : (l.take (i + 1)).countP (fun z => decide (z.key = x.seg.key)) = (l.take i).countP (fun z => decide (z.key = x.seg.key)) + if z.key = x.seg.key then 1 else 0 := by
        rw [take_get hz, List.countP_append]; simp
      simp -dsimp only [go_sem, ↓reduceIte, Nat.reduceEqDiff, Nat.reduceAdd, Nat.reduceMul, Nat.reduceSub, Nat.reduceLeDiff, Nat.reduceLT, t7, t8, t11, t12, e0, i0, inRange hc, hzz, hxx, show (0 : Int).toNat = 0 from rfl]
      refine SoundP_of (refOne z x.seg H5) ?_
      rintro _ H6 ⟨rfl, p6⟩
      simp -dsimp only [go_sem, ↓reduceIte, Nat.reduceEqDiff, Nat.reduceAdd, Nat.reduceMul, Nat.reduceSub, Nat.reduceLeDiff, Nat.reduceLT, t7, t8, t11, t12, e0]
      refine acondP_of (fun hk => ?_) (fun hk => ?_)
      · have hk := of_decide_eq_true hk
        simp -dsimp only [go_sem, ↓reduceIte, Nat.reduceEqDiff, Nat.reduceAdd, Nat.reduceMul, Nat.reduceSub, Nat.reduceLeDiff, Nat.reduceLT, t7, t8, t11, t12, w1, w2]
        refine ⟨_, by omega, i + 1, q + 1, rfl, hc, p5.trans p6, rfl, by omega, rfl, fun h => by omega, fun y hy => ?_⟩
        rw [hx] at hy; cases hy
        rw [stp, if_pos hk, hcnt]
      · have hk := of_decide_eq_false hk
        simp -dsimp only [go_sem, ↓reduceIte, Nat.reduceEqDiff, Nat.reduceAdd, Nat.reduceMul, Nat.reduceSub, Nat.reduceLeDiff, Nat.reduceLT, t7, t8, t11, t12, w1]
        refine ⟨_, by omega, i + 1, q, rfl, hc, p5.trans p6, rfl, by omega, rfl, hq0, fun y hy => ?_⟩
        rw [hx] at hy; cases hy
        rw [stp, if_neg hk, hcnt]; rfl
  simp at hc
  simp -dsimp only [go_sem, ↓reduceIte, Nat.reduceEqDiff, Nat.reduceAdd, Nat.reduceMul, Nat.reduceSub, Nat.reduceLeDiff, Nat.reduceLT, t7, t8, t11, t12]
  have e : q = P.length := by
    rcases Nat.eq_zero_or_pos P.length with hP | hP
    · rw [hq0 hP, hP]
    · obtain ⟨x, hx⟩ := get_ex hP
      rw [hq1 x hx, List.take_of_length_le hc, h2 x hx]
  subst e
  simp
end Go.Proofs.Ythbifkeadbmcnaa
