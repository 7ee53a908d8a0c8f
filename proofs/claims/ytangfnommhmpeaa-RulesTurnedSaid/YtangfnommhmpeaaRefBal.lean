/-
  The document's Balance.
-/
import Derived.Test.YtangfnommhmpeaaRBalance
set_option linter.unusedVariables false
set_option linter.unusedSimpArgs false
namespace Go.Proofs.Ytangfnommhmpeaa
open Go Go.AW Go.Bub
set_option linter.unusedSimpArgs false
set_option maxRecDepth 20000

theorem refBalance (segs : List Seg) (have_ : List Order) (nodes : List Int) (a1 a2 a3 : Option Addr) (c1 c2 c3 : Nat) (H : AHeap) (h1 : SegsAt H a1 segs) (h2 : OrdersAt H a2 have_) (h3 : IntsAt H a3 nodes) (l1 : segs.length < 1000) (l2 : have_.length < 1000) (l3 : nodes.length < 1000) :
    Sound Try.prog 15 [.slice a1 segs.length c1, .slice a2 have_.length c2, .slice a3 nodes.length c3] H fun v H' => OwnO H.length H' v (balanceL segs have_ nodes) ∧ H <+: H' := by
  refine Sound.of_body (rs := [.tmp 6]) mixed Try.func15 rfl (by kernel_rfl) rfl (by kernel_rfl) ?_
  simp -dsimp only [go_sem, ↓reduceIte, Nat.reduceEqDiff, Nat.reduceAdd, Nat.reduceMul, Nat.reduceSub, Nat.reduceLeDiff, Nat.reduceLT]
  refine SoundP_of (refLiving' nodes a3 c3 H h3 l3) ?_
  rintro vn H1 ⟨own1, p1⟩
  simp -dsimp only [go_sem, ↓reduceIte, Nat.reduceEqDiff, Nat.reduceAdd, Nat.reduceMul, Nat.reduceSub, Nat.reduceLeDiff, Nat.reduceLT]
  refine SoundP_of (refWanted' segs a1 c1 H1 (h1.pre p1) l1) ?_
  rintro vw H2 ⟨own2, p2⟩
  obtain ⟨an, cn, rfl, hn0⟩ := own1.sl (fun _ => rfl)
  obtain ⟨aw, cw, rfl, hw⟩ := own2.sl (fun _ => rfl)
  have hn := hn0.pre p2
  have nN := livingL_len nodes
  have nW := wantedL_len segs
  have hp2 := p1.trans p2
  unfold balanceL
  generalize livingL nodes = N at *
  generalize wantedL segs = W at *
  have hh := h2.pre hp2
  clear h1 h2 h3 hn0 own1 own2 p1 p2
  simp -dsimp only [go_sem, ↓reduceIte, Nat.reduceEqDiff, Nat.reduceAdd, Nat.reduceMul, Nat.reduceSub, Nat.reduceLeDiff, Nat.reduceLT]
  refine acondP_of (fun h0 => ?_) (fun h0 => ?_)
  · simp at h0
    subst h0
    simp -dsimp only [go_sem, ↓reduceIte, Nat.reduceEqDiff, Nat.reduceAdd, Nat.reduceMul, Nat.reduceSub, Nat.reduceLeDiff, Nat.reduceLT]
    exact ⟨Own.nil _ _ _ _, hp2⟩
  obtain ⟨x, l, rfl⟩ : ∃ x l, N = x :: l := List.exists_cons_of_ne_nil (by rintro rfl; simp at h0)
  obtain ⟨id, off, rfl, hat0⟩ := hn.at (by simp)
  have z0 := rowLoad_one0 (hat0 0 x rfl) (some 1)
  rw [Nat.zero_mul, Nat.add_zero] at z0
  generalize hL : (x :: l).length = L at *
  have hLl : L = l.length + 1 := by simpa using hL.symm
  simp only
  have ldb : ∀ n, loadW W (fun s n => have_.any (holdsP s n)) n ≤ W.length := fun n => List.countP_le_length
  have hld : ∀ n, (W.countP (loadP have_ n)) = loadW W (fun s n => have_.any (holdsP s n)) n := fun n => rfl
  generalize loadW W (fun s n => have_.any (holdsP s n)) = ld at *
  simp -dsimp only [go_sem, ↓reduceIte, Nat.reduceEqDiff, Nat.reduceAdd, Nat.reduceMul, Nat.reduceSub, Nat.reduceLeDiff, Nat.reduceLT, show (0 : Int) ≤ 0 ∧ (0 : Int) < (L : Int) from by omega, Nat.add_zero, z0]
  refine aloopP_of (fun m T H' => ∃ i, m = L - i ∧ 1 ≤ i ∧ i ≤ L ∧ H2 <+: H' ∧ T 1 = .slice a2 have_.length c2 ∧ T 7 = .slice (some ⟨id, off, none⟩) L cn ∧ T 8 = .slice aw W.length cw ∧ T 9 = .int .i64 (pickBy (fun y m => decide (ld m < ld y)) x (l.take (i - 1))) ∧ T 10 = .int .i64 (pickBy (fun y m => decide (ld y < ld m)) x (l.take (i - 1))) ∧ T 11 = .int .i64 i) (n := L - 1) ?_ ?_
  · refine ⟨1, ?_⟩
    simp -dsimp only [go_sem, ↓reduceIte, Nat.reduceEqDiff, Nat.reduceAdd, Nat.reduceMul, Nat.reduceSub, Nat.reduceLeDiff, Nat.reduceLT]
    exact ⟨by omega, List.prefix_refl _, rfl, rfl, rfl⟩
  rintro n T H' ⟨i, rfl, hi1, hi, hp, g1, g7, g8, g9, g10, g11⟩
  simp -dsimp only [go_sem, ↓reduceIte, Nat.reduceEqDiff, Nat.reduceAdd, Nat.reduceMul, Nat.reduceSub, Nat.reduceLeDiff, Nat.reduceLT, g1, g7, g8, g9, g10, g11]
  refine acondP_of (fun h => ?_) (fun h => ?_)
  · simp at h
    obtain ⟨j, rfl⟩ : ∃ j, i = j + 1 := ⟨i - 1, by omega⟩
    obtain ⟨y, hy⟩ := get_ex (show j < l.length by omega)
    have hy' : (x :: l)[j + 1]? = some y := by simpa using hy
    rw [Nat.add_sub_cancel] at g9 g10
    have step : ∀ c : Int → Int → Bool, pickBy c x (l.take (j + 1 + 1 - 1)) = if c y (pickBy c x (l.take j)) then y else pickBy c x (l.take j) := fun c => by
      rw [show j + 1 + 1 - 1 = j + 1 from rfl, take_get hy, pickBy_snoc]
    have i1 := inRange h
    have w1 := wrS (show j + 1 < 4611686018427387904 by omega)
    simp -dsimp only [go_sem, ↓reduceIte, Nat.reduceEqDiff, Nat.reduceAdd, Nat.reduceMul, Nat.reduceSub, Nat.reduceLeDiff, Nat.reduceLT, g1, g7, g8, g9, g10, g11, i1, rowLoad_one0 (aload_pre hp (hat0 _ y hy'))]
    refine SoundP_of (refLoad y W have_ aw a2 cw c2 H' (hw.pre hp) (hh.pre hp) (by omega) l2) ?_
    rintro v H3 ⟨rfl, q3⟩
    simp -dsimp only [go_sem, ↓reduceIte, Nat.reduceEqDiff, Nat.reduceAdd, Nat.reduceMul, Nat.reduceSub, Nat.reduceLeDiff, Nat.reduceLT, g1, g7, g8, g9, g10, g11]
    refine SoundP_of (refLoad (pickBy (fun y m => decide (ld m < ld y)) x (l.take j)) W have_ aw a2 cw c2 H3 ((hw.pre hp).pre q3) ((hh.pre hp).pre q3) (by omega) l2) ?_
    rintro v H4 ⟨rfl, q4⟩
    simp -dsimp only [go_sem, ↓reduceIte, Nat.reduceEqDiff, Nat.reduceAdd, Nat.reduceMul, Nat.reduceSub, Nat.reduceLeDiff, Nat.reduceLT, g1, g7, g8, g9, g10, g11]
    rw [hld, hld]
    have hp4 := (hp.trans q3).trans q4
    refine acond_join (fun T5 H5 => H5 = H4 ∧ T5 1 = .slice a2 have_.length c2 ∧ T5 7 = .slice (some ⟨id, off, none⟩) L cn ∧ T5 8 = .slice aw W.length cw ∧ T5 9 = .int .i64 (pickBy (fun y m => decide (ld m < ld y)) x (l.take (j + 1 + 1 - 1))) ∧ T5 10 = .int .i64 (pickBy (fun y m => decide (ld y < ld m)) x (l.take j)) ∧ T5 11 = .int .i64 ((j + 1 : Nat) : Int) ∧ T5 12 = .int .i64 (ld y)) ?_ ?_ ?_
    · intro hc
      simp -dsimp only [go_sem, ↓reduceIte, Nat.reduceEqDiff, Nat.reduceAdd, Nat.reduceMul, Nat.reduceSub, Nat.reduceLeDiff, Nat.reduceLT, g1, g7, g8, g9, g10, g11, i1, rowLoad_one0 (aload_pre hp4 (hat0 _ y hy'))]
      rw [step, if_pos (by simpa using hc)]
    · intro hc
      simp -dsimp only [go_sem, ↓reduceIte, Nat.reduceEqDiff, Nat.reduceAdd, Nat.reduceMul, Nat.reduceSub, Nat.reduceLeDiff, Nat.reduceLT, g1, g7, g8, g9, g10, g11]
      rw [step, if_neg (by simpa using hc)]
    · rintro T5 H5 ⟨rfl, f1, f7, f8, f9, f10, f11, f12⟩
      simp -dsimp only [go_sem, ↓reduceIte, Nat.reduceEqDiff, Nat.reduceAdd, Nat.reduceMul, Nat.reduceSub, Nat.reduceLeDiff, Nat.reduceLT, f1, f7, f8, f9, f10, f11, f12]
      refine SoundP_of (refLoad (pickBy (fun y m => decide (ld y < ld m)) x (l.take j)) W have_ aw a2 cw c2 H5 (hw.pre hp4) (hh.pre hp4) (by omega) l2) ?_
      rintro v H6 ⟨rfl, q6⟩
      simp -dsimp only [go_sem, ↓reduceIte, Nat.reduceEqDiff, Nat.reduceAdd, Nat.reduceMul, Nat.reduceSub, Nat.reduceLeDiff, Nat.reduceLT, f1, f7, f8, f9, f10, f11, f12]
      rw [hld]
      have hp6 := hp4.trans q6
      refine acondP_of (fun hc => ?_) (fun hc => ?_)
      · simp -dsimp only [go_sem, ↓reduceIte, Nat.reduceEqDiff, Nat.reduceAdd, Nat.reduceMul, Nat.reduceSub, Nat.reduceLeDiff, Nat.reduceLT, f1, f7, f8, f9, f10, f11, f12, i1, rowLoad_one0 (aload_pre hp6 (hat0 _ y hy')), w1]
        refine ⟨_, ?_, j + 1 + 1, rfl, by omega, h, hp6, rfl, ?_, rfl⟩
        · omega
        · rw [step, if_pos (by simpa using hc)]
      · simp -dsimp only [go_sem, ↓reduceIte, Nat.reduceEqDiff, Nat.reduceAdd, Nat.reduceMul, Nat.reduceSub, Nat.reduceLeDiff, Nat.reduceLT, f1, f7, f8, f9, f10, f11, f12, w1]
        refine ⟨_, ?_, j + 1 + 1, rfl, by omega, h, hp6, rfl, ?_, rfl⟩
        · omega
        · rw [step, if_neg (by simpa using hc)]
  simp at h
  obtain rfl : i = L := by omega
  rw [List.take_of_length_le (by omega)] at g9 g10
  generalize pickBy (fun y m => decide (ld m < ld y)) x l = A at *
  generalize pickBy (fun y m => decide (ld y < ld m)) x l = B at *
  simp -dsimp only [go_sem, ↓reduceIte, Nat.reduceEqDiff, Nat.reduceAdd, Nat.reduceMul, Nat.reduceSub, Nat.reduceLeDiff, Nat.reduceLT, g1, g7, g8, g9, g10, g11]
  refine SoundP_of (refLoad A W have_ aw a2 cw c2 H' (hw.pre hp) (hh.pre hp) (by omega) l2) ?_
  rintro v H3 ⟨rfl, q3⟩
  simp -dsimp only [go_sem, ↓reduceIte, Nat.reduceEqDiff, Nat.reduceAdd, Nat.reduceMul, Nat.reduceSub, Nat.reduceLeDiff, Nat.reduceLT, g1, g7, g8, g9, g10, g11]
  refine SoundP_of (refLoad B W have_ aw a2 cw c2 H3 ((hw.pre hp).pre q3) ((hh.pre hp).pre q3) (by omega) l2) ?_
  rintro v H4 ⟨rfl, q4⟩
  simp -dsimp only [go_sem, ↓reduceIte, Nat.reduceEqDiff, Nat.reduceAdd, Nat.reduceMul, Nat.reduceSub, Nat.reduceLeDiff, Nat.reduceLT, g1, g7, g8, g9, g10, g11]
  rw [hld, hld]
  have hp4 := (hp.trans q3).trans q4
  have b1 := ldb A
  have b2 := ldb B
  have wsub : IntKind.i64.wrap ((ld A : Int) - (ld B : Int)) = (ld A : Int) - (ld B : Int) := wrB (by omega) (by omega)
  simp -dsimp only [go_sem, ↓reduceIte, Nat.reduceEqDiff, Nat.reduceAdd, Nat.reduceMul, Nat.reduceSub, Nat.reduceLeDiff, Nat.reduceLT, g1, g7, g8, g9, g10, g11, wsub]
  have hcond : decide ((ld A : Int) - (ld B : Int) < 2) = decide (ld A < ld B + 2) := by rw [Bool.eq_iff_iff]; simp; omega
  rw [hcond]
  refine acondP_of (fun hc => ?_) (fun hc => ?_)
  · simp -dsimp only [go_sem, ↓reduceIte, Nat.reduceEqDiff, Nat.reduceAdd, Nat.reduceMul, Nat.reduceSub, Nat.reduceLeDiff, Nat.reduceLT, g1, g7, g8, g9, g10, g11]
    rw [if_pos (by simpa using hc)]
    exact ⟨Own.nil _ _ _ _, hp2.trans hp4⟩
  rw [if_neg (by simpa using hc)]
  clear h h0
  simp -dsimp only [go_sem, ↓reduceIte, Nat.reduceEqDiff, Nat.reduceAdd, Nat.reduceMul, Nat.reduceSub, Nat.reduceLeDiff, Nat.reduceLT, g1, g7, g8, g9, g10, g11]
  refine aloopP_of (fun n T H' => ∃ i, n = W.length - i ∧ i ≤ W.length ∧ H4 <+: H' ∧ T 1 = .slice a2 have_.length c2 ∧ T 8 = .slice aw W.length cw ∧ T 9 = .int .i64 A ∧ T 10 = .int .i64 B ∧ T 13 = .int .i64 i ∧ ∀ s ∈ W.take i, (have_.any (holdsP s A) && !have_.any (holdsP s B)) = false) (n := W.length) ?_ ?_
  · refine ⟨0, ?_⟩
    simp -dsimp only [go_sem, ↓reduceIte, Nat.reduceEqDiff, Nat.reduceAdd, Nat.reduceMul, Nat.reduceSub, Nat.reduceLeDiff, Nat.reduceLT, g1, g7, g8, g9, g10, g11]
    exact ⟨by omega, by omega, List.prefix_refl _, rfl, by simp⟩
  clear g1 g7 g8 g9 g10 g11
  rintro n T H' ⟨i, rfl, hi, hp5, g1, g8, g9, g10, g13, hno⟩
  have hp6 := hp4.trans hp5
  simp -dsimp only [go_sem, ↓reduceIte, Nat.reduceEqDiff, Nat.reduceAdd, Nat.reduceMul, Nat.reduceSub, Nat.reduceLeDiff, Nat.reduceLT, g1, g8, g9, g10, g13]
  refine acondP_of (fun hc => ?_) (fun hc => ?_)
  · simp at hc
    obtain ⟨s, hs⟩ := get_ex hc
    obtain ⟨id2, off2, rfl, hat2⟩ := hw.at (by omega)
    have w1 := wrS (show i < 4611686018427387904 by omega)
    have ir := inRange hc
    simp -dsimp only [go_sem, ↓reduceIte, Nat.reduceEqDiff, Nat.reduceAdd, Nat.reduceMul, Nat.reduceSub, Nat.reduceLeDiff, Nat.reduceLT, g1, g8, g9, g10, g13, ir, rowLoad_whole (aload_pre hp6 (hat2 i s hs))]
    refine SoundP_of (refHolds s A have_ a2 c2 H' (hh.pre hp6) l2) ?_
    rintro v H7 ⟨rfl, q7⟩
    simp -dsimp only [go_sem, ↓reduceIte, Nat.reduceEqDiff, Nat.reduceAdd, Nat.reduceMul, Nat.reduceSub, Nat.reduceLeDiff, Nat.reduceLT, g1, g8, g9, g10, g13]
    simp -dsimp only [go_sem, ↓reduceIte, Nat.reduceEqDiff, Nat.reduceAdd, Nat.reduceMul, Nat.reduceSub, Nat.reduceLeDiff, Nat.reduceLT, g1, g8, g9, g10, g13, ir, rowLoad_whole (aload_pre (hp6.trans q7) (hat2 i s hs))]
    refine SoundP_of (refHolds s B have_ a2 c2 H7 (hh.pre (hp6.trans q7)) l2) ?_
    rintro v H8 ⟨rfl, q8⟩
    simp -dsimp only [go_sem, ↓reduceIte, Nat.reduceEqDiff, Nat.reduceAdd, Nat.reduceMul, Nat.reduceSub, Nat.reduceLeDiff, Nat.reduceLT, g1, g8, g9, g10, g13]
    have hp8 := (hp6.trans q7).trans q8
    have ld8 := rowLoad_whole (aload_pre hp8 (hat2 i s hs))
    cases hA : have_.any (holdsP s A) with
    | false =>
      simp -dsimp only [go_sem, ↓reduceIte, Nat.reduceEqDiff, Nat.reduceAdd, Nat.reduceMul, Nat.reduceSub, Nat.reduceLeDiff, Nat.reduceLT, g1, g8, g9, g10, g13, w1]
      refine ⟨_, by omega, i + 1, rfl, hc, (hp5.trans q7).trans q8, rfl, fun t ht => ?_⟩
      rw [take_get hs, List.mem_append, List.mem_singleton] at ht
      rcases ht with ht | rfl
      · exact hno t ht
      · rw [hA]; rfl
    | true =>
      cases hB : have_.any (holdsP s B) with
      | true =>
        simp -dsimp only [go_sem, ↓reduceIte, Nat.reduceEqDiff, Nat.reduceAdd, Nat.reduceMul, Nat.reduceSub, Nat.reduceLeDiff, Nat.reduceLT, g1, g8, g9, g10, g13, w1]
        refine ⟨_, by omega, i + 1, rfl, hc, (hp5.trans q7).trans q8, rfl, fun t ht => ?_⟩
        rw [take_get hs, List.mem_append, List.mem_singleton] at ht
        rcases ht with ht | rfl
        · exact hno t ht
        · rw [hA, hB]; rfl
      | false =>
        have hfind : W.find? (fun s => have_.any (holdsP s A) && !have_.any (holdsP s B)) = some s := by
          rw [List.find?_eq_some_iff_append]
          refine ⟨by rw [hA, hB]; rfl, W.take i, W.drop (i + 1), ?_, fun t ht => by rw [hno t ht]; rfl⟩
          rw [← drop_get hs, List.take_append_drop]
        rw [hfind]
        simp -dsimp only [go_sem, ↓reduceIte, Nat.reduceEqDiff, Nat.reduceAdd, Nat.reduceMul, Nat.reduceSub, Nat.reduceLeDiff, Nat.reduceLT, g1, g8, g9, g10, g13]
        refine adrawnP_of2 [(0, false), (1, false), (2, false), (3, false), (4, false), (5, false), (6, false), (7, false), (8, false), (9, false), (10, false), (11, false), (12, false), (13, false)] (by kernel_rfl) ?_
        simp -dsimp only [go_sem, ↓reduceIte, Nat.reduceEqDiff, Nat.reduceAdd, Nat.reduceMul, Nat.reduceSub, Nat.reduceLeDiff, Nat.reduceLT, g1, g8, g9, g10, g13, ir, ld8]
        refine ⟨.inr ⟨H8.length, [], 2, by have := pre_len hp2; have := pre_len hp8; omega, rfl, by simp, .inr ⟨by decide, rfl⟩⟩, (hp2.trans hp8).trans (List.prefix_append _ _)⟩
  · simp at hc
    obtain rfl : i = W.length := by omega
    rw [List.take_length] at hno
    rw [List.find?_eq_none.2 (fun t ht => by rw [hno t ht]; simp)]
    simp -dsimp only [go_sem, ↓reduceIte, Nat.reduceEqDiff, Nat.reduceAdd, Nat.reduceMul, Nat.reduceSub, Nat.reduceLeDiff, Nat.reduceLT, g1, g8, g9, g10, g13]
    exact ⟨Own.nil _ _ _ _, hp2.trans hp6⟩
end Go.Proofs.Ytangfnommhmpeaa
