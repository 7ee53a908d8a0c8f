/-
  RulesEvens: asked again and again, Balance comes to an end, and then loads differ by no more than one.
-/
import Derived.Test.YtangfnommhmpeaaLaw2
import Derived.Test.YtangfnommhmpeaaPure2
import Derived.Test.YtangfnommhmpeaaAwLoop
set_option linter.unusedVariables false
set_option linter.unusedSimpArgs false
namespace Go.Proofs.Ytangfnommhmpeaa
open Go Go.AW Go.Bub
set_option linter.unusedSimpArgs false
set_option maxRecDepth 20000

theorem rulesEvens (segs : List Seg) (have_ : List Order) (nodes : List Int) (a1 a2 a3 : Option Addr) (c1 c2 c3 : Nat) (H : AHeap) (h1 : SegsAt H a1 segs) (h2 : OrdersAt H a2 have_) (h3 : IntsAt H a3 nodes) (g1 : ArgSl a1 segs.length c1) (g2 : ArgSl a2 have_.length c2) (g3 : ArgSl a3 nodes.length c3) :
    Sound Try.prog 7 [.slice a1 segs.length c1, .slice a2 have_.length c2, .slice a3 nodes.length c3] H fun v _ => v = .bool true := by
  refine Sound.of_body (rs := [.tmp 6]) mixed Try.func7 rfl (by kernel_rfl) rfl (by kernel_rfl) ?_
  simp -dsimp only [go_sem, ↓reduceIte, Nat.reduceEqDiff, Nat.reduceAdd, Nat.reduceMul, Nat.reduceSub, Nat.reduceLeDiff, Nat.reduceLT]
  refine SoundP_of (awake H) ?_
  rintro _ H1 ⟨rfl, p1⟩
  simp -dsimp only [go_sem, ↓reduceIte, Nat.reduceEqDiff, Nat.reduceAdd, Nat.reduceMul, Nat.reduceSub, Nat.reduceLeDiff, Nat.reduceLT]
  refine SoundP_of (few segs have_ nodes a1 a2 a3 c1 c2 c3 H1 (h1.pre p1) (h2.pre p1) (h3.pre p1) g1 g2 g3) ?_
  rintro _ H0 ⟨rfl, b1, d1, b2, d2, b3, d3, rfl, s1, s2, s3⟩
  have n1 : (segs.take 24).length ≤ 24 := by rw [List.length_take]; omega
  have n2 : (have_.take 60).length ≤ 60 := by rw [List.length_take]; omega
  have n3 : (nodes.take 12).length ≤ 12 := by rw [List.length_take]; omega
  generalize segs.take 24 = segs at *
  generalize have_.take 60 = have_ at *
  generalize nodes.take 12 = nodes at *
  simp -dsimp only [go_sem, ↓reduceIte, Nat.reduceEqDiff, Nat.reduceAdd, Nat.reduceMul, Nat.reduceSub, Nat.reduceLeDiff, Nat.reduceLT]
  refine SoundP_of (refLiving' nodes b3 d3 _ s3 (by omega)) ?_
  rintro _ H2 ⟨own2, p2⟩
  obtain ⟨bn, dn, rfl, hn⟩ := own2.sl (fun _ => rfl)
  have hNl := livingL_len nodes
  simp -dsimp only [go_sem, ↓reduceIte, Nat.reduceEqDiff, Nat.reduceAdd, Nat.reduceMul, Nat.reduceSub, Nat.reduceLeDiff, Nat.reduceLT]
  refine SoundP_of (refWanted' segs b1 d1 _ (s1.pre p2) (by omega)) ?_
  rintro _ H3 ⟨own3, p3⟩
  obtain ⟨bs, ds, rfl, hs⟩ := own3.sl (fun _ => rfl)
  have hWl := wantedL_len segs
  simp -dsimp only [go_sem, ↓reduceIte, Nat.reduceEqDiff, Nat.reduceAdd, Nat.reduceMul, Nat.reduceSub, Nat.reduceLeDiff, Nat.reduceLT]
  refine SoundP_of (rApply have_ [] b2 none d2 0 _ (s2.pre (p2.trans p3)) (SlA.nil _ _ _ _) (by omega) (by decide)) ?_
  rintro _ H4 ⟨own4, p4⟩
  obtain ⟨bw, dw, rfl, hw4⟩ := own4.sl (fun _ => rfl)
  have p04 := (p2.trans p3).trans p4
  have r1 := s1.pre p04
  have r2 := s2.pre p04
  have r3 := s3.pre p04
  have hn4 := hn.pre (p3.trans p4)
  have hs4 := hs.pre p4
  have hnow := applyL_len have_ []
  rw [List.length_nil, Nat.add_zero] at hnow
  have hnow : (applyL have_ []).length ≤ 60 := by omega
  have hsame : ∀ s, (livingL nodes).countP (hasW (applyL have_ []) s) = (livingL nodes).countP (hasW have_ s) := fun s => by rw [hasW_nil]
  have hsays := fun now => balance_says segs now nodes
  have hN := livingL_sorted nodes
  have hW := wantedL_sorted segs
  clear s1 s2 s3 hn hs h1 h2 h3 g1 g2 g3 p1 p2 p3 p4 p04 own2 own3 own4
  generalize livingL nodes = N at *
  generalize wantedL segs = W at *
  generalize applyL have_ [] = now at *
  have near : N = [] ∨ ∃ q, Mean N W (hasW now) q ∧ far N W (hasW now) q ≤ 288 := by
    by_cases q : N = []
    · exact .inl q
    · obtain ⟨x, hm, hx⟩ := mean_ex N W (hasW now) q
      have := far_le N W (hasW now) hx
      have : W.length * N.length ≤ 24 * 12 := Nat.mul_le_mul (by omega) (by omega)
      exact .inr ⟨x, hm, by omega⟩
  simp -dsimp only [go_sem, ↓reduceIte, Nat.reduceEqDiff, Nat.reduceAdd, Nat.reduceMul, Nat.reduceSub, Nat.reduceLeDiff, Nat.reduceLT]
  refine aloop_join (fun T H' => ∃ now bw dw, H4 <+: H' ∧ T 1 = .slice b2 have_.length d2 ∧ T 8 = .slice bn N.length dn ∧ T 9 = .slice bs W.length ds ∧ T 10 = .slice bw now.length dw ∧ OrdersAt H' bw now ∧ now.length < 900 ∧ Even N W (hasW now) ∧ ∀ s, N.countP (hasW now s) = N.countP (hasW have_ s))
    (fun m T H' => ∃ n now bw dw, m = 288 - n ∧ n ≤ 288 ∧ H4 <+: H' ∧ T 0 = .slice b1 segs.length d1 ∧ T 1 = .slice b2 have_.length d2 ∧ T 2 = .slice b3 nodes.length d3 ∧ T 8 = .slice bn N.length dn ∧ T 9 = .slice bs W.length ds ∧ T 10 = .slice bw now.length dw ∧ T 11 = .int .i64 (n : Nat) ∧ OrdersAt H' bw now ∧ now.length ≤ 60 + 2 * n ∧ (N = [] ∨ ∃ q, Mean N W (hasW now) q ∧ far N W (hasW now) q + n ≤ 288) ∧ ∀ s, N.countP (hasW now s) = N.countP (hasW have_ s)) (n := 288) ?_ ?_ ?_
  · refine ⟨0, now, bw, dw, ?_⟩
    simp -dsimp only [go_sem, ↓reduceIte, Nat.reduceEqDiff, Nat.reduceAdd, Nat.reduceMul, Nat.reduceSub, Nat.reduceLeDiff, Nat.reduceLT]
    exact ⟨List.prefix_refl _, rfl, hw4, hnow, near, hsame⟩
  · clear hw4 hnow near hsame
    rintro m T H' ⟨n, now, bw, dw, rfl, hni, hp, g0, g1, g2, g8, g9, g10, g11, hw, hnow, near, hsame⟩
    simp -dsimp only [go_sem, ↓reduceIte, Nat.reduceEqDiff, Nat.reduceAdd, Nat.reduceMul, Nat.reduceSub, Nat.reduceLeDiff, Nat.reduceLT, g0, g1, g2, g8, g9, g10, g11]
    refine acondP_of (fun h => ?_) (fun h => ?_)
    · simp at h
      simp -dsimp only [go_sem, ↓reduceIte, Nat.reduceEqDiff, Nat.reduceAdd, Nat.reduceMul, Nat.reduceSub, Nat.reduceLeDiff, Nat.reduceLT, g0, g1, g2, g8, g9, g10, g11]
      refine SoundP_of (rBalance segs now nodes b1 bw b3 d1 dw d3 _ (r1.pre hp) hw (r3.pre hp) (by omega) (by omega) (by omega)) ?_
      rintro _ H5 ⟨own5, q5⟩
      obtain ⟨bx, dx, rfl, hx5⟩ := own5.sl (fun _ => rfl)
      rcases hsays now with ⟨hb, heven⟩ | ⟨s, a, b, hb, hmv⟩
      · rw [hb] at hx5 ⊢
        simp -dsimp only [go_sem, ↓reduceIte, Nat.reduceEqDiff, Nat.reduceAdd, Nat.reduceMul, Nat.reduceSub, Nat.reduceLeDiff, Nat.reduceLT, g0, g1, g2, g8, g9, g10, g11]
        refine acondP_of (fun _ => ?_) (fun h => absurd h (by decide))
        simp -dsimp only [go_sem, ↓reduceIte, Nat.reduceEqDiff, Nat.reduceAdd, Nat.reduceMul, Nat.reduceSub, Nat.reduceLeDiff, Nat.reduceLT, g0, g1, g2, g8, g9, g10, g11]
        exact ⟨now, _, _, hp.trans q5, rfl, hw.pre q5, by omega, heven, hsame⟩
      · rw [hb] at hx5 ⊢
        simp -dsimp only [go_sem, ↓reduceIte, Nat.reduceEqDiff, Nat.reduceAdd, Nat.reduceMul, Nat.reduceSub, Nat.reduceLeDiff, Nat.reduceLT, g0, g1, g2, g8, g9, g10, g11]
        refine acondP_of (fun h => absurd h (by decide)) (fun _ => ?_)
        simp -dsimp only [go_sem, ↓reduceIte, Nat.reduceEqDiff, Nat.reduceAdd, Nat.reduceMul, Nat.reduceSub, Nat.reduceLeDiff, Nat.reduceLT, g0, g1, g2, g8, g9, g10, g11]
        refine SoundP_of (rApply2 now [⟨false, s, b⟩, ⟨true, s, a⟩] bw bx dw dx _ (hw.pre q5) hx5 (by simp only [List.length_cons, List.length_nil]; omega)) ?_
        rintro _ H6 ⟨own6, q6⟩
        obtain ⟨by_, dy, rfl, hy6⟩ := own6.sl (fun _ => rfl)
        have hlen := applyL_len now [⟨false, s, b⟩, ⟨true, s, a⟩]
        simp only [List.length_cons, List.length_nil] at hlen
        have hh : hasW (applyL now [⟨false, s, b⟩, ⟨true, s, a⟩]) = moved (hasW now) s a b := hasW_apply _ _
        generalize applyL now [⟨false, s, b⟩, ⟨true, s, a⟩] = now' at *
        simp -dsimp only [go_sem, ↓reduceIte, Nat.reduceEqDiff, Nat.reduceAdd, Nat.reduceMul, Nat.reduceSub, Nat.reduceLeDiff, Nat.reduceLT, g0, g1, g2, g8, g9, g10, g11, wrS (show n < 4611686018427387904 by omega)]
        refine ⟨_, by omega, n + 1, now', by_, dy, rfl, by omega, (hp.trans q5).trans q6, rfl, rfl, hy6, by omega, ?_, fun t => by rw [hh, hmv.counts hN t]; exact hsame t⟩
        rcases near with near | ⟨q, hq, hf⟩
        · exact .inl near
        · refine .inr ⟨q, ⟨?_, ?_⟩, ?_⟩
          · rw [hh, hmv.total hW hN]; exact hq.lo
          · rw [hh, hmv.total hW hN]; exact hq.hi
          · rw [hh]; have := hmv.nearer hW hN hq; omega
    · simp at h
      obtain rfl : n = 288 := by omega
      simp -dsimp only [go_sem, ↓reduceIte, Nat.reduceEqDiff, Nat.reduceAdd, Nat.reduceMul, Nat.reduceSub, Nat.reduceLeDiff, Nat.reduceLT, g0, g1, g2, g8, g9, g10, g11]
      refine ⟨now, _, _, hp, rfl, hw, by omega, ?_, hsame⟩
      rcases near with rfl | ⟨q, hq, hf⟩
      · exact fun n hn => by cases hn
      · exact far_even (q := q) (by omega)
  · rintro T H' ⟨now, bw, dw, hp, g1, g8, g9, g10, hw, hnow, heven, hsame⟩
    simp -dsimp only [go_sem, ↓reduceIte, Nat.reduceEqDiff, Nat.reduceAdd, Nat.reduceMul, Nat.reduceSub, Nat.reduceLeDiff, Nat.reduceLT, g1, g8, g9, g10]
    refine aloopP_of (fun m T H5 => ∃ i lo mo : Nat, m = N.length - i ∧ i ≤ N.length ∧ H' <+: H5 ∧ T 1 = .slice b2 have_.length d2 ∧ T 8 = .slice bn N.length dn ∧ T 9 = .slice bs W.length ds ∧ T 10 = .slice bw now.length dw ∧ T 13 = .int .i64 lo ∧ T 14 = .int .i64 mo ∧ T 15 = .int .i64 i ∧ (i = 0 ∨ ∃ n ∈ N, lo = loadW W (hasW now) n) ∧ (mo = 0 ∨ ∃ n ∈ N, mo = loadW W (hasW now) n)) (n := N.length) ?_ ?_
    · refine ⟨0, 0, 0, ?_⟩
      simp -dsimp only [go_sem, ↓reduceIte, Nat.reduceEqDiff, Nat.reduceAdd, Nat.reduceMul, Nat.reduceSub, Nat.reduceLeDiff, Nat.reduceLT, g1, g8, g9, g10]
      refine ⟨by omega, by omega, List.prefix_refl _, rfl, rfl, rfl, ?_⟩
      simp
    clear g1 g8 g9 g10
    rintro m T H5 ⟨i, lo, mo, rfl, hi, hp5, g1, g8, g9, g10, g13, g14, g15, hlo, hmo⟩
    simp -dsimp only [go_sem, ↓reduceIte, Nat.reduceEqDiff, Nat.reduceAdd, Nat.reduceMul, Nat.reduceSub, Nat.reduceLeDiff, Nat.reduceLT, g1, g8, g9, g10, g13, g14, g15]
    refine acondP_of (fun h => ?_) (fun h => ?_)
    · simp at h
      obtain ⟨x, hx⟩ := get_ex h
      have hxN := List.mem_of_getElem? hx
      obtain ⟨idn, offn, rfl, hatn⟩ := hn4.at (by omega)
      have w1 := wrS (show i < 4611686018427387904 by omega)
      simp -dsimp only [go_sem, ↓reduceIte, Nat.reduceEqDiff, Nat.reduceAdd, Nat.reduceMul, Nat.reduceSub, Nat.reduceLeDiff, Nat.reduceLT, g1, g8, g9, g10, g13, g14, g15, inRange h, rowLoad_one0 (aload_pre (hp.trans hp5) (hatn i x hx))]
      refine SoundP_of (refLoad x W now bs bw ds dw _ (hs4.pre (hp.trans hp5)) (hw.pre hp5) (by omega) (by omega)) ?_
      rintro v H6 ⟨rfl, q6⟩
      simp -dsimp only [go_sem, ↓reduceIte, Nat.reduceEqDiff, Nat.reduceAdd, Nat.reduceMul, Nat.reduceSub, Nat.reduceLeDiff, Nat.reduceLT, g1, g8, g9, g10, g13, g14, g15]
      rw [show W.countP (loadP now x) = loadW W (hasW now) x from rfl]
      cases e0 : (((i : Nat) : Int) == 0) with
      | false =>
        have hlo' : ∃ n ∈ N, lo = loadW W (hasW now) n := hlo.resolve_left (by simpa using e0)
        simp -dsimp only [go_sem, ↓reduceIte, Nat.reduceEqDiff, Nat.reduceAdd, Nat.reduceMul, Nat.reduceSub, Nat.reduceLeDiff, Nat.reduceLT, g1, g8, g9, g10, g13, g14, g15, e0]
        refine acondP_of (fun hc => ?_) (fun hc => ?_)
        · simp -dsimp only [go_sem, ↓reduceIte, Nat.reduceEqDiff, Nat.reduceAdd, Nat.reduceMul, Nat.reduceSub, Nat.reduceLeDiff, Nat.reduceLT, g1, g8, g9, g10, g13, g14, g15]
          refine acondP_of (fun hc => ?_) (fun hc => ?_)
          · simp -dsimp only [go_sem, ↓reduceIte, Nat.reduceEqDiff, Nat.reduceAdd, Nat.reduceMul, Nat.reduceSub, Nat.reduceLeDiff, Nat.reduceLT, g1, g8, g9, g10, g13, g14, g15, w1]
            exact ⟨_, by omega, i + 1, loadW W (hasW now) x, loadW W (hasW now) x, rfl, h, hp5.trans q6, rfl, rfl, rfl, .inr ⟨x, hxN, rfl⟩, .inr ⟨x, hxN, rfl⟩⟩
          · simp -dsimp only [go_sem, ↓reduceIte, Nat.reduceEqDiff, Nat.reduceAdd, Nat.reduceMul, Nat.reduceSub, Nat.reduceLeDiff, Nat.reduceLT, g1, g8, g9, g10, g13, g14, g15, w1]
            exact ⟨_, by omega, i + 1, loadW W (hasW now) x, mo, rfl, h, hp5.trans q6, rfl, rfl, rfl, .inr ⟨x, hxN, rfl⟩, hmo⟩
        · simp -dsimp only [go_sem, ↓reduceIte, Nat.reduceEqDiff, Nat.reduceAdd, Nat.reduceMul, Nat.reduceSub, Nat.reduceLeDiff, Nat.reduceLT, g1, g8, g9, g10, g13, g14, g15]
          refine acondP_of (fun hc => ?_) (fun hc => ?_)
          · simp -dsimp only [go_sem, ↓reduceIte, Nat.reduceEqDiff, Nat.reduceAdd, Nat.reduceMul, Nat.reduceSub, Nat.reduceLeDiff, Nat.reduceLT, g1, g8, g9, g10, g13, g14, g15, w1]
            exact ⟨_, by omega, i + 1, lo, loadW W (hasW now) x, rfl, h, hp5.trans q6, rfl, rfl, rfl, .inr hlo', .inr ⟨x, hxN, rfl⟩⟩
          · simp -dsimp only [go_sem, ↓reduceIte, Nat.reduceEqDiff, Nat.reduceAdd, Nat.reduceMul, Nat.reduceSub, Nat.reduceLeDiff, Nat.reduceLT, g1, g8, g9, g10, g13, g14, g15, w1]
            exact ⟨_, by omega, i + 1, lo, mo, rfl, h, hp5.trans q6, rfl, rfl, rfl, .inr hlo', hmo⟩
      | true =>
        simp -dsimp only [go_sem, ↓reduceIte, Nat.reduceEqDiff, Nat.reduceAdd, Nat.reduceMul, Nat.reduceSub, Nat.reduceLeDiff, Nat.reduceLT, g1, g8, g9, g10, g13, g14, g15, e0]
        refine acondP_of (fun hc => ?_) (fun hc => ?_)
        · simp -dsimp only [go_sem, ↓reduceIte, Nat.reduceEqDiff, Nat.reduceAdd, Nat.reduceMul, Nat.reduceSub, Nat.reduceLeDiff, Nat.reduceLT, g1, g8, g9, g10, g13, g14, g15, w1]
          exact ⟨_, by omega, i + 1, loadW W (hasW now) x, loadW W (hasW now) x, rfl, h, hp5.trans q6, rfl, rfl, rfl, .inr ⟨x, hxN, rfl⟩, .inr ⟨x, hxN, rfl⟩⟩
        · simp -dsimp only [go_sem, ↓reduceIte, Nat.reduceEqDiff, Nat.reduceAdd, Nat.reduceMul, Nat.reduceSub, Nat.reduceLeDiff, Nat.reduceLT, g1, g8, g9, g10, g13, g14, g15, w1]
          exact ⟨_, by omega, i + 1, loadW W (hasW now) x, mo, rfl, h, hp5.trans q6, rfl, rfl, rfl, .inr ⟨x, hxN, rfl⟩, hmo⟩
    simp at h
    obtain rfl : i = N.length := by omega
    simp -dsimp only [go_sem, ↓reduceIte, Nat.reduceEqDiff, Nat.reduceAdd, Nat.reduceMul, Nat.reduceSub, Nat.reduceLeDiff, Nat.reduceLT, g1, g8, g9, g10, g13, g14, g15]
    refine aloopP_of (fun m T H6 => ∃ i : Nat, m = W.length - i ∧ i ≤ W.length ∧ H' <+: H6 ∧ T 1 = .slice b2 have_.length d2 ∧ T 8 = .slice bn N.length dn ∧ T 9 = .slice bs W.length ds ∧ T 10 = .slice bw now.length dw ∧ T 13 = .int .i64 lo ∧ T 14 = .int .i64 mo ∧ T 17 = .int .i64 i) (n := W.length) ?_ ?_
    · refine ⟨0, ?_⟩
      simp -dsimp only [go_sem, ↓reduceIte, Nat.reduceEqDiff, Nat.reduceAdd, Nat.reduceMul, Nat.reduceSub, Nat.reduceLeDiff, Nat.reduceLT, g1, g8, g9, g10, g13, g14, g15]
      exact ⟨by omega, by omega, hp5, rfl⟩
    clear g1 g8 g9 g10 g13 g14 g15 h hi hp5
    rintro m T H5 ⟨i, rfl, hi, hp5, g1, g8, g9, g10, g13, g14, g17⟩
    simp -dsimp only [go_sem, ↓reduceIte, Nat.reduceEqDiff, Nat.reduceAdd, Nat.reduceMul, Nat.reduceSub, Nat.reduceLeDiff, Nat.reduceLT, g1, g8, g9, g10, g13, g14, g17]
    refine acondP_of (fun h => ?_) (fun h => ?_)
    · simp at h
      obtain ⟨s, hs⟩ := get_ex h
      obtain ⟨ids, offs, rfl, hats⟩ := hs4.at (by omega)
      have w1 := wrS (show i < 4611686018427387904 by omega)
      have hpp := hp.trans hp5
      have l1 := rowLoad_whole (aload_pre hpp (hats i s hs))
      simp -dsimp only [go_sem, ↓reduceIte, Nat.reduceEqDiff, Nat.reduceAdd, Nat.reduceMul, Nat.reduceSub, Nat.reduceLeDiff, Nat.reduceLT, g1, g8, g9, g10, g13, g14, g17]
      refine adrawnP_of2 [(0, false), (1, false), (2, false), (3, false), (4, false), (5, false), (7, false), (8, false), (9, false), (10, false), (11, false), (12, false), (6, true), (13, false), (14, false)] (by kernel_rfl) ?_
      simp -dsimp only [go_sem, ↓reduceIte, Nat.reduceEqDiff, Nat.reduceAdd, Nat.reduceMul, Nat.reduceSub, Nat.reduceLeDiff, Nat.reduceLT, g1, g8, g9, g10, g13, g14, g17, inRange h, l1]
      refine SoundP_of (refMany s now N bw bn dw dn _ (hw.pre hp5) (hn4.pre hpp) (by omega) (by omega)) ?_
      rintro _ H6 ⟨rfl, q6⟩
      refine grown_any q6 ?_
      simp -dsimp only [go_sem, ↓reduceIte, Nat.reduceEqDiff, Nat.reduceAdd, Nat.reduceMul, Nat.reduceSub, Nat.reduceLeDiff, Nat.reduceLT, g1, g8, g9, g10, g13, g14, g17]
      refine SoundP_of (refMany s have_ N b2 bn d2 dn _ (r2.pre (hpp.trans q6)) (hn4.pre (hpp.trans q6)) (by omega) (by omega)) ?_
      rintro _ H7 ⟨rfl, q7⟩
      simp -dsimp only [go_sem, ↓reduceIte, Nat.reduceEqDiff, Nat.reduceAdd, Nat.reduceMul, Nat.reduceSub, Nat.reduceLeDiff, Nat.reduceLT, g1, g8, g9, g10, g13, g14, g17]
      rw [show N.countP (manyP now s) = N.countP (manyP have_ s) from hsame s]
      refine acondP_of (fun hc => absurd hc (by simp)) (fun _ => ?_)
      simp -dsimp only [go_sem, ↓reduceIte, Nat.reduceEqDiff, Nat.reduceAdd, Nat.reduceMul, Nat.reduceSub, Nat.reduceLeDiff, Nat.reduceLT, g1, g8, g9, g10, g13, g14, g17, w1]
      exact ⟨_, by omega, i + 1, rfl, h, (hp5.trans q6).trans q7, rfl⟩
    · simp at h
      simp -dsimp only [go_sem, ↓reduceIte, Nat.reduceEqDiff, Nat.reduceAdd, Nat.reduceMul, Nat.reduceSub, Nat.reduceLeDiff, Nat.reduceLT, g1, g8, g9, g10, g13, g14, g17]
      cases e0 : (((N.length : Nat) : Int) == 0) with
      | true =>
        simp -dsimp only [go_sem, ↓reduceIte, Nat.reduceEqDiff, Nat.reduceAdd, Nat.reduceMul, Nat.reduceSub, Nat.reduceLeDiff, Nat.reduceLT, g1, g8, g9, g10, g13, g14, g17, e0]
      | false =>
        have hne : N.length ≠ 0 := by simpa using e0
        obtain ⟨x, hx, rfl⟩ := hlo.resolve_left hne
        have hb1 : loadW W (hasW now) x ≤ W.length := List.countP_le_length
        have hgap : mo ≤ loadW W (hasW now) x + 1 ∧ mo ≤ W.length := by
          rcases hmo with rfl | ⟨y, hy, rfl⟩
          · omega
          · exact ⟨heven y hy x hx, List.countP_le_length⟩
        have wsub : IntKind.i64.wrap ((mo : Int) - (loadW W (hasW now) x : Int)) = (mo : Int) - (loadW W (hasW now) x : Int) := wrB (by omega) (by omega)
        have hle : (mo : Int) - (loadW W (hasW now) x : Int) ≤ 1 := by omega
        simp -dsimp only [go_sem, ↓reduceIte, Nat.reduceEqDiff, Nat.reduceAdd, Nat.reduceMul, Nat.reduceSub, Nat.reduceLeDiff, Nat.reduceLT, g1, g8, g9, g10, g13, g14, g17, e0, wsub, hle]
end Go.Proofs.Ytangfnommhmpeaa
