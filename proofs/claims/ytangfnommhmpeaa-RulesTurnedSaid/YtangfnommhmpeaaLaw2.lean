/-
  RulesReaches: behind the orders each wanted segment is on just as many living nodes as there are to be.
-/
import Derived.Test.YtangfnommhmpeaaLaw0
import Derived.Test.YtangfnommhmpeaaPure1
set_option linter.unusedVariables false
set_option linter.unusedSimpArgs false
namespace Go.Proofs.Ytangfnommhmpeaa
open Go Go.AW Go.Bub
set_option linter.unusedSimpArgs false
set_option maxRecDepth 20000

theorem assignL_len (segs : List Seg) (have_ : List Order) (nodes : List Int) (r : Int) (n1 : segs.length ≤ 24) (n2 : have_.length ≤ 60) (n3 : nodes.length ≤ 12) : (assignL segs have_ nodes r).length ≤ 348 := by
  have q1 := allRun_len (livingL nodes) (wantedL segs) (replN r (livingL nodes).length) (wantedL segs) (who0 (livingL nodes) (wantedL segs) have_)
  have q2 := livingL_len nodes
  have q3 := wantedL_len segs
  have q4 := applyL_len have_ []
  have q5 : (oddL (livingL nodes) (wantedL segs) (applyL have_ [])).length ≤ (applyL have_ []).length := by unfold oddL; rw [List.length_map]; exact List.length_filter_le _ _
  have q6 : (wantedL segs).length * (livingL nodes).length ≤ 24 * 12 := Nat.mul_le_mul (by omega) (by omega)
  unfold assignL
  simp only [List.length_append, List.length_nil] at q4 ⊢
  omega
theorem rulesReaches (segs : List Seg) (have_ : List Order) (nodes : List Int) (r : Int) (a1 a2 a3 : Option Addr) (c1 c2 c3 : Nat) (H : AHeap) (h1 : SegsAt H a1 segs) (h2 : OrdersAt H a2 have_) (h3 : IntsAt H a3 nodes) (g1 : ArgSl a1 segs.length c1) (g2 : ArgSl a2 have_.length c2) (g3 : ArgSl a3 nodes.length c3) :
    Sound Try.prog 5 [.slice a1 segs.length c1, .slice a2 have_.length c2, .slice a3 nodes.length c3, .int .i64 r] H fun v _ => v = .bool true := by
  refine Sound.of_body (rs := [.tmp 8]) mixed Try.func5 rfl (by kernel_rfl) rfl (by kernel_rfl) ?_
  simp -dsimp only [go_sem, ↓reduceIte, Nat.reduceEqDiff, Nat.reduceAdd, Nat.reduceMul, Nat.reduceSub, Nat.reduceLeDiff, Nat.reduceLT]
  refine SoundP_of (awake H) ?_
  rintro _ H1 ⟨rfl, p1⟩
  simp -dsimp only [go_sem, ↓reduceIte, Nat.reduceEqDiff, Nat.reduceAdd, Nat.reduceMul, Nat.reduceSub, Nat.reduceLeDiff, Nat.reduceLT]
  refine SoundP_of (few segs have_ nodes a1 a2 a3 c1 c2 c3 H1 (h1.pre p1) (h2.pre p1) (h3.pre p1) g1 g2 g3) ?_
  rintro _ H0 ⟨rfl, b1, d1, b2, d2, b3, d3, rfl, s1, s2, s3⟩
  have n1 : (segs.take 24).length ≤ 24 := by rw [List.length_take]; omega
  have n2 : (have_.take 60).length ≤ 60 := by rw [List.length_take]; omega
  have n3 : (nodes.take 12).length ≤ 12 := by rw [List.length_take]; omega
  generalize segs.take 24 = segs at *
  generalize have_.take 60 = have_ at *
  generalize nodes.take 12 = nodes at *
  obtain ⟨e1, e2, -⟩ := assign_parts segs have_ nodes r
  have e3 := assign_again segs have_ nodes r
  rw [← hasW_apply] at e1 e2
  have hl := assignL_len segs have_ nodes r n1 n2 n3
  have hnow := applyL_len have_ (assignL segs have_ nodes r)
  simp -dsimp only [go_sem, ↓reduceIte, Nat.reduceEqDiff, Nat.reduceAdd, Nat.reduceMul, Nat.reduceSub, Nat.reduceLeDiff, Nat.reduceLT]
  refine SoundP_of (refLiving' nodes b3 d3 _ s3 (by omega)) ?_
  rintro _ H2 ⟨own2, p2⟩
  obtain ⟨bn, dn, rfl, hn⟩ := own2.sl (fun _ => rfl)
  have hN := livingL_len nodes
  simp -dsimp only [go_sem, ↓reduceIte, Nat.reduceEqDiff, Nat.reduceAdd, Nat.reduceMul, Nat.reduceSub, Nat.reduceLeDiff, Nat.reduceLT]
  refine SoundP_of (refReplicas r (livingL nodes).length bn dn _) ?_
  rintro _ _ ⟨rfl, rfl⟩
  rw [replN_cast]
  generalize replN r (livingL nodes).length = many at *
  simp -dsimp only [go_sem, ↓reduceIte, Nat.reduceEqDiff, Nat.reduceAdd, Nat.reduceMul, Nat.reduceSub, Nat.reduceLeDiff, Nat.reduceLT]
  refine SoundP_of (rAssign segs have_ nodes r b1 b2 b3 d1 d2 d3 _ (s1.pre p2) (s2.pre p2) (s3.pre p2) (by omega) (by omega) (by omega)) ?_
  rintro _ H3 ⟨own3, p3⟩
  obtain ⟨bl, dl, rfl, hl3⟩ := own3.sl (fun _ => rfl)
  simp -dsimp only [go_sem, ↓reduceIte, Nat.reduceEqDiff, Nat.reduceAdd, Nat.reduceMul, Nat.reduceSub, Nat.reduceLeDiff, Nat.reduceLT]
  refine SoundP_of (rApply have_ (assignL segs have_ nodes r) b2 bl d2 dl _ (s2.pre (p2.trans p3)) hl3 (by omega) (by omega)) ?_
  rintro _ H4 ⟨own4, p4⟩
  obtain ⟨bw, dw, rfl, hw4⟩ := own4.sl (fun _ => rfl)
  clear own2 own3 own4
  have p04 := (p2.trans p3).trans p4
  generalize hnowd : applyL have_ (assignL segs have_ nodes r) = now at *
  have r1 := s1.pre p04
  have r3 := s3.pre p04
  have hn4 := hn.pre (p3.trans p4)
  clear s1 s2 s3 hn hl3 h1 h2 h3 g1 g2 g3 p1 p2 p3 p4 p04
  generalize livingL nodes = N at *
  simp -dsimp only [go_sem, ↓reduceIte, Nat.reduceEqDiff, Nat.reduceAdd, Nat.reduceMul, Nat.reduceSub, Nat.reduceLeDiff, Nat.reduceLT]
  refine aloopP_of (fun m T H' => ∃ i, m = segs.length - i ∧ i ≤ segs.length ∧ H4 <+: H' ∧ T 0 = .slice b1 segs.length d1 ∧ T 2 = .slice b3 nodes.length d3 ∧ T 3 = .int .i64 r ∧ T 10 = .slice bn N.length dn ∧ T 11 = .int .i64 (many : Int) ∧ T 12 = .slice bw now.length dw ∧ T 13 = .int .i64 i) (n := segs.length) ?_ ?_
  · refine ⟨0, ?_⟩
    simp -dsimp only [go_sem, ↓reduceIte, Nat.reduceEqDiff, Nat.reduceAdd, Nat.reduceMul, Nat.reduceSub, Nat.reduceLeDiff, Nat.reduceLT]
    exact ⟨by omega, by omega, List.prefix_refl _, rfl⟩
  rintro m T H' ⟨i, rfl, hi, hp, g0, g2, g3, g10, g11, g12, g13⟩
  simp -dsimp only [go_sem, ↓reduceIte, Nat.reduceEqDiff, Nat.reduceAdd, Nat.reduceMul, Nat.reduceSub, Nat.reduceLeDiff, Nat.reduceLT, g0, g2, g3, g10, g11, g12, g13]
  refine acondP_of (fun h => ?_) (fun h => ?_)
  · simp at h
    obtain ⟨x, hx⟩ := get_ex h
    obtain ⟨id, off, rfl, hat⟩ := r1.at (by omega)
    simp -dsimp only [go_sem, ↓reduceIte, Nat.reduceEqDiff, Nat.reduceAdd, Nat.reduceMul, Nat.reduceSub, Nat.reduceLeDiff, Nat.reduceLT, g0, g2, g3, g10, g11, g12, g13, inRange h, rowLoad_whole (aload_pre hp (hat i x hx))]
    refine SoundP_of (refMany x now N bw bn dw dn H' (hw4.pre hp) (hn4.pre hp) (by omega) (by omega)) ?_
    rintro v H5 ⟨rfl, q5⟩
    simp -dsimp only [go_sem, ↓reduceIte, Nat.reduceEqDiff, Nat.reduceAdd, Nat.reduceMul, Nat.reduceSub, Nat.reduceLeDiff, Nat.reduceLT, g0, g2, g3, g10, g11, g12, g13]
    have em : N.countP (manyP now x) = many := e1 x (List.mem_of_getElem? hx)
    rw [em]
    refine acondP_of (fun h => absurd h (by simp)) (fun _ => ?_)
    simp -dsimp only [go_sem, ↓reduceIte, Nat.reduceEqDiff, Nat.reduceAdd, Nat.reduceMul, Nat.reduceSub, Nat.reduceLeDiff, Nat.reduceLT, g0, g2, g3, g10, g11, g12, g13, wrS (show i < 4611686018427387904 by omega)]
    exact ⟨_, by omega, i + 1, rfl, h, hp.trans q5, rfl⟩
  clear h
  simp -dsimp only [go_sem, ↓reduceIte, Nat.reduceEqDiff, Nat.reduceAdd, Nat.reduceMul, Nat.reduceSub, Nat.reduceLeDiff, Nat.reduceLT, g0, g2, g3, g10, g11, g12, g13]
  refine aloopP_of (fun m T H' => ∃ i, m = now.length - i ∧ i ≤ now.length ∧ H4 <+: H' ∧ T 0 = .slice b1 segs.length d1 ∧ T 2 = .slice b3 nodes.length d3 ∧ T 3 = .int .i64 r ∧ T 10 = .slice bn N.length dn ∧ T 12 = .slice bw now.length dw ∧ T 14 = .int .i64 i) (n := now.length) ?_ ?_
  · refine ⟨0, ?_⟩
    simp -dsimp only [go_sem, ↓reduceIte, Nat.reduceEqDiff, Nat.reduceAdd, Nat.reduceMul, Nat.reduceSub, Nat.reduceLeDiff, Nat.reduceLT, g0, g2, g3, g10, g11, g12, g13]
    exact ⟨by omega, by omega, hp, rfl⟩
  clear g0 g2 g3 g10 g11 g12 g13 hi hp
  rintro m T H' ⟨i, rfl, hi, hp, g0, g2, g3, g10, g12, g14⟩
  simp -dsimp only [go_sem, ↓reduceIte, Nat.reduceEqDiff, Nat.reduceAdd, Nat.reduceMul, Nat.reduceSub, Nat.reduceLeDiff, Nat.reduceLT, g0, g2, g3, g10, g12, g14]
  refine acondP_of (fun h => ?_) (fun h => ?_)
  · simp at h
    obtain ⟨x, hx⟩ := get_ex h
    obtain ⟨idw, offw, rfl, hatw⟩ := hw4.at (by omega)
    have xm := List.mem_of_getElem? hx
    simp -dsimp only [go_sem, ↓reduceIte, Nat.reduceEqDiff, Nat.reduceAdd, Nat.reduceMul, Nat.reduceSub, Nat.reduceLeDiff, Nat.reduceLT, g0, g2, g3, g10, g12, g14]
    refine aloopP_of (fun m T H' => ∃ k, m = N.length - k ∧ k ≤ N.length ∧ H4 <+: H' ∧ T 0 = .slice b1 segs.length d1 ∧ T 2 = .slice b3 nodes.length d3 ∧ T 3 = .int .i64 r ∧ T 10 = .slice bn N.length dn ∧ T 12 = .slice (some ⟨idw, offw, none⟩) now.length dw ∧ T 14 = .int .i64 i ∧ T 15 = .int .i64 k) (n := N.length) ?_ ?_
    · refine ⟨0, ?_⟩
      simp -dsimp only [go_sem, ↓reduceIte, Nat.reduceEqDiff, Nat.reduceAdd, Nat.reduceMul, Nat.reduceSub, Nat.reduceLeDiff, Nat.reduceLT, g0, g2, g3, g10, g12, g14]
      exact ⟨by omega, by omega, hp, rfl⟩
    clear g0 g2 g3 g10 g12 g14 hp
    rintro m T H' ⟨k, rfl, hk, hp, g0, g2, g3, g10, g12, g14, g15⟩
    simp -dsimp only [go_sem, ↓reduceIte, Nat.reduceEqDiff, Nat.reduceAdd, Nat.reduceMul, Nat.reduceSub, Nat.reduceLeDiff, Nat.reduceLT, g0, g2, g3, g10, g12, g14, g15]
    refine acondP_of (fun hc => ?_) (fun hc => ?_)
    · simp at hc
      obtain ⟨n, hnk⟩ := get_ex hc
      obtain ⟨idn, offn, rfl, hatn⟩ := hn4.at (by omega)
      have ix := inRange h
      have iy := inRange hc
      have hc1 := rowLoad_one0 (aload_pre hp (hatn k n hnk))
      simp -dsimp only [go_sem, ↓reduceIte, Nat.reduceEqDiff, Nat.reduceAdd, Nat.reduceMul, Nat.reduceSub, Nat.reduceLeDiff, Nat.reduceLT, g0, g2, g3, g10, g12, g14, g15]
      refine adrawnP_of2 [(0, false), (1, false), (2, false), (3, false), (4, false), (5, false), (6, false), (7, false), (8, false), (9, false), (10, false), (11, false), (12, false), (13, false), (14, false), (15, false), (16, false), (17, false), (18, false), (19, false)] (by kernel_rfl) ?_
      simp -dsimp only [go_sem, ↓reduceIte, Nat.reduceEqDiff, Nat.reduceAdd, Nat.reduceMul, Nat.reduceSub, Nat.reduceLeDiff, Nat.reduceLT, g0, g2, g3, g10, g12, g14, g15, ix, iy, hc1, rowLoad_cell (aload_pre hp (hatw i x hx)), rowLoad_whole (aload_sub (aload_pre hp (hatw i x hx)) 1 5 (by decide))]
      have w1 := wrS (show k < 4611686018427387904 by omega)
      refine acondP_of (fun hq => ?_) (fun hq => ?_)
      · rw [hq]
        simp -dsimp only [go_sem, ↓reduceIte, Nat.reduceEqDiff, Nat.reduceAdd, Nat.reduceMul, Nat.reduceSub, Nat.reduceLeDiff, Nat.reduceLT, g0, g2, g3, g10, g12, g14, g15, ix, rowLoad_whole (aload_sub (aload_pre hp (hatw i x hx)) 1 5 (by decide))]
        refine SoundP_of (refHas x.seg segs b1 d1 _ (r1.pre hp) (by omega)) ?_
        rintro v H5 ⟨rfl, q5⟩
        simp -dsimp only [go_sem, ↓reduceIte, Nat.reduceEqDiff, Nat.reduceAdd, Nat.reduceMul, Nat.reduceSub, Nat.reduceLeDiff, Nat.reduceLT, g0, g2, g3, g10, g12, g14, g15]
        have hin : x.seg ∈ segs := by
          refine Classical.byContradiction fun q => ?_
          have hf := e2 x.seg n q (List.mem_of_getElem? hnk)
          have ht : hasW now x.seg n = true := List.any_eq_true.2 ⟨x, xm, by simp [holdsP, eq_of_beq hq]⟩
          rw [hf] at ht; cases ht
        simp -dsimp only [go_sem, ↓reduceIte, Nat.reduceEqDiff, Nat.reduceAdd, Nat.reduceMul, Nat.reduceSub, Nat.reduceLeDiff, Nat.reduceLT, g0, g2, g3, g10, g12, g14, g15, decide_eq_true hin, w1]
        exact ⟨_, by omega, k + 1, rfl, hc, hp.trans q5, rfl⟩
      · rw [hq]
        simp -dsimp only [go_sem, ↓reduceIte, Nat.reduceEqDiff, Nat.reduceAdd, Nat.reduceMul, Nat.reduceSub, Nat.reduceLeDiff, Nat.reduceLT, g0, g2, g3, g10, g12, g14, g15, w1]
        exact ⟨_, by omega, k + 1, rfl, hc, hp, rfl⟩
    · simp at hc
      simp -dsimp only [go_sem, ↓reduceIte, Nat.reduceEqDiff, Nat.reduceAdd, Nat.reduceMul, Nat.reduceSub, Nat.reduceLeDiff, Nat.reduceLT, g0, g2, g3, g10, g12, g14, g15, wrS (show i < 4611686018427387904 by omega)]
      exact ⟨_, by omega, i + 1, rfl, h, hp, rfl⟩
  · simp at h
    subst hnowd
    simp -dsimp only [go_sem, ↓reduceIte, Nat.reduceEqDiff, Nat.reduceAdd, Nat.reduceMul, Nat.reduceSub, Nat.reduceLeDiff, Nat.reduceLT, g0, g2, g3, g10, g12, g14]
    refine SoundP_of (rAssign segs _ nodes r b1 bw b3 d1 dw d3 _ (r1.pre hp) (hw4.pre hp) (r3.pre hp) (by omega) (by omega) (by omega)) ?_
    rintro _ H5 ⟨own5, p5⟩
    rw [e3] at own5
    obtain ⟨bl, dl, rfl, -⟩ := own5.sl (fun _ => rfl)
    simp -dsimp only [go_sem, ↓reduceIte, Nat.reduceEqDiff, Nat.reduceAdd, Nat.reduceMul, Nat.reduceSub, Nat.reduceLeDiff, Nat.reduceLT, g0, g2, g3, g10, g12, g14]
    rfl
end Go.Proofs.Ytangfnommhmpeaa
