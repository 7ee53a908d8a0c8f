/-
  RulesTurned: in whatever order, and however often, things are told, the answers are the same; what is handed in stays.
-/
import Derived.Test.YtangfnommhmpeaaLaw2
import Derived.Test.YtangfnommhmpeaaPure3
import Derived.Test.YtangfnommhmpeaaDec
set_option linter.unusedVariables false
set_option linter.unusedSimpArgs false
namespace Go.Proofs.Ytangfnommhmpeaa
open Go Go.AW Go.Bub
set_option linter.unusedSimpArgs false
set_option maxRecDepth 20000

theorem rulesTurned (segs : List Seg) (have_ : List Order) (nodes : List Int) (r t : Int) (a1 a2 a3 : Option Addr) (c1 c2 c3 : Nat) (H : AHeap) (h1 : SegsAt H a1 segs) (h2 : OrdersAt H a2 have_) (h3 : IntsAt H a3 nodes) (g1 : ArgSl a1 segs.length c1) (g2 : ArgSl a2 have_.length c2) (g3 : ArgSl a3 nodes.length c3) (wr : (Lit.int .i64 r).wf = true) (wt : (Lit.int .i64 t).wf = true) :
    Sound Try.prog 8 [.slice a1 segs.length c1, .slice a2 have_.length c2, .slice a3 nodes.length c3, .int .i64 r, .int .i64 t] H fun v _ => v = .bool true := by
  refine Sound.of_body (rs := [.tmp 10]) mixed Try.func8 rfl (by kernel_rfl) rfl (by kernel_rfl) ?_
  simp -dsimp only [go_sem, ↓reduceIte, Nat.reduceEqDiff, Nat.reduceAdd, Nat.reduceMul, Nat.reduceSub, Nat.reduceLeDiff, Nat.reduceLT]
  refine SoundP_of (awake H) ?_
  rintro _ H1 ⟨rfl, p1⟩
  simp -dsimp only [go_sem, ↓reduceIte, Nat.reduceEqDiff, Nat.reduceAdd, Nat.reduceMul, Nat.reduceSub, Nat.reduceLeDiff, Nat.reduceLT]
  refine SoundP_of (few segs have_ nodes a1 a2 a3 c1 c2 c3 H1 (h1.pre p1) (h2.pre p1) (h3.pre p1) g1 g2 g3) ?_
  rintro _ H0 ⟨rfl, b1, d1, b2, d2, b3, d3, rfl, s1, s2, s3⟩
  have n1 : (segs.take 24).length ≤ 24 := by rw [List.length_take]; omega
  have n2 : (have_.take 60).length ≤ 60 := by rw [List.length_take]; omega
  have n3 : (nodes.take 12).length ≤ 12 := by rw [List.length_take]; omega
  generalize segs.take 24 = segs at *
  generalize have_.take 60 = have_ at *
  generalize nodes.take 12 = nodes at *
  have hb : -9223372036854775808 ≤ t ∧ t ≤ 9223372036854775807 := by simpa [Lit.wf, IntKind.min, IntKind.max, IntKind.bits, IntKind.signed] using wt
  simp -dsimp only [go_sem, ↓reduceIte, Nat.reduceEqDiff, Nat.reduceAdd, Nat.reduceMul, Nat.reduceSub, Nat.reduceLeDiff, Nat.reduceLT]
  refine acond_join (fun T H' => ∃ tn : Nat, H' = H0 ∧ T 0 = .slice b1 segs.length d1 ∧ T 1 = .slice b2 have_.length d2 ∧ T 2 = .slice b3 nodes.length d3 ∧ T 3 = .int .i64 r ∧ T 4 = .int .i64 (tn : Int)) ?_ ?_ ?_
  · intro ht
    simp at ht
    have e : IntKind.i64.wrap (0 - IntKind.i64.wrap (t + 1)) = ((-(t + 1)).toNat : Int) := by
      rw [wr64 (i := t + 1) (by omega) (by omega), wr64 (by omega) (by omega)]; omega
    simp -dsimp only [go_sem, ↓reduceIte, Nat.reduceEqDiff, Nat.reduceAdd, Nat.reduceMul, Nat.reduceSub, Nat.reduceLeDiff, Nat.reduceLT, e]
    exact ⟨_, rfl⟩
  · intro ht
    simp at ht
    simp -dsimp only [go_sem, ↓reduceIte, Nat.reduceEqDiff, Nat.reduceAdd, Nat.reduceMul, Nat.reduceSub, Nat.reduceLeDiff, Nat.reduceLT]
    refine ⟨t.toNat, ?_⟩
    rw [Int.toNat_of_nonneg ht]
  rintro T H0 ⟨tn, rfl, g0, g1, g2, g3, g4⟩
  clear h1 h2 h3 p1 wr wt hb
  simp -dsimp only [go_sem, ↓reduceIte, Nat.reduceEqDiff, Nat.reduceAdd, Nat.reduceMul, Nat.reduceSub, Nat.reduceLeDiff, Nat.reduceLT, g0, g1, g2, g3, g4]
  -- the segments
  refine aloopP_of (fun m T H' => ∃ i v, m = 2 * segs.length - i ∧ i ≤ 2 * segs.length ∧ H0 <+: H' ∧ T 0 = .slice b1 segs.length d1 ∧ T 1 = .slice b2 have_.length d2 ∧ T 2 = .slice b3 nodes.length d3 ∧ T 3 = .int .i64 r ∧ T 4 = .int .i64 (tn : Int) ∧ T 12 = v ∧ T 13 = .int .i64 i ∧ OwnS H0.length H' v (turnedL segs tn i)) (n := 2 * segs.length) ?_ ?_
  · refine ⟨0, .slice none 0 0, ?_⟩
    simp -dsimp only [go_sem, ↓reduceIte, Nat.reduceEqDiff, Nat.reduceAdd, Nat.reduceMul, Nat.reduceSub, Nat.reduceLeDiff, Nat.reduceLT, g0, g1, g2, g3, g4]
    exact ⟨by omega, by omega, List.prefix_refl _, rfl, Own.nil _ _ _ _⟩
  clear g0 g1 g2 g3 g4
  rintro m T H1 ⟨i, v, rfl, hi, hp, g0, g1, g2, g3, g4, g12, g13, hown⟩
  have wL : IntKind.i64.wrap (2 * (segs.length : Int)) = ((2 * segs.length : Nat) : Int) := by rw [wrB (by omega) (by omega)]; omega
  simp -dsimp only [go_sem, ↓reduceIte, Nat.reduceEqDiff, Nat.reduceAdd, Nat.reduceMul, Nat.reduceSub, Nat.reduceLeDiff, Nat.reduceLT, g0, g1, g2, g3, g4, g12, g13, wL]
  refine acondP_of (fun h => ?_) (fun h => ?_)
  · have h : i < 2 * segs.length := by have := of_decide_eq_true h; omega
    have hL : 0 < segs.length := by omega
    obtain ⟨e0, e1, e2, e3, e4, e5, e6⟩ := turnAt tn i hL (by omega)
    obtain ⟨x, hx⟩ := get_ex (tix_lt hL tn i)
    obtain ⟨id, off, rfl, hat⟩ := (s1.pre hp).at hL
    obtain ⟨v2, H2, e, ho2, hp2, -, -, -⟩ := appS hp hown x (by rw [turnedL_len]; omega)
    have w1 := wrS (show i < 4611686018427387904 by omega)
    simp -dsimp only [go_sem, ↓reduceIte, Nat.reduceEqDiff, Nat.reduceAdd, Nat.reduceMul, Nat.reduceSub, Nat.reduceLeDiff, Nat.reduceLT, g0, g1, g2, g3, g4, g12, g13]
    refine adrawnP_of2 [(0, false), (1, false), (2, false), (3, false), (4, false), (5, false), (6, false), (7, false), (8, false), (9, false), (10, false), (11, false), (12, false), (13, false), (14, false), (15, false), (16, false), (17, false), (18, false), (19, false), (20, false), (21, false), (22, false)] (by kernel_rfl) ?_
    simp -dsimp only [go_sem, ↓reduceIte, Nat.reduceEqDiff, Nat.reduceAdd, Nat.reduceMul, Nat.reduceSub, Nat.reduceLeDiff, Nat.reduceLT, g0, g1, g2, g3, g4, g12, g13, e0, e1, e2, e3, e4, e5, e6, inRange (tix_lt hL tn i), rowLoad_whole (hat _ x hx), e, w1]
    exact ⟨_, by omega, i + 1, v2, rfl, h, hp2, rfl, rfl, by rw [turnedL_succ hx]; exact ho2⟩
  have h : ¬ i < 2 * segs.length := fun q => by have := of_decide_eq_false h; omega
  obtain rfl : i = 2 * segs.length := by omega
  obtain ⟨bs, ds, rfl, hs1⟩ := hown.sl (fun _ => rfl)
  have f2 := s2.pre hp
  have f3 := s3.pre hp
  have f1 := s1.pre hp
  clear hi h wL s1 s2 s3 hp hown
  simp -dsimp only [go_sem, ↓reduceIte, Nat.reduceEqDiff, Nat.reduceAdd, Nat.reduceMul, Nat.reduceSub, Nat.reduceLeDiff, Nat.reduceLT, g0, g1, g2, g3, g4, g12, g13]
  -- the orders
  refine aloopP_of (fun m T H' => ∃ i v, m = 2 * have_.length - i ∧ i ≤ 2 * have_.length ∧ H1 <+: H' ∧ T 0 = .slice b1 segs.length d1 ∧ T 1 = .slice b2 have_.length d2 ∧ T 2 = .slice b3 nodes.length d3 ∧ T 3 = .int .i64 r ∧ T 4 = .int .i64 (tn : Int) ∧ T 12 = .slice bs (turnedL segs tn (2 * segs.length)).length ds ∧ T 14 = v ∧ T 15 = .int .i64 i ∧ OwnO H1.length H' v (turnedO have_ tn i)) (n := 2 * have_.length) ?_ ?_
  · refine ⟨0, .slice none 0 0, ?_⟩
    simp -dsimp only [go_sem, ↓reduceIte, Nat.reduceEqDiff, Nat.reduceAdd, Nat.reduceMul, Nat.reduceSub, Nat.reduceLeDiff, Nat.reduceLT, g0, g1, g2, g3, g4, g12, g13]
    exact ⟨by omega, by omega, List.prefix_refl _, rfl, Own.nil _ _ _ _⟩
  clear g0 g1 g2 g3 g4 g12 g13
  rintro m T H2 ⟨i, v, rfl, hi, hp, g0, g1, g2, g3, g4, g12, g14, g15, hown⟩
  have wL : IntKind.i64.wrap (2 * (have_.length : Int)) = ((2 * have_.length : Nat) : Int) := by rw [wrB (by omega) (by omega)]; omega
  simp -dsimp only [go_sem, ↓reduceIte, Nat.reduceEqDiff, Nat.reduceAdd, Nat.reduceMul, Nat.reduceSub, Nat.reduceLeDiff, Nat.reduceLT, g0, g1, g2, g3, g4, g12, g14, g15, wL]
  refine acondP_of (fun h => ?_) (fun h => ?_)
  · have h : i < 2 * have_.length := by have := of_decide_eq_true h; omega
    have hL : 0 < have_.length := by omega
    obtain ⟨e0, e1, e2, e3, e4, e5, e6⟩ := turnAt tn i hL (by omega)
    obtain ⟨x, hx⟩ := get_ex (tix_lt hL tn i)
    obtain ⟨id, off, rfl, hat⟩ := (f2.pre hp).at hL
    have e7 : (i : Int).tmod 2 = ((i % 2 : Nat) : Int) := (Int.ofNat_tmod i 2).symm
    have e8 : (((i % 2 : Nat) : Int) == 0) = (i % 2 == 0) := by rw [Bool.eq_iff_iff]; simp; omega
    have w1 := wrS (show i < 4611686018427387904 by omega)
    have z2 : ((2 : Int) = 0) = False := by simp
    obtain ⟨v3, H3, e, ho3, hp3, -, -, -⟩ := appO (hp.trans (List.prefix_append H2 [.row (Order.cells { x with drop := i % 2 == 0 }) 7 true])) (hown.pre (List.prefix_append _ _)) { x with drop := i % 2 == 0 } (by rw [turnedO_len]; omega)
    simp only [List.append_assoc, List.cons_append, List.nil_append, List.length_append, List.length_cons, List.length_nil, Nat.zero_add] at e
    simp -dsimp only [go_sem, ↓reduceIte, Nat.reduceEqDiff, Nat.reduceAdd, Nat.reduceMul, Nat.reduceSub, Nat.reduceLeDiff, Nat.reduceLT, g0, g1, g2, g3, g4, g12, g14, g15]
    refine adrawnP_of2 [(0, false), (1, false), (2, false), (3, false), (4, false), (5, false), (6, false), (7, false), (8, false), (9, false), (10, false), (11, false), (12, false), (13, false), (14, false), (15, false), (16, false), (17, false), (18, false), (19, false), (20, false)] (by kernel_rfl) ?_
    simp -dsimp only [go_sem, ↓reduceIte, Nat.reduceEqDiff, Nat.reduceAdd, Nat.reduceMul, Nat.reduceSub, Nat.reduceLeDiff, Nat.reduceLT, g0, g1, g2, g3, g4, g12, g14, g15, e0, e1, e2, e3, e4, e5, e6, e7, e8, z2, inRange (tix_lt hL tn i), rowLoad_whole (hat _ x hx), w1, e]
    exact ⟨_, by omega, i + 1, v3, rfl, h, hp3, rfl, rfl, by rw [turnedO_succ hx]; exact ho3⟩
  have h : ¬ i < 2 * have_.length := fun q => by have := of_decide_eq_false h; omega
  obtain rfl : i = 2 * have_.length := by omega
  obtain ⟨bo, do_, rfl, ho1⟩ := hown.sl (fun _ => rfl)
  replace f1 := f1.pre hp
  replace f2 := f2.pre hp
  replace f3 := f3.pre hp
  replace hs1 := hs1.pre hp
  clear hi h wL hp hown
  simp -dsimp only [go_sem, ↓reduceIte, Nat.reduceEqDiff, Nat.reduceAdd, Nat.reduceMul, Nat.reduceSub, Nat.reduceLeDiff, Nat.reduceLT, g0, g1, g2, g3, g4, g12, g14, g15]
  -- the nodes
  refine aloopP_of (fun m T H' => ∃ i v, m = 2 * nodes.length - i ∧ i ≤ 2 * nodes.length ∧ H2 <+: H' ∧ T 0 = .slice b1 segs.length d1 ∧ T 1 = .slice b2 have_.length d2 ∧ T 2 = .slice b3 nodes.length d3 ∧ T 3 = .int .i64 r ∧ T 4 = .int .i64 (tn : Int) ∧ T 12 = .slice bs (turnedL segs tn (2 * segs.length)).length ds ∧ T 14 = .slice bo (turnedO have_ tn (2 * have_.length)).length do_ ∧ T 17 = v ∧ T 18 = .int .i64 i ∧ OwnI H2.length H' v (turnedL nodes tn i)) (n := 2 * nodes.length) ?_ ?_
  · refine ⟨0, .slice none 0 0, ?_⟩
    simp -dsimp only [go_sem, ↓reduceIte, Nat.reduceEqDiff, Nat.reduceAdd, Nat.reduceMul, Nat.reduceSub, Nat.reduceLeDiff, Nat.reduceLT, g0, g1, g2, g3, g4, g12, g14, g15]
    exact ⟨by omega, by omega, List.prefix_refl _, rfl, Own.nil _ _ _ _⟩
  clear g0 g1 g2 g3 g4 g12 g14 g15
  rintro m T H3 ⟨i, v, rfl, hi, hp, g0, g1, g2, g3, g4, g12, g14, g17, g18, hown⟩
  have wL : IntKind.i64.wrap (2 * (nodes.length : Int)) = ((2 * nodes.length : Nat) : Int) := by rw [wrB (by omega) (by omega)]; omega
  simp -dsimp only [go_sem, ↓reduceIte, Nat.reduceEqDiff, Nat.reduceAdd, Nat.reduceMul, Nat.reduceSub, Nat.reduceLeDiff, Nat.reduceLT, g0, g1, g2, g3, g4, g12, g14, g17, g18, wL]
  refine acondP_of (fun h => ?_) (fun h => ?_)
  · have h : i < 2 * nodes.length := by have := of_decide_eq_true h; omega
    have hL : 0 < nodes.length := by omega
    obtain ⟨e0, e1, e2, e3, e4, e5, e6⟩ := turnAt tn i hL (by omega)
    obtain ⟨x, hx⟩ := get_ex (tix_lt hL tn i)
    obtain ⟨id, off, rfl, hat⟩ := (f3.pre hp).at hL
    obtain ⟨v2, H4, e, ho2, hp2, -, -, -⟩ := appI hp hown x (by rw [turnedL_len]; omega)
    have w1 := wrS (show i < 4611686018427387904 by omega)
    simp -dsimp only [go_sem, ↓reduceIte, Nat.reduceEqDiff, Nat.reduceAdd, Nat.reduceMul, Nat.reduceSub, Nat.reduceLeDiff, Nat.reduceLT, g0, g1, g2, g3, g4, g12, g14, g17, g18]
    refine adrawnP_of2 [(0, false), (1, false), (2, false), (3, false), (4, false), (5, false), (6, false), (7, false), (8, false), (9, false), (10, false), (11, false), (12, false), (13, false), (14, false), (15, false), (16, false), (17, false), (18, false), (19, false), (20, false), (21, false), (22, false)] (by kernel_rfl) ?_
    simp -dsimp only [go_sem, ↓reduceIte, Nat.reduceEqDiff, Nat.reduceAdd, Nat.reduceMul, Nat.reduceSub, Nat.reduceLeDiff, Nat.reduceLT, g0, g1, g2, g3, g4, g12, g14, g17, g18, e0, e1, e2, e3, e4, e5, e6, inRange (tix_lt hL tn i), rowLoad_one0 (hat _ x hx), e, w1]
    exact ⟨_, by omega, i + 1, v2, rfl, h, hp2, rfl, rfl, by rw [turnedL_succ hx]; exact ho2⟩
  have h : ¬ i < 2 * nodes.length := fun q => by have := of_decide_eq_false h; omega
  obtain rfl : i = 2 * nodes.length := by omega
  obtain ⟨bi, di, rfl, hi1⟩ := hown.sl (fun _ => rfl)
  replace f1 := f1.pre hp
  replace f2 := f2.pre hp
  replace f3 := f3.pre hp
  replace hs1 := hs1.pre hp
  replace ho1 := ho1.pre hp
  clear hi h wL hp hown
  have eA := assign_congr (segs := segs) (segs' := turnedL segs tn (2 * segs.length)) (h := have_) (h' := turnedO have_ tn (2 * have_.length)) (nodes := nodes) (nodes' := turnedL nodes tn (2 * nodes.length)) r (turnedL_mem segs tn) (turnedO_has have_ tn) (turnedL_mem nodes tn)
  have eB := balance_congr (segs := segs) (segs' := turnedL segs tn (2 * segs.length)) (h := have_) (h' := turnedO have_ tn (2 * have_.length)) (nodes := nodes) (nodes' := turnedL nodes tn (2 * nodes.length)) (turnedL_mem segs tn) (turnedO_has have_ tn) (turnedL_mem nodes tn)
  have l1 := turnedL_len segs tn (2 * segs.length)
  have l2 := turnedO_len have_ tn (2 * have_.length)
  have l3 := turnedL_len nodes tn (2 * nodes.length)
  generalize turnedL segs tn (2 * segs.length) = segs' at *
  generalize turnedO have_ tn (2 * have_.length) = have' at *
  generalize turnedL nodes tn (2 * nodes.length) = nodes' at *
  obtain ⟨v4, H4, e, ho4, hp4, -, -, -⟩ := Own.appSl (c := d2) (a := b2) un23 el23 inf42 rfl (by decide) (by decide) (fun _ => rfl) (fun _ => rfl) (List.prefix_refl H3) (Own.nil H3.length H3 Order.cells 7) f2 (by simp) (by omega)
  rw [List.nil_append] at ho4
  simp -dsimp only [go_sem, ↓reduceIte, Nat.reduceEqDiff, Nat.reduceAdd, Nat.reduceMul, Nat.reduceSub, Nat.reduceLeDiff, Nat.reduceLT, g0, g1, g2, g3, g4, g12, g14, g17, g18, e]
  obtain ⟨bv, dv, rfl, hv4⟩ := ho4.sl (fun _ => rfl)
  have hla := assignL_len segs have_ nodes r n1 n2 n3
  have hlb : (balanceL segs have_ nodes).length < 1000 := by
    unfold balanceL
    split
    · simp
    · simp only
      split
      · simp
      · split <;> simp
  refine SoundP_of (rAssign segs have_ nodes r b1 b2 b3 d1 d2 d3 _ (f1.pre hp4) (f2.pre hp4) (f3.pre hp4) (by omega) (by omega) (by omega)) ?_
  rintro _ H5 ⟨own5, q5⟩
  obtain ⟨x5, y5, rfl, z5⟩ := own5.sl (fun _ => rfl)
  have p5 := hp4.trans q5
  simp -dsimp only [go_sem, ↓reduceIte, Nat.reduceEqDiff, Nat.reduceAdd, Nat.reduceMul, Nat.reduceSub, Nat.reduceLeDiff, Nat.reduceLT, g0, g1, g2, g3, g4, g12, g14, g17, g18]
  refine SoundP_of (rAssign segs' have' nodes' r bs bo bi ds do_ di _ (hs1.pre p5) (ho1.pre p5) (hi1.pre p5) (by omega) (by omega) (by omega)) ?_
  rintro _ H6 ⟨own6, q6⟩
  rw [← eA] at own6
  obtain ⟨x6, y6, rfl, z6⟩ := own6.sl (fun _ => rfl)
  have p6 := p5.trans q6
  simp -dsimp only [go_sem, ↓reduceIte, Nat.reduceEqDiff, Nat.reduceAdd, Nat.reduceMul, Nat.reduceSub, Nat.reduceLeDiff, Nat.reduceLT, g0, g1, g2, g3, g4, g12, g14, g17, g18]
  refine SoundP_of (rBalance segs have_ nodes b1 b2 b3 d1 d2 d3 _ (f1.pre p6) (f2.pre p6) (f3.pre p6) (by omega) (by omega) (by omega)) ?_
  rintro _ H7 ⟨own7, q7⟩
  obtain ⟨x7, y7, rfl, z7⟩ := own7.sl (fun _ => rfl)
  have p7 := p6.trans q7
  simp -dsimp only [go_sem, ↓reduceIte, Nat.reduceEqDiff, Nat.reduceAdd, Nat.reduceMul, Nat.reduceSub, Nat.reduceLeDiff, Nat.reduceLT, g0, g1, g2, g3, g4, g12, g14, g17, g18]
  refine SoundP_of (rBalance segs' have' nodes' bs bo bi ds do_ di _ (hs1.pre p7) (ho1.pre p7) (hi1.pre p7) (by omega) (by omega) (by omega)) ?_
  rintro _ H8 ⟨own8, q8⟩
  rw [← eB] at own8
  obtain ⟨x8, y8, rfl, z8⟩ := own8.sl (fun _ => rfl)
  have p8 := p7.trans q8
  simp -dsimp only [go_sem, ↓reduceIte, Nat.reduceEqDiff, Nat.reduceAdd, Nat.reduceMul, Nat.reduceSub, Nat.reduceLeDiff, Nat.reduceLT, g0, g1, g2, g3, g4, g12, g14, g17, g18]
  refine SoundP_of (refSame (assignL segs have_ nodes r) (assignL segs have_ nodes r) x5 x6 y5 y6 H8 (z5.pre ((q6.trans q7).trans q8)) (z6.pre (q7.trans q8)) (by omega)) ?_
  rintro _ H9 ⟨rfl, q9⟩
  simp -dsimp only [go_sem, ↓reduceIte, Nat.reduceEqDiff, Nat.reduceAdd, Nat.reduceMul, Nat.reduceSub, Nat.reduceLeDiff, Nat.reduceLT, g0, g1, g2, g3, g4, g12, g14, g17, g18]
  refine SoundP_of (refSame (balanceL segs have_ nodes) (balanceL segs have_ nodes) x7 x8 y7 y8 H9 (z7.pre (q8.trans q9)) (z8.pre q9) hlb) ?_
  rintro _ H10 ⟨rfl, q10⟩
  simp -dsimp only [go_sem, ↓reduceIte, Nat.reduceEqDiff, Nat.reduceAdd, Nat.reduceMul, Nat.reduceSub, Nat.reduceLeDiff, Nat.reduceLT, g0, g1, g2, g3, g4, g12, g14, g17, g18]
  refine SoundP_of (refSame have_ have_ b2 bv d2 dv H10 (f2.pre ((p8.trans q9).trans q10)) (hv4.pre ((((q5.trans q6).trans q7).trans q8).trans (q9.trans q10))) (by omega)) ?_
  rintro _ H11 ⟨rfl, q11⟩
  simp -dsimp only [go_sem, ↓reduceIte, Nat.reduceEqDiff, Nat.reduceAdd, Nat.reduceMul, Nat.reduceSub, Nat.reduceLeDiff, Nat.reduceLT, g0, g1, g2, g3, g4, g12, g14, g17, g18]
end Go.Proofs.Ytangfnommhmpeaa
