/-
  RulesAssigns, RulesBalances: what the program and the document say is one and the same.
-/
import Derived.Test.YtangfnommhmpeaaLaw0
set_option linter.unusedVariables false
set_option linter.unusedSimpArgs false
namespace Go.Proofs.Ytangfnommhmpeaa
open Go Go.AW Go.Bub
set_option linter.unusedSimpArgs false
set_option maxRecDepth 20000

theorem rulesAssigns (segs : List Seg) (have_ : List Order) (nodes : List Int) (r : Int) (a1 a2 a3 : Option Addr) (c1 c2 c3 : Nat) (H : AHeap) (h1 : SegsAt H a1 segs) (h2 : OrdersAt H a2 have_) (h3 : IntsAt H a3 nodes) (g1 : ArgSl a1 segs.length c1) (g2 : ArgSl a2 have_.length c2) (g3 : ArgSl a3 nodes.length c3) :
    Sound Try.prog 3 [.slice a1 segs.length c1, .slice a2 have_.length c2, .slice a3 nodes.length c3, .int .i64 r] H fun v _ => v = .bool true := by
  refine Sound.of_body (rs := [.tmp 8]) mixed Try.func3 rfl (by kernel_rfl) rfl (by kernel_rfl) ?_
  simp -dsimp only [go_sem, ↓reduceIte, Nat.reduceEqDiff, Nat.reduceAdd, Nat.reduceMul, Nat.reduceSub, Nat.reduceLeDiff, Nat.reduceLT]
  refine SoundP_of (awake H) ?_
  rintro _ H1 ⟨rfl, p1⟩
  simp -dsimp only [go_sem, ↓reduceIte, Nat.reduceEqDiff, Nat.reduceAdd, Nat.reduceMul, Nat.reduceSub, Nat.reduceLeDiff, Nat.reduceLT]
  refine SoundP_of (few segs have_ nodes a1 a2 a3 c1 c2 c3 H1 (h1.pre p1) (h2.pre p1) (h3.pre p1) g1 g2 g3) ?_
  rintro _ _ ⟨rfl, b1, d1, b2, d2, b3, d3, rfl, s1, s2, s3⟩
  have n1 : (segs.take 24).length ≤ 24 := by rw [List.length_take]; omega
  have n2 : (have_.take 60).length ≤ 60 := by rw [List.length_take]; omega
  have n3 : (nodes.take 12).length ≤ 12 := by rw [List.length_take]; omega
  generalize segs.take 24 = segs at *
  generalize have_.take 60 = have_ at *
  generalize nodes.take 12 = nodes at *
  simp -dsimp only [go_sem, ↓reduceIte, Nat.reduceEqDiff, Nat.reduceAdd, Nat.reduceMul, Nat.reduceSub, Nat.reduceLeDiff, Nat.reduceLT]
  refine SoundP_of (rAssign segs have_ nodes r b1 b2 b3 d1 d2 d3 _ s1 s2 s3 (by omega) (by omega) (by omega)) ?_
  rintro v H2 ⟨own2, p2⟩
  obtain ⟨e2, f2, rfl, sl2⟩ := own2.sl (fun _ => rfl)
  simp -dsimp only [go_sem, ↓reduceIte, Nat.reduceEqDiff, Nat.reduceAdd, Nat.reduceMul, Nat.reduceSub, Nat.reduceLeDiff, Nat.reduceLT]
  refine SoundP_of (refAssign segs have_ nodes r b1 b2 b3 d1 d2 d3 _ (s1.pre p2) (s2.pre p2) (s3.pre p2) n1 n2 n3) ?_
  rintro v H3 ⟨own3, p3⟩
  obtain ⟨e3, f3, rfl, sl3⟩ := own3.sl (fun _ => rfl)
  simp -dsimp only [go_sem, ↓reduceIte, Nat.reduceEqDiff, Nat.reduceAdd, Nat.reduceMul, Nat.reduceSub, Nat.reduceLeDiff, Nat.reduceLT]
  have hlen : (assignL segs have_ nodes r).length < 1000 := by
    have q1 := allRun_len (livingL nodes) (wantedL segs) (replN r (livingL nodes).length) (wantedL segs) (who0 (livingL nodes) (wantedL segs) have_)
    have q2 := livingL_len nodes
    have q3 := wantedL_len segs
    have q4 := applyL_len have_ []
    have q5 : (oddL (livingL nodes) (wantedL segs) (applyL have_ [])).length ≤ (applyL have_ []).length := by unfold oddL; rw [List.length_map]; exact List.length_filter_le _ _
    have q6 : (wantedL segs).length * (livingL nodes).length ≤ 24 * 12 := Nat.mul_le_mul (by omega) (by omega)
    unfold assignL
    simp only [List.length_append, List.length_nil] at q4 ⊢
    omega
  refine SoundP_of (refSame (assignL segs have_ nodes r) (assignL segs have_ nodes r) e2 e3 f2 f3 H3 (sl2.pre p3) sl3 hlen) ?_
  rintro v H4 ⟨rfl, p4⟩
  simp -dsimp only [go_sem, ↓reduceIte, Nat.reduceEqDiff, Nat.reduceAdd, Nat.reduceMul, Nat.reduceSub, Nat.reduceLeDiff, Nat.reduceLT]

theorem rulesBalances (segs : List Seg) (have_ : List Order) (nodes : List Int) (l : List Order) (a1 a2 a3 a4 : Option Addr) (c1 c2 c3 c4 : Nat) (H : AHeap) (h1 : SegsAt H a1 segs) (h2 : OrdersAt H a2 have_) (h3 : IntsAt H a3 nodes) (h4 : OrdersAt H a4 l) (g1 : ArgSl a1 segs.length c1) (g2 : ArgSl a2 have_.length c2) (g3 : ArgSl a3 nodes.length c3) (g4 : ArgSl a4 l.length c4) :
    Sound Try.prog 4 [.slice a1 segs.length c1, .slice a2 have_.length c2, .slice a3 nodes.length c3, .slice a4 l.length c4] H fun v _ => v = .bool true := by
  refine Sound.of_body (rs := [.tmp 8]) mixed Try.func4 rfl (by kernel_rfl) rfl (by kernel_rfl) ?_
  simp -dsimp only [go_sem, ↓reduceIte, Nat.reduceEqDiff, Nat.reduceAdd, Nat.reduceMul, Nat.reduceSub, Nat.reduceLeDiff, Nat.reduceLT]
  refine SoundP_of (awake H) ?_
  rintro _ H1 ⟨rfl, p1⟩
  simp -dsimp only [go_sem, ↓reduceIte, Nat.reduceEqDiff, Nat.reduceAdd, Nat.reduceMul, Nat.reduceSub, Nat.reduceLeDiff, Nat.reduceLT]
  refine SoundP_of (few segs have_ nodes a1 a2 a3 c1 c2 c3 H1 (h1.pre p1) (h2.pre p1) (h3.pre p1) g1 g2 g3) ?_
  rintro _ H0 ⟨rfl, b1, d1, b2, d2, b3, d3, rfl, s1, s2, s3⟩
  have n1 : (segs.take 24).length ≤ 24 := by rw [List.length_take]; omega
  have n2 : (have_.take 60).length ≤ 60 := by rw [List.length_take]; omega
  have n3 : (nodes.take 12).length ≤ 12 := by rw [List.length_take]; omega
  generalize segs.take 24 = segs at *
  generalize have_.take 60 = have_ at *
  generalize nodes.take 12 = nodes at *
  have m4 : (if (60 : Int) < (l.length : Int) then (60 : Int) else (l.length : Int)) = (((l.take 60).length : Nat) : Int) := by rw [List.length_take]; split <;> omega
  have n4' : (l.take 60).length ≤ l.length := by rw [List.length_take]; omega
  obtain ⟨b4, d4, e4, -, f4⟩ := g4.cut n4' H0 7
  have k4 := Nat.le_trans n4' g4.cap
  simp -dsimp only [go_sem, ↓reduceIte, Nat.reduceEqDiff, Nat.reduceAdd, Nat.reduceMul, Nat.reduceSub, Nat.reduceLeDiff, Nat.reduceLT, m4, k4, e4]
  have s4 : OrdersAt H0 b4 (l.take 60) := by simpa only [take_len] using f4 Order.cells l (h4.pre p1) rfl
  have n4 : (l.take 60).length ≤ 60 := by rw [List.length_take]; omega
  clear f4 e4 k4 n4' m4 g4 h4
  generalize l.take 60 = l at *
  refine SoundP_of (rBalance segs have_ nodes b1 b2 b3 d1 d2 d3 _ s1 s2 s3 (by omega) (by omega) (by omega)) ?_
  rintro v H2 ⟨own2, p2⟩
  obtain ⟨e2, f2, rfl, sl2⟩ := own2.sl (fun _ => rfl)
  simp -dsimp only [go_sem, ↓reduceIte, Nat.reduceEqDiff, Nat.reduceAdd, Nat.reduceMul, Nat.reduceSub, Nat.reduceLeDiff, Nat.reduceLT]
  refine SoundP_of (refBalance segs have_ nodes b1 b2 b3 d1 d2 d3 _ (s1.pre p2) (s2.pre p2) (s3.pre p2) (by omega) (by omega) (by omega)) ?_
  rintro v H3 ⟨own3, p3⟩
  obtain ⟨e3, f3, rfl, sl3⟩ := own3.sl (fun _ => rfl)
  simp -dsimp only [go_sem, ↓reduceIte, Nat.reduceEqDiff, Nat.reduceAdd, Nat.reduceMul, Nat.reduceSub, Nat.reduceLeDiff, Nat.reduceLT]
  have hlen : (balanceL segs have_ nodes).length < 1000 := by
    unfold balanceL
    split
    · simp
    · simp only
      split
      · simp
      · split <;> simp
  refine SoundP_of (refSame (balanceL segs have_ nodes) (balanceL segs have_ nodes) e2 e3 f2 f3 H3 (sl2.pre p3) sl3 hlen) ?_
  rintro v H4 ⟨rfl, p4⟩
  have p14 := (p2.trans p3).trans p4
  simp -dsimp only [go_sem, ↓reduceIte, Nat.reduceEqDiff, Nat.reduceAdd, Nat.reduceMul, Nat.reduceSub, Nat.reduceLeDiff, Nat.reduceLT]
  refine SoundP_of (rApply have_ l b2 b4 d2 d4 _ (s2.pre p14) (s4.pre p14) (by omega) (by omega)) ?_
  rintro v H5 ⟨own5, p5⟩
  obtain ⟨e5, f5, rfl, sl5⟩ := own5.sl (fun _ => rfl)
  simp -dsimp only [go_sem, ↓reduceIte, Nat.reduceEqDiff, Nat.reduceAdd, Nat.reduceMul, Nat.reduceSub, Nat.reduceLeDiff, Nat.reduceLT]
  refine SoundP_of (refApply' have_ l b2 b4 d2 d4 _ (s2.pre (p14.trans p5)) (s4.pre (p14.trans p5)) (by omega) (by omega)) ?_
  rintro v H6 ⟨own6, p6⟩
  obtain ⟨e6, f6, rfl, sl6⟩ := own6.sl (fun _ => rfl)
  simp -dsimp only [go_sem, ↓reduceIte, Nat.reduceEqDiff, Nat.reduceAdd, Nat.reduceMul, Nat.reduceSub, Nat.reduceLeDiff, Nat.reduceLT]
  refine SoundP_of (refSame (applyL have_ l) (applyL have_ l) e5 e6 f5 f6 H6 (sl5.pre p6) sl6 (by have := applyL_len have_ l; omega)) ?_
  rintro v H7 ⟨rfl, p7⟩
  simp -dsimp only [go_sem, ↓reduceIte, Nat.reduceEqDiff, Nat.reduceAdd, Nat.reduceMul, Nat.reduceSub, Nat.reduceLeDiff, Nat.reduceLT]
end Go.Proofs.Ytangfnommhmpeaa
