/-
  The statements of layer 16: what stands at the head of all of them.
-/
import Derived.Test.YtangfnommhmpeaaRefAsg
import Derived.Test.YtangfnommhmpeaaAwTop
set_option linter.unusedVariables false
set_option linter.unusedSimpArgs false
namespace Go.Proofs.Ytangfnommhmpeaa
open Go Go.AW Go.Bub
set_option linter.unusedSimpArgs false
set_option maxRecDepth 20000

abbrev sA : Seg := ⟨0, 1, 0, 0, 0⟩
abbrev sB : Seg := ⟨1, 2, 0, 0, 0⟩
theorem w_ab : wantedL [sA, sB] = [sA, sB] := (wantedL_uniq (m := [sA, sB]) (by simp [standsR]) (fun _ => Iff.rfl)).symm
theorem n_123 : livingL [1, 2, 3] = [1, 2, 3] := (livingL_uniq (m := [1, 2, 3]) (by simp) (fun _ => Iff.rfl)).symm
theorem n_12 : livingL [1, 2] = [1, 2] := (livingL_uniq (m := [1, 2]) (by simp) (fun _ => Iff.rfl)).symm
theorem assign_awake : assignL [sA, sB] [] [1, 2, 3] 2 = [⟨false, sA, 1⟩, ⟨false, sA, 2⟩, ⟨false, sB, 3⟩, ⟨false, sB, 1⟩] := by
  have e : applyL [] [] = [] := (applyL_uniq (m := []) .nil (fun y => by simp [applyS, setS, stepsOf])).symm
  unfold assignL
  rw [w_ab, n_123, e]
  decide
theorem balance_awake : balanceL [sA, sB] [⟨false, sA, 1⟩, ⟨false, sB, 1⟩] [1, 2] = [⟨false, sA, 2⟩, ⟨true, sA, 1⟩] := by
  unfold balanceL
  rw [w_ab, n_12]
  decide
theorem apply_awake : applyL [⟨false, sA, 1⟩, ⟨false, sA, 1⟩] [⟨false, sA, 2⟩, ⟨true, sA, 1⟩] = [⟨false, sA, 2⟩] := by
  refine (applyL_uniq (m := [⟨false, sA, 2⟩]) (by simp) fun y => ?_).symm
  simp only [applyS, setS, stepsOf, stepS, clr, List.map_cons, List.map_nil, List.cons_append, List.nil_append, List.foldl_cons, List.foldl_nil, List.mem_singleton]
  by_cases h1 : y = ⟨false, sA, 1⟩
  · subst h1; simp
  · by_cases h2 : y = ⟨false, sA, 2⟩ <;> simp [h1, h2]

theorem awake (H : AHeap) : Sound Try.prog 9 [] H fun v H' => v = .bool true ∧ H <+: H' := by
  refine Sound.of_body (rs := [.tmp 0]) mixed Try.func9 rfl (by kernel_rfl) rfl (by kernel_rfl) ?_
  simp -dsimp only [go_sem, ↓reduceIte, Nat.reduceEqDiff, Nat.reduceAdd, Nat.reduceMul, Nat.reduceSub, Nat.reduceLeDiff, Nat.reduceLT]
  refine SoundP_of (rAssign [sA, sB] [] [1, 2, 3] 2 (some ⟨H.length + 2, 0, none⟩) none (some ⟨H.length + 3, 0, none⟩) 2 0 3 _ (SlA.ofRow (get_end2 _ _ _ _ _) rfl fun _ => rfl) (SlA.nil _ _ _ _) (SlA.ofRow (get_end3 _ _ _ _ _ _) rfl fun _ => rfl) (by decide) (by decide) (by decide)) ?_
  rintro v H1 ⟨own1, p1⟩
  rw [assign_awake] at own1
  obtain ⟨b1, d1, rfl, sl1⟩ := own1.sl (fun _ => rfl)
  have x1 := pre_get p1 (get_end _ _ _)
  have y1 := pre_get p1 (get_end1 _ _ _ _)
  have q1 : H <+: H1 := (List.prefix_append _ _).trans p1
  clear p1 own1
  simp -dsimp only [go_sem, ↓reduceIte, Nat.reduceEqDiff, Nat.reduceAdd, Nat.reduceMul, Nat.reduceSub, Nat.reduceLeDiff, Nat.reduceLT, x1, y1, get_app x1, get_app y1]
  refine SoundP_of (rBalance [sA, sB] [⟨false, sA, 1⟩, ⟨false, sB, 1⟩] [1, 2] (some ⟨H1.length + 1, 0, none⟩) (some ⟨H1.length + 2, 0, none⟩) (some ⟨H1.length + 3, 0, none⟩) 2 2 2 _ (SlA.ofRow (get_end1 _ _ _ _) rfl fun _ => rfl) (SlA.ofRow (get_end2 _ _ _ _ _) rfl fun _ => rfl) (SlA.ofRow (get_end3 _ _ _ _ _ _) rfl fun _ => rfl) (by decide) (by decide) (by decide)) ?_
  rintro v H2 ⟨own2, p2⟩
  rw [balance_awake] at own2
  obtain ⟨b2, d2, rfl, sl2⟩ := own2.sl (fun _ => rfl)
  have w2 := pre_get p2 (get_end _ _ _)
  have q2 : H1 <+: H2 := (List.prefix_append _ _).trans p2
  have x2 := pre_get q2 x1
  have sl1' := sl1.pre q2
  clear p2 own2 sl1
  simp -dsimp only [go_sem, ↓reduceIte, Nat.reduceEqDiff, Nat.reduceAdd, Nat.reduceMul, Nat.reduceSub, Nat.reduceLeDiff, Nat.reduceLT, x2, get_app x2]
  refine SoundP_of (rApply [⟨false, sA, 1⟩, ⟨false, sA, 1⟩] [⟨false, sA, 2⟩, ⟨true, sA, 1⟩] (some ⟨H2.length, 0, none⟩) b2 2 d2 _ (SlA.ofRow (get_end _ _ _) rfl fun _ => rfl) (sl2.pre (List.prefix_append _ _)) (by decide) (by decide)) ?_
  rintro v H3 ⟨own3, p3⟩
  rw [apply_awake] at own3
  obtain ⟨b3, d3, rfl, sl3⟩ := own3.sl (fun _ => rfl)
  have q3 : H2 <+: H3 := (List.prefix_append _ _).trans p3
  have w3 := pre_get q3 w2
  have x3 := pre_get q3 x2
  have sl1'' := sl1'.pre q3
  clear p3 own3
  simp -dsimp only [go_sem, ↓reduceIte, Nat.reduceEqDiff, Nat.reduceAdd, Nat.reduceMul, Nat.reduceSub, Nat.reduceLeDiff, Nat.reduceLT]
  refine SoundP_of (refSame [⟨false, sA, 1⟩, ⟨false, sA, 2⟩, ⟨false, sB, 3⟩, ⟨false, sB, 1⟩] [⟨false, sA, 1⟩, ⟨false, sA, 2⟩, ⟨false, sB, 3⟩, ⟨false, sB, 1⟩] b1 (some ⟨H1.length, 0, none⟩) d1 4 H3 sl1'' (SlA.ofRow w3 rfl fun _ => rfl) (by decide)) ?_
  rintro v H4 ⟨rfl, p4⟩
  have x4 := pre_get p4 x3
  simp -dsimp only [go_sem, ↓reduceIte, Nat.reduceEqDiff, Nat.reduceAdd, Nat.reduceMul, Nat.reduceSub, Nat.reduceLeDiff, Nat.reduceLT, x4, get_app x4, show ((((2 : Nat) : Int)) == (2 : Int)) = true from rfl]
  refine SoundP_of (refSame [⟨false, sA, 2⟩] [⟨false, sA, 2⟩] b3 (some ⟨H4.length, 0, none⟩) d3 1 _ ((sl3.pre p4).pre (List.prefix_append _ _)) (SlA.ofRow (get_end _ _ _) rfl fun _ => rfl) (by decide)) ?_
  rintro v H5 ⟨rfl, p5⟩
  simp -dsimp only [go_sem, ↓reduceIte, Nat.reduceEqDiff, Nat.reduceAdd, Nat.reduceMul, Nat.reduceSub, Nat.reduceLeDiff, Nat.reduceLT]
  exact (((q1.trans q2).trans q3).trans p4).trans ((List.prefix_append _ _).trans p5)

theorem take_len {α : Type} (l : List α) (k : Nat) : l.take (l.take k).length = l.take k := by rw [List.length_take, ← List.take_take, List.take_length]

/-- at most so many -/
theorem few (segs : List Seg) (have_ : List Order) (nodes : List Int) (a1 a2 a3 : Option Addr) (c1 c2 c3 : Nat) (H : AHeap) (h1 : SegsAt H a1 segs) (h2 : OrdersAt H a2 have_) (h3 : IntsAt H a3 nodes) (g1 : ArgSl a1 segs.length c1) (g2 : ArgSl a2 have_.length c2) (g3 : ArgSl a3 nodes.length c3) :
    Sound Try.prog 10 [.slice a1 segs.length c1, .slice a2 have_.length c2, .slice a3 nodes.length c3] H fun v H' => H' = H ∧ ∃ a1 c1 a2 c2 a3 c3, v = .tuple #[.slice a1 (segs.take 24).length c1, .slice a2 (have_.take 60).length c2, .slice a3 (nodes.take 12).length c3] ∧ SegsAt H a1 (segs.take 24) ∧ OrdersAt H a2 (have_.take 60) ∧ IntsAt H a3 (nodes.take 12) := by
  refine Sound.of_body (rs := [.tmp 6, .tmp 7, .tmp 8]) mixed Try.func10 rfl (by kernel_rfl) rfl (by kernel_rfl) ?_
  have m1 : (if (24 : Int) < (segs.length : Int) then (24 : Int) else (segs.length : Int)) = (((segs.take 24).length : Nat) : Int) := by rw [List.length_take]; split <;> omega
  have m2 : (if (60 : Int) < (have_.length : Int) then (60 : Int) else (have_.length : Int)) = (((have_.take 60).length : Nat) : Int) := by rw [List.length_take]; split <;> omega
  have m3 : (if (12 : Int) < (nodes.length : Int) then (12 : Int) else (nodes.length : Int)) = (((nodes.take 12).length : Nat) : Int) := by rw [List.length_take]; split <;> omega
  have n1 : (segs.take 24).length ≤ segs.length := by rw [List.length_take]; omega
  have n2 : (have_.take 60).length ≤ have_.length := by rw [List.length_take]; omega
  have n3 : (nodes.take 12).length ≤ nodes.length := by rw [List.length_take]; omega
  obtain ⟨b1, d1, e1, -, f1⟩ := g1.cut n1 H 5
  obtain ⟨b2, d2, e2, -, f2⟩ := g2.cut n2 H 7
  obtain ⟨b3, d3, e3, -, f3⟩ := g3.cut n3 H 1
  have k1 := Nat.le_trans n1 g1.cap
  have k2 := Nat.le_trans n2 g2.cap
  have k3 := Nat.le_trans n3 g3.cap
  simp -dsimp only [go_sem, ↓reduceIte, Nat.reduceEqDiff, Nat.reduceAdd, Nat.reduceMul, Nat.reduceSub, Nat.reduceLeDiff, Nat.reduceLT]
  refine adrawnP_of2 [(0, false), (1, false), (2, false), (3, false), (4, false), (5, false), (6, false), (7, false), (8, false), (9, false), (10, false), (11, false), (12, false), (13, false), (14, false), (15, false), (16, false), (17, false)] (by kernel_rfl) ?_
  simp -dsimp only [go_sem, ↓reduceIte, Nat.reduceEqDiff, Nat.reduceAdd, Nat.reduceMul, Nat.reduceSub, Nat.reduceLeDiff, Nat.reduceLT, m1, m2, m3, k1, k2, k3, e1, e2, e3]
  exact ⟨b1, d1, b2, d2, b3, d3, rfl, by simpa only [take_len] using f1 Seg.cells segs h1 rfl, by simpa only [take_len] using f2 Order.cells have_ h2 rfl, by simpa only [take_len] using f3 encI nodes h3 rfl⟩
end Go.Proofs.Ytangfnommhmpeaa
