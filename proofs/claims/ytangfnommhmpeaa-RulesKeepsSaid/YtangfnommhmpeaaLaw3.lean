/-
  RulesKeeps: nothing is told that does more than what is wanted.
-/
import Derived.Test.YtangfnommhmpeaaLaw2
set_option linter.unusedVariables false
set_option linter.unusedSimpArgs false
namespace Go.Proofs.Ytangfnommhmpeaa
open Go Go.AW Go.Bub
set_option linter.unusedSimpArgs false
set_option maxRecDepth 20000

theorem own_piece {α : Type} {b : Nat} {H : AHeap} {enc : α → List Value} {k id n c : Nat} {l : List α} (h : Own b H enc k (.slice (some ⟨id, 0, none⟩) n c) l) (hk : ∀ x, (enc x).length = k) (hk0 : 0 < k) (hne : 0 < l.length) (i : Nat) (hi : i < n) (j : Nat) :
    ∃ c', AW.cut H k (some ⟨id, 0, none⟩) c i j = some (.slice (some ⟨id, i * k, none⟩) (j - i) c') := by
  have hcap := own_cap h hk hk0
  obtain ⟨id', rest, _, q, rfl, h3, h4⟩ := own_open h hne
  cases q
  simp only [AW.cut, Option.isSome_none, Bool.false_eq_true, if_false, add_none, Nat.zero_add]
  by_cases hc : c = 0
  · rw [if_pos hc, if_pos (by simp [rowOf, h3])]; exact ⟨_, rfl⟩
  · have := hcap hc
    rw [if_neg hc, if_neg (by omega)]; exact ⟨_, rfl⟩
theorem slA_one {α : Type} {H : AHeap} {enc : α → List Value} {k id off : Nat} {x : α} (h : aload H ⟨id, off, none⟩ k = some (enc x)) : SlA H enc k (some ⟨id, off, none⟩) [x] := fun i y hy => by
  cases i with
  | zero => cases hy; exact ⟨id, off, rfl, by rw [Nat.zero_mul, Nat.add_zero]; exact h⟩
  | succ i => simp at hy
theorem OkL.get {N : List Int} {W : List Seg} {r : Nat} {l : List Order} {S : Who} {i : Nat} {o : Order} (h : OkL N W r (l.drop i) S) (ho : l[i]? = some o) : OkO N W r S o ∧ OkL N W r (l.drop (i + 1)) (upd S o) := by
  have e : l.drop i = o :: l.drop (i + 1) := by
    obtain ⟨hi, rfl⟩ := List.getElem?_eq_some_iff.1 ho
    exact List.drop_eq_getElem_cons hi
  rw [e] at h; exact h
theorem rulesKeeps (segs : List Seg) (have_ : List Order) (nodes : List Int) (r : Int) (a1 a2 a3 : Option Addr) (c1 c2 c3 : Nat) (H : AHeap) (h1 : SegsAt H a1 segs) (h2 : OrdersAt H a2 have_) (h3 : IntsAt H a3 nodes) (g1 : ArgSl a1 segs.length c1) (g2 : ArgSl a2 have_.length c2) (g3 : ArgSl a3 nodes.length c3) :
    Sound Try.prog 6 [.slice a1 segs.length c1, .slice a2 have_.length c2, .slice a3 nodes.length c3, .int .i64 r] H fun v _ => v = .bool true := by
  refine Sound.of_body (rs := [.tmp 8]) mixed Try.func6 rfl (by kernel_rfl) rfl (by kernel_rfl) ?_
  simp -dsimp only [go_sem, ↓reduceIte, Nat.reduceEqDiff, Nat.reduceAdd, Nat.reduceMul, Nat.reduceSub, Nat.reduceLeDiff, Nat.reduceLT]
  refine SoundP_of (awake H) ?_
  rintro _ H1 ⟨rfl, p1⟩
  simp -dsimp only [go_sem, ↓reduceIte, Nat.reduceEqDiff, Nat.reduceAdd, Nat.reduceMul, Nat.reduceSub, Nat.reduceLeDiff, Nat.reduceLT]
  refine SoundP_of (few segs have_ nodes a1 a2 a3 c1 c2 c3 H1 (h1.pre p1) (h2.pre p1) (h3.pre p1) g1 g2 g3) ?_
  rintro _ H0 ⟨rfl, b1, d1, b2, d2, b3, d3, rfl, s1, s2, s3⟩
  have n1 : (segs.take 24).length ≤ 24 := by rw [List.length_take]; omega
  have n2 : (have_.take 60).length ≤ 60 := by rw [List.length_take]; omega
  have n3 : (nodes.take 12).length ≤ 12 := by rw [List.length_take]; omega
  generalize segs.take 24 = segs at *
  generalize have_.take 60 = have_ at *
  generalize nodes.take 12 = nodes at *
  obtain ⟨-, -, ok0⟩ := assign_parts segs have_ nodes r
  have hl := assignL_len segs have_ nodes r n1 n2 n3
  have hW : ∀ s, s ∈ wantedL segs ↔ s ∈ segs := wantedL_mem segs
  generalize wantedL segs = W at *
  simp -dsimp only [go_sem, ↓reduceIte, Nat.reduceEqDiff, Nat.reduceAdd, Nat.reduceMul, Nat.reduceSub, Nat.reduceLeDiff, Nat.reduceLT]
  refine SoundP_of (refLiving' nodes b3 d3 _ s3 (by omega)) ?_
  rintro _ H2 ⟨own2, p2⟩
  obtain ⟨bn, dn, rfl, hn⟩ := own2.sl (fun _ => rfl)
  have hN := livingL_len nodes
  simp -dsimp only [go_sem, ↓reduceIte, Nat.reduceEqDiff, Nat.reduceAdd, Nat.reduceMul, Nat.reduceSub, Nat.reduceLeDiff, Nat.reduceLT]
  refine SoundP_of (refReplicas r (livingL nodes).length bn dn _) ?_
  rintro _ _ ⟨rfl, rfl⟩
  rw [replN_cast]
  generalize replN r (livingL nodes).length = many at *
  simp -dsimp only [go_sem, ↓reduceIte, Nat.reduceEqDiff, Nat.reduceAdd, Nat.reduceMul, Nat.reduceSub, Nat.reduceLeDiff, Nat.reduceLT]
  refine SoundP_of (rApply have_ [] b2 none d2 0 _ (s2.pre p2) (SlA.nil _ _ _ _) (by omega) (by decide)) ?_
  rintro _ H3 ⟨own3, p3⟩
  obtain ⟨bw, dw, rfl, hw3⟩ := own3.sl (fun _ => rfl)
  simp -dsimp only [go_sem, ↓reduceIte, Nat.reduceEqDiff, Nat.reduceAdd, Nat.reduceMul, Nat.reduceSub, Nat.reduceLeDiff, Nat.reduceLT]
  refine SoundP_of (rAssign segs have_ nodes r b1 b2 b3 d1 d2 d3 _ (s1.pre (p2.trans p3)) (s2.pre (p2.trans p3)) (s3.pre (p2.trans p3)) (by omega) (by omega) (by omega)) ?_
  rintro _ H4 ⟨own4, p4⟩
  obtain ⟨bl, dl, rfl, hl4⟩ := own4.sl (fun _ => rfl)
  generalize assignL segs have_ nodes r = l at *
  have p04 := (p2.trans p3).trans p4
  have r1 := s1.pre p04
  have hn4 := hn.pre (p3.trans p4)
  have hw4 := hw3.pre p4
  have hnow := applyL_len have_ []
  rw [← hasW_nil] at ok0
  clear s1 s2 s3 hn hw3 h1 h2 h3 g1 g2 g3 p1 p2 p3 p4 p04
  generalize livingL nodes = N at *
  generalize applyL have_ [] = now at *
  rw [List.length_nil, Nat.add_zero] at hnow
  have hnow : now.length ≤ 60 := by omega
  simp -dsimp only [go_sem, ↓reduceIte, Nat.reduceEqDiff, Nat.reduceAdd, Nat.reduceMul, Nat.reduceSub, Nat.reduceLeDiff, Nat.reduceLT]
  refine aloopP_of (fun m T H' => ∃ i now bw dw, m = l.length - i ∧ i ≤ l.length ∧ H4 <+: H' ∧ T 0 = .slice b1 segs.length d1 ∧ T 10 = .slice bn N.length dn ∧ T 11 = .int .i64 (many : Int) ∧ T 12 = .slice bw now.length dw ∧ T 13 = .slice bl l.length dl ∧ T 14 = .int .i64 i ∧ OrdersAt H' bw now ∧ now.length ≤ 60 + i ∧ OkL N W many (l.drop i) (hasW now)) (n := l.length) ?_ ?_
  · refine ⟨0, now, bw, dw, ?_⟩
    simp -dsimp only [go_sem, ↓reduceIte, Nat.reduceEqDiff, Nat.reduceAdd, Nat.reduceMul, Nat.reduceSub, Nat.reduceLeDiff, Nat.reduceLT]
    exact ⟨by omega, by omega, List.prefix_refl _, rfl, hw4, hnow, ok0⟩
  clear hw4 ok0 hnow own3
  rintro m T H' ⟨i, now, bw, dw, rfl, hi, hp, g0, g10, g11, g12, g13, g14, hw, hnow, hok⟩
  simp -dsimp only [go_sem, ↓reduceIte, Nat.reduceEqDiff, Nat.reduceAdd, Nat.reduceMul, Nat.reduceSub, Nat.reduceLeDiff, Nat.reduceLT, g0, g10, g11, g12, g13, g14]
  refine acondP_of (fun h => ?_) (fun h => ?_)
  · simp at h
    obtain ⟨o, ho⟩ := get_ex h
    obtain ⟨hoo, hok'⟩ := hok.get ho
    have own4' := own4.pre hp
    obtain ⟨idl, rest, -, hq, -, -, -⟩ := own_open own4' (by omega)
    cases hq
    have hat := fun i x hx => own_at own4' (fun _ => rfl) i x hx
    have ix := inRange h
    have hao := hat i o ho
    simp -dsimp only [go_sem, ↓reduceIte, Nat.reduceEqDiff, Nat.reduceAdd, Nat.reduceMul, Nat.reduceSub, Nat.reduceLeDiff, Nat.reduceLT, g0, g10, g11, g12, g13, g14]
    refine adrawnP_of2 [(0, false), (1, false), (2, false), (3, false), (4, false), (5, false), (6, false), (7, false), (8, false), (9, false), (10, false), (11, false), (12, false)] (by kernel_rfl) ?_
    simp -dsimp only [go_sem, ↓reduceIte, Nat.reduceEqDiff, Nat.reduceAdd, Nat.reduceMul, Nat.reduceSub, Nat.reduceLeDiff, Nat.reduceLT, g0, g10, g11, g12, g13, g14, ix, rowLoad_cell hao, rowLoad_whole (aload_sub hao 1 5 (by decide))]
    refine SoundP_of (refHolds o.seg o.node now bw dw _ hw (by omega)) ?_
    rintro v H5 ⟨rfl, q5⟩
    simp -dsimp only [go_sem, ↓reduceIte, Nat.reduceEqDiff, Nat.reduceAdd, Nat.reduceMul, Nat.reduceSub, Nat.reduceLeDiff, Nat.reduceLT, g0, g10, g11, g12, g13, g14]
    rw [show now.any (holdsP o.seg o.node) = o.drop from hoo.was]
    refine aloopP_of (fun m T3 H6 => ∃ k, m = N.length - k ∧ k ≤ N.length ∧ H6 = H5 ∧ T3 0 = .slice b1 segs.length d1 ∧ T3 10 = .slice bn N.length dn ∧ T3 11 = .int .i64 (many : Int) ∧ T3 12 = .slice bw now.length dw ∧ T3 13 = .slice (some ⟨idl, 0, none⟩) l.length dl ∧ T3 14 = .int .i64 i ∧ T3 15 = .bool o.drop ∧ T3 16 = .bool (decide (o.node ∈ N.take k)) ∧ T3 17 = .int .i64 k) (n := N.length) ?_ ?_
    · refine ⟨0, ?_⟩
      simp -dsimp only [go_sem, ↓reduceIte, Nat.reduceEqDiff, Nat.reduceAdd, Nat.reduceMul, Nat.reduceSub, Nat.reduceLeDiff, Nat.reduceLT, g0, g10, g11, g12, g13, g14]
      simp
    rintro m T3 H6 ⟨k, rfl, hk, rfl, f0, f10, f11, f12, f13, f14, f15, f16, f17⟩
    simp -dsimp only [go_sem, ↓reduceIte, Nat.reduceEqDiff, Nat.reduceAdd, Nat.reduceMul, Nat.reduceSub, Nat.reduceLeDiff, Nat.reduceLT, f0, f10, f11, f12, f13, f14, f15, f16, f17]
    refine acondP_of (fun hk1 => ?_) (fun hk1 => ?_)
    · simp at hk1
      obtain ⟨y, hy⟩ := get_ex hk1
      obtain ⟨id2, off2, rfl, hat3⟩ := hn4.at (by omega)
      have w1 := wrS (show k < 4611686018427387904 by omega)
      have ht : decide (o.node ∈ N.take (k + 1)) = (decide (o.node ∈ N.take k) || decide (y = o.node)) := by
        rw [take_get hy, Bool.eq_iff_iff]
        simp only [decide_eq_true_eq, List.mem_append, List.mem_singleton, Bool.or_eq_true]
        exact ⟨fun h => h.imp (fun h => h) Eq.symm, fun h => h.imp (fun h => h) Eq.symm⟩
      simp -dsimp only [go_sem, ↓reduceIte, Nat.reduceEqDiff, Nat.reduceAdd, Nat.reduceMul, Nat.reduceSub, Nat.reduceLeDiff, Nat.reduceLT, f0, f10, f11, f12, f13, f14, f15, f16, f17]
      refine adrawnP_of2 [(0, false), (1, false), (2, false), (3, false), (4, false), (5, false), (6, false), (7, false), (8, false), (9, false), (10, false), (11, false), (12, false), (13, false)] (by kernel_rfl) ?_
      cases hb : decide (o.node ∈ N.take k) with
      | true =>
        simp -dsimp only [go_sem, ↓reduceIte, Nat.reduceEqDiff, Nat.reduceAdd, Nat.reduceMul, Nat.reduceSub, Nat.reduceLeDiff, Nat.reduceLT, f0, f10, f11, f12, f13, f14, f15, f16, f17, hb, w1]
        refine ⟨_, ?_, k + 1, rfl, hk1, ?_⟩
        · omega
        · rw [ht, hb]; simp
      | false =>
        simp -dsimp only [go_sem, ↓reduceIte, Nat.reduceEqDiff, Nat.reduceAdd, Nat.reduceMul, Nat.reduceSub, Nat.reduceLeDiff, Nat.reduceLT, f0, f10, f11, f12, f13, f14, f15, f16, f17, hb, ix, inRange hk1, rowLoad_one0 (aload_pre (hp.trans q5) (hat3 k y hy)), rowLoad_cell (aload_pre q5 hao), w1]
        refine ⟨_, ?_, k + 1, rfl, hk1, ?_⟩
        · omega
        · have eb : (y == o.node) = decide (y = o.node) := by rw [Bool.eq_iff_iff]; simp
          rw [ht, hb, Bool.false_or, eb]; exact ⟨rfl, rfl⟩
    simp at hk1
    obtain rfl : k = N.length := by omega
    rw [List.take_length, decide_eq_true hoo.node] at f16
    clear hk1
    have hp5 := hp.trans q5
    simp -dsimp only [go_sem, ↓reduceIte, Nat.reduceEqDiff, Nat.reduceAdd, Nat.reduceMul, Nat.reduceSub, Nat.reduceLeDiff, Nat.reduceLT, f0, f10, f11, f12, f13, f14, f15, f16, f17, ix, rowLoad_whole (aload_sub (aload_pre q5 hao) 1 5 (by decide))]
    refine SoundP_of (refHas o.seg segs b1 d1 _ (r1.pre hp5) (by omega)) ?_
    rintro v H6 ⟨rfl, q6⟩
    simp -dsimp only [go_sem, ↓reduceIte, Nat.reduceEqDiff, Nat.reduceAdd, Nat.reduceMul, Nat.reduceSub, Nat.reduceLeDiff, Nat.reduceLT, f0, f10, f11, f12, f13, f14, f15, f16, f17]
    have hp6 := hp5.trans q6
    have q56 := q5.trans q6
    have lc := rowLoad_cell (aload_pre q56 hao)
    have ls := rowLoad_whole (aload_sub (aload_pre q56 hao) 1 5 (by decide))
    have hww := hoo.want
    rw [hW] at hww
    have hin : (decide (o.seg ∈ segs) || o.drop) = true := by
      rcases hww with h | h
      · simp [h]
      · simp [h]
    have nc : N.countP (manyP now o.seg) = N.countP (hasW now o.seg) := rfl
    have piece := own_piece own4' (fun _ => rfl) (by decide) (by omega) i (by omega) (i + 1)
    have cp : ∀ H7, H4 <+: H7 → ∃ c', AW.cut H7 7 (some ⟨idl, 0, none⟩) dl i (i + 1) = some (.slice (some ⟨idl, i * 7, none⟩) 1 c') := fun H7 q => by
      obtain ⟨c', hc'⟩ := own_piece (own4.pre q) (fun _ => rfl) (by decide) (by omega) i (by omega) (i + 1)
      rw [Nat.add_sub_cancel_left] at hc'
      exact ⟨c', hc'⟩
    have kcap := own_capOf own4 (fun _ => rfl) (by decide)
    have final : ∀ H7, H4 <+: H7 → OrdersAt H7 bw now → ∃ c', AW.cut H7 7 (some ⟨idl, 0, none⟩) dl i (i + 1) = some (.slice (some ⟨idl, i * 7, none⟩) 1 c') ∧ SlA H7 Order.cells 7 (some ⟨idl, i * 7, none⟩) [o] := fun H7 q _ => by
      obtain ⟨c', hc'⟩ := cp H7 q
      exact ⟨c', hc', slA_one (own_at (own4.pre q) (fun _ => rfl) i o ho)⟩
    have w1 := wrS (show i < 4611686018427387904 by omega)
    cases hd : o.drop with
    | true =>
      simp -dsimp only [go_sem, ↓reduceIte, Nat.reduceEqDiff, Nat.reduceAdd, Nat.reduceMul, Nat.reduceSub, Nat.reduceLeDiff, Nat.reduceLT, f0, f10, f11, f12, f13, f14, f15, f16, f17, ix, lc, hd]
      refine acondP_of (fun hin => ?_) (fun hin => ?_)
      · have hin : decide (o.seg ∈ segs) = false := by simpa using hin
        simp -dsimp only [go_sem, ↓reduceIte, Nat.reduceEqDiff, Nat.reduceAdd, Nat.reduceMul, Nat.reduceSub, Nat.reduceLeDiff, Nat.reduceLT, f0, f10, f11, f12, f13, f14, f15, f16, f17, ix, lc, hd, ls, hin]
        refine SoundP_of (refMany o.seg now N bw bn dw dn _ (hw.pre q56) (hn4.pre hp6) (by omega) (by omega)) ?_
        rintro v H7 ⟨rfl, q7⟩
        simp -dsimp only [go_sem, ↓reduceIte, Nat.reduceEqDiff, Nat.reduceAdd, Nat.reduceMul, Nat.reduceSub, Nat.reduceLeDiff, Nat.reduceLT, f0, f10, f11, f12, f13, f14, f15, f16, f17]
        have hp7 := hp6.trans q7
        have lc7 := rowLoad_cell (aload_pre (q56.trans q7) hao)
        obtain ⟨c', hcut, hone⟩ := final H7 hp7 (hw.pre (q56.trans q7))
        have kc : i + 1 ≤ AW.capOf l.length dl := by omega
        simp -dsimp only [go_sem, ↓reduceIte, Nat.reduceEqDiff, Nat.reduceAdd, Nat.reduceMul, Nat.reduceSub, Nat.reduceLeDiff, Nat.reduceLT, f0, f10, f11, f12, f13, f14, f15, f16, f17, ix, lc7, hd, hin, w1, kc, Nat.le_succ i, hcut]
        refine SoundP_of (rApply now [o] bw (some ⟨idl, i * 7, none⟩) dw c' _ (hw.pre (q56.trans q7)) hone (by omega) (by simp)) ?_
        rintro _ H8 ⟨own8, q8⟩
        obtain ⟨bx, dx, rfl, hx8⟩ := own8.sl (fun _ => rfl)
        have hlen8 := applyL_len now [o]
        rw [List.length_singleton] at hlen8
        simp -dsimp only [go_sem, ↓reduceIte, Nat.reduceEqDiff, Nat.reduceAdd, Nat.reduceMul, Nat.reduceSub, Nat.reduceLeDiff, Nat.reduceLT, f0, f10, f11, f12, f13, f14, f15, f16, f17, w1]
        exact ⟨_, by omega, i + 1, _, _, _, rfl, h, hp7.trans q8, rfl, rfl, hx8, by omega, by rw [hasW_one]; exact hok'⟩
      · have hin : decide (o.seg ∈ segs) = true := by simpa using hin
        simp -dsimp only [go_sem, ↓reduceIte, Nat.reduceEqDiff, Nat.reduceAdd, Nat.reduceMul, Nat.reduceSub, Nat.reduceLeDiff, Nat.reduceLT, f0, f10, f11, f12, f13, f14, f15, f16, f17, ix, lc, hd, ls, hin]
        refine SoundP_of (refMany o.seg now N bw bn dw dn _ (hw.pre q56) (hn4.pre hp6) (by omega) (by omega)) ?_
        rintro v H7 ⟨rfl, q7⟩
        simp -dsimp only [go_sem, ↓reduceIte, Nat.reduceEqDiff, Nat.reduceAdd, Nat.reduceMul, Nat.reduceSub, Nat.reduceLeDiff, Nat.reduceLT, f0, f10, f11, f12, f13, f14, f15, f16, f17]
        have hp7 := hp6.trans q7
        have lc7 := rowLoad_cell (aload_pre (q56.trans q7) hao)
        obtain ⟨c', hcut, hone⟩ := final H7 hp7 (hw.pre (q56.trans q7))
        have hn : ¬ ((N.countP (manyP now o.seg) : Int) ≤ (many : Int)) := by have := hoo.drop ((hW _).2 (of_decide_eq_true hin)) hd; rw [← nc] at this; omega
        have kc : i + 1 ≤ AW.capOf l.length dl := by omega
        simp -dsimp only [go_sem, ↓reduceIte, Nat.reduceEqDiff, Nat.reduceAdd, Nat.reduceMul, Nat.reduceSub, Nat.reduceLeDiff, Nat.reduceLT, f0, f10, f11, f12, f13, f14, f15, f16, f17, ix, lc7, hd, hin, w1, kc, Nat.le_succ i, hcut, decide_eq_false hn]
        refine SoundP_of (rApply now [o] bw (some ⟨idl, i * 7, none⟩) dw c' _ (hw.pre (q56.trans q7)) hone (by omega) (by simp)) ?_
        rintro _ H8 ⟨own8, q8⟩
        obtain ⟨bx, dx, rfl, hx8⟩ := own8.sl (fun _ => rfl)
        have hlen8 := applyL_len now [o]
        rw [List.length_singleton] at hlen8
        simp -dsimp only [go_sem, ↓reduceIte, Nat.reduceEqDiff, Nat.reduceAdd, Nat.reduceMul, Nat.reduceSub, Nat.reduceLeDiff, Nat.reduceLT, f0, f10, f11, f12, f13, f14, f15, f16, f17, w1]
        exact ⟨_, by omega, i + 1, _, _, _, rfl, h, hp7.trans q8, rfl, rfl, hx8, by omega, by rw [hasW_one]; exact hok'⟩
    | false =>
      rw [hd, Bool.or_false] at hin
      simp -dsimp only [go_sem, ↓reduceIte, Nat.reduceEqDiff, Nat.reduceAdd, Nat.reduceMul, Nat.reduceSub, Nat.reduceLeDiff, Nat.reduceLT, f0, f10, f11, f12, f13, f14, f15, f16, f17, ix, lc, hd, hin, ls]
      refine SoundP_of (refMany o.seg now N bw bn dw dn _ (hw.pre q56) (hn4.pre hp6) (by omega) (by omega)) ?_
      rintro v H7 ⟨rfl, q7⟩
      simp -dsimp only [go_sem, ↓reduceIte, Nat.reduceEqDiff, Nat.reduceAdd, Nat.reduceMul, Nat.reduceSub, Nat.reduceLeDiff, Nat.reduceLT, f0, f10, f11, f12, f13, f14, f15, f16, f17]
      have hp7 := hp6.trans q7
      have lc7 := rowLoad_cell (aload_pre (q56.trans q7) hao)
      obtain ⟨c', hcut, hone⟩ := final H7 hp7 (hw.pre (q56.trans q7))
      have hn : ¬ ((many : Int) ≤ (N.countP (manyP now o.seg) : Int)) := by have := hoo.load ((hW _).2 (of_decide_eq_true hin)) hd; rw [← nc] at this; omega
      have kc : i + 1 ≤ AW.capOf l.length dl := by omega
      simp -dsimp only [go_sem, ↓reduceIte, Nat.reduceEqDiff, Nat.reduceAdd, Nat.reduceMul, Nat.reduceSub, Nat.reduceLeDiff, Nat.reduceLT, f0, f10, f11, f12, f13, f14, f15, f16, f17, ix, lc7, hd, hin, w1, kc, Nat.le_succ i, hcut, decide_eq_false hn]
      refine SoundP_of (rApply now [o] bw (some ⟨idl, i * 7, none⟩) dw c' _ (hw.pre (q56.trans q7)) hone (by omega) (by simp)) ?_
      rintro _ H8 ⟨own8, q8⟩
      obtain ⟨bx, dx, rfl, hx8⟩ := own8.sl (fun _ => rfl)
      have hlen8 := applyL_len now [o]
      rw [List.length_singleton] at hlen8
      simp -dsimp only [go_sem, ↓reduceIte, Nat.reduceEqDiff, Nat.reduceAdd, Nat.reduceMul, Nat.reduceSub, Nat.reduceLeDiff, Nat.reduceLT, f0, f10, f11, f12, f13, f14, f15, f16, f17, w1]
      exact ⟨_, by omega, i + 1, _, _, _, rfl, h, hp7.trans q8, rfl, rfl, hx8, by omega, by rw [hasW_one]; exact hok'⟩
  · simp -dsimp only [go_sem, ↓reduceIte, Nat.reduceEqDiff, Nat.reduceAdd, Nat.reduceMul, Nat.reduceSub, Nat.reduceLeDiff, Nat.reduceLT, g0, g10, g11, g12, g13, g14]
end Go.Proofs.Ytangfnommhmpeaa
