/-
  The document's Assign.
-/
import Derived.Test.YtangfnommhmpeaaRefBal
set_option linter.unusedVariables false
set_option linter.unusedSimpArgs false
namespace Go.Proofs.Ytangfnommhmpeaa
open Go Go.AW Go.Bub
set_option linter.unusedSimpArgs false
set_option maxRecDepth 20000

/-- one order more -/
theorem applyL_upd (now : List Order) (o : Order) (s : Seg) (n : Int) : (applyL now [o]).any (holdsP s n) = if s = o.seg ∧ n = o.node then !o.drop else now.any (holdsP s n) := by
  have h0 := applyL_any now s n
  have e : ∀ y, applyS now [o] y = if y = clr o then !o.drop else applyS now [] y := fun y => by
    unfold applyS setS stepsOf
    simp only [List.map_cons, List.map_nil, List.append_nil, List.foldl_append, List.foldl_cons, List.foldl_nil]
    rfl
  rw [Bool.eq_iff_iff, List.any_eq_true]
  constructor
  · rintro ⟨y, hy, hp⟩
    rw [applyL_mem, e] at hy
    have hsn : y.seg = s ∧ y.node = n := by simpa [holdsP] using hp
    by_cases q : y = clr o
    · rw [if_pos q] at hy
      subst q
      rw [if_pos ⟨hsn.1.symm, hsn.2.symm⟩]; exact hy
    · rw [if_neg q] at hy
      rw [if_neg, ← h0, List.any_eq_true]
      · exact ⟨y, (applyL_mem _ _ _).2 hy, hp⟩
      · rintro ⟨rfl, rfl⟩
        have := setS_drop hy
        exact q ((Order.eq_iff _ _).2 ⟨this, hsn.1, hsn.2⟩)
  · intro h
    by_cases q : s = o.seg ∧ n = o.node
    · rw [if_pos q] at h
      refine ⟨clr o, ?_, ?_⟩
      · rw [applyL_mem, e, if_pos rfl]; exact h
      · simp [holdsP, clr, q.1, q.2]
    · rw [if_neg q, ← h0, List.any_eq_true] at h
      obtain ⟨y, hy, hp⟩ := h
      rw [applyL_mem] at hy
      have hsn : y.seg = s ∧ y.node = n := by simpa [holdsP] using hp
      refine ⟨y, ?_, hp⟩
      rw [applyL_mem, e, if_neg]
      · exact hy
      · rintro rfl; exact q ⟨hsn.1.symm, hsn.2.symm⟩

/-- pairs that say who has what -/
def Says (N : List Int) (W : List Seg) (now : List Order) (S : Who) : Prop := ∀ s ∈ W, ∀ n ∈ N, now.any (holdsP s n) = S s n
theorem Says.step {N : List Int} {W : List Seg} {now : List Order} {S : Who} (h : Says N W now S) (o : Order) : Says N W (applyL now [o]) (upd S o) := fun s hs n hn => by
  rw [applyL_upd, h s hs n hn]; rfl
theorem Says.count {N : List Int} {W : List Seg} {now : List Order} {S : Who} (h : Says N W now S) {s : Seg} (hs : s ∈ W) : N.countP (manyP now s) = N.countP (S s) :=
  List.countP_congr fun n hn => by unfold manyP; rw [h s hs n hn]
theorem Says.load {N : List Int} {W : List Seg} {now : List Order} {S : Who} (h : Says N W now S) {n : Int} (hn : n ∈ N) : W.countP (loadP now n) = loadW W S n :=
  List.countP_congr fun s hs => by unfold loadP; rw [h s hs n hn]

/-- one more candidate -/
theorem pick_snoc (drop : Bool) (ld : Int → Nat) (y : Int) {L : List Int} (h : L ≠ []) : pick drop ld (L ++ [y]) = if (if drop then decide (ld (pick drop ld L) ≤ ld y) else decide (ld y < ld (pick drop ld L))) then y else pick drop ld L := by
  cases L with
  | nil => exact absurd rfl h
  | cons x l => simp only [List.cons_append, pick]; exact pickBy_snoc _ _ _ _

theorem refAssign (segs : List Seg) (have_ : List Order) (nodes : List Int) (r : Int) (a1 a2 a3 : Option Addr) (c1 c2 c3 : Nat) (H : AHeap) (h1 : SegsAt H a1 segs) (h2 : OrdersAt H a2 have_) (h3 : IntsAt H a3 nodes) (l1 : segs.length ≤ 24) (l2 : have_.length ≤ 60) (l3 : nodes.length ≤ 12) :
    Sound Try.prog 13 [.slice a1 segs.length c1, .slice a2 have_.length c2, .slice a3 nodes.length c3, .int .i64 r] H fun v H' => OwnO H.length H' v (assignL segs have_ nodes r) ∧ H <+: H' := by
  refine Sound.of_body (rs := [.tmp 8]) mixed Try.func13 rfl (by kernel_rfl) rfl (by kernel_rfl) ?_
  simp -dsimp only [go_sem, ↓reduceIte, Nat.reduceEqDiff, Nat.reduceAdd, Nat.reduceMul, Nat.reduceSub, Nat.reduceLeDiff, Nat.reduceLT]
  refine SoundP_of (refLiving' nodes a3 c3 H h3 (by omega)) ?_
  rintro vn H1 ⟨own1, p1⟩
  simp -dsimp only [go_sem, ↓reduceIte, Nat.reduceEqDiff, Nat.reduceAdd, Nat.reduceMul, Nat.reduceSub, Nat.reduceLeDiff, Nat.reduceLT]
  refine SoundP_of (refWanted' segs a1 c1 H1 (h1.pre p1) (by omega)) ?_
  rintro vw H2 ⟨own2, p2⟩
  obtain ⟨an, cn, rfl, hn0⟩ := own1.sl (fun _ => rfl)
  obtain ⟨aw, cw, rfl, hw0⟩ := own2.sl (fun _ => rfl)
  have nN := livingL_len nodes
  have nW := wantedL_len segs
  have hN' := livingL_sorted nodes
  have sW := wantedL_sorted segs
  have hrN := replN_le r (livingL nodes).length
  unfold assignL
  generalize livingL nodes = N at *
  generalize wantedL segs = W at *
  simp -dsimp only [go_sem, ↓reduceIte, Nat.reduceEqDiff, Nat.reduceAdd, Nat.reduceMul, Nat.reduceSub, Nat.reduceLeDiff, Nat.reduceLT]
  refine SoundP_of (refReplicas r N.length an cn H2) ?_
  rintro _ _ ⟨rfl, rfl⟩
  rw [replN_cast]
  generalize replN r N.length = R at *
  simp -dsimp only [go_sem, ↓reduceIte, Nat.reduceEqDiff, Nat.reduceAdd, Nat.reduceMul, Nat.reduceSub, Nat.reduceLeDiff, Nat.reduceLT]
  refine SoundP_of (refApply' have_ [] a2 none c2 0 _ (h2.pre (p1.trans p2)) (SlA.nil _ _ _ _) (by omega) (by simp)) ?_
  rintro vo Hb ⟨own3, p3⟩
  have hsays : Says N W (applyL have_ []) (who0 N W have_) := fun s hs n hn => by
    rw [applyL_any]; simp [who0, hs, hn]
  have hnow := applyL_len have_ []
  simp only [List.length_nil, Nat.add_zero] at hnow
  have hall := allRun_len N W R W (who0 N W have_)
  have hWN : W.length * N.length ≤ 24 * 12 := Nat.mul_le_mul (by omega) (by omega)
  have hodd : (oddL N W (applyL have_ [])).length ≤ (applyL have_ []).length := by unfold oddL; rw [List.length_map]; exact List.length_filter_le _ _
  generalize applyL have_ [] = now at *
  generalize who0 N W have_ = S0 at *
  obtain ⟨ao, co, rfl, hno0⟩ := own3.sl (fun _ => rfl)
  have hpb := (p1.trans p2).trans p3
  have hn := hn0.pre (p2.trans p3)
  have hw := hw0.pre p3
  clear h1 h2 h3 own1 own2 hn0 hw0
  simp -dsimp only [go_sem, ↓reduceIte, Nat.reduceEqDiff, Nat.reduceAdd, Nat.reduceMul, Nat.reduceSub, Nat.reduceLeDiff, Nat.reduceLT]
  refine aloopP_of (fun m T H' => ∃ i vo out, m = now.length - i ∧ i ≤ now.length ∧ Hb <+: H' ∧ T 3 = .int .i64 R ∧ T 9 = .slice an N.length cn ∧ T 10 = .slice aw W.length cw ∧ T 11 = .slice ao now.length co ∧ T 12 = vo ∧ T 13 = .int .i64 i ∧ OwnO Hb.length H' vo out ∧ out = oddL N W (now.take i)) (n := now.length) ?_ ?_
  · refine ⟨0, .slice none 0 0, [], ?_⟩
    simp -dsimp only [go_sem, ↓reduceIte, Nat.reduceEqDiff, Nat.reduceAdd, Nat.reduceMul, Nat.reduceSub, Nat.reduceLeDiff, Nat.reduceLT]
    exact ⟨by omega, by omega, List.prefix_refl _, rfl, Own.nil _ _ _ _, by simp [oddL]⟩
  rintro n T H' ⟨i, vo, out, rfl, hi, hp, g3, g9, g10, g11, g12, g13, hout, hoe⟩
  simp -dsimp only [go_sem, ↓reduceIte, Nat.reduceEqDiff, Nat.reduceAdd, Nat.reduceMul, Nat.reduceSub, Nat.reduceLeDiff, Nat.reduceLT, g3, g9, g10, g11, g12, g13]
  refine acondP_of (fun hc => ?_) (fun hc => ?_)
  · simp at hc
    obtain ⟨o, ho⟩ := get_ex hc
    obtain ⟨id, off, rfl, hat2⟩ := hno0.at (by omega)
    have ir := inRange hc
    simp -dsimp only [go_sem, ↓reduceIte, Nat.reduceEqDiff, Nat.reduceAdd, Nat.reduceMul, Nat.reduceSub, Nat.reduceLeDiff, Nat.reduceLT, g3, g9, g10, g11, g12, g13, ir, rowLoad_whole (aload_sub (aload_pre hp (hat2 i o ho)) 1 5 (by decide))]
    refine SoundP_of (refHas o.seg W aw cw H' (hw.pre hp) (by omega)) ?_
    rintro v H3 ⟨rfl, q3⟩
    simp -dsimp only [go_sem, ↓reduceIte, Nat.reduceEqDiff, Nat.reduceAdd, Nat.reduceMul, Nat.reduceSub, Nat.reduceLeDiff, Nat.reduceLT, g3, g9, g10, g11, g12, g13]
    have hp3 := hp.trans q3
    refine aloopP_of (fun m T3 H4 => ∃ k, m = N.length - k ∧ k ≤ N.length ∧ H4 = H3 ∧ T3 3 = .int .i64 R ∧ T3 9 = .slice an N.length cn ∧ T3 10 = .slice aw W.length cw ∧ T3 11 = .slice (some ⟨id, off, none⟩) now.length co ∧ T3 12 = vo ∧ T3 13 = .int .i64 i ∧ T3 14 = .bool (decide (o.seg ∈ W)) ∧ T3 15 = .bool (decide (o.node ∈ N.take k)) ∧ T3 16 = .int .i64 k) (n := N.length) ?_ ?_
    · refine ⟨0, ?_⟩
      simp -dsimp only [go_sem, ↓reduceIte, Nat.reduceEqDiff, Nat.reduceAdd, Nat.reduceMul, Nat.reduceSub, Nat.reduceLeDiff, Nat.reduceLT, g3, g9, g10, g11, g12, g13]
      simp
    rintro m T3 H4 ⟨k, rfl, hk, rfl, f3, f9, f10, f11, f12, f13, f14, f15, f16⟩
    simp -dsimp only [go_sem, ↓reduceIte, Nat.reduceEqDiff, Nat.reduceAdd, Nat.reduceMul, Nat.reduceSub, Nat.reduceLeDiff, Nat.reduceLT, f3, f9, f10, f11, f12, f13, f14, f15, f16]
    refine acondP_of (fun hk1 => ?_) (fun hk1 => ?_)
    · simp at hk1
      obtain ⟨y, hy⟩ := get_ex hk1
      obtain ⟨id2, off2, rfl, hat3⟩ := hn.at (by omega)
      have w1 := wrS (show k < 4611686018427387904 by omega)
      have ht : decide (o.node ∈ N.take (k + 1)) = (decide (o.node ∈ N.take k) || decide (y = o.node)) := by
        rw [take_get hy, Bool.eq_iff_iff]
        simp only [decide_eq_true_eq, List.mem_append, List.mem_singleton, Bool.or_eq_true]
        exact ⟨fun h => h.imp (fun h => h) Eq.symm, fun h => h.imp (fun h => h) Eq.symm⟩
      simp -dsimp only [go_sem, ↓reduceIte, Nat.reduceEqDiff, Nat.reduceAdd, Nat.reduceMul, Nat.reduceSub, Nat.reduceLeDiff, Nat.reduceLT, f3, f9, f10, f11, f12, f13, f14, f15, f16]
      refine adrawnP_of2 [(0, false), (1, false), (2, false), (3, false), (4, false), (5, false), (6, false), (7, false), (8, false), (9, false), (10, false), (11, false), (12, false), (13, false)] (by kernel_rfl) ?_
      cases hb : decide (o.node ∈ N.take k) with
      | true =>
        simp -dsimp only [go_sem, ↓reduceIte, Nat.reduceEqDiff, Nat.reduceAdd, Nat.reduceMul, Nat.reduceSub, Nat.reduceLeDiff, Nat.reduceLT, f3, f9, f10, f11, f12, f13, f14, f15, f16, hb, w1]
        refine ⟨_, ?_, k + 1, rfl, hk1, ?_⟩
        · omega
        · rw [ht, hb]; simp
      | false =>
        simp -dsimp only [go_sem, ↓reduceIte, Nat.reduceEqDiff, Nat.reduceAdd, Nat.reduceMul, Nat.reduceSub, Nat.reduceLeDiff, Nat.reduceLT, f3, f9, f10, f11, f12, f13, f14, f15, f16, hb, ir, inRange hk1, rowLoad_one0 (aload_pre hp3 (hat3 k y hy)), rowLoad_cell (aload_pre hp3 (hat2 i o ho)), w1]
        refine ⟨_, ?_, k + 1, rfl, hk1, ?_⟩
        · omega
        · have eb : (y == o.node) = decide (y = o.node) := by rw [Bool.eq_iff_iff]; simp
          rw [ht, hb, Bool.false_or, eb]; exact ⟨rfl, rfl⟩
    · simp at hk1
      obtain rfl : k = N.length := by omega
      rw [List.take_length] at f15
      have w1 := wrS (show i < 4611686018427387904 by omega)
      have hol : out.length < 100000 := by
        rw [hoe]; unfold oddL; rw [List.length_map]
        exact Nat.lt_of_le_of_lt (List.length_filter_le _ _) (by simp; omega)
      have hown3 := hout.pre q3
      cases hlv : decide (o.node ∈ N) with
      | false =>
        simp -dsimp only [go_sem, ↓reduceIte, Nat.reduceEqDiff, Nat.reduceAdd, Nat.reduceMul, Nat.reduceSub, Nat.reduceLeDiff, Nat.reduceLT, f3, f9, f10, f11, f12, f13, f14, f15, f16, hlv, w1]
        refine ⟨_, by omega, i + 1, vo, out, rfl, hc, hp3, rfl, rfl, hown3, ?_⟩
        rw [oddL_take ho, hlv, hoe]; simp
      | true =>
        cases hwt : decide (o.seg ∈ W) with
        | true =>
          simp -dsimp only [go_sem, ↓reduceIte, Nat.reduceEqDiff, Nat.reduceAdd, Nat.reduceMul, Nat.reduceSub, Nat.reduceLeDiff, Nat.reduceLT, f3, f9, f10, f11, f12, f13, f14, f15, f16, hlv, hwt, w1]
          refine ⟨_, by omega, i + 1, vo, out, rfl, hc, hp3, rfl, rfl, hown3, ?_⟩
          rw [oddL_take ho, hlv, hwt, hoe]; simp
        | false =>
          obtain ⟨v2, H5, e, ho5, hp5, hle, hkp, hmine⟩ := appO hp3 hown3 ⟨true, o.seg, o.node⟩ hol
          simp only [Order.cells] at e
          simp -dsimp only [go_sem, ↓reduceIte, Nat.reduceEqDiff, Nat.reduceAdd, Nat.reduceMul, Nat.reduceSub, Nat.reduceLeDiff, Nat.reduceLT, f3, f9, f10, f11, f12, f13, f14, f15, f16, hlv, hwt]
          refine adrawnP_of2 [(0, false), (1, false), (2, false), (3, false), (4, false), (5, false), (6, false), (7, false), (8, false), (9, false), (10, false), (11, false), (12, false), (13, false), (14, false)] (by kernel_rfl) ?_
          simp -dsimp only [go_sem, ↓reduceIte, Nat.reduceEqDiff, Nat.reduceAdd, Nat.reduceMul, Nat.reduceSub, Nat.reduceLeDiff, Nat.reduceLT, f3, f9, f10, f11, f12, f13, f14, f15, f16, ir, rowLoad_whole (aload_sub (aload_pre hp3 (hat2 i o ho)) 1 5 (by decide)), rowLoad_cell (aload_pre hp3 (hat2 i o ho)), e, w1]
          refine ⟨_, by omega, i + 1, v2, _, rfl, hc, hp5, rfl, rfl, ho5, ?_⟩
          rw [oddL_take ho, hlv, hwt, hoe]; simp
  simp at hc
  obtain rfl : i = now.length := by omega
  rw [List.take_length] at hoe
  subst hoe
  have hown3 : OwnO 0 H' (.slice ao now.length co) now := (own3.pre hp).mono (Nat.zero_le _)
  have hdis : ∀ j, owner (.slice ao now.length co) = some j → owner vo ≠ some j := fun j h1 h2 => by
    have := (own3.owner_ge h1).2
    have := (hout.owner_ge h2).1
    omega
  simp -dsimp only [go_sem, ↓reduceIte, Nat.reduceEqDiff, Nat.reduceAdd, Nat.reduceMul, Nat.reduceSub, Nat.reduceLeDiff, Nat.reduceLT, g3, g9, g10, g11, g12, g13]
  refine aloopP_of (fun m T H' => ∃ i S done vo vnow nowL, m = W.length - i ∧ i ≤ W.length ∧ Hb <+: H' ∧ T 3 = .int .i64 R ∧ T 9 = .slice an N.length cn ∧ T 10 = .slice aw W.length cw ∧ T 11 = vnow ∧ T 12 = vo ∧ T 17 = .int .i64 i ∧ OwnO Hb.length H' vo (oddL N W now ++ done) ∧ OwnO 0 H' vnow nowL ∧ (∀ j, owner vnow = some j → owner vo ≠ some j) ∧ Says N W nowL S ∧ nowL.length ≤ 60 + done.length ∧ allRun N W R W S0 = done ++ allRun N W R (W.drop i) S) (n := W.length) ?_ ?_
  · refine ⟨0, S0, [], vo, .slice ao now.length co, now, ?_⟩
    simp -dsimp only [go_sem, ↓reduceIte, Nat.reduceEqDiff, Nat.reduceAdd, Nat.reduceMul, Nat.reduceSub, Nat.reduceLeDiff, Nat.reduceLT, g3, g9, g10, g11, g12, g13]
    exact ⟨by omega, by omega, hp, rfl, by rw [List.append_nil]; exact hout, hown3, hdis, hsays, by omega⟩
  clear hown3 hdis hsays hp g3 g9 g10 g11 g12 g13 hout hno0 own3 vo T H' hc hi
  rintro m T H' ⟨i, S, done, vo, vnow, nowL, rfl, hi, hp, g3, g9, g10, g11, g12, g17, hout, hnow', hdis, hsays, hlen, hrest⟩
  simp -dsimp only [go_sem, ↓reduceIte, Nat.reduceEqDiff, Nat.reduceAdd, Nat.reduceMul, Nat.reduceSub, Nat.reduceLeDiff, Nat.reduceLT, g3, g9, g10, g11, g12, g17]
  refine acondP_of (fun hc => ?_) (fun hc => ?_)
  · simp at hc
    obtain ⟨s, hs⟩ := get_ex hc
    have hsW : s ∈ W := List.mem_of_getElem? hs
    obtain ⟨id, off, rfl, hat2⟩ := hw.at (by omega)
    have pE : H' <+: H' ++ [AObj.row s.cells 5 true] := List.prefix_append _ _
    have hpE := hp.trans pE
    rw [drop_get hs] at hrest
    simp only [allRun] at hrest
    have hdone : ∀ d : List Order, (∃ rest, allRun N W R W S0 = done ++ (d ++ rest)) → (done ++ d).length ≤ 24 * 12 := fun d ⟨rest, hd⟩ => by
      rw [hd] at hall; simp only [List.length_append] at hall ⊢; omega
    have hd0 := hdone [] ⟨_, by rw [hrest]; rfl⟩
    rw [List.append_nil] at hd0
    obtain ⟨ax, cx, rfl, hnl⟩ := hnow'.sl (fun _ => rfl)
    simp -dsimp only [go_sem, ↓reduceIte, Nat.reduceEqDiff, Nat.reduceAdd, Nat.reduceMul, Nat.reduceSub, Nat.reduceLeDiff, Nat.reduceLT, g3, g9, g10, g11, g12, g17, inRange hc, rowLoad_whole (aload_pre hp (hat2 i s hs))]
    refine SoundP_of (refMany s nowL N ax an cx cn _ (hnl.pre pE) (hn.pre hpE) (by omega) (by omega)) ?_
    rintro v H3 ⟨rfl, q3⟩
    simp -dsimp only [go_sem, ↓reduceIte, Nat.reduceEqDiff, Nat.reduceAdd, Nat.reduceMul, Nat.reduceSub, Nat.reduceLeDiff, Nat.reduceLT, g3, g9, g10, g11, g12, g17]
    rw [hsays.count hsW]
    have hb3 := pre_get q3 (get_end H' (AObj.row s.cells 5 true) [])
    refine aloopP_of (fun m T4 H4 => ∃ S1 d k vo vnow nowL, m = k ∧ Hb <+: H4 ∧ T4 3 = .int .i64 R ∧ T4 9 = .slice an N.length cn ∧ T4 10 = .slice (some ⟨id, off, none⟩) W.length cw ∧ T4 11 = vnow ∧ T4 12 = vo ∧ T4 17 = .int .i64 i ∧ T4 18 = .pointer (some ⟨H'.length, 0, none⟩) ∧ T4 19 = .int .i64 ((N.countP (S1 s) : Nat) : Int) ∧ H4[H'.length]? = some (.row s.cells 5 true) ∧
        OwnO Hb.length H4 vo (oddL N W now ++ (done ++ d)) ∧ OwnO 0 H4 vnow nowL ∧ (∀ j, owner vnow = some j → owner vo ≠ some j) ∧ Says N W nowL S1 ∧ nowL.length ≤ 60 + (done ++ d).length ∧ Rounds N W R s S d S1 k) (n := N.length) ?_ ?_
    · refine ⟨S, [], N.length, vo, .slice ax nowL.length cx, nowL, ?_⟩
      simp -dsimp only [go_sem, ↓reduceIte, Nat.reduceEqDiff, Nat.reduceAdd, Nat.reduceMul, Nat.reduceSub, Nat.reduceLeDiff, Nat.reduceLT, g3, g9, g10, g11, g12, g17]
      exact ⟨hpE.trans q3, hb3, by rw [List.append_nil]; exact (hout.pre pE).pre q3, (hnow'.pre pE).pre q3, hdis, hsays, by simpa using hlen, Rounds.start hrN⟩
    clear g3 g9 g10 g11 g12 g17 hout hnow' hdis hsays hlen hnl hb3 q3 H3 vo nowL ax cx
    rintro k T4 H4 ⟨S1, d, _, vo, vnow, nowL, rfl, hp4, g3, g9, g10, g11, g12, g17, g18, g19, hb4, hout, hnow', hdis, hsays, hlen, hr4⟩
    obtain ⟨ax, cx, rfl, hnl⟩ := hnow'.sl (fun _ => rfl)
    have hdl := hdone d ⟨_, by rw [hrest, hr4.one, List.append_assoc]⟩
    simp -dsimp only [go_sem, ↓reduceIte, Nat.reduceEqDiff, Nat.reduceAdd, Nat.reduceMul, Nat.reduceSub, Nat.reduceLeDiff, Nat.reduceLT, g3, g9, g10, g11, g12, g17, g18, g19]
    refine acondP_of (fun hne => ?_) (fun hne => ?_)
    · have hne' : N.countP (S1 s) ≠ R := by simp at hne; omega
      obtain ⟨k', rfl, hok, hr5⟩ := hr4.step hN' hrN hne'
      have hLne := ne_step (S := S1) (s := s) hrN hne'
      have e1 : decide (((N.countP (S1 s) : Nat) : Int) < (R : Int)) = !decide (R < N.countP (S1 s)) := by
        rw [Bool.eq_iff_iff]; simp; omega
      have e2 : decide ((R : Int) < ((N.countP (S1 s) : Nat) : Int)) = decide (R < N.countP (S1 s)) := by
        rw [Bool.eq_iff_iff]; simp
      have hstep : ∀ dr, dr = decide (R < N.countP (S1 s)) → stepO N W S1 s (decide (R < N.countP (S1 s))) = ⟨dr, s, pick dr (loadW W S1) (N.filter fun n => S1 s n == dr)⟩ := fun dr h => by rw [h]; rfl
      rw [hstep _ rfl] at hok hr5
      generalize hdr : decide (R < N.countP (S1 s)) = dr at *
      simp -dsimp only [go_sem, ↓reduceIte, Nat.reduceEqDiff, Nat.reduceAdd, Nat.reduceMul, Nat.reduceSub, Nat.reduceLeDiff, Nat.reduceLT, g3, g9, g10, g11, g12, g17, g18, g19]
      refine aloopP_of (fun m T5 H5 => ∃ j, m = N.length - j ∧ j ≤ N.length ∧ H4 <+: H5 ∧ T5 3 = .int .i64 R ∧ T5 9 = .slice an N.length cn ∧ T5 10 = .slice (some ⟨id, off, none⟩) W.length cw ∧ T5 11 = .slice ax nowL.length cx ∧ T5 12 = vo ∧ T5 17 = .int .i64 i ∧ T5 18 = .pointer (some ⟨H'.length, 0, none⟩) ∧ T5 19 = .int .i64 ((N.countP (S1 s) : Nat) : Int) ∧ T5 22 = .int .i64 j ∧
          (((N.take j).filter (fun n => S1 s n == dr) = [] ∧ T5 20 = .int .i64 (-1) ∧ T5 21 = .int .i64 0) ∨ ((N.take j).filter (fun n => S1 s n == dr) ≠ [] ∧ ∃ b : Nat, T5 20 = .int .i64 b ∧ N[b]? = some (pick dr (loadW W S1) ((N.take j).filter fun n => S1 s n == dr)) ∧ T5 21 = .int .i64 (loadW W S1 (pick dr (loadW W S1) ((N.take j).filter fun n => S1 s n == dr)))))) (n := N.length) ?_ ?_
      · refine ⟨0, ?_⟩
        simp -dsimp only [go_sem, ↓reduceIte, Nat.reduceEqDiff, Nat.reduceAdd, Nat.reduceMul, Nat.reduceSub, Nat.reduceLeDiff, Nat.reduceLT, g3, g9, g10, g11, g12, g17, g18, g19]
        exact ⟨by omega, by omega, List.prefix_refl _, rfl, .inl rfl⟩
      rintro m T5 H5 ⟨j, rfl, hj, hp5, f3, f9, f10, f11, f12, f17, f18, f19, f22, hbest⟩
      simp -dsimp only [go_sem, ↓reduceIte, Nat.reduceEqDiff, Nat.reduceAdd, Nat.reduceMul, Nat.reduceSub, Nat.reduceLeDiff, Nat.reduceLT, f3, f9, f10, f11, f12, f17, f18, f19, f22]
      refine acondP_of (fun hj1 => ?_) (fun hj1 => ?_)
      · simp at hj1
        obtain ⟨y, hy⟩ := get_ex hj1
        have hyN : y ∈ N := List.mem_of_getElem? hy
        obtain ⟨id2, off2, rfl, hat3⟩ := hn.at (by omega)
        have jr := inRange hj1
        have w1 := wrS (show j < 4611686018427387904 by omega)
        have fs : (N.take (j + 1)).filter (fun n => S1 s n == dr) = (N.take j).filter (fun n => S1 s n == dr) ++ if S1 s y == dr then [y] else [] := by
          rw [take_get hy, List.filter_append]; simp [List.filter_cons]
        simp -dsimp only [go_sem, ↓reduceIte, Nat.reduceEqDiff, Nat.reduceAdd, Nat.reduceMul, Nat.reduceSub, Nat.reduceLeDiff, Nat.reduceLT, f3, f9, f10, f11, f12, f17, f18, f19, f22]
        refine adrawnP_of2 [(0, false), (1, false), (2, false), (3, false), (4, false), (5, false), (6, false), (7, false)] (by kernel_rfl) ?_
        simp -dsimp only [go_sem, ↓reduceIte, Nat.reduceEqDiff, Nat.reduceAdd, Nat.reduceMul, Nat.reduceSub, Nat.reduceLeDiff, Nat.reduceLT, f3, f9, f10, f11, f12, f17, f18, f19, f22, jr, rowLoad_one0 (aload_pre (hp4.trans hp5) (hat3 j y hy)), pre_get hp5 hb4]
        refine SoundP_of (refHolds s y nowL ax cx H5 (hnl.pre hp5) (by omega)) ?_
        rintro v H6 ⟨rfl, q6⟩
        simp -dsimp only [go_sem, ↓reduceIte, Nat.reduceEqDiff, Nat.reduceAdd, Nat.reduceMul, Nat.reduceSub, Nat.reduceLeDiff, Nat.reduceLT, f3, f9, f10, f11, f12, f17, f18, f19, f22]
        rw [hsays s hsW y hyN]
        have hp6 := hp5.trans q6
        simp -dsimp only [go_sem, ↓reduceIte, Nat.reduceEqDiff, Nat.reduceAdd, Nat.reduceMul, Nat.reduceSub, Nat.reduceLeDiff, Nat.reduceLT, f3, f9, f10, f11, f12, f17, f18, f19, f22, e1]
        refine acondP_of (fun hcont => ?_) (fun hcont => ?_)
        · simp -dsimp only [go_sem, ↓reduceIte, Nat.reduceEqDiff, Nat.reduceAdd, Nat.reduceMul, Nat.reduceSub, Nat.reduceLeDiff, Nat.reduceLT, f3, f9, f10, f11, f12, f17, f18, f19, f22, w1]
          have hno : (S1 s y == dr) = false := by cases dr <;> cases hS : S1 s y <;> rw [hS] at hcont <;> first | rfl | cases hcont
          rw [hno] at fs
          simp only [Bool.false_eq_true, if_false, List.append_nil] at fs
          refine ⟨_, ?_, j + 1, rfl, hj1, hp6, rfl, ?_⟩
          · omega
          · rw [fs]; exact hbest
        · have hyes : (S1 s y == dr) = true := by cases dr <;> cases hS : S1 s y <;> rw [hS] at hcont <;> first | rfl | cases hcont
          rw [hyes, if_pos rfl] at fs
          simp -dsimp only [go_sem, ↓reduceIte, Nat.reduceEqDiff, Nat.reduceAdd, Nat.reduceMul, Nat.reduceSub, Nat.reduceLeDiff, Nat.reduceLT, f3, f9, f10, f11, f12, f17, f18, f19, f22, jr, rowLoad_one0 (aload_pre (hp4.trans hp6) (hat3 j y hy))]
          refine SoundP_of (refLoad y W nowL (some ⟨id, off, none⟩) ax cw cx H6 (hw.pre (hp4.trans hp6)) (hnl.pre hp6) (by omega) (by omega)) ?_
          rintro v H7 ⟨rfl, q7⟩
          simp -dsimp only [go_sem, ↓reduceIte, Nat.reduceEqDiff, Nat.reduceAdd, Nat.reduceMul, Nat.reduceSub, Nat.reduceLeDiff, Nat.reduceLT, f3, f9, f10, f11, f12, f17, f18, f19, f22]
          rw [hsays.load hyN]
          have hp7 := hp6.trans q7
          rcases hbest with ⟨hnil, f20, f21⟩ | ⟨hne2, b, f20, hb, f21⟩
          · simp -dsimp only [go_sem, ↓reduceIte, Nat.reduceEqDiff, Nat.reduceAdd, Nat.reduceMul, Nat.reduceSub, Nat.reduceLeDiff, Nat.reduceLT, f3, f9, f10, f11, f12, f17, f18, f19, f22, f20, f21, show decide ((-1 : Int) < 0) = true from rfl, w1]
            refine ⟨_, ?_, j + 1, rfl, hj1, hp7, rfl, .inr ⟨?_, j, rfl, ?_, ?_⟩⟩
            · omega
            · rw [fs, hnil]; simp
            · rw [fs, hnil, hy]; rfl
            · rw [fs, hnil]; rfl
          · have hsn := pick_snoc dr (loadW W S1) y hne2
            rw [← fs] at hsn
            have hne3 : (N.take (j + 1)).filter (fun n => S1 s n == dr) ≠ [] := by rw [fs]; simp
            generalize pick dr (loadW W S1) ((N.take j).filter fun n => S1 s n == dr) = P at *
            generalize hL1 : (N.take (j + 1)).filter (fun n => S1 s n == dr) = L1 at *
            have bneg : decide ((b : Int) < 0) = false := by simp
            have e3 : decide ((loadW W S1 y : Int) < (loadW W S1 P : Int)) = decide (loadW W S1 y < loadW W S1 P) := by rw [Bool.eq_iff_iff]; simp
            have e4 : decide ((loadW W S1 P : Int) ≤ (loadW W S1 y : Int)) = decide (loadW W S1 P ≤ loadW W S1 y) := by rw [Bool.eq_iff_iff]; simp
            have upd_ : pick dr (loadW W S1) L1 = y → ∃ m, m < N.length - j ∧ ∃ j_1, m = N.length - j_1 ∧ j_1 ≤ N.length ∧ H4 <+: H7 ∧ Value.int .i64 ((j + 1 : Nat) : Int) = .int .i64 (j_1 : Int) ∧ (((N.take j_1).filter (fun n => S1 s n == dr) = [] ∧ Value.int .i64 (j : Int) = .int .i64 (-1) ∧ Value.int .i64 (loadW W S1 y : Int) = .int .i64 0) ∨ ((N.take j_1).filter (fun n => S1 s n == dr) ≠ [] ∧ ∃ b : Nat, Value.int .i64 (j : Int) = .int .i64 b ∧ N[b]? = some (pick dr (loadW W S1) ((N.take j_1).filter fun n => S1 s n == dr)) ∧ Value.int .i64 (loadW W S1 y : Int) = .int .i64 (loadW W S1 (pick dr (loadW W S1) ((N.take j_1).filter fun n => S1 s n == dr))))) := fun h =>
              ⟨_, by omega, j + 1, rfl, hj1, hp7, rfl, .inr ⟨by rw [hL1]; exact hne3, j, rfl, by rw [hL1, h]; exact hy, by rw [hL1, h]⟩⟩
            have keep_ : pick dr (loadW W S1) L1 = P → ∃ m, m < N.length - j ∧ ∃ j_1, m = N.length - j_1 ∧ j_1 ≤ N.length ∧ H4 <+: H7 ∧ Value.int .i64 ((j + 1 : Nat) : Int) = .int .i64 (j_1 : Int) ∧ (((N.take j_1).filter (fun n => S1 s n == dr) = [] ∧ Value.int .i64 (b : Int) = .int .i64 (-1) ∧ Value.int .i64 (loadW W S1 P : Int) = .int .i64 0) ∨ ((N.take j_1).filter (fun n => S1 s n == dr) ≠ [] ∧ ∃ b_1 : Nat, Value.int .i64 (b : Int) = .int .i64 b_1 ∧ N[b_1]? = some (pick dr (loadW W S1) ((N.take j_1).filter fun n => S1 s n == dr)) ∧ Value.int .i64 (loadW W S1 P : Int) = .int .i64 (loadW W S1 (pick dr (loadW W S1) ((N.take j_1).filter fun n => S1 s n == dr))))) := fun h =>
              ⟨_, by omega, j + 1, rfl, hj1, hp7, rfl, .inr ⟨by rw [hL1]; exact hne3, b, rfl, by rw [hL1, h]; exact hb, by rw [hL1, h]⟩⟩
            have drv : dr = true ∨ dr = false := by cases dr <;> simp
            rcases drv with hdv | hdv
            · rw [hdv] at e1 e2 hsn
              simp only [if_true] at hsn
              cases hx : decide (loadW W S1 P ≤ loadW W S1 y) with
              | true =>
                rw [hx] at e4 hsn
                simp -dsimp only [go_sem, ↓reduceIte, Nat.reduceEqDiff, Nat.reduceAdd, Nat.reduceMul, Nat.reduceSub, Nat.reduceLeDiff, Nat.reduceLT, f3, f9, f10, f11, f12, f17, f18, f19, f22, f20, f21, bneg, e1, e2, e4, w1]
                exact upd_ (by rw [hdv]; exact hsn)
              | false =>
                rw [hx] at e4 hsn
                simp -dsimp only [go_sem, ↓reduceIte, Nat.reduceEqDiff, Nat.reduceAdd, Nat.reduceMul, Nat.reduceSub, Nat.reduceLeDiff, Nat.reduceLT, f3, f9, f10, f11, f12, f17, f18, f19, f22, f20, f21, bneg, e1, e2, e4, w1]
                exact keep_ (by rw [hdv]; exact hsn)
            · rw [hdv] at e1 e2 hsn
              simp only [Bool.false_eq_true, if_false] at hsn
              cases hx : decide (loadW W S1 y < loadW W S1 P) with
              | true =>
                rw [hx] at e3 hsn
                simp -dsimp only [go_sem, ↓reduceIte, Nat.reduceEqDiff, Nat.reduceAdd, Nat.reduceMul, Nat.reduceSub, Nat.reduceLeDiff, Nat.reduceLT, f3, f9, f10, f11, f12, f17, f18, f19, f22, f20, f21, bneg, e1, e2, e3, w1]
                exact upd_ (by rw [hdv]; exact hsn)
              | false =>
                rw [hx] at e3 hsn
                simp -dsimp only [go_sem, ↓reduceIte, Nat.reduceEqDiff, Nat.reduceAdd, Nat.reduceMul, Nat.reduceSub, Nat.reduceLeDiff, Nat.reduceLT, f3, f9, f10, f11, f12, f17, f18, f19, f22, f20, f21, bneg, e1, e2, e3, w1]
                exact keep_ (by rw [hdv]; exact hsn)
      · simp at hj1
        obtain rfl : j = N.length := by omega
        rw [List.take_length] at hbest
        rcases hbest with ⟨hnil, _⟩ | ⟨_, b, f20, hb, f21⟩
        · exact absurd hnil hLne
        have hbl : b < N.length := by
          rcases Nat.lt_or_ge b N.length with q | q
          · exact q
          · rw [List.getElem?_eq_none q] at hb; cases hb
        obtain ⟨id2, off2, rfl, hat3⟩ := hn.at (by omega)
        have hp45 := hp4.trans hp5
        have hout5 := hout.pre hp5
        have hnow5 := hnow'.pre hp5
        generalize hO : pick dr (loadW W S1) (N.filter fun n => S1 s n == dr) = nd at *
        have pB : H5 <+: H5 ++ [AObj.row (Order.cells ⟨dr, s, nd⟩) 7 true] := List.prefix_append _ _
        obtain ⟨v6, H6, e6, ho6, hp6, hle6, hk6, hm6⟩ := appO (hp45.trans pB) (hout5.pre pB) ⟨dr, s, nd⟩ (by simp only [List.length_append] at hdl ⊢; omega)
        have hbx : H6[H5.length]? = some (AObj.row (Order.cells ⟨dr, s, nd⟩) 7 true) := by
          rw [hk6 H5.length (by simp) (fun q => by have := (hout5.owner_ge q).2; omega)]; simp
        have hq5 := pre_get hp5 hb4
        have hlq := get_lt hq5
        have hq6 : H6[H'.length]? = some (.row s.cells 5 true) := by
          rw [hk6 H'.length (by simp; omega) (own_not_row hout5 hq5 (by decide)), List.getElem?_append_left hlq]; exact hq5
        have hnow6 : OwnO 0 H6 (.slice ax nowL.length cx) nowL := hnow5.keep fun id hid => by
          have := (hnow5.owner_ge hid).2
          rw [hk6 id (by simp; omega) (hdis id hid), List.getElem?_append_left this]
        obtain ⟨_, hnl6⟩ := hnow6.slA (fun _ => rfl)
        have pC : H6 <+: H6 ++ [AObj.row (Order.cells ⟨dr, s, nd⟩) 7 true] := List.prefix_append _ _
        have ir := inRange hbl
        simp only [List.append_assoc, List.cons_append, List.nil_append, List.length_append, List.length_cons, List.length_nil, Order.cells] at e6
        simp -dsimp only [go_sem, ↓reduceIte, Nat.reduceEqDiff, Nat.reduceAdd, Nat.reduceMul, Nat.reduceSub, Nat.reduceLeDiff, Nat.reduceLT, f3, f9, f10, f11, f12, f17, f18, f19, f22]
        refine adrawnP_of2 [(0, false), (1, false), (2, false), (3, false), (4, false), (5, false), (6, false), (7, false), (8, false), (9, false), (10, false)] (by kernel_rfl) ?_
        simp -dsimp only [go_sem, ↓reduceIte, Nat.reduceEqDiff, Nat.reduceAdd, Nat.reduceMul, Nat.reduceSub, Nat.reduceLeDiff, Nat.reduceLT, f3, f9, f10, f11, f12, f17, f18, f19, f22, e2, f20, ir, hq5, rowLoad_one0 (aload_pre hp45 (hat3 b nd hb)), e6, hbx]
        refine SoundP_of (refApply' nowL [⟨dr, s, nd⟩] ax (some ⟨H6.length, 0, none⟩) cx 1 _ (hnl6.pre pC) (SlA.ofRow (get_end H6 _ []) rfl fun _ => rfl) (by simp only [List.length_append] at hdl hlen; omega) (by simp)) ?_
        rintro vn7 H7 ⟨own7, q7⟩
        obtain ⟨ay, cy, rfl, hyl⟩ := own7.sl (fun _ => rfl)
        have hq7 := pre_get (pC.trans q7) hq6
        have hp7 := (hp6.trans pC).trans q7
        have hl7 := applyL_len nowL [⟨dr, s, nd⟩]
        simp only [List.length_singleton] at hl7
        simp -dsimp only [go_sem, ↓reduceIte, Nat.reduceEqDiff, Nat.reduceAdd, Nat.reduceMul, Nat.reduceSub, Nat.reduceLeDiff, Nat.reduceLT, f3, f9, f10, f11, f12, f17, f18, f19, f22, hq7]
        refine SoundP_of (refMany s (applyL nowL [⟨dr, s, nd⟩]) N ay (some ⟨id2, off2, none⟩) cy cn H7 hyl (hn.pre hp7) (by omega) (by simp only [List.length_append] at hdl hlen; omega)) ?_
        rintro v H8 ⟨rfl, q8⟩
        simp -dsimp only [go_sem, ↓reduceIte, Nat.reduceEqDiff, Nat.reduceAdd, Nat.reduceMul, Nat.reduceSub, Nat.reduceLeDiff, Nat.reduceLT, f3, f9, f10, f11, f12, f17, f18, f19, f22]
        have hs8 := hsays.step ⟨dr, s, nd⟩
        rw [hs8.count hsW]
        refine ⟨k', Nat.lt_succ_self _, _, d ++ [⟨dr, s, nd⟩], k', v6, _, _, rfl, hp7.trans q8, rfl, rfl, rfl, pre_get q8 hq7, ?_, (own7.mono (Nat.zero_le _)).pre q8, fun j h1 h2 => ?_, hs8, ?_, hr5⟩
        · rw [← List.append_assoc done, ← List.append_assoc]; exact ((ho6.pre pC).pre q7).pre q8
        · have a1 := (own7.owner_ge h1).1
          have a2 := (ho6.owner_ge h2).2
          simp at a1; omega
        · simp only [List.length_append, List.length_singleton] at hlen hl7 ⊢; omega
    · simp at hne
      obtain ⟨r1, r2⟩ := hr4.end_ (by omega)
      simp -dsimp only [go_sem, ↓reduceIte, Nat.reduceEqDiff, Nat.reduceAdd, Nat.reduceMul, Nat.reduceSub, Nat.reduceLeDiff, Nat.reduceLT, g3, g9, g10, g11, g12, g17, g18, g19, wrS (show i < 4611686018427387904 by omega)]
      refine ⟨_, by omega, i + 1, S1, done ++ d, vo, _, nowL, rfl, hc, hp4, rfl, rfl, rfl, hout, hnow', hdis, hsays, hlen, ?_⟩
      rw [hrest, r1, r2, List.append_assoc]
  · simp at hc
    obtain rfl : i = W.length := by omega
    rw [List.drop_of_length_le (Nat.le_refl _)] at hrest
    simp only [allRun, List.append_nil] at hrest
    simp -dsimp only [go_sem, ↓reduceIte, Nat.reduceEqDiff, Nat.reduceAdd, Nat.reduceMul, Nat.reduceSub, Nat.reduceLeDiff, Nat.reduceLT, g3, g9, g10, g11, g12, g17]
    rw [hrest]
    exact ⟨hout.mono (pre_len hpb), hpb.trans hp⟩
end Go.Proofs.Ytangfnommhmpeaa
