/-
  rules.Balance: a move.
-/
import Derived.Test.YtangfnommhmpeaaRAssign2
set_option linter.unusedVariables false
set_option linter.unusedSimpArgs false
namespace Go.Proofs.Ytangfnommhmpeaa
open Go Go.AW Go.Bub
set_option linter.unusedSimpArgs false
set_option maxRecDepth 20000

theorem fuller (F : FieldS) (x y : Int) (b q : Nat) (H : AHeap) (hf : FieldAt b H F) (hq : H[q]? = some (.row [.pointer (some ⟨F.p, 0, none⟩)] 1 true)) :
    Sound Try.prog 32 [.int .i64 x, .int .i64 y, .pointer (some ⟨q, 0, none⟩)] H fun v H' => v = .int .i64 (orZ [cmpZ (F.ld y) (F.ld x), cmpZ x y]) ∧ H <+: H' := by
  refine Sound.of_body (rs := [.tmp 5]) mixed Try.func32 rfl (by kernel_rfl) rfl (by kernel_rfl) ?_
  have hat := hf.at_
  simp -dsimp only [go_sem, ↓reduceIte, Nat.reduceEqDiff, Nat.reduceAdd, Nat.reduceMul, Nat.reduceSub, Nat.reduceLeDiff, Nat.reduceLT]
  refine adrawnP_of2 [(0, false), (1, false), (2, false), (3, false), (4, false), (5, false), (6, false), (7, false), (8, false), (9, false), (10, false), (11, false), (13, false), (14, false), (12, false), (15, false), (16, false), (17, false), (18, false)] (by kernel_rfl) ?_
  simp -dsimp only [go_sem, ↓reduceIte, Nat.reduceEqDiff, Nat.reduceAdd, Nat.reduceMul, Nat.reduceSub, Nat.reduceLeDiff, Nat.reduceLT, hat, hq, look_loads hf x, look_loads hf y]
  refine SoundP_of (compare_int (F.ld y) (F.ld x) H) ?_
  rintro v H' ⟨rfl, rfl⟩
  simp -dsimp only [go_sem, ↓reduceIte, Nat.reduceEqDiff, Nat.reduceAdd, Nat.reduceMul, Nat.reduceSub, Nat.reduceLeDiff, Nat.reduceLT]
  refine SoundP_of (compare_int x y H') ?_
  rintro v H' ⟨rfl, rfl⟩
  simp -dsimp only [go_sem, ↓reduceIte, Nat.reduceEqDiff, Nat.reduceAdd, Nat.reduceMul, Nat.reduceSub, Nat.reduceLeDiff, Nat.reduceLT]
  refine SoundP_of (or_int [cmpZ (F.ld y) (F.ld x), cmpZ x y] _ _ _ (SlA.ofRow (get_end _ _ _) rfl fun _ => rfl) (by simp)) ?_
  rintro v H' ⟨rfl, rfl⟩
  simp -dsimp only [go_sem, ↓reduceIte, Nat.reduceEqDiff, Nat.reduceAdd, Nat.reduceMul, Nat.reduceSub, Nat.reduceLeDiff, Nat.reduceLT]
  simp
theorem fullerC {b q : Nat} {H : AHeap} {F : FieldS} (hf : FieldAt b H F) (hq : H[q]? = some (.row [.pointer (some ⟨F.p, 0, none⟩)] 1 true)) (L : List Int) : ∀ H' x y, H <+: H' → x ∈ L → y ∈ L → Sound Try.prog 32 ((#[] : Array Value).toList ++ .int .i64 x :: .int .i64 y :: (#[.pointer (some ⟨q, 0, none⟩)] : Array Value).toList) H' fun v H'' => v = .int .i64 (orZ [cmpZ (F.ld y) (F.ld x), cmpZ x y]) ∧ H' <+: H'' :=
  fun H' x y hp _ _ => fuller F x y b q H' (hf.pre hp) (pre_get hp hq)

theorem pick_cast {F : FieldS} {ld : Int → Nat} {N : List Int} (h : ∀ n ∈ N, F.ld n = (ld n : Int)) (c : Int → Int → Bool) (c' : Nat → Nat → Bool) (hc : ∀ a b : Nat, c (a : Int) (b : Int) = c' a b) :
    ∀ (l : List Int) (m : Int), (∀ n ∈ m :: l, n ∈ N) → pickBy (fun y m => c (F.ld y) (F.ld m)) m l = pickBy (fun y m => c' (ld y) (ld m)) m l
  | [], m, _ => rfl
  | y :: l, m, hm => by
    have e3 : c (F.ld y) (F.ld m) = c' (ld y) (ld m) := by rw [h y (hm y (by simp)), h m (hm m (by simp)), hc]
    simp only [pickBy, e3]
    refine pick_cast h c c' hc l _ fun n hn => ?_
    rcases List.mem_cons.1 hn with rfl | hn
    · split <;> exact hm _ (by simp)
    · exact hm n (by simp [hn])

theorem rBalance (segs : List Seg) (have_ : List Order) (nodes : List Int) (a1 a2 a3 : Option Addr) (c1 c2 c3 : Nat) (H : AHeap) (h1 : SegsAt H a1 segs) (h2 : OrdersAt H a2 have_) (h3 : IntsAt H a3 nodes) (l1 : segs.length < 1000) (l2 : have_.length < 1000) (l3 : nodes.length < 1000) :
    Sound Try.prog 14 [.slice a1 segs.length c1, .slice a2 have_.length c2, .slice a3 nodes.length c3] H fun v H' => OwnO H.length H' v (balanceL segs have_ nodes) ∧ H <+: H' := by
  refine Sound.of_body (rs := [.tmp 6]) mixed Try.func14 rfl (by kernel_rfl) rfl (by kernel_rfl) ?_
  simp -dsimp only [go_sem, ↓reduceIte, Nat.reduceEqDiff, Nat.reduceAdd, Nat.reduceMul, Nat.reduceSub, Nat.reduceLeDiff, Nat.reduceLT]
  refine SoundP_of (begin_ segs have_ nodes a1 a2 a3 c1 c2 c3 H h1 h2 h3 l1 l2 l3) ?_
  rintro _ H1 ⟨F, rfl, hf, p1, hbeg⟩
  simp -dsimp only [go_sem, ↓reduceIte, Nat.reduceEqDiff, Nat.reduceAdd, Nat.reduceMul, Nat.reduceSub, Nat.reduceLeDiff, Nat.reduceLT]
  obtain ⟨an, cn, hvn, hsl⟩ := hf.nodes.sl (fun _ => rfl)
  have pE : H1 <+: H1 ++ [AObj.row [.pointer (some ⟨F.p, 0, none⟩)] 1 true] := List.prefix_append _ _
  have hf2 := hf.pre pE
  have hat := hf2.at_
  rw [hvn] at hat
  have hq := get_end H1 (AObj.row [.pointer (some ⟨F.p, 0, none⟩)] 1 true) []
  have hcq : ¬ foot F H1.length := clear_new hf (Nat.le_refl _)
  have hlq : H1.length < (H1 ++ [AObj.row [.pointer (some ⟨F.p, 0, none⟩)] 1 true]).length := by simp
  have hp2 := p1.trans pE
  have hsl2 := hsl.pre pE
  generalize H1 ++ [AObj.row [.pointer (some ⟨F.p, 0, none⟩)] 1 true] = H2 at *
  generalize H1.length = q at *
  simp -dsimp only [go_sem, ↓reduceIte, Nat.reduceEqDiff, Nat.reduceAdd, Nat.reduceMul, Nat.reduceSub, Nat.reduceLeDiff, Nat.reduceLT, hat]
  have eN := livingL_uniq hbeg.sortN hbeg.memN
  have eW := wantedL_uniq hbeg.sortW hbeg.memW
  have nN := hbeg.lenN
  have nW := hbeg.lenW
  have out0 := hbeg.out
  unfold balanceL
  rw [← eN, ← eW]
  have hld : ∀ n ∈ F.nodes, F.ld n = (loadW F.wanted (fun s n => have_.any (holdsP s n)) n : Int) := fun n hn => by rw [hbeg.ld, if_pos hn]; rfl
  have hhd : ∀ s ∈ F.wanted, ∀ n ∈ F.nodes, F.hd s n = if have_.any (holdsP s n) = true then 1 else 0 := fun s hs n hn => by
    rw [hbeg.hd]
    by_cases h : have_.any (holdsP s n) = true
    · rw [if_pos ⟨hn, hs, h⟩, if_pos h]
    · rw [if_neg (fun q => h q.2.2), if_neg h]
  have hbd : ∀ n ∈ F.nodes, 0 ≤ F.ld n ∧ F.ld n ≤ 1000 := fun n hn => by
    have : loadW F.wanted (fun s n => have_.any (holdsP s n)) n ≤ F.wanted.length := List.countP_le_length
    rw [hld n hn]; omega
  have hsort := hbeg.sortN
  refine acondP_of (fun h0 => ?_) (fun h0 => ?_)
  · simp at h0
    simp -dsimp only [go_sem, ↓reduceIte, Nat.reduceEqDiff, Nat.reduceAdd, Nat.reduceMul, Nat.reduceSub, Nat.reduceLeDiff, Nat.reduceLT]
    rw [h0]
    exact ⟨Own.nil _ _ _ _, hp2⟩
  obtain ⟨x, l, hxl⟩ : ∃ x l, F.nodes = x :: l := List.exists_cons_of_ne_nil (by rintro h; rw [h] at h0; simp at h0)
  rw [hxl] at hsort hsl2 hld hbd hhd nN
  have hlen : F.nodes.length = (x :: l).length := by rw [hxl]
  rw [hlen] at hat
  simp only [hxl]
  simp -dsimp only [go_sem, ↓reduceIte, Nat.reduceEqDiff, Nat.reduceAdd, Nat.reduceMul, Nat.reduceSub, Nat.reduceLeDiff, Nat.reduceLT]
  refine adrawnP_of2 [(0, false), (1, false), (2, false), (3, false), (4, false), (5, false), (6, false), (7, false)] (by kernel_rfl) ?_
  simp -dsimp only [go_sem, ↓reduceIte, Nat.reduceEqDiff, Nat.reduceAdd, Nat.reduceMul, Nat.reduceSub, Nat.reduceLeDiff, Nat.reduceLT, hq, hat]
  refine SoundP_of (minFunc l x (fun x y => orZ [cmpZ (F.ld x) (F.ld y), cmpZ x y]) 30 #[.pointer (some ⟨F.p, 0, none⟩)] #[] an cn H2 hsl2 (by omega) (emptierC hf2 _)) ?_
  rintro _ H3 ⟨rfl, hq3⟩
  have hq3' := pre_get hq3 hq
  have hat3 := pre_get hq3 hat
  have hf3 := hf2.pre hq3
  simp -dsimp only [go_sem, ↓reduceIte, Nat.reduceEqDiff, Nat.reduceAdd, Nat.reduceMul, Nat.reduceSub, Nat.reduceLeDiff, Nat.reduceLT, hq3', hat3]
  refine SoundP_of (minFunc l x (fun x y => orZ [cmpZ (F.ld y) (F.ld x), cmpZ x y]) 32 #[] #[.pointer (some ⟨q, 0, none⟩)] an cn H3 (hsl2.pre hq3) (by omega) (fullerC hf3 hq3' _)) ?_
  rintro _ H4 ⟨rfl, hq4⟩
  have ea : pickBy (fun y m => decide (orZ [cmpZ (F.ld m) (F.ld y), cmpZ y m] < 0)) x l = pickBy (fun y m => decide (loadW F.wanted (fun s n => have_.any (holdsP s n)) m < loadW F.wanted (fun s n => have_.any (holdsP s n)) y)) x l := by
    rw [pickBy_congr _ (fun y m => decide (F.ld m < F.ld y)) (fun x y hxy => or_lt _ _ _ _ hxy) l x hsort]
    exact pick_cast hld (fun a b => decide (b < a)) (fun a b => decide (b < a)) (fun a b => by simp) l x (fun n hn => hn)
  have eb : pickBy (fun y m => decide (orZ [cmpZ (F.ld y) (F.ld m), cmpZ y m] < 0)) x l = pickBy (fun y m => decide (loadW F.wanted (fun s n => have_.any (holdsP s n)) y < loadW F.wanted (fun s n => have_.any (holdsP s n)) m)) x l := by
    rw [pickBy_congr _ (fun y m => decide (F.ld y < F.ld m)) (fun x y hxy => or_lt _ _ _ _ hxy) l x hsort]
    exact pick_cast hld (fun a b => decide (a < b)) (fun a b => decide (a < b)) (fun a b => by simp) l x (fun n hn => hn)
  rw [ea, eb]
  have ma := pickBy_mem (fun y m => decide (loadW F.wanted (fun s n => have_.any (holdsP s n)) m < loadW F.wanted (fun s n => have_.any (holdsP s n)) y)) l x
  have mb := pickBy_mem (fun y m => decide (loadW F.wanted (fun s n => have_.any (holdsP s n)) y < loadW F.wanted (fun s n => have_.any (holdsP s n)) m)) l x
  generalize pickBy (fun y m => decide (loadW F.wanted (fun s n => have_.any (holdsP s n)) m < loadW F.wanted (fun s n => have_.any (holdsP s n)) y)) x l = A at *
  generalize pickBy (fun y m => decide (loadW F.wanted (fun s n => have_.any (holdsP s n)) y < loadW F.wanted (fun s n => have_.any (holdsP s n)) m)) x l = B at *
  have hq4' := pre_get hq4 hq3'
  have hat4 := pre_get hq4 hat3
  have hf4 := hf3.pre hq4
  have hp4 := (hp2.trans hq3).trans hq4
  have hlq4 : q < H4.length := get_lt hq4'
  clear hq hat hf hf2 hsl hsl2 hq3' hat3 hf3 hp2 hvn hlq h0
  simp -dsimp only [go_sem, ↓reduceIte, Nat.reduceEqDiff, Nat.reduceAdd, Nat.reduceMul, Nat.reduceSub, Nat.reduceLeDiff, Nat.reduceLT]
  refine adrawnP_of2 [(0, false), (1, false), (2, false), (3, false), (4, false), (5, false), (6, false), (7, false), (8, false), (9, false), (10, false), (11, false), (12, false), (13, false)] (by kernel_rfl) ?_
  have wsub : IntKind.i64.wrap (F.ld A - F.ld B) = F.ld A - F.ld B := by
    have h1 := hbd A ma; have h2 := hbd B mb
    exact wrB (by omega) (by omega)
  simp -dsimp only [go_sem, ↓reduceIte, Nat.reduceEqDiff, Nat.reduceAdd, Nat.reduceMul, Nat.reduceSub, Nat.reduceLeDiff, Nat.reduceLT, hq4', hat4, look_loads hf4 A, look_loads hf4 B, wsub]
  have hcond : decide (F.ld A - F.ld B < 2) = decide (loadW F.wanted (fun s n => have_.any (holdsP s n)) A < loadW F.wanted (fun s n => have_.any (holdsP s n)) B + 2) := by
    rw [hld A ma, hld B mb, Bool.eq_iff_iff]; simp; omega
  rw [hcond]
  refine acondP_of (fun hc => ?_) (fun hc => ?_)
  · simp -dsimp only [go_sem, ↓reduceIte, Nat.reduceEqDiff, Nat.reduceAdd, Nat.reduceMul, Nat.reduceSub, Nat.reduceLeDiff, Nat.reduceLT]
    rw [if_pos (by simpa using hc)]
    exact ⟨Own.nil _ _ _ _, hp4⟩
  rw [if_neg (by simpa using hc)]
  obtain ⟨aw, cw, hvw, hwl⟩ := hf4.wanted.sl (fun _ => rfl)
  rw [hvw] at hat4
  have hwown := hf4.wanted
  rw [hvw] at hwown
  simp -dsimp only [go_sem, ↓reduceIte, Nat.reduceEqDiff, Nat.reduceAdd, Nat.reduceMul, Nat.reduceSub, Nat.reduceLeDiff, Nat.reduceLT, hq4', hat4]
  refine aloopP_of (fun n T H' => ∃ i, n = F.wanted.length - i ∧ i ≤ F.wanted.length ∧ T 7 = .pointer (some ⟨q, 0, none⟩) ∧ T 8 = .int .i64 B ∧ T 9 = .int .i64 A ∧ T 52 = .slice aw F.wanted.length cw ∧ T 53 = .int .i64 F.wanted.length ∧ T 54 = .int .i64 i ∧ H4 <+: H' ∧ ∀ s ∈ F.wanted.take i, (have_.any (holdsP s A) && !have_.any (holdsP s B)) = false) (n := F.wanted.length) ?_ ?_
  · refine ⟨0, ?_⟩
    simp -dsimp only [go_sem, ↓reduceIte, Nat.reduceEqDiff, Nat.reduceAdd, Nat.reduceMul, Nat.reduceSub, Nat.reduceLeDiff, Nat.reduceLT]
    exact ⟨by omega, by omega, rfl, List.prefix_refl _, by simp⟩
  rintro n T H' ⟨i, rfl, hi, g7, g8, g9, g52, g53, g54, hp, hno⟩
  have hf' := hf4.pre hp
  have hq' := pre_get hp hq4'
  have hat' := pre_get hp hat4
  simp -dsimp only [go_sem, ↓reduceIte, Nat.reduceEqDiff, Nat.reduceAdd, Nat.reduceMul, Nat.reduceSub, Nat.reduceLeDiff, Nat.reduceLT, g7, g8, g9, g52, g53, g54]
  refine acondP_of (fun hc => ?_) (fun hc => ?_)
  · simp at hc
    obtain ⟨s, hs⟩ := get_ex hc
    have hsW : s ∈ F.wanted := List.mem_of_getElem? hs
    obtain ⟨id, off, rfl, hat2⟩ := (hwl.pre hp).at (by omega)
    have pE : H' <+: H' ++ [AObj.row s.cells 5 true] := List.prefix_append _ _
    have hq2 := pre_get pE hq'
    have hat3 := pre_get pE hat'
    have hf5 := hf'.pre pE
    have w1 := wrS (show i < 4611686018427387904 by omega)
    simp -dsimp only [go_sem, ↓reduceIte, Nat.reduceEqDiff, Nat.reduceAdd, Nat.reduceMul, Nat.reduceSub, Nat.reduceLeDiff, Nat.reduceLT, g7, g8, g9, g52, g53, g54, inRange hc, rowLoad_whole (hat2 i s hs)]
    refine adrawnP_of2 [(0, false), (1, false), (2, false), (3, false), (4, false), (5, false), (6, false), (7, false), (8, false), (9, false), (10, false), (11, false), (12, false), (13, false), (14, false), (15, false), (16, false), (17, false), (18, false), (19, false)] (by kernel_rfl) ?_
    have eA : decide (0 < F.hd s A) = have_.any (holdsP s A) := by rw [hhd s hsW A ma]; cases have_.any (holdsP s A) <;> rfl
    have eB : (F.hd s B == 0) = !have_.any (holdsP s B) := by rw [hhd s hsW B mb]; cases have_.any (holdsP s B) <;> rfl
    cases hA : have_.any (holdsP s A) with
    | false =>
      rw [hA] at eA
      simp -dsimp only [go_sem, ↓reduceIte, Nat.reduceEqDiff, Nat.reduceAdd, Nat.reduceMul, Nat.reduceSub, Nat.reduceLeDiff, Nat.reduceLT, g7, g8, g9, g52, g53, g54, hq2, hat3, look_holds hf5 s A, eA, w1]
      refine ⟨_, by omega, i + 1, rfl, hc, rfl, hp.trans pE, fun t ht => ?_⟩
      rw [take_get hs, List.mem_append, List.mem_singleton] at ht
      rcases ht with ht | rfl
      · exact hno t ht
      · rw [hA]; rfl
    | true =>
      rw [hA] at eA
      simp -dsimp only [go_sem, ↓reduceIte, Nat.reduceEqDiff, Nat.reduceAdd, Nat.reduceMul, Nat.reduceSub, Nat.reduceLeDiff, Nat.reduceLT, g7, g8, g9, g52, g53, g54, hq2, hat3, look_holds hf5 s A, eA, look_holds hf5 s B, eB]
      refine acondP_of (fun hB => ?_) (fun hB => ?_)
      · have hfind : F.wanted.find? (fun s => have_.any (holdsP s A) && !have_.any (holdsP s B)) = some s := by
          rw [List.find?_eq_some_iff_append]
          refine ⟨by rw [hA, hB]; rfl, F.wanted.take i, F.wanted.drop (i + 1), ?_, fun t ht => by rw [hno t ht]; rfl⟩
          rw [← drop_get hs, List.take_append_drop]
        rw [hfind]
        have b1 := hbd A ma
        have b2 := hbd B mb
        simp -dsimp only [go_sem, ↓reduceIte, Nat.reduceEqDiff, Nat.reduceAdd, Nat.reduceMul, Nat.reduceSub, Nat.reduceLeDiff, Nat.reduceLT, g7, g8, g9, g52, g53, g54, hq2]
        refine SoundP_of (order F ⟨false, s, B⟩ _ _ hf5 (by rw [out0]; simp) (by simp only; omega) (by simp only; omega)) ?_
        rintro _ H6 ⟨rfl, F6, hf6, hk6, ho6⟩
        obtain ⟨hc6, hb6⟩ := hk6.clear (k := H'.length) (by simp) (clear_new hf' (Nat.le_refl _))
        obtain ⟨hc7, hb7⟩ := hk6.clear (k := q) (by have := pre_len hp; simp; omega) hcq
        rw [hq2] at hb7
        rw [get_end] at hb6
        rw [← ho6.p] at hb7
        have hl6 : F6.ld A ≤ 1000000 ∧ -1000000 ≤ F6.ld A := by
          rw [ho6.ld]; simp only; split
          · simp; omega
          · omega
        simp -dsimp only [go_sem, ↓reduceIte, Nat.reduceEqDiff, Nat.reduceAdd, Nat.reduceMul, Nat.reduceSub, Nat.reduceLeDiff, Nat.reduceLT, g7, g8, g9, g52, g53, g54, hb7, hb6]
        refine SoundP_of (order F6 ⟨true, s, A⟩ _ _ hf6 (by rw [ho6.out, out0]; simp) hl6.2 hl6.1) ?_
        rintro _ H7 ⟨rfl, F7, hf7, hk7, ho7⟩
        obtain ⟨hc8, hb8⟩ := hk7.clear (k := q) (get_lt hb7) hc7
        rw [hb7, ← ho7.p] at hb8
        have hp7 := hf5.base (hk6.trans hk7) ((hp4.trans hp).trans pE) (Nat.le_refl _)
        have hat7 := hf7.at_
        obtain ⟨ao, co, hvo, -⟩ := hf7.out.sl (fun _ => rfl)
        have hown := hf7.out
        rw [hvo] at hat7 hown
        rw [ho7.out, ho6.out, out0] at hown hat7
        simp -dsimp only [go_sem, ↓reduceIte, Nat.reduceEqDiff, Nat.reduceAdd, Nat.reduceMul, Nat.reduceSub, Nat.reduceLeDiff, Nat.reduceLT, g7, g8, g9, g52, g53, g54, hb8, hat7]
        exact ⟨hown, hp7⟩
      · simp -dsimp only [go_sem, ↓reduceIte, Nat.reduceEqDiff, Nat.reduceAdd, Nat.reduceMul, Nat.reduceSub, Nat.reduceLeDiff, Nat.reduceLT, g7, g8, g9, g52, g53, g54, w1]
        refine ⟨_, by omega, i + 1, rfl, hc, rfl, hp.trans pE, fun t ht => ?_⟩
        rw [take_get hs, List.mem_append, List.mem_singleton] at ht
        rcases ht with ht | rfl
        · exact hno t ht
        · rw [hA, hB]; rfl
  · simp at hc
    obtain rfl : i = F.wanted.length := by omega
    rw [List.take_length] at hno
    rw [List.find?_eq_none.2 (fun t ht => by rw [hno t ht]; simp)]
    obtain ⟨ao, co, hvo, -⟩ := hf'.out.sl (fun _ => rfl)
    have hown := hf'.out
    rw [hvo] at hat' hown
    rw [out0] at hown hat'
    simp -dsimp only [go_sem, ↓reduceIte, Nat.reduceEqDiff, Nat.reduceAdd, Nat.reduceMul, Nat.reduceSub, Nat.reduceLeDiff, Nat.reduceLT, g7, g8, g9, g52, g53, g54, hq', hat']
    exact ⟨hown, hp4.trans hp⟩
end Go.Proofs.Ytangfnommhmpeaa
