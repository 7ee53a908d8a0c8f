/-
  Go's slices.BinarySearch, BinarySearchFunc, MinFunc, MaxFunc.
-/
import Derived.Test.YtangfnommhmpeaaSlA
set_option linter.unusedVariables false
set_option linter.unusedSimpArgs false
namespace Go.Proofs.Ytangfnommhmpeaa
open Go Go.AW Go.Bub
set_option linter.unusedSimpArgs false
set_option maxRecDepth 20000

theorem less_int (a b : Int) (H : AHeap) : Sound Try.prog 71 [.int .i64 a, .int .i64 b] H fun v H' => v = .bool (decide (a < b)) ∧ H' = H := by
  refine Sound.of_body (rs := [.tmp 4]) mixed Try.func71 rfl (by kernel_rfl) rfl (by kernel_rfl) ?_
  simp -dsimp only [go_sem, ↓reduceIte, Nat.reduceEqDiff, Nat.reduceAdd, Nat.reduceMul, Nat.reduceSub, Nat.reduceLeDiff, Nat.reduceLT]
  refine SoundP_of (isNaN_int a H) ?_
  rintro v H' ⟨rfl, rfl⟩
  simp -dsimp only [go_sem, ↓reduceIte, Nat.reduceEqDiff, Nat.reduceAdd, Nat.reduceMul, Nat.reduceSub, Nat.reduceLeDiff, Nat.reduceLT]
theorem slIsNaN_int (a : Int) (H : AHeap) : Sound Try.prog 83 [.int .i64 a] H fun v H' => v = .bool false ∧ H' = H := by
  refine Sound.of_body (rs := [.tmp 2]) mixed Try.func83 rfl (by kernel_rfl) rfl (by kernel_rfl) ?_
  simp -dsimp only [go_sem, ↓reduceIte, Nat.reduceEqDiff, Nat.reduceAdd, Nat.reduceMul, Nat.reduceSub, Nat.reduceLeDiff, Nat.reduceLT]
  simp

theorem mid_eq {i j : Nat} (h : i < j) (hj : j < 1000) :
    IntKind.i64.wrap ((i : Int) + (j : Int)) = ((i + j : Nat) : Int) ∧ IntKind.u64.wrap ((i + j : Nat) : Int) = ((i + j : Nat) : Int) ∧ ashift .shr .u64 ((i + j : Nat) : Int) 1 = some (.int .u64 (((i + j) / 2 : Nat) : Int)) ∧ IntKind.i64.wrap (((i + j) / 2 : Nat) : Int) = (((i + j) / 2 : Nat) : Int) := by
  refine ⟨?_, ?_, ?_, ?_⟩
  · rw [wr64 (by omega) (by omega)]; simp
  · simp [IntKind.wrap, IntKind.bits, IntKind.signed]; omega
  · have : (IntKind.u64).bits = 64 := rfl
    simp [ashift, this, Int.fdiv_eq_ediv_of_nonneg]
  · rw [wr64 (by omega) (by omega)]

/-- in a list that rises: how far below, and there or not -/
theorem binarySearchI (l : List Int) (x : Int) (a : Option Addr) (c : Nat) (H : AHeap) (hs : IntsAt H a l) (hl : l.length < 1000) (hr : l.Pairwise (· < ·)) :
    Sound Try.prog 53 [.slice a l.length c, .int .i64 x] H fun v H' => ∃ i : Nat, v = .tuple #[.int .i64 i, .bool (decide (x ∈ l))] ∧ H' = H := by
  refine Sound.of_body (rs := [.tmp 4, .tmp 5]) mixed Try.func53 rfl (by kernel_rfl) rfl (by kernel_rfl) ?_
  simp -dsimp only [go_sem, ↓reduceIte, Nat.reduceEqDiff, Nat.reduceAdd, Nat.reduceMul, Nat.reduceSub, Nat.reduceLeDiff, Nat.reduceLT]
  refine aloopP_of (fun n T H' => ∃ i j, n = j - i ∧ i ≤ j ∧ j ≤ l.length ∧ H' = H ∧ T 0 = .slice a l.length c ∧ T 1 = .int .i64 x ∧ T 6 = .int .i64 l.length ∧ T 7 = .int .i64 (i : Nat) ∧ T 8 = .int .i64 (j : Nat) ∧ (∀ y ∈ l.take i, y < x) ∧ (∀ y ∈ l.drop j, x ≤ y)) (n := l.length) ?_ ?_
  · refine ⟨0, l.length, ?_⟩
    simp -dsimp only [go_sem, ↓reduceIte, Nat.reduceEqDiff, Nat.reduceAdd, Nat.reduceMul, Nat.reduceSub, Nat.reduceLeDiff, Nat.reduceLT]
    simp
  · rintro n T H' ⟨i, j, rfl, hij, hj, rfl, h0, h1, h6, h7, h8, hlo, hhi⟩
    simp -dsimp only [go_sem, ↓reduceIte, Nat.reduceEqDiff, Nat.reduceAdd, Nat.reduceMul, Nat.reduceSub, Nat.reduceLeDiff, Nat.reduceLT, h0, h1, h6, h7, h8]
    refine acondP_of (fun h => ?_) (fun h => ?_)
    · simp at h
      obtain ⟨m1, m2, m3, m4⟩ := mid_eq h (by omega)
      have hm : (i + j) / 2 < l.length := by omega
      obtain ⟨y, hy⟩ := get_ex hm
      obtain ⟨id, off, rfl, hat⟩ := hs.at (by omega)
      simp -dsimp only [go_sem, ↓reduceIte, Nat.reduceEqDiff, Nat.reduceAdd, Nat.reduceMul, Nat.reduceSub, Nat.reduceLeDiff, Nat.reduceLT, h0, h1, h6, h7, h8, m1, m2, m3, m4, inRange hm, rowLoad_one0 (hat _ y hy)]
      refine SoundP_of (less_int y x H') ?_
      rintro v H' ⟨rfl, rfl⟩
      simp -dsimp only [go_sem, ↓reduceIte, Nat.reduceEqDiff, Nat.reduceAdd, Nat.reduceMul, Nat.reduceSub, Nat.reduceLeDiff, Nat.reduceLT, h0, h1, h6, h7, h8]
      refine acondP_of (fun hc => ?_) (fun hc => ?_)
      · simp at hc
        simp -dsimp only [go_sem, ↓reduceIte, Nat.reduceEqDiff, Nat.reduceAdd, Nat.reduceMul, Nat.reduceSub, Nat.reduceLeDiff, Nat.reduceLT, h0, h1, h6, h7, h8, wrS (show (i + j) / 2 < 4611686018427387904 by omega)]
        refine ⟨_, ?_, (i + j) / 2 + 1, j, rfl, by omega, hj, rfl, rfl, fun z hz => ?_, hhi⟩
        · omega
        · rw [take_get hy, List.mem_append, List.mem_singleton] at hz
          rcases hz with hz | rfl
          · obtain ⟨k, hk, rfl⟩ := List.getElem_of_mem hz
            rw [List.length_take] at hk
            rw [List.getElem_take]
            have := List.pairwise_iff_getElem.1 hr k ((i + j) / 2) (by omega) hm (by omega)
            rw [List.getElem?_eq_getElem hm] at hy
            cases hy
            omega
          · exact hc
      · simp at hc
        simp -dsimp only [go_sem, ↓reduceIte, Nat.reduceEqDiff, Nat.reduceAdd, Nat.reduceMul, Nat.reduceSub, Nat.reduceLeDiff, Nat.reduceLT, h0, h1, h6, h7, h8]
        refine ⟨_, ?_, i, (i + j) / 2, rfl, by omega, by omega, rfl, rfl, hlo, fun z hz => ?_⟩
        · omega
        · rw [drop_get hy] at hz
          rcases List.mem_cons.1 hz with rfl | hz
          · exact hc
          · have : l.Pairwise (· < ·) := hr
            rw [← List.take_append_drop ((i + j) / 2) l, drop_get hy, List.pairwise_append] at this
            have := (List.pairwise_cons.1 this.2.1).1 z hz
            omega
    · simp at h
      obtain rfl : i = j := by omega
      have key : decide (x ∈ l) = decide (l[i]? = some x) := by
        rw [Bool.eq_iff_iff]
        simp only [decide_eq_true_eq]
        constructor
        · intro hx
          rw [← List.take_append_drop i l, List.mem_append] at hx
          rcases hx with hx | hx
          · exact absurd (hlo x hx) (by omega)
          · rcases Nat.lt_or_ge i l.length with hi | hi
            · obtain ⟨y, hy⟩ := get_ex hi
              rw [drop_get hy] at hx hhi
              rcases List.mem_cons.1 hx with rfl | hx
              · exact hy
              · have := hr
                rw [← List.take_append_drop i l, drop_get hy, List.pairwise_append] at this
                have h1 := (List.pairwise_cons.1 this.2.1).1 x hx
                have h2 := hhi y (List.mem_cons_self ..)
                omega
            · rw [List.drop_of_length_le hi] at hx; cases hx
        · exact fun hx => List.mem_of_getElem? hx
      rcases Nat.lt_or_ge i l.length with hi | hi
      · obtain ⟨y, hy⟩ := get_ex hi
        obtain ⟨id, off, rfl, hat⟩ := hs.at (by omega)
        have hlt : decide ((i : Int) < (l.length : Int)) = true := by simp [hi]
        cases hyx : (y == x) with
        | true =>
          simp -dsimp only [go_sem, ↓reduceIte, Nat.reduceEqDiff, Nat.reduceAdd, Nat.reduceMul, Nat.reduceSub, Nat.reduceLeDiff, Nat.reduceLT, h0, h1, h6, h7, h8, hlt, inRange hi, rowLoad_one0 (hat _ y hy), hyx]
          refine ⟨i, ?_⟩
          simp at hyx
          rw [key, hy]; simp [hyx]
        | false =>
          simp -dsimp only [go_sem, ↓reduceIte, Nat.reduceEqDiff, Nat.reduceAdd, Nat.reduceMul, Nat.reduceSub, Nat.reduceLeDiff, Nat.reduceLT, h0, h1, h6, h7, h8, hlt, inRange hi, rowLoad_one0 (hat _ y hy), hyx]
          refine SoundP_of (slIsNaN_int y H') ?_
          rintro v H' ⟨rfl, rfl⟩
          simp -dsimp only [go_sem, ↓reduceIte, Nat.reduceEqDiff, Nat.reduceAdd, Nat.reduceMul, Nat.reduceSub, Nat.reduceLeDiff, Nat.reduceLT, h0, h1, h6, h7, h8]
          refine ⟨i, ?_⟩
          simp at hyx
          rw [key, hy]; simp [hyx]
      · have hlt : decide ((i : Int) < (l.length : Int)) = false := by simp [hi]
        simp -dsimp only [go_sem, ↓reduceIte, Nat.reduceEqDiff, Nat.reduceAdd, Nat.reduceMul, Nat.reduceSub, Nat.reduceLeDiff, Nat.reduceLT, h0, h1, h6, h7, h8, hlt]
        refine ⟨i, ?_⟩
        rw [key, List.getElem?_eq_none hi]; simp

/-- the first of the least, by a comparison -/
def pickBy (cf : Int → Int → Bool) : Int → List Int → Int
  | m, [] => m
  | m, x :: l => pickBy cf (if cf x m then x else m) l
theorem pickBy_snoc (cf : Int → Int → Bool) (x : Int) : ∀ (l : List Int) (m : Int), pickBy cf m (l ++ [x]) = if cf x (pickBy cf m l) then x else pickBy cf m l
  | [], m => rfl
  | y :: l, m => by simp only [List.cons_append, pickBy]; exact pickBy_snoc cf x l _

theorem pickBy_mem (cf : Int → Int → Bool) : ∀ (l : List Int) (m : Int), pickBy cf m l ∈ m :: l
  | [], m => by simp [pickBy]
  | x :: l, m => by
    have := pickBy_mem cf l (if cf x m then x else m)
    simp only [pickBy]
    rcases List.mem_cons.1 this with h | h
    · rw [h]; split <;> simp
    · exact List.mem_cons_of_mem _ (List.mem_cons_of_mem _ h)

theorem minFunc (l : List Int) (x0 : Int) (cf : Int → Int → Int) (g : FuncId) (fs cs : Array Value) (a : Option Addr) (c : Nat) (H : AHeap) (hs : IntsAt H a (x0 :: l)) (hl : (x0 :: l).length < 1000)
    (hcf : ∀ H' x y, H <+: H' → x ∈ (x0 :: l) → y ∈ (x0 :: l) → Sound Try.prog g (fs.toList ++ .int .i64 x :: .int .i64 y :: cs.toList) H' fun v H'' => v = .int .i64 (cf x y) ∧ H' <+: H'') :
    Sound Try.prog 29 [.slice a (x0 :: l).length c, .func (.func g) fs cs] H fun v H' => v = .int .i64 (pickBy (fun x m => decide (cf x m < 0)) x0 l) ∧ H <+: H' := by
  refine Sound.of_body (rs := [.tmp 4]) mixed Try.func29 rfl (by kernel_rfl) rfl (by kernel_rfl) ?_
  obtain ⟨id, off, rfl, hat0⟩ := hs.at (by simp)
  have hat : ∀ (i : Nat) (x : Int), (x0 :: l)[i]? = some x → aload H ⟨id, off + i * 1, none⟩ 1 = some (encI x) := hat0
  have ne : decide (((x0 :: l).length : Int) < 1) = false := by simp; omega
  have z0 := rowLoad_one0 (hat 0 x0 rfl) (some 1)
  rw [Nat.zero_mul, Nat.add_zero] at z0
  generalize hL : (x0 :: l).length = L at *
  have hLl : L = l.length + 1 := by simpa using hL.symm
  simp -dsimp only [go_sem, ↓reduceIte, Nat.reduceEqDiff, Nat.reduceAdd, Nat.reduceMul, Nat.reduceSub, Nat.reduceLeDiff, Nat.reduceLT, ne, show (0 : Int) ≤ 0 ∧ (0 : Int) < (L : Int) from by omega, Nat.add_zero, z0]
  refine aloopP_of (fun n T H' => ∃ i, n = L - i ∧ 1 ≤ i ∧ i ≤ L ∧ H <+: H' ∧ T 0 = .slice (some ⟨id, off, none⟩) L c ∧ T 1 = .func (.func g) fs cs ∧ T 5 = .int .i64 (pickBy (fun x m => decide (cf x m < 0)) x0 (l.take (i - 1))) ∧ T 6 = .int .i64 i) (n := L - 1) ?_ ?_
  · refine ⟨1, ?_⟩
    simp -dsimp only [go_sem, ↓reduceIte, Nat.reduceEqDiff, Nat.reduceAdd, Nat.reduceMul, Nat.reduceSub, Nat.reduceLeDiff, Nat.reduceLT]
    refine ⟨by omega, List.prefix_refl _, rfl, rfl⟩
  · rintro n T H' ⟨i, rfl, hi1, hi, hp, h0, h1, h5, h6⟩
    simp -dsimp only [go_sem, ↓reduceIte, Nat.reduceEqDiff, Nat.reduceAdd, Nat.reduceMul, Nat.reduceSub, Nat.reduceLeDiff, Nat.reduceLT, h0, h1, h5, h6]
    refine acondP_of (fun h => ?_) (fun h => ?_)
    · simp at h
      obtain ⟨j, rfl⟩ : ∃ j, i = j + 1 := ⟨i - 1, by omega⟩
      obtain ⟨x, hx⟩ := get_ex (show j < l.length by omega)
      rw [Nat.add_sub_cancel] at h5
      have hx' : (x0 :: l)[j + 1]? = some x := by simpa using hx
      have hm := pickBy_mem (fun x m => decide (cf x m < 0)) (l.take j) x0
      have hm' : pickBy (fun x m => decide (cf x m < 0)) x0 (l.take j) ∈ x0 :: l := by
        rcases List.mem_cons.1 hm with q | q
        · rw [q]; simp
        · exact List.mem_cons_of_mem _ (List.mem_of_mem_take q)
      have a1 := rowLoad_one0 (aload_pre hp (hat _ x hx')) (some 1)
      simp -dsimp only [go_sem, ↓reduceIte, Nat.reduceEqDiff, Nat.reduceAdd, Nat.reduceMul, Nat.reduceSub, Nat.reduceLeDiff, Nat.reduceLT, h0, h1, h5, h6, inRange h, a1]
      refine SoundP_of (hcf H' x _ hp (List.mem_of_getElem? hx') hm') ?_
      rintro v H1 ⟨rfl, hp1⟩
      simp -dsimp only [go_sem, ↓reduceIte, Nat.reduceEqDiff, Nat.reduceAdd, Nat.reduceMul, Nat.reduceSub, Nat.reduceLeDiff, Nat.reduceLT, h0, h1, h5, h6]
      have a2 := rowLoad_one0 (aload_pre (hp.trans hp1) (hat _ x hx')) (some 1)
      refine acondP_of (fun hc => ?_) (fun hc => ?_)
      · simp -dsimp only [go_sem, ↓reduceIte, Nat.reduceEqDiff, Nat.reduceAdd, Nat.reduceMul, Nat.reduceSub, Nat.reduceLeDiff, Nat.reduceLT, h0, h1, h5, h6, inRange h, a2, wrS (show j + 1 < 4611686018427387904 by omega)]
        refine ⟨_, ?_, j + 1 + 1, rfl, by omega, h, hp.trans hp1, ?_, rfl⟩
        · omega
        · rw [show j + 1 + 1 - 1 = j + 1 from rfl, take_get hx, pickBy_snoc, if_pos (by simpa using hc)]
      · simp -dsimp only [go_sem, ↓reduceIte, Nat.reduceEqDiff, Nat.reduceAdd, Nat.reduceMul, Nat.reduceSub, Nat.reduceLeDiff, Nat.reduceLT, h0, h1, h5, h6, wrS (show j + 1 < 4611686018427387904 by omega)]
        refine ⟨_, ?_, j + 1 + 1, rfl, by omega, h, hp.trans hp1, ?_, rfl⟩
        · omega
        · rw [show j + 1 + 1 - 1 = j + 1 from rfl, take_get hx, pickBy_snoc, if_neg (by simpa using hc)]
    · simp at h
      obtain rfl : i = L := by omega
      simp -dsimp only [go_sem, ↓reduceIte, Nat.reduceEqDiff, Nat.reduceAdd, Nat.reduceMul, Nat.reduceSub, Nat.reduceLeDiff, Nat.reduceLT, h0, h1, h5, h6]
      rw [List.take_of_length_le (by omega)]
      exact ⟨rfl, hp⟩
theorem maxFunc (l : List Int) (x0 : Int) (cf : Int → Int → Int) (g : FuncId) (fs cs : Array Value) (a : Option Addr) (c : Nat) (H : AHeap) (hs : IntsAt H a (x0 :: l)) (hl : (x0 :: l).length < 1000)
    (hcf : ∀ H' x y, H <+: H' → x ∈ (x0 :: l) → y ∈ (x0 :: l) → Sound Try.prog g (fs.toList ++ .int .i64 x :: .int .i64 y :: cs.toList) H' fun v H'' => v = .int .i64 (cf x y) ∧ H' <+: H'') :
    Sound Try.prog 31 [.slice a (x0 :: l).length c, .func (.func g) fs cs] H fun v H' => v = .int .i64 (pickBy (fun x m => decide (0 < cf x m)) x0 l) ∧ H <+: H' := by
  refine Sound.of_body (rs := [.tmp 4]) mixed Try.func31 rfl (by kernel_rfl) rfl (by kernel_rfl) ?_
  obtain ⟨id, off, rfl, hat0⟩ := hs.at (by simp)
  have hat : ∀ (i : Nat) (x : Int), (x0 :: l)[i]? = some x → aload H ⟨id, off + i * 1, none⟩ 1 = some (encI x) := hat0
  have ne : decide (((x0 :: l).length : Int) < 1) = false := by simp; omega
  have z0 := rowLoad_one0 (hat 0 x0 rfl) (some 1)
  rw [Nat.zero_mul, Nat.add_zero] at z0
  generalize hL : (x0 :: l).length = L at *
  have hLl : L = l.length + 1 := by simpa using hL.symm
  simp -dsimp only [go_sem, ↓reduceIte, Nat.reduceEqDiff, Nat.reduceAdd, Nat.reduceMul, Nat.reduceSub, Nat.reduceLeDiff, Nat.reduceLT, ne, show (0 : Int) ≤ 0 ∧ (0 : Int) < (L : Int) from by omega, Nat.add_zero, z0]
  refine aloopP_of (fun n T H' => ∃ i, n = L - i ∧ 1 ≤ i ∧ i ≤ L ∧ H <+: H' ∧ T 0 = .slice (some ⟨id, off, none⟩) L c ∧ T 1 = .func (.func g) fs cs ∧ T 5 = .int .i64 (pickBy (fun x m => decide (0 < cf x m)) x0 (l.take (i - 1))) ∧ T 6 = .int .i64 i) (n := L - 1) ?_ ?_
  · refine ⟨1, ?_⟩
    simp -dsimp only [go_sem, ↓reduceIte, Nat.reduceEqDiff, Nat.reduceAdd, Nat.reduceMul, Nat.reduceSub, Nat.reduceLeDiff, Nat.reduceLT]
    refine ⟨by omega, List.prefix_refl _, rfl, rfl⟩
  · rintro n T H' ⟨i, rfl, hi1, hi, hp, h0, h1, h5, h6⟩
    simp -dsimp only [go_sem, ↓reduceIte, Nat.reduceEqDiff, Nat.reduceAdd, Nat.reduceMul, Nat.reduceSub, Nat.reduceLeDiff, Nat.reduceLT, h0, h1, h5, h6]
    refine acondP_of (fun h => ?_) (fun h => ?_)
    · simp at h
      obtain ⟨j, rfl⟩ : ∃ j, i = j + 1 := ⟨i - 1, by omega⟩
      obtain ⟨x, hx⟩ := get_ex (show j < l.length by omega)
      rw [Nat.add_sub_cancel] at h5
      have hx' : (x0 :: l)[j + 1]? = some x := by simpa using hx
      have hm := pickBy_mem (fun x m => decide (0 < cf x m)) (l.take j) x0
      have hm' : pickBy (fun x m => decide (0 < cf x m)) x0 (l.take j) ∈ x0 :: l := by
        rcases List.mem_cons.1 hm with q | q
        · rw [q]; simp
        · exact List.mem_cons_of_mem _ (List.mem_of_mem_take q)
      have a1 := rowLoad_one0 (aload_pre hp (hat _ x hx')) (some 1)
      simp -dsimp only [go_sem, ↓reduceIte, Nat.reduceEqDiff, Nat.reduceAdd, Nat.reduceMul, Nat.reduceSub, Nat.reduceLeDiff, Nat.reduceLT, h0, h1, h5, h6, inRange h, a1]
      refine SoundP_of (hcf H' x _ hp (List.mem_of_getElem? hx') hm') ?_
      rintro v H1 ⟨rfl, hp1⟩
      simp -dsimp only [go_sem, ↓reduceIte, Nat.reduceEqDiff, Nat.reduceAdd, Nat.reduceMul, Nat.reduceSub, Nat.reduceLeDiff, Nat.reduceLT, h0, h1, h5, h6]
      have a2 := rowLoad_one0 (aload_pre (hp.trans hp1) (hat _ x hx')) (some 1)
      refine acondP_of (fun hc => ?_) (fun hc => ?_)
      · simp -dsimp only [go_sem, ↓reduceIte, Nat.reduceEqDiff, Nat.reduceAdd, Nat.reduceMul, Nat.reduceSub, Nat.reduceLeDiff, Nat.reduceLT, h0, h1, h5, h6, inRange h, a2, wrS (show j + 1 < 4611686018427387904 by omega)]
        refine ⟨_, ?_, j + 1 + 1, rfl, by omega, h, hp.trans hp1, ?_, rfl⟩
        · omega
        · rw [show j + 1 + 1 - 1 = j + 1 from rfl, take_get hx, pickBy_snoc, if_pos (by simpa using hc)]
      · simp -dsimp only [go_sem, ↓reduceIte, Nat.reduceEqDiff, Nat.reduceAdd, Nat.reduceMul, Nat.reduceSub, Nat.reduceLeDiff, Nat.reduceLT, h0, h1, h5, h6, wrS (show j + 1 < 4611686018427387904 by omega)]
        refine ⟨_, ?_, j + 1 + 1, rfl, by omega, h, hp.trans hp1, ?_, rfl⟩
        · omega
        · rw [show j + 1 + 1 - 1 = j + 1 from rfl, take_get hx, pickBy_snoc, if_neg (by simpa using hc)]
    · simp at h
      obtain rfl : i = L := by omega
      simp -dsimp only [go_sem, ↓reduceIte, Nat.reduceEqDiff, Nat.reduceAdd, Nat.reduceMul, Nat.reduceSub, Nat.reduceLeDiff, Nat.reduceLT, h0, h1, h5, h6]
      rw [List.take_of_length_le (by omega)]
      exact ⟨rfl, hp⟩

/-- in a list of segments that rises: there or not -/
theorem binarySearchS (l : List Seg) (s : Seg) (a : Option Addr) (c : Nat) (H : AHeap) (hs : SegsAt H a l) (hl : l.length < 1000) (hr : StandL l) :
    Sound Try.prog 54 [.slice a l.length c, s.val, .func (.func 43) #[] #[]] H fun v H' => ∃ i : Nat, v = .tuple #[.int .i64 i, .bool (decide (s ∈ l))] ∧ H <+: H' := by
  refine Sound.of_body (rs := [.tmp 6, .tmp 7]) mixed Try.func54 rfl (by kernel_rfl) rfl (by kernel_rfl) ?_
  simp -dsimp only [go_sem, ↓reduceIte, Nat.reduceEqDiff, Nat.reduceAdd, Nat.reduceMul, Nat.reduceSub, Nat.reduceLeDiff, Nat.reduceLT]
  refine aloopP_of (fun n T H' => ∃ i j, n = j - i ∧ i ≤ j ∧ j ≤ l.length ∧ (H ++ [.row s.cells 5 true]) <+: H' ∧ T 0 = .slice a l.length c ∧ T 2 = .func (.func 43) #[] #[] ∧ T 4 = .pointer (some ⟨H.length, 0, none⟩) ∧ T 8 = .int .i64 l.length ∧ T 9 = .int .i64 (i : Nat) ∧ T 10 = .int .i64 (j : Nat) ∧ (∀ y ∈ l.take i, standsR y s = true) ∧ (∀ y ∈ l.drop j, ¬ standsR y s = true)) (n := l.length) ?_ ?_
  · refine ⟨0, l.length, ?_⟩
    simp -dsimp only [go_sem, ↓reduceIte, Nat.reduceEqDiff, Nat.reduceAdd, Nat.reduceMul, Nat.reduceSub, Nat.reduceLeDiff, Nat.reduceLT]
    simp
  · rintro n T H' ⟨i, j, rfl, hij, hj, hp, h0, h2, h4, h8, h9, h10, hlo, hhi⟩
    have hp0 : H <+: H' := (List.prefix_append _ _).trans hp
    have hb := pre_get hp (get_end H _ [])
    simp -dsimp only [go_sem, ↓reduceIte, Nat.reduceEqDiff, Nat.reduceAdd, Nat.reduceMul, Nat.reduceSub, Nat.reduceLeDiff, Nat.reduceLT, h0, h2, h4, h8, h9, h10]
    refine acondP_of (fun h => ?_) (fun h => ?_)
    · simp at h
      obtain ⟨m1, m2, m3, m4⟩ := mid_eq h (by omega)
      have hm : (i + j) / 2 < l.length := by omega
      obtain ⟨y, hy⟩ := get_ex hm
      obtain ⟨id, off, rfl, hat⟩ := (hs.pre hp0).at (by omega)
      simp -dsimp only [go_sem, ↓reduceIte, Nat.reduceEqDiff, Nat.reduceAdd, Nat.reduceMul, Nat.reduceSub, Nat.reduceLeDiff, Nat.reduceLT, h0, h2, h4, h8, h9, h10, m1, m2, m3, m4]
      refine adrawnP_of2 [(0, false), (1, false), (2, false), (3, false), (4, false), (5, false), (6, false), (7, false)] (by kernel_rfl) ?_
      simp -dsimp only [go_sem, ↓reduceIte, Nat.reduceEqDiff, Nat.reduceAdd, Nat.reduceMul, Nat.reduceSub, Nat.reduceLeDiff, Nat.reduceLT, h0, h2, h4, h8, h9, h10, inRange hm, rowLoad_whole (hat _ y hy), hb]
      refine SoundP_of (stands y s H') ?_
      rintro v H1 ⟨rfl, hp1⟩
      simp -dsimp only [go_sem, ↓reduceIte, Nat.reduceEqDiff, Nat.reduceAdd, Nat.reduceMul, Nat.reduceSub, Nat.reduceLeDiff, Nat.reduceLT, h0, h2, h4, h8, h9, h10]
      refine acondP_of (fun hc => ?_) (fun hc => ?_)
      · simp at hc
        rw [cmpSeg_lt] at hc
        simp -dsimp only [go_sem, ↓reduceIte, Nat.reduceEqDiff, Nat.reduceAdd, Nat.reduceMul, Nat.reduceSub, Nat.reduceLeDiff, Nat.reduceLT, h0, h2, h4, h8, h9, h10, wrS (show (i + j) / 2 < 4611686018427387904 by omega)]
        refine ⟨_, ?_, (i + j) / 2 + 1, j, rfl, by omega, hj, hp.trans hp1, rfl, rfl, fun z hz => ?_, hhi⟩
        · omega
        · rw [take_get hy, List.mem_append, List.mem_singleton] at hz
          rcases hz with hz | rfl
          · have : l.Pairwise fun a b => standsR a b = true := hr
            rw [← List.take_append_drop ((i + j) / 2) l, drop_get hy, List.pairwise_append] at this
            exact standsR_trans (this.2.2 z hz y (List.mem_cons_self ..)) hc
          · exact hc
      · have hc' : ¬ standsR y s = true := fun q => by rw [← cmpSeg_lt] at q; simp at hc; omega
        simp -dsimp only [go_sem, ↓reduceIte, Nat.reduceEqDiff, Nat.reduceAdd, Nat.reduceMul, Nat.reduceSub, Nat.reduceLeDiff, Nat.reduceLT, h0, h2, h4, h8, h9, h10]
        refine ⟨_, ?_, i, (i + j) / 2, rfl, by omega, by omega, hp.trans hp1, rfl, rfl, hlo, fun z hz => ?_⟩
        · omega
        · rw [drop_get hy] at hz
          rcases List.mem_cons.1 hz with rfl | hz
          · exact hc'
          · have : l.Pairwise fun a b => standsR a b = true := hr
            rw [← List.take_append_drop ((i + j) / 2) l, drop_get hy, List.pairwise_append] at this
            exact fun q => hc' (standsR_trans ((List.pairwise_cons.1 this.2.1).1 z hz) q)
    · simp at h
      obtain rfl : i = j := by omega
      have key : decide (s ∈ l) = decide (l[i]? = some s) := by
        rw [Bool.eq_iff_iff]
        simp only [decide_eq_true_eq]
        constructor
        · intro hx
          rw [← List.take_append_drop i l, List.mem_append] at hx
          rcases hx with hx | hx
          · exact absurd (hlo s hx) (standsR_irrefl s)
          · rcases Nat.lt_or_ge i l.length with hi | hi
            · obtain ⟨y, hy⟩ := get_ex hi
              rw [drop_get hy] at hx hhi
              rcases List.mem_cons.1 hx with rfl | hx
              · exact hy
              · have : l.Pairwise fun a b => standsR a b = true := hr
                rw [← List.take_append_drop i l, drop_get hy, List.pairwise_append] at this
                exact absurd ((List.pairwise_cons.1 this.2.1).1 s hx) (hhi y (List.mem_cons_self ..))
            · rw [List.drop_of_length_le hi] at hx; cases hx
        · exact fun hx => List.mem_of_getElem? hx
      simp -dsimp only [go_sem, ↓reduceIte, Nat.reduceEqDiff, Nat.reduceAdd, Nat.reduceMul, Nat.reduceSub, Nat.reduceLeDiff, Nat.reduceLT, h0, h2, h4, h8, h9, h10]
      refine adrawnP_of2 [(0, false), (1, false), (2, false), (3, false), (4, false), (5, false), (6, false), (7, false), (8, false), (9, false), (10, false), (11, false), (12, false), (13, false), (14, false), (15, false)] (by kernel_rfl) ?_
      rcases Nat.lt_or_ge i l.length with hi | hi
      · obtain ⟨y, hy⟩ := get_ex hi
        obtain ⟨id, off, rfl, hat⟩ := (hs.pre hp0).at (by omega)
        have hlt : decide ((i : Int) < (l.length : Int)) = true := by simp [hi]
        simp -dsimp only [go_sem, ↓reduceIte, Nat.reduceEqDiff, Nat.reduceAdd, Nat.reduceMul, Nat.reduceSub, Nat.reduceLeDiff, Nat.reduceLT, h0, h2, h4, h8, h9, h10, hlt, inRange hi, rowLoad_whole (hat _ y hy), hb]
        refine SoundP_of (stands y s H') ?_
        rintro v H1 ⟨rfl, hp1⟩
        refine grown_any hp1 ?_
        simp -dsimp only [go_sem, ↓reduceIte, Nat.reduceEqDiff, Nat.reduceAdd, Nat.reduceMul, Nat.reduceSub, Nat.reduceLeDiff, Nat.reduceLT, h0, h2, h4, h8, h9, h10]
        refine ⟨i, ?_, hp0.trans hp1⟩
        rw [key, hy]
        by_cases q : y = s
        · subst q; simp [cmpSeg_eq.2 rfl]
        · simp [q, mt cmpSeg_eq.1 q]
      · have hlt : decide ((i : Int) < (l.length : Int)) = false := by simp [hi]
        simp -dsimp only [go_sem, ↓reduceIte, Nat.reduceEqDiff, Nat.reduceAdd, Nat.reduceMul, Nat.reduceSub, Nat.reduceLeDiff, Nat.reduceLT, h0, h2, h4, h8, h9, h10, hlt]
        refine ⟨i, ?_, hp0⟩
        rw [key, List.getElem?_eq_none hi]; simp
end Go.Proofs.Ytangfnommhmpeaa
