/-
  A set's parts: where one is, or would be.
-/
import Derived.Test.YthbifkeadbmcnaaIns
set_option linter.unusedVariables false
set_option linter.unusedSimpArgs false
namespace Go.Proofs.Ythbifkeadbmcnaa
open Go Go.AW
set_option linter.unusedSimpArgs false
set_option maxRecDepth 20000

theorem cmpZ_lt {a b : Int} : cmpZ a b < 0 ↔ a < b := by unfold cmpZ; split <;> (try split) <;> omega
theorem cmpZ_eq {a b : Int} : cmpZ a b = 0 ↔ a = b := by unfold cmpZ; split <;> (try split) <;> omega
theorem mid_eq {i j : Nat} (h : i < j) (hj : j < 1000) :
    IntKind.i64.wrap ((i : Int) + (j : Int)) = ((i + j : Nat) : Int) ∧ IntKind.u64.wrap ((i + j : Nat) : Int) = ((i + j : Nat) : Int) ∧ ashift .shr .u64 ((i + j : Nat) : Int) 1 = some (.int .u64 (((i + j) / 2 : Nat) : Int)) ∧ IntKind.i64.wrap (((i + j) / 2 : Nat) : Int) = (((i + j) / 2 : Nat) : Int) := by
  refine ⟨?_, ?_, ?_, ?_⟩
  · rw [wr64 (by omega) (by omega)]; simp
  · simp [IntKind.wrap, IntKind.bits, IntKind.signed]; omega
  · have : (IntKind.u64).bits = 64 := rfl
    simp [ashift, this, Int.fdiv_eq_ediv_of_nonneg]
  · rw [wr64 (by omega) (by omega)]
theorem partF (s : Seg) (n : Int) (H : AHeap) : Sound Try.prog 51 [s.val, .int .i64 n] H fun v H' => v = .int .i64 (cmpZ s.p n) ∧ H <+: H' := by
  refine Sound.of_body (rs := [.tmp 4]) mixed Try.func51 rfl (by kernel_rfl) rfl (by kernel_rfl) ?_
  simp -dsimp only [go_sem, ↓reduceIte, Nat.reduceEqDiff, Nat.reduceAdd, Nat.reduceMul, Nat.reduceSub, Nat.reduceLeDiff, Nat.reduceLT]
  refine SoundP_of (compare_int _ _ _) ?_
  rintro v H' ⟨rfl, rfl⟩
  simp -dsimp only [go_sem, ↓reduceIte, Nat.reduceEqDiff, Nat.reduceAdd, Nat.reduceMul, Nat.reduceSub, Nat.reduceLeDiff, Nat.reduceLT]
  exact List.prefix_append _ _
/-- parts rise -/
abbrev Rises (l : List Seg) : Prop := l.Pairwise fun a b => a.p < b.p
structure PlaceOf (l : List Seg) (n : Int) (i : Nat) : Prop where
  le : i ≤ l.length
  lo : ∀ z ∈ l.take i, z.p < n
  hi : ∀ z ∈ l.drop i, n ≤ z.p
theorem searchP (l : List Seg) (n : Int) (a : Option Addr) (c : Nat) (H : AHeap) (hs : SegsAt H a l) (hl : l.length < 1000) (hr : Rises l) :
    Sound Try.prog 50 [.slice a l.length c, .int .i64 n, .func (.func 51) #[] #[]] H fun v H' => ∃ i : Nat, v = .tuple #[.int .i64 i, .bool (decide (∃ z, l[i]? = some z ∧ z.p = n))] ∧ PlaceOf l n i ∧ H <+: H' := by
  refine Sound.of_body (rs := [.tmp 6, .tmp 7]) mixed Try.func50 rfl (by kernel_rfl) rfl (by kernel_rfl) ?_
  simp -dsimp only [go_sem, ↓reduceIte, Nat.reduceEqDiff, Nat.reduceAdd, Nat.reduceMul, Nat.reduceSub, Nat.reduceLeDiff, Nat.reduceLT]
  refine aloopP_of (fun m T H' => ∃ i j, m = j - i ∧ i ≤ j ∧ j ≤ l.length ∧ H <+: H' ∧ T 0 = .slice a l.length c ∧ T 1 = .int .i64 n ∧ T 2 = .func (.func 51) #[] #[] ∧ T 8 = .int .i64 l.length ∧ T 9 = .int .i64 (i : Nat) ∧ T 10 = .int .i64 (j : Nat) ∧ (∀ y ∈ l.take i, y.p < n) ∧ (∀ y ∈ l.drop j, n ≤ y.p)) (n := l.length) ?_ ?_
  · refine ⟨0, l.length, ?_⟩
    simp -dsimp only [go_sem, ↓reduceIte, Nat.reduceEqDiff, Nat.reduceAdd, Nat.reduceMul, Nat.reduceSub, Nat.reduceLeDiff, Nat.reduceLT]
    simp
  · rintro m T H' ⟨i, j, rfl, hij, hj, hp0, h0, h1, h2, h8, h9, h10, hlo, hhi⟩
    simp -dsimp only [go_sem, ↓reduceIte, Nat.reduceEqDiff, Nat.reduceAdd, Nat.reduceMul, Nat.reduceSub, Nat.reduceLeDiff, Nat.reduceLT, h0, h1, h2, h8, h9, h10]
    refine acondP_of (fun h => ?_) (fun h => ?_)
    · simp at h
      obtain ⟨m1, m2, m3, m4⟩ := mid_eq h (by omega)
      have hm : (i + j) / 2 < l.length := by omega
      obtain ⟨y, hy⟩ := get_ex hm
      obtain ⟨id, off, rfl, hat⟩ := (hs.pre hp0).at (by omega)
      simp -dsimp only [go_sem, ↓reduceIte, Nat.reduceEqDiff, Nat.reduceAdd, Nat.reduceMul, Nat.reduceSub, Nat.reduceLeDiff, Nat.reduceLT, h0, h1, h2, h8, h9, h10, m1, m2, m3, m4, inRange hm, rowLoad_whole (hat _ y hy)]
      refine SoundP_of (partF y n H') ?_
      rintro v H1 ⟨rfl, hp1⟩
      simp -dsimp only [go_sem, ↓reduceIte, Nat.reduceEqDiff, Nat.reduceAdd, Nat.reduceMul, Nat.reduceSub, Nat.reduceLeDiff, Nat.reduceLT, h0, h1, h2, h8, h9, h10]
      refine acondP_of (fun hc => ?_) (fun hc => ?_)
      · simp at hc
        rw [cmpZ_lt] at hc
        simp -dsimp only [go_sem, ↓reduceIte, Nat.reduceEqDiff, Nat.reduceAdd, Nat.reduceMul, Nat.reduceSub, Nat.reduceLeDiff, Nat.reduceLT, h0, h1, h2, h8, h9, h10, wrS (show (i + j) / 2 < 4611686018427387904 by omega)]
        refine ⟨_, ?_, (i + j) / 2 + 1, j, rfl, by omega, hj, hp0.trans hp1, rfl, rfl, fun z hz => ?_, hhi⟩
        · omega
        · rw [take_get hy, List.mem_append, List.mem_singleton] at hz
          rcases hz with hz | rfl
          · have : l.Pairwise fun a b => a.p < b.p := hr
            rw [← List.take_append_drop ((i + j) / 2) l, drop_get hy, List.pairwise_append] at this
            have := this.2.2 z hz y (List.mem_cons_self ..)
            omega
          · exact hc
      · have hc' : n ≤ y.p := by simp at hc; have := mt cmpZ_lt.2 (Int.not_lt.2 hc); omega
        simp -dsimp only [go_sem, ↓reduceIte, Nat.reduceEqDiff, Nat.reduceAdd, Nat.reduceMul, Nat.reduceSub, Nat.reduceLeDiff, Nat.reduceLT, h0, h1, h2, h8, h9, h10]
        refine ⟨_, ?_, i, (i + j) / 2, rfl, by omega, by omega, hp0.trans hp1, rfl, rfl, hlo, fun z hz => ?_⟩
        · omega
        · rw [drop_get hy] at hz
          rcases List.mem_cons.1 hz with rfl | hz
          · exact hc'
          · have : l.Pairwise fun a b => a.p < b.p := hr
            rw [← List.take_append_drop ((i + j) / 2) l, drop_get hy, List.pairwise_append] at this
            have := (List.pairwise_cons.1 this.2.1).1 z hz
            omega
    · simp at h
      obtain rfl : i = j := by omega
      simp -dsimp only [go_sem, ↓reduceIte, Nat.reduceEqDiff, Nat.reduceAdd, Nat.reduceMul, Nat.reduceSub, Nat.reduceLeDiff, Nat.reduceLT, h0, h1, h2, h8, h9, h10]
      rcases Nat.lt_or_ge i l.length with hi | hi
      · obtain ⟨y, hy⟩ := get_ex hi
        obtain ⟨id, off, rfl, hat⟩ := (hs.pre hp0).at (by omega)
        have hlt : decide ((i : Int) < (l.length : Int)) = true := by simp [hi]
        simp -dsimp only [go_sem, ↓reduceIte, Nat.reduceEqDiff, Nat.reduceAdd, Nat.reduceMul, Nat.reduceSub, Nat.reduceLeDiff, Nat.reduceLT, h0, h1, h2, h8, h9, h10, hlt, inRange hi, rowLoad_whole (hat _ y hy)]
        refine SoundP_of (partF y n H') ?_
        rintro v H1 ⟨rfl, hp1⟩
        simp -dsimp only [go_sem, ↓reduceIte, Nat.reduceEqDiff, Nat.reduceAdd, Nat.reduceMul, Nat.reduceSub, Nat.reduceLeDiff, Nat.reduceLT, h0, h1, h2, h8, h9, h10, hlt]
        refine ⟨i, ?_, ⟨hj, hlo, hhi⟩, hp0.trans hp1⟩
        have e : (cmpZ y.p n == 0) = decide (∃ z, l[i]? = some z ∧ z.p = n) := by
          rw [Bool.eq_iff_iff]; simp [hy, cmpZ_eq]
        rw [e]
      · have hlt : decide ((i : Int) < (l.length : Int)) = false := by simp [hi]
        simp -dsimp only [go_sem, ↓reduceIte, Nat.reduceEqDiff, Nat.reduceAdd, Nat.reduceMul, Nat.reduceSub, Nat.reduceLeDiff, Nat.reduceLT, h0, h1, h2, h8, h9, h10, hlt]
        refine ⟨i, ?_, ⟨hj, hlo, hhi⟩, hp0⟩
        rw [List.getElem?_eq_none hi]; simp
end Go.Proofs.Ythbifkeadbmcnaa
