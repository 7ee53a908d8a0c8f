/-
  The law's small functions: abs, seg, whole; the document's SamePieces, Same.
-/
import Derived.Test.YthbifkeadbmcnaaLook2
set_option linter.unusedVariables false
set_option linter.unusedSimpArgs false
namespace Go.Proofs.Ythbifkeadbmcnaa
open Go Go.AW
set_option linter.unusedSimpArgs false
set_option maxRecDepth 20000

def InI (n : Int) : Prop := -9223372036854775808 ≤ n ∧ n ≤ 9223372036854775807
def absL (n : Int) : Int := if n < 0 then -(n + 1) else n
theorem absL_nn (n : Int) : 0 ≤ absL n := by unfold absL; split <;> omega
theorem absLaw (n : Int) (H : AHeap) (hn : InI n) : Sound Try.prog 16 [.int .i64 n] H fun v H' => v = .int .i64 (absL n) ∧ H' = H := by
  refine Sound.of_body (rs := [.tmp 2]) mixed Try.func16 rfl (by kernel_rfl) rfl (by kernel_rfl) ?_
  obtain ⟨h1, h2⟩ := hn
  simp -dsimp only [go_sem, ↓reduceIte, Nat.reduceEqDiff, Nat.reduceAdd, Nat.reduceMul, Nat.reduceSub, Nat.reduceLeDiff, Nat.reduceLT]
  refine acondP_of (fun h => ?_) (fun h => ?_)
  · simp at h
    simp -dsimp only [go_sem, ↓reduceIte, Nat.reduceEqDiff, Nat.reduceAdd, Nat.reduceMul, Nat.reduceSub, Nat.reduceLeDiff, Nat.reduceLT, wr64 (i := n + 1) (by omega) (by omega), wr64 (i := 0 - (n + 1)) (by omega) (by omega)]
    unfold absL
    rw [if_pos h]
    simp
  · simp at h
    simp -dsimp only [go_sem, ↓reduceIte, Nat.reduceEqDiff, Nat.reduceAdd, Nat.reduceMul, Nat.reduceSub, Nat.reduceLeDiff, Nat.reduceLT]
    unfold absL
    rw [if_neg (by omega)]
def SegI (s : Seg) : Prop := InI s.f ∧ InI s.t ∧ InI s.v ∧ InI s.p ∧ InI s.c
def segL (s : Seg) : Seg := ⟨absL s.f % 12, absL s.f % 12 + 1 + absL s.t % 8, absL s.v % 4, absL s.p % 3, (absL s.v % 4 + absL s.f % 12) % 3⟩
/-- a segment of few -/
structure RawS (s : Seg) : Prop where
  f : 0 ≤ s.f ∧ s.f < 12
  t : s.f < s.t ∧ s.t ≤ 20
  v : 0 ≤ s.v ∧ s.v < 4
  p : 0 ≤ s.p ∧ s.p < 3
  c : s.c = (s.v + s.f) % 3
theorem segL_raw (s : Seg) : RawS (segL s) := by
  have a := absL_nn s.f; have b := absL_nn s.t; have c := absL_nn s.v; have d := absL_nn s.p
  constructor <;> simp only [segL] <;> omega
theorem tm {a b : Int} (h : 0 ≤ a) : a.tmod b = a % b := Int.tmod_eq_emod_of_nonneg h
theorem segLaw (s : Seg) (H : AHeap) (hs : SegI s) : Sound Try.prog 27 [s.val] H fun v H' => v = (segL s).val ∧ H <+: H' := by
  refine Sound.of_body (rs := [.cell 2 32]) mixed Try.func27 rfl (by kernel_rfl) rfl (by kernel_rfl) ?_
  obtain ⟨h1, h2, h3, h4, h5⟩ := hs
  have a := absL_nn s.f; have b := absL_nn s.t; have c := absL_nn s.v; have d := absL_nn s.p
  have n12 : ((12 : Int) = 0) = False := by simp
  have n4 : ((4 : Int) = 0) = False := by simp
  have n8 : ((8 : Int) = 0) = False := by simp
  have n3 : ((3 : Int) = 0) = False := by simp
  have r1 := tm (b := 12) a
  have r2 := tm (b := 4) c
  have r3 := tm (b := 8) b
  have r4 := tm (b := 3) d
  have r5 := tm (a := absL s.v % 4 + absL s.f % 12) (b := 3) (by omega)
  have w1 : IntKind.i64.wrap (absL s.f % 12 + 1) = absL s.f % 12 + 1 := wr64 (by omega) (by omega)
  have w2 : IntKind.i64.wrap (absL s.f % 12 + 1 + absL s.t % 8) = absL s.f % 12 + 1 + absL s.t % 8 := wr64 (by omega) (by omega)
  have w3 : IntKind.i64.wrap (absL s.v % 4 + absL s.f % 12) = absL s.v % 4 + absL s.f % 12 := wr64 (by omega) (by omega)
  simp -dsimp only [go_sem, ↓reduceIte, Nat.reduceEqDiff, Nat.reduceAdd, Nat.reduceMul, Nat.reduceSub, Nat.reduceLeDiff, Nat.reduceLT, n12, n4, n8, n3, r1, r2, r3, r4, r5, w1, w2, w3]
  refine SoundP_of (absLaw s.f _ h1) ?_
  rintro v H' ⟨rfl, rfl⟩
  simp -dsimp only [go_sem, ↓reduceIte, Nat.reduceEqDiff, Nat.reduceAdd, Nat.reduceMul, Nat.reduceSub, Nat.reduceLeDiff, Nat.reduceLT, n12, n4, n8, n3, r1, r2, r3, r4, r5, w1, w2, w3]
  refine SoundP_of (absLaw s.v _ h3) ?_
  rintro v H' ⟨rfl, rfl⟩
  simp -dsimp only [go_sem, ↓reduceIte, Nat.reduceEqDiff, Nat.reduceAdd, Nat.reduceMul, Nat.reduceSub, Nat.reduceLeDiff, Nat.reduceLT, n12, n4, n8, n3, r1, r2, r3, r4, r5, w1, w2, w3]
  refine adrawnP_of2 [(0, false), (1, false), (2, false), (3, false), (4, false), (5, false), (10, false), (11, false), (12, false), (15, false), (16, false), (17, false), (18, false), (6, true), (7, false), (8, false), (9, false), (13, true), (14, false), (19, false), (20, false)] (by kernel_rfl) ?_
  simp -dsimp only [go_sem, ↓reduceIte, Nat.reduceEqDiff, Nat.reduceAdd, Nat.reduceMul, Nat.reduceSub, Nat.reduceLeDiff, Nat.reduceLT, n12, n4, n8, n3, r1, r2, r3, r4, r5, w1, w2, w3]
  refine SoundP_of (absLaw s.t _ h2) ?_
  rintro v H' ⟨rfl, rfl⟩
  simp -dsimp only [go_sem, ↓reduceIte, Nat.reduceEqDiff, Nat.reduceAdd, Nat.reduceMul, Nat.reduceSub, Nat.reduceLeDiff, Nat.reduceLT, n12, n4, n8, n3, r1, r2, r3, r4, r5, w1, w2, w3]
  refine SoundP_of (absLaw s.p _ h4) ?_
  rintro v H' ⟨rfl, rfl⟩
  simp -dsimp only [go_sem, ↓reduceIte, Nat.reduceEqDiff, Nat.reduceAdd, Nat.reduceMul, Nat.reduceSub, Nat.reduceLeDiff, Nat.reduceLT, n12, n4, n8, n3, r1, r2, r3, r4, r5, w1, w2, w3]
  exact ⟨rfl, List.prefix_append _ _⟩

/-- a part of a set is there -/
def hasP (l : List Seg) (s : Seg) (p : Int) : Bool := l.any fun z => decide (z.key = s.key) && decide (z.p = p)
/-- all that belong together are there -/
def wholeB (l : List Seg) (s : Seg) : Bool := (List.range s.c.toNat).all fun p => hasP l s p
theorem key_dec (z s : Seg) : decide (z.key = s.key) = (z.f == s.f && z.t == s.t && z.v == s.v) := by
  rw [Bool.eq_iff_iff]; simp [Seg.key, and_assoc]
theorem lwhole (l : List Seg) (s : Seg) (a : Option Addr) (c : Nat) (H : AHeap) (hs : SegsAt H a l) (hl : l.length < 100000) (hc : s.c < 1000) :
    Sound Try.prog 14 [.slice a l.length c, s.val] H fun v H' => v = .bool (wholeB l s) ∧ H <+: H' := by
  refine Sound.of_body (rs := [.tmp 4]) mixed Try.func14 rfl (by kernel_rfl) rfl (by kernel_rfl) ?_
  have hb0 := get_end H (AObj.row s.cells 5 true) []
  have hs1 := hs.pre (List.prefix_append H [AObj.row s.cells 5 true])
  have hp1 := List.prefix_append H [AObj.row s.cells 5 true]
  simp -dsimp only [go_sem, ↓reduceIte, Nat.reduceEqDiff, Nat.reduceAdd, Nat.reduceMul, Nat.reduceSub, Nat.reduceLeDiff, Nat.reduceLT]
  dsimp only [Seg.cells] at hb0 hs1 hp1
  generalize hH1 : H ++ [AObj.row [.int .i64 s.f, .int .i64 s.t, .int .i64 s.v, .int .i64 s.p, .int .i64 s.c] 5 true] = H1 at *
  generalize hbl : H.length = bl at *
  refine aloopP_of (fun n T H' => ∃ p : Nat, n = s.c.toNat - p ∧ p ≤ s.c.toNat ∧ H' = H1 ∧ T 0 = .slice a l.length c ∧ T 3 = ptrV bl ∧ T 5 = .int .i64 p ∧ ∀ q, q < p → hasP l s q = true) (n := s.c.toNat) ?_ ?_
  · refine ⟨0, ?_⟩
    simp -dsimp only [go_sem, ↓reduceIte, Nat.reduceEqDiff, Nat.reduceAdd, Nat.reduceMul, Nat.reduceSub, Nat.reduceLeDiff, Nat.reduceLT]
    exact ⟨rfl, Nat.zero_le _, hH1, rfl, fun q hq => by omega⟩
  rintro n T H' ⟨p, rfl, hp, rfl, h0, h3, h5, hall⟩
  simp -dsimp only [go_sem, ↓reduceIte, Nat.reduceEqDiff, Nat.reduceAdd, Nat.reduceMul, Nat.reduceSub, Nat.reduceLeDiff, Nat.reduceLT, h0, h3, h5, hb0]
  refine acondP_of (fun h => ?_) (fun h => ?_)
  rotate_left
  · simp at h
    simp -dsimp only [go_sem, ↓reduceIte, Nat.reduceEqDiff, Nat.reduceAdd, Nat.reduceMul, Nat.reduceSub, Nat.reduceLeDiff, Nat.reduceLT, h0, h3, h5, hb0]
    refine ⟨?_, hp1⟩
    have : wholeB l s = true := by
      unfold wholeB
      rw [List.all_eq_true]
      intro q hq
      rw [List.mem_range] at hq
      exact hall q (by omega)
    rw [this]
  simp at h
  simp -dsimp only [go_sem, ↓reduceIte, Nat.reduceEqDiff, Nat.reduceAdd, Nat.reduceMul, Nat.reduceSub, Nat.reduceLeDiff, Nat.reduceLT, h0, h3, h5, hb0]
  refine aloopP_of (fun n T H2 => ∃ i : Nat, n = l.length - i ∧ i ≤ l.length ∧ H2 = H' ∧ T 0 = .slice a l.length c ∧ T 3 = ptrV bl ∧ T 5 = .int .i64 p ∧ T 6 = .bool (hasP (l.take i) s p) ∧ T 7 = .int .i64 i) (n := l.length) ?_ ?_
  · refine ⟨0, ?_⟩
    simp -dsimp only [go_sem, ↓reduceIte, Nat.reduceEqDiff, Nat.reduceAdd, Nat.reduceMul, Nat.reduceSub, Nat.reduceLeDiff, Nat.reduceLT, h0, h3, h5, hb0]
    simp [hasP]
  · rintro n T H2 ⟨i, rfl, hi, rfl, h0, h3, h5, h6, h7⟩
    simp -dsimp only [go_sem, ↓reduceIte, Nat.reduceEqDiff, Nat.reduceAdd, Nat.reduceMul, Nat.reduceSub, Nat.reduceLeDiff, Nat.reduceLT, h0, h3, h5, hb0, h6, h7]
    refine acondP_of (fun h2 => ?_) (fun h2 => ?_)
    rotate_left
    · simp at h2
      rw [List.take_of_length_le h2] at h6
      simp -dsimp only [go_sem, ↓reduceIte, Nat.reduceEqDiff, Nat.reduceAdd, Nat.reduceMul, Nat.reduceSub, Nat.reduceLeDiff, Nat.reduceLT, h0, h3, h5, hb0, h6, h7]
      cases hh : hasP l s p with
      | true =>
        rw [hh] at h6
        simp -dsimp only [go_sem, ↓reduceIte, Nat.reduceEqDiff, Nat.reduceAdd, Nat.reduceMul, Nat.reduceSub, Nat.reduceLeDiff, Nat.reduceLT, h0, h3, h5, hb0, h6, h7, wrS (show p < 4611686018427387904 by omega)]
        refine ⟨_, ?_, p + 1, rfl, by omega, rfl, fun q hq => ?_⟩
        · omega
        · by_cases e : q = p
          · rw [e]; exact hh
          · exact hall q (by omega)
      | false =>
        rw [hh] at h6
        simp -dsimp only [go_sem, ↓reduceIte, Nat.reduceEqDiff, Nat.reduceAdd, Nat.reduceMul, Nat.reduceSub, Nat.reduceLeDiff, Nat.reduceLT, h0, h3, h5, hb0, h6, h7]
        refine ⟨?_, hp1⟩
        have : wholeB l s = false := by
          unfold wholeB
          rw [List.all_eq_false]
          exact ⟨p, List.mem_range.2 (by omega), by rw [hh]; simp⟩
        rw [this]
    simp at h2
    obtain ⟨z, hz⟩ := get_ex h2
    obtain ⟨id, off, rfl, hat⟩ := hs1.at (by omega)
    have hzz := hat i z hz
    have stp : hasP (l.take (i + 1)) s p = (hasP (l.take i) s p || (decide (z.key = s.key) && decide (z.p = (p : Int)))) := by
      unfold hasP; rw [take_get hz, List.any_append]; simp
    simp -dsimp only [go_sem, ↓reduceIte, Nat.reduceEqDiff, Nat.reduceAdd, Nat.reduceMul, Nat.reduceSub, Nat.reduceLeDiff, Nat.reduceLT, h0, h3, h5, hb0, h6, h7]
    refine adrawnP_of2 [(0, false), (1, false), (2, false), (3, false), (4, false), (5, false), (6, false), (7, false), (8, false), (9, false), (10, false), (11, false), (12, false), (13, false), (14, false), (15, false), (16, false), (17, false), (18, false), (19, false), (20, false), (21, false), (22, false), (23, false), (24, false), (25, false), (26, false), (27, false), (28, false), (29, false), (30, false)] (by kernel_rfl) ?_
    cases hh : hasP (l.take i) s p with
    | true =>
      simp -dsimp only [go_sem, ↓reduceIte, Nat.reduceEqDiff, Nat.reduceAdd, Nat.reduceMul, Nat.reduceSub, Nat.reduceLeDiff, Nat.reduceLT, h0, h3, h5, hb0, h6, h7, hh, wrS (show i < 4611686018427387904 by omega)]
      refine ⟨_, by omega, i + 1, rfl, h2, ?_, rfl⟩
      rw [stp, hh]; rfl
    | false =>
      have l1 := rowLoad_whole (aload_sub hzz 0 2 (by decide))
      have l2 := rowLoad_cell hzz
      rw [key_dec] at stp
      rw [hh] at stp
      cases e1 : (z.f == s.f && z.t == s.t) with
      | false =>
        simp -dsimp only [go_sem, ↓reduceIte, Nat.reduceEqDiff, Nat.reduceAdd, Nat.reduceMul, Nat.reduceSub, Nat.reduceLeDiff, Nat.reduceLT, h0, h3, h5, hb0, h6, h7, hh, inRange h2, l1, l2, e1, wrS (show i < 4611686018427387904 by omega)]
        refine ⟨_, by omega, i + 1, rfl, h2, ?_, rfl⟩
        rw [stp, e1]; rfl
      | true =>
        cases e2 : (z.v == s.v) with
        | false =>
          simp -dsimp only [go_sem, ↓reduceIte, Nat.reduceEqDiff, Nat.reduceAdd, Nat.reduceMul, Nat.reduceSub, Nat.reduceLeDiff, Nat.reduceLT, h0, h3, h5, hb0, h6, h7, hh, inRange h2, l1, l2, e1, e2, wrS (show i < 4611686018427387904 by omega)]
          refine ⟨_, by omega, i + 1, rfl, h2, ?_, rfl⟩
          rw [stp, e1, e2]; rfl
        | true =>
          simp -dsimp only [go_sem, ↓reduceIte, Nat.reduceEqDiff, Nat.reduceAdd, Nat.reduceMul, Nat.reduceSub, Nat.reduceLeDiff, Nat.reduceLT, h0, h3, h5, hb0, h6, h7, hh, inRange h2, l1, l2, e1, e2, wrS (show i < 4611686018427387904 by omega)]
          refine ⟨_, by omega, i + 1, rfl, h2, ?_, rfl⟩
          rw [stp, e1, e2]
          have : (z.p == (p : Int)) = decide (z.p = (p : Int)) := rfl
          rw [this]; rfl
end Go.Proofs.Ythbifkeadbmcnaa
