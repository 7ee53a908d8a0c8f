/-
  Comparisons: contracts of cmp's functions, and of those that compare segments and orders.
-/
import Derived.Test.YtangfnommhmpeaaFacts
set_option linter.unusedVariables false
set_option linter.unusedSimpArgs false
namespace Go.Proofs.Ytangfnommhmpeaa
open Go Go.AW
set_option linter.unusedSimpArgs false
set_option maxRecDepth 20000

theorem isNaN_i64 (a : Int) (H : AHeap) : Sound Try.prog 82 [.int .i64 a] H fun v H' => v = .bool false ∧ H' = H := by
  refine Sound.of_body (rs := [.tmp 2]) mixed Try.func82 rfl (by kernel_rfl) rfl (by kernel_rfl) ?_
  simp -dsimp only [go_sem, ↓reduceIte, Nat.reduceEqDiff, Nat.reduceAdd, Nat.reduceMul, Nat.reduceSub, Nat.reduceLeDiff, Nat.reduceLT]
  simp
theorem isNaN_int (a : Int) (H : AHeap) : Sound Try.prog 47 [.int .i64 a] H fun v H' => v = .bool false ∧ H' = H := by
  refine Sound.of_body (rs := [.tmp 2]) mixed Try.func47 rfl (by kernel_rfl) rfl (by kernel_rfl) ?_
  simp -dsimp only [go_sem, ↓reduceIte, Nat.reduceEqDiff, Nat.reduceAdd, Nat.reduceMul, Nat.reduceSub, Nat.reduceLeDiff, Nat.reduceLT]
  simp

def cmpZ (a b : Int) : Int := if a < b then -1 else if b < a then 1 else 0

theorem compare_i64 (a b : Int) (H : AHeap) : Sound Try.prog 52 [.int .i64 a, .int .i64 b] H fun v H' => v = .int .i64 (cmpZ a b) ∧ H' = H := by
  refine Sound.of_body (rs := [.tmp 4]) mixed Try.func52 rfl (by kernel_rfl) rfl (by kernel_rfl) ?_
  simp -dsimp only [go_sem, ↓reduceIte, Nat.reduceEqDiff, Nat.reduceAdd, Nat.reduceMul, Nat.reduceSub, Nat.reduceLeDiff, Nat.reduceLT]
  refine SoundP_of (isNaN_i64 a H) ?_
  rintro v H' ⟨rfl, rfl⟩
  simp -dsimp only [go_sem, ↓reduceIte, Nat.reduceEqDiff, Nat.reduceAdd, Nat.reduceMul, Nat.reduceSub, Nat.reduceLeDiff, Nat.reduceLT]
  refine SoundP_of (isNaN_i64 b _) ?_
  rintro v H' ⟨rfl, rfl⟩
  simp -dsimp only [go_sem, ↓reduceIte, Nat.reduceEqDiff, Nat.reduceAdd, Nat.reduceMul, Nat.reduceSub, Nat.reduceLeDiff, Nat.reduceLT]
  refine acondP_of (fun h => ?_) (fun h => ?_)
  · simp -dsimp only [go_sem, ↓reduceIte, Nat.reduceEqDiff, Nat.reduceAdd, Nat.reduceMul, Nat.reduceSub, Nat.reduceLeDiff, Nat.reduceLT]
    simp at h; simp [cmpZ, h]
  · simp -dsimp only [go_sem, ↓reduceIte, Nat.reduceEqDiff, Nat.reduceAdd, Nat.reduceMul, Nat.reduceSub, Nat.reduceLeDiff, Nat.reduceLT]
    simp at h
    refine acondP_of (fun h' => ?_) (fun h' => ?_)
    · simp -dsimp only [go_sem, ↓reduceIte, Nat.reduceEqDiff, Nat.reduceAdd, Nat.reduceMul, Nat.reduceSub, Nat.reduceLeDiff, Nat.reduceLT]
      simp at h'; simp [cmpZ, h', Int.not_lt.2 h]
    · simp -dsimp only [go_sem, ↓reduceIte, Nat.reduceEqDiff, Nat.reduceAdd, Nat.reduceMul, Nat.reduceSub, Nat.reduceLeDiff, Nat.reduceLT]
      simp at h'; simp [cmpZ, Int.not_lt.2 h, Int.not_lt.2 h']
theorem compare_int (a b : Int) (H : AHeap) : Sound Try.prog 34 [.int .i64 a, .int .i64 b] H fun v H' => v = .int .i64 (cmpZ a b) ∧ H' = H := by
  refine Sound.of_body (rs := [.tmp 4]) mixed Try.func34 rfl (by kernel_rfl) rfl (by kernel_rfl) ?_
  simp -dsimp only [go_sem, ↓reduceIte, Nat.reduceEqDiff, Nat.reduceAdd, Nat.reduceMul, Nat.reduceSub, Nat.reduceLeDiff, Nat.reduceLT]
  refine SoundP_of (isNaN_int a H) ?_
  rintro v H' ⟨rfl, rfl⟩
  simp -dsimp only [go_sem, ↓reduceIte, Nat.reduceEqDiff, Nat.reduceAdd, Nat.reduceMul, Nat.reduceSub, Nat.reduceLeDiff, Nat.reduceLT]
  refine SoundP_of (isNaN_int b _) ?_
  rintro v H' ⟨rfl, rfl⟩
  simp -dsimp only [go_sem, ↓reduceIte, Nat.reduceEqDiff, Nat.reduceAdd, Nat.reduceMul, Nat.reduceSub, Nat.reduceLeDiff, Nat.reduceLT]
  refine acondP_of (fun h => ?_) (fun h => ?_)
  · simp -dsimp only [go_sem, ↓reduceIte, Nat.reduceEqDiff, Nat.reduceAdd, Nat.reduceMul, Nat.reduceSub, Nat.reduceLeDiff, Nat.reduceLT]
    simp at h; simp [cmpZ, h]
  · simp -dsimp only [go_sem, ↓reduceIte, Nat.reduceEqDiff, Nat.reduceAdd, Nat.reduceMul, Nat.reduceSub, Nat.reduceLeDiff, Nat.reduceLT]
    simp at h
    refine acondP_of (fun h' => ?_) (fun h' => ?_)
    · simp -dsimp only [go_sem, ↓reduceIte, Nat.reduceEqDiff, Nat.reduceAdd, Nat.reduceMul, Nat.reduceSub, Nat.reduceLeDiff, Nat.reduceLT]
      simp at h'; simp [cmpZ, h', Int.not_lt.2 h]
    · simp -dsimp only [go_sem, ↓reduceIte, Nat.reduceEqDiff, Nat.reduceAdd, Nat.reduceMul, Nat.reduceSub, Nat.reduceLeDiff, Nat.reduceLT]
      simp at h'; simp [cmpZ, Int.not_lt.2 h, Int.not_lt.2 h']

abbrev encI (n : Int) : List Value := [.int .i64 n]
def orZ : List Int → Int
  | [] => 0
  | x :: l => if x ≠ 0 then x else orZ l

theorem or_int (l : List Int) (a : Option Addr) (c : Nat) (H : AHeap) (hs : SlA H encI 1 a l) (hl : l.length < 1000) :
    Sound Try.prog 33 [.slice a l.length c] H fun v H' => v = .int .i64 (orZ l) ∧ H' = H := by
  refine Sound.of_body (rs := [.tmp 2]) mixed Try.func33 rfl (by kernel_rfl) rfl (by kernel_rfl) ?_
  simp -dsimp only [go_sem, ↓reduceIte, Nat.reduceEqDiff, Nat.reduceAdd, Nat.reduceMul, Nat.reduceSub, Nat.reduceLeDiff, Nat.reduceLT]
  refine aloopP_of (fun n T H' => ∃ i, n = l.length - i ∧ i ≤ l.length ∧ H' = H ∧ T 3 = .int .i64 0 ∧ T 6 = .slice a l.length c ∧ T 7 = .int .i64 l.length ∧ T 8 = .int .i64 i ∧ orZ l = orZ (l.drop i)) (n := l.length) ?_ ?_
  · refine ⟨0, ?_⟩
    simp -dsimp only [go_sem, ↓reduceIte, Nat.reduceEqDiff, Nat.reduceAdd, Nat.reduceMul, Nat.reduceSub, Nat.reduceLeDiff, Nat.reduceLT]
    simp
  · rintro n T H' ⟨i, rfl, hi, rfl, h3, h6, h7, h8, ho⟩
    simp -dsimp only [go_sem, ↓reduceIte, Nat.reduceEqDiff, Nat.reduceAdd, Nat.reduceMul, Nat.reduceSub, Nat.reduceLeDiff, Nat.reduceLT, h3, h6, h7, h8]
    refine acondP_of (fun h => ?_) (fun h => ?_)
    · simp at h
      obtain ⟨x, hx⟩ := get_ex h
      obtain ⟨id, off, rfl, hat⟩ := hs.at (by omega)
      simp -dsimp only [go_sem, ↓reduceIte, Nat.reduceEqDiff, Nat.reduceAdd, Nat.reduceMul, Nat.reduceSub, Nat.reduceLeDiff, Nat.reduceLT, h3, h6, h7, h8, inRange h, rowLoad_one0 (hat i x hx)]
      refine acondP_of (fun h' => ?_) (fun h' => ?_)
      · simp -dsimp only [go_sem, ↓reduceIte, Nat.reduceEqDiff, Nat.reduceAdd, Nat.reduceMul, Nat.reduceSub, Nat.reduceLeDiff, Nat.reduceLT, h3, h6, h7, h8]
        simp at h'
        simp [ho, drop_get hx, orZ, h']
      · simp -dsimp only [go_sem, ↓reduceIte, Nat.reduceEqDiff, Nat.reduceAdd, Nat.reduceMul, Nat.reduceSub, Nat.reduceLeDiff, Nat.reduceLT, h3, h6, h7, h8, wrS (show i < 4611686018427387904 by omega)]
        simp at h'
        refine ⟨_, ?_, i + 1, rfl, h, ?_⟩
        · omega
        · simp [ho, drop_get hx, orZ, h']
    · simp at h
      simp -dsimp only [go_sem, ↓reduceIte, Nat.reduceEqDiff, Nat.reduceAdd, Nat.reduceMul, Nat.reduceSub, Nat.reduceLeDiff, Nat.reduceLT, h3, h6, h7, h8]
      obtain rfl : i = l.length := by omega
      simp [ho, orZ]

/-! ### segments and orders -/
structure Seg where
  f : Int
  t : Int
  v : Int
  p : Int
  c : Int
  deriving DecidableEq
structure Order where
  drop : Bool
  seg : Seg
  node : Int
  deriving DecidableEq
abbrev Seg.cells (s : Seg) : List Value := [.int .i64 s.f, .int .i64 s.t, .int .i64 s.v, .int .i64 s.p, .int .i64 s.c]
abbrev Order.cells (o : Order) : List Value := [.bool o.drop, .int .i64 o.seg.f, .int .i64 o.seg.t, .int .i64 o.seg.v, .int .i64 o.seg.p, .int .i64 o.seg.c, .int .i64 o.node]
abbrev Seg.val (s : Seg) : Value := .agg #[.int .i64 s.f, .int .i64 s.t, .int .i64 s.v, .int .i64 s.p, .int .i64 s.c]
abbrev Order.val (o : Order) : Value := .agg #[.bool o.drop, .int .i64 o.seg.f, .int .i64 o.seg.t, .int .i64 o.seg.v, .int .i64 o.seg.p, .int .i64 o.seg.c, .int .i64 o.node]

attribute [go_sem] encI Seg.cells Order.cells Seg.val Order.val
def cmpSeg (a b : Seg) : Int := orZ [cmpZ a.f b.f, cmpZ a.t b.t, cmpZ a.v b.v, cmpZ a.p b.p, cmpZ a.c b.c]
def cmpOrder (a b : Order) : Int := orZ [cmpSeg a.seg b.seg, cmpZ a.node b.node]

theorem stands (a b : Seg) (H : AHeap) : Sound Try.prog 43 [a.val, b.val] H fun v H' => v = .int .i64 (cmpSeg a b) ∧ H <+: H' := by
  refine Sound.of_body (rs := [.tmp 4]) mixed Try.func43 rfl (by kernel_rfl) rfl (by kernel_rfl) ?_
  simp -dsimp only [go_sem, ↓reduceIte, Nat.reduceEqDiff, Nat.reduceAdd, Nat.reduceMul, Nat.reduceSub, Nat.reduceLeDiff, Nat.reduceLT]
  refine adrawnP_of2 [(0, false), (1, false), (2, false), (3, false), (4, false), (5, false), (7, false), (8, false), (9, false), (10, false), (11, false), (12, false), (14, false), (15, false), (16, false), (17, false), (19, false), (20, false), (21, false), (22, false), (24, false), (25, false), (26, false), (27, false), (6, true), (13, true), (18, true), (23, true), (28, false), (29, false), (30, false), (31, false)] (by kernel_rfl) ?_
  simp -dsimp only [go_sem, ↓reduceIte, Nat.reduceEqDiff, Nat.reduceAdd, Nat.reduceMul, Nat.reduceSub, Nat.reduceLeDiff, Nat.reduceLT]
  refine SoundP_of (compare_i64 _ _ _) ?_
  rintro v H' ⟨rfl, rfl⟩
  simp -dsimp only [go_sem, ↓reduceIte, Nat.reduceEqDiff, Nat.reduceAdd, Nat.reduceMul, Nat.reduceSub, Nat.reduceLeDiff, Nat.reduceLT]
  refine SoundP_of (compare_i64 _ _ _) ?_
  rintro v H' ⟨rfl, rfl⟩
  simp -dsimp only [go_sem, ↓reduceIte, Nat.reduceEqDiff, Nat.reduceAdd, Nat.reduceMul, Nat.reduceSub, Nat.reduceLeDiff, Nat.reduceLT]
  refine SoundP_of (compare_int _ _ _) ?_
  rintro v H' ⟨rfl, rfl⟩
  simp -dsimp only [go_sem, ↓reduceIte, Nat.reduceEqDiff, Nat.reduceAdd, Nat.reduceMul, Nat.reduceSub, Nat.reduceLeDiff, Nat.reduceLT]
  refine SoundP_of (compare_int _ _ _) ?_
  rintro v H' ⟨rfl, rfl⟩
  simp -dsimp only [go_sem, ↓reduceIte, Nat.reduceEqDiff, Nat.reduceAdd, Nat.reduceMul, Nat.reduceSub, Nat.reduceLeDiff, Nat.reduceLT]
  refine SoundP_of (compare_int _ _ _) ?_
  rintro v H' ⟨rfl, rfl⟩
  simp -dsimp only [go_sem, ↓reduceIte, Nat.reduceEqDiff, Nat.reduceAdd, Nat.reduceMul, Nat.reduceSub, Nat.reduceLeDiff, Nat.reduceLT]
  refine SoundP_of (or_int [cmpZ a.f b.f, cmpZ a.t b.t, cmpZ a.v b.v, cmpZ a.p b.p, cmpZ a.c b.c] _ _ _ (SlA.ofRow (get_end2 _ _ _ _ _) rfl fun _ => rfl) (by simp)) ?_
  rintro v H' ⟨rfl, rfl⟩
  simp -dsimp only [go_sem, ↓reduceIte, Nat.reduceEqDiff, Nat.reduceAdd, Nat.reduceMul, Nat.reduceSub, Nat.reduceLeDiff, Nat.reduceLT]
  exact ⟨rfl, List.prefix_append _ _⟩

theorem places (a b : Order) (H : AHeap) : Sound Try.prog 36 [a.val, b.val] H fun v H' => v = .int .i64 (cmpOrder a b) ∧ H <+: H' := by
  refine Sound.of_body (rs := [.tmp 4]) mixed Try.func36 rfl (by kernel_rfl) rfl (by kernel_rfl) ?_
  simp -dsimp only [go_sem, ↓reduceIte, Nat.reduceEqDiff, Nat.reduceAdd, Nat.reduceMul, Nat.reduceSub, Nat.reduceLeDiff, Nat.reduceLT]
  refine adrawnP_of2 [(0, false), (1, false), (2, false), (3, false), (5, false), (6, false), (7, false), (8, false), (4, true), (9, false), (10, false), (11, false), (12, false)] (by kernel_rfl) ?_
  simp -dsimp only [go_sem, ↓reduceIte, Nat.reduceEqDiff, Nat.reduceAdd, Nat.reduceMul, Nat.reduceSub, Nat.reduceLeDiff, Nat.reduceLT]
  refine SoundP_of (stands a.seg b.seg _) ?_
  rintro v H1 ⟨rfl, h1⟩
  simp -dsimp only [go_sem, ↓reduceIte, Nat.reduceEqDiff, Nat.reduceAdd, Nat.reduceMul, Nat.reduceSub, Nat.reduceLeDiff, Nat.reduceLT]
  refine grown_any h1 ?_
  simp -dsimp only [go_sem, ↓reduceIte, Nat.reduceEqDiff, Nat.reduceAdd, Nat.reduceMul, Nat.reduceSub, Nat.reduceLeDiff, Nat.reduceLT]
  refine SoundP_of (compare_int _ _ _) ?_
  rintro v H' ⟨rfl, rfl⟩
  simp -dsimp only [go_sem, ↓reduceIte, Nat.reduceEqDiff, Nat.reduceAdd, Nat.reduceMul, Nat.reduceSub, Nat.reduceLeDiff, Nat.reduceLT]
  refine SoundP_of (or_int [cmpSeg a.seg b.seg, cmpZ a.node b.node] _ _ _ (SlA.ofRow (get_end _ _ _) rfl fun _ => rfl) (by simp)) ?_
  rintro v H' ⟨rfl, rfl⟩
  simp -dsimp only [go_sem, ↓reduceIte, Nat.reduceEqDiff, Nat.reduceAdd, Nat.reduceMul, Nat.reduceSub, Nat.reduceLeDiff, Nat.reduceLT]
  exact ⟨rfl, ((List.prefix_append _ _).trans h1).trans (List.prefix_append _ _)⟩

def standsR (a b : Seg) : Bool := if a.f ≠ b.f then decide (a.f < b.f) else if a.t ≠ b.t then decide (a.t < b.t) else if a.v ≠ b.v then decide (a.v < b.v) else if a.p ≠ b.p then decide (a.p < b.p) else decide (a.c < b.c)

theorem refStands (a b : Seg) (H : AHeap) : Sound Try.prog 37 [a.val, b.val] H fun v H' => v = .bool (standsR a b) ∧ H <+: H' := by
  refine Sound.of_body (rs := [.tmp 4]) mixed Try.func37 rfl (by kernel_rfl) rfl (by kernel_rfl) ?_
  simp -dsimp only [go_sem, ↓reduceIte, Nat.reduceEqDiff, Nat.reduceAdd, Nat.reduceMul, Nat.reduceSub, Nat.reduceLeDiff, Nat.reduceLT]
  refine acondP_of (fun h => ?_) (fun h => ?_)
  · simp -dsimp only [go_sem, ↓reduceIte, Nat.reduceEqDiff, Nat.reduceAdd, Nat.reduceMul, Nat.reduceSub, Nat.reduceLeDiff, Nat.reduceLT]
    simp at h
    simp [standsR, h]
  · simp -dsimp only [go_sem, ↓reduceIte, Nat.reduceEqDiff, Nat.reduceAdd, Nat.reduceMul, Nat.reduceSub, Nat.reduceLeDiff, Nat.reduceLT]
    simp at h
    refine acondP_of (fun h2 => ?_) (fun h2 => ?_)
    · simp -dsimp only [go_sem, ↓reduceIte, Nat.reduceEqDiff, Nat.reduceAdd, Nat.reduceMul, Nat.reduceSub, Nat.reduceLeDiff, Nat.reduceLT]
      simp at h2
      simp [standsR, h, h2]
    · simp -dsimp only [go_sem, ↓reduceIte, Nat.reduceEqDiff, Nat.reduceAdd, Nat.reduceMul, Nat.reduceSub, Nat.reduceLeDiff, Nat.reduceLT]
      simp at h2
      refine acondP_of (fun h3 => ?_) (fun h3 => ?_)
      · simp -dsimp only [go_sem, ↓reduceIte, Nat.reduceEqDiff, Nat.reduceAdd, Nat.reduceMul, Nat.reduceSub, Nat.reduceLeDiff, Nat.reduceLT]
        simp at h3
        simp [standsR, h, h2, h3]
      · simp -dsimp only [go_sem, ↓reduceIte, Nat.reduceEqDiff, Nat.reduceAdd, Nat.reduceMul, Nat.reduceSub, Nat.reduceLeDiff, Nat.reduceLT]
        simp at h3
        refine acondP_of (fun h4 => ?_) (fun h4 => ?_)
        · simp -dsimp only [go_sem, ↓reduceIte, Nat.reduceEqDiff, Nat.reduceAdd, Nat.reduceMul, Nat.reduceSub, Nat.reduceLeDiff, Nat.reduceLT]
          simp at h4
          simp [standsR, h, h2, h3, h4]
        · simp -dsimp only [go_sem, ↓reduceIte, Nat.reduceEqDiff, Nat.reduceAdd, Nat.reduceMul, Nat.reduceSub, Nat.reduceLeDiff, Nat.reduceLT]
          simp at h4
          simp [standsR, h, h2, h3, h4]
end Go.Proofs.Ytangfnommhmpeaa
