/-
  Comparisons; segments; the small functions of package timeline and of the document.
-/
import Derived.Test.YthbifkeadbmcnaaFacts
import Derived.Test.YthbifkeadbmcnaaAwIns
set_option linter.unusedVariables false
set_option linter.unusedSimpArgs false
namespace Go.Proofs.Ythbifkeadbmcnaa
open Go Go.AW
set_option linter.unusedSimpArgs false
set_option maxRecDepth 20000

theorem isNaN_i64 (a : Int) (H : AHeap) : Sound Try.prog 77 [.int .i64 a] H fun v H' => v = .bool false ∧ H' = H := by
  refine Sound.of_body (rs := [.tmp 2]) mixed Try.func77 rfl (by kernel_rfl) rfl (by kernel_rfl) ?_
  simp -dsimp only [go_sem, ↓reduceIte, Nat.reduceEqDiff, Nat.reduceAdd, Nat.reduceMul, Nat.reduceSub, Nat.reduceLeDiff, Nat.reduceLT]
  simp
theorem isNaN_int (a : Int) (H : AHeap) : Sound Try.prog 65 [.int .i64 a] H fun v H' => v = .bool false ∧ H' = H := by
  refine Sound.of_body (rs := [.tmp 2]) mixed Try.func65 rfl (by kernel_rfl) rfl (by kernel_rfl) ?_
  simp -dsimp only [go_sem, ↓reduceIte, Nat.reduceEqDiff, Nat.reduceAdd, Nat.reduceMul, Nat.reduceSub, Nat.reduceLeDiff, Nat.reduceLT]
  simp

def cmpZ (a b : Int) : Int := if a < b then -1 else if b < a then 1 else 0

theorem compare_i64 (a b : Int) (H : AHeap) : Sound Try.prog 61 [.int .i64 a, .int .i64 b] H fun v H' => v = .int .i64 (cmpZ a b) ∧ H' = H := by
  refine Sound.of_body (rs := [.tmp 4]) mixed Try.func61 rfl (by kernel_rfl) rfl (by kernel_rfl) ?_
  simp -dsimp only [go_sem, ↓reduceIte, Nat.reduceEqDiff, Nat.reduceAdd, Nat.reduceMul, Nat.reduceSub, Nat.reduceLeDiff, Nat.reduceLT]
  refine SoundP_of (isNaN_i64 a H) ?_
  rintro v H' ⟨rfl, rfl⟩
  simp -dsimp only [go_sem, ↓reduceIte, Nat.reduceEqDiff, Nat.reduceAdd, Nat.reduceMul, Nat.reduceSub, Nat.reduceLeDiff, Nat.reduceLT]
  refine SoundP_of (isNaN_i64 b _) ?_
  rintro v H' ⟨rfl, rfl⟩
  simp -dsimp only [go_sem, ↓reduceIte, Nat.reduceEqDiff, Nat.reduceAdd, Nat.reduceMul, Nat.reduceSub, Nat.reduceLeDiff, Nat.reduceLT]
  refine acondP_of (fun h => ?_) (fun h => ?_)
  · simp -dsimp only [go_sem, ↓reduceIte, Nat.reduceEqDiff, Nat.reduceAdd, Nat.reduceMul, Nat.reduceSub, Nat.reduceLeDiff, Nat.reduceLT]
    simp at h; simp [cmpZ, h]
  · simp -dsimp only [go_sem, ↓reduceIte, Nat.reduceEqDiff, Nat.reduceAdd, Nat.reduceMul, Nat.reduceSub, Nat.reduceLeDiff, Nat.reduceLT]
    simp at h
    refine acondP_of (fun h' => ?_) (fun h' => ?_)
    · simp -dsimp only [go_sem, ↓reduceIte, Nat.reduceEqDiff, Nat.reduceAdd, Nat.reduceMul, Nat.reduceSub, Nat.reduceLeDiff, Nat.reduceLT]
      simp at h'; simp [cmpZ, h', Int.not_lt.2 h]
    · simp -dsimp only [go_sem, ↓reduceIte, Nat.reduceEqDiff, Nat.reduceAdd, Nat.reduceMul, Nat.reduceSub, Nat.reduceLeDiff, Nat.reduceLT]
      simp at h'; simp [cmpZ, Int.not_lt.2 h, Int.not_lt.2 h']
theorem compare_int (a b : Int) (H : AHeap) : Sound Try.prog 52 [.int .i64 a, .int .i64 b] H fun v H' => v = .int .i64 (cmpZ a b) ∧ H' = H := by
  refine Sound.of_body (rs := [.tmp 4]) mixed Try.func52 rfl (by kernel_rfl) rfl (by kernel_rfl) ?_
  simp -dsimp only [go_sem, ↓reduceIte, Nat.reduceEqDiff, Nat.reduceAdd, Nat.reduceMul, Nat.reduceSub, Nat.reduceLeDiff, Nat.reduceLT]
  refine SoundP_of (isNaN_int a H) ?_
  rintro v H' ⟨rfl, rfl⟩
  simp -dsimp only [go_sem, ↓reduceIte, Nat.reduceEqDiff, Nat.reduceAdd, Nat.reduceMul, Nat.reduceSub, Nat.reduceLeDiff, Nat.reduceLT]
  refine SoundP_of (isNaN_int b _) ?_
  rintro v H' ⟨rfl, rfl⟩
  simp -dsimp only [go_sem, ↓reduceIte, Nat.reduceEqDiff, Nat.reduceAdd, Nat.reduceMul, Nat.reduceSub, Nat.reduceLeDiff, Nat.reduceLT]
  refine acondP_of (fun h => ?_) (fun h => ?_)
  · simp -dsimp only [go_sem, ↓reduceIte, Nat.reduceEqDiff, Nat.reduceAdd, Nat.reduceMul, Nat.reduceSub, Nat.reduceLeDiff, Nat.reduceLT]
    simp at h; simp [cmpZ, h]
  · simp -dsimp only [go_sem, ↓reduceIte, Nat.reduceEqDiff, Nat.reduceAdd, Nat.reduceMul, Nat.reduceSub, Nat.reduceLeDiff, Nat.reduceLT]
    simp at h
    refine acondP_of (fun h' => ?_) (fun h' => ?_)
    · simp -dsimp only [go_sem, ↓reduceIte, Nat.reduceEqDiff, Nat.reduceAdd, Nat.reduceMul, Nat.reduceSub, Nat.reduceLeDiff, Nat.reduceLT]
      simp at h'; simp [cmpZ, h', Int.not_lt.2 h]
    · simp -dsimp only [go_sem, ↓reduceIte, Nat.reduceEqDiff, Nat.reduceAdd, Nat.reduceMul, Nat.reduceSub, Nat.reduceLeDiff, Nat.reduceLT]
      simp at h'; simp [cmpZ, Int.not_lt.2 h, Int.not_lt.2 h']

abbrev encI (n : Int) : List Value := [.int .i64 n]
def orZ : List Int → Int
  | [] => 0
  | x :: l => if x ≠ 0 then x else orZ l

theorem or_int (l : List Int) (a : Option Addr) (c : Nat) (H : AHeap) (hs : SlA H encI 1 a l) (hl : l.length < 1000) :
    Sound Try.prog 60 [.slice a l.length c] H fun v H' => v = .int .i64 (orZ l) ∧ H' = H := by
  refine Sound.of_body (rs := [.tmp 2]) mixed Try.func60 rfl (by kernel_rfl) rfl (by kernel_rfl) ?_
  simp -dsimp only [go_sem, ↓reduceIte, Nat.reduceEqDiff, Nat.reduceAdd, Nat.reduceMul, Nat.reduceSub, Nat.reduceLeDiff, Nat.reduceLT]
  refine aloopP_of (fun n T H' => ∃ i, n = l.length - i ∧ i ≤ l.length ∧ H' = H ∧ T 3 = .int .i64 0 ∧ T 6 = .slice a l.length c ∧ T 7 = .int .i64 l.length ∧ T 8 = .int .i64 i ∧ orZ l = orZ (l.drop i)) (n := l.length) ?_ ?_
  · refine ⟨0, ?_⟩
    simp -dsimp only [go_sem, ↓reduceIte, Nat.reduceEqDiff, Nat.reduceAdd, Nat.reduceMul, Nat.reduceSub, Nat.reduceLeDiff, Nat.reduceLT]
    simp
  · rintro n T H' ⟨i, rfl, hi, rfl, h3, h6, h7, h8, ho⟩
    simp -dsimp only [go_sem, ↓reduceIte, Nat.reduceEqDiff, Nat.reduceAdd, Nat.reduceMul, Nat.reduceSub, Nat.reduceLeDiff, Nat.reduceLT, h3, h6, h7, h8]
    refine acondP_of (fun h => ?_) (fun h => ?_)
    · simp at h
      obtain ⟨x, hx⟩ := get_ex h
      obtain ⟨id, off, rfl, hat⟩ := hs.at (by omega)
      simp -dsimp only [go_sem, ↓reduceIte, Nat.reduceEqDiff, Nat.reduceAdd, Nat.reduceMul, Nat.reduceSub, Nat.reduceLeDiff, Nat.reduceLT, h3, h6, h7, h8, inRange h, rowLoad_one0 (hat i x hx)]
      refine acondP_of (fun h' => ?_) (fun h' => ?_)
      · simp -dsimp only [go_sem, ↓reduceIte, Nat.reduceEqDiff, Nat.reduceAdd, Nat.reduceMul, Nat.reduceSub, Nat.reduceLeDiff, Nat.reduceLT, h3, h6, h7, h8]
        simp at h'
        simp [ho, drop_get hx, orZ, h']
      · simp -dsimp only [go_sem, ↓reduceIte, Nat.reduceEqDiff, Nat.reduceAdd, Nat.reduceMul, Nat.reduceSub, Nat.reduceLeDiff, Nat.reduceLT, h3, h6, h7, h8, wrS (show i < 4611686018427387904 by omega)]
        simp at h'
        refine ⟨_, ?_, i + 1, rfl, h, ?_⟩
        · omega
        · simp [ho, drop_get hx, orZ, h']
    · simp at h
      simp -dsimp only [go_sem, ↓reduceIte, Nat.reduceEqDiff, Nat.reduceAdd, Nat.reduceMul, Nat.reduceSub, Nat.reduceLeDiff, Nat.reduceLT, h3, h6, h7, h8]
      obtain rfl : i = l.length := by omega
      simp [ho, orZ]

/-! ### segments -/
structure Seg where
  f : Int
  t : Int
  v : Int
  p : Int
  c : Int
  deriving DecidableEq
abbrev Seg.cells (s : Seg) : List Value := [.int .i64 s.f, .int .i64 s.t, .int .i64 s.v, .int .i64 s.p, .int .i64 s.c]
abbrev Seg.val (s : Seg) : Value := .agg #[.int .i64 s.f, .int .i64 s.t, .int .i64 s.v, .int .i64 s.p, .int .i64 s.c]
/-- what the segments of a set have in common -/
structure Key where
  f : Int
  t : Int
  v : Int
  deriving DecidableEq
abbrev Key.val (k : Key) : Value := .agg #[.int .i64 k.f, .int .i64 k.t, .int .i64 k.v]
def Seg.key (s : Seg) : Key := ⟨s.f, s.t, s.v⟩
structure Piece where
  seg : Seg
  f : Int
  t : Int
  deriving DecidableEq
abbrev Piece.cells (s : Piece) : List Value := [.int .i64 s.seg.f, .int .i64 s.seg.t, .int .i64 s.seg.v, .int .i64 s.seg.p, .int .i64 s.seg.c, .int .i64 s.f, .int .i64 s.t]
abbrev Piece.val (s : Piece) : Value := .agg #[.int .i64 s.seg.f, .int .i64 s.seg.t, .int .i64 s.seg.v, .int .i64 s.seg.p, .int .i64 s.seg.c, .int .i64 s.f, .int .i64 s.t]
abbrev spanV (f t : Int) : Value := .agg #[.int .i64 f, .int .i64 t]
attribute [go_sem] encI Seg.cells Seg.val Key.val Piece.cells Piece.val spanV
theorem Seg.eq_iff (a b : Seg) : a = b ↔ a.f = b.f ∧ a.t = b.t ∧ a.v = b.v ∧ a.p = b.p ∧ a.c = b.c := by cases a; cases b; simp
theorem Key.eq_iff (a b : Key) : a = b ↔ a.f = b.f ∧ a.t = b.t ∧ a.v = b.v := by cases a; cases b; simp
theorem Piece.eq_iff (a b : Piece) : a = b ↔ a.seg = b.seg ∧ a.f = b.f ∧ a.t = b.t := by cases a; cases b; simp
theorem segEqB (x s : Seg) : (x.f == s.f && x.t == s.t && (x.v == s.v && (x.p == s.p && x.c == s.c))) = decide (x = s) := by
  rw [Bool.eq_iff_iff]; simp [Seg.eq_iff, and_assoc]
abbrev SegsAt (H : AHeap) (a : Option Addr) (l : List Seg) : Prop := SlA H Seg.cells 5 a l
abbrev PiecesAt (H : AHeap) (a : Option Addr) (l : List Piece) : Prop := SlA H Piece.cells 7 a l
abbrev IntsAt (H : AHeap) (a : Option Addr) (l : List Int) : Prop := SlA H encI 1 a l
abbrev OwnS (b : Nat) (H : AHeap) (v : Value) (l : List Seg) : Prop := Own b H Seg.cells 5 v l
abbrev OwnP (b : Nat) (H : AHeap) (v : Value) (l : List Piece) : Prop := Own b H Piece.cells 7 v l
abbrev OwnI (b : Nat) (H : AHeap) (v : Value) (l : List Int) : Prop := Own b H encI 1 v l

/-- how segments stand: by span, version, part -/
def cmpSeg (a b : Seg) : Int := orZ [cmpZ a.f b.f, cmpZ a.t b.t, cmpZ a.v b.v, cmpZ a.p b.p]
theorem stands (a b : Seg) (H : AHeap) : Sound Try.prog 38 [a.val, b.val] H fun v H' => v = .int .i64 (cmpSeg a b) ∧ H <+: H' := by
  refine Sound.of_body (rs := [.tmp 4]) mixed Try.func38 rfl (by kernel_rfl) rfl (by kernel_rfl) ?_
  simp -dsimp only [go_sem, ↓reduceIte, Nat.reduceEqDiff, Nat.reduceAdd, Nat.reduceMul, Nat.reduceSub, Nat.reduceLeDiff, Nat.reduceLT]
  refine adrawnP_of2 [(0, false), (1, false), (2, false), (3, false), (4, false), (5, false), (7, false), (8, false), (9, false), (10, false), (11, false), (12, false), (14, false), (15, false), (16, false), (17, false), (19, false), (20, false), (21, false), (22, false), (6, true), (13, true), (18, true), (23, false), (24, false), (25, false), (26, false)] (by kernel_rfl) ?_
  simp -dsimp only [go_sem, ↓reduceIte, Nat.reduceEqDiff, Nat.reduceAdd, Nat.reduceMul, Nat.reduceSub, Nat.reduceLeDiff, Nat.reduceLT]
  refine SoundP_of (compare_i64 _ _ _) ?_
  rintro v H' ⟨rfl, rfl⟩
  simp -dsimp only [go_sem, ↓reduceIte, Nat.reduceEqDiff, Nat.reduceAdd, Nat.reduceMul, Nat.reduceSub, Nat.reduceLeDiff, Nat.reduceLT]
  refine SoundP_of (compare_i64 _ _ _) ?_
  rintro v H' ⟨rfl, rfl⟩
  simp -dsimp only [go_sem, ↓reduceIte, Nat.reduceEqDiff, Nat.reduceAdd, Nat.reduceMul, Nat.reduceSub, Nat.reduceLeDiff, Nat.reduceLT]
  refine SoundP_of (compare_int _ _ _) ?_
  rintro v H' ⟨rfl, rfl⟩
  simp -dsimp only [go_sem, ↓reduceIte, Nat.reduceEqDiff, Nat.reduceAdd, Nat.reduceMul, Nat.reduceSub, Nat.reduceLeDiff, Nat.reduceLT]
  refine SoundP_of (compare_int _ _ _) ?_
  rintro v H' ⟨rfl, rfl⟩
  simp -dsimp only [go_sem, ↓reduceIte, Nat.reduceEqDiff, Nat.reduceAdd, Nat.reduceMul, Nat.reduceSub, Nat.reduceLeDiff, Nat.reduceLT]
  refine SoundP_of (or_int [cmpZ a.f b.f, cmpZ a.t b.t, cmpZ a.v b.v, cmpZ a.p b.p] _ _ _ (SlA.ofRow (get_end2 _ _ _ _ _) rfl fun _ => rfl) (by simp)) ?_
  rintro v H' ⟨rfl, rfl⟩
  simp -dsimp only [go_sem, ↓reduceIte, Nat.reduceEqDiff, Nat.reduceAdd, Nat.reduceMul, Nat.reduceSub, Nat.reduceLeDiff, Nat.reduceLT]
  exact ⟨rfl, List.prefix_append _ _⟩
/-- which set goes ahead -/
def cmpAhead (a b : Key) : Int := orZ [cmpZ b.v a.v, cmpZ b.f a.f, cmpZ a.t b.t]
theorem ahead (a b : Key) (H : AHeap) : Sound Try.prog 45 [a.val, b.val] H fun v H' => v = .int .i64 (cmpAhead a b) ∧ H <+: H' := by
  refine Sound.of_body (rs := [.tmp 4]) mixed Try.func45 rfl (by kernel_rfl) rfl (by kernel_rfl) ?_
  simp -dsimp only [go_sem, ↓reduceIte, Nat.reduceEqDiff, Nat.reduceAdd, Nat.reduceMul, Nat.reduceSub, Nat.reduceLeDiff, Nat.reduceLT]
  refine adrawnP_of2 [(0, false), (1, false), (2, false), (3, false), (5, false), (6, false), (7, false), (8, false), (9, false), (10, false), (12, false), (13, false), (14, false), (15, false), (16, false), (17, false), (4, true), (11, true), (18, false), (19, false), (20, false), (21, false)] (by kernel_rfl) ?_
  simp -dsimp only [go_sem, ↓reduceIte, Nat.reduceEqDiff, Nat.reduceAdd, Nat.reduceMul, Nat.reduceSub, Nat.reduceLeDiff, Nat.reduceLT]
  refine SoundP_of (compare_int _ _ _) ?_
  rintro v H' ⟨rfl, rfl⟩
  simp -dsimp only [go_sem, ↓reduceIte, Nat.reduceEqDiff, Nat.reduceAdd, Nat.reduceMul, Nat.reduceSub, Nat.reduceLeDiff, Nat.reduceLT]
  refine SoundP_of (compare_i64 _ _ _) ?_
  rintro v H' ⟨rfl, rfl⟩
  simp -dsimp only [go_sem, ↓reduceIte, Nat.reduceEqDiff, Nat.reduceAdd, Nat.reduceMul, Nat.reduceSub, Nat.reduceLeDiff, Nat.reduceLT]
  refine SoundP_of (compare_i64 _ _ _) ?_
  rintro v H' ⟨rfl, rfl⟩
  simp -dsimp only [go_sem, ↓reduceIte, Nat.reduceEqDiff, Nat.reduceAdd, Nat.reduceMul, Nat.reduceSub, Nat.reduceLeDiff, Nat.reduceLT]
  refine SoundP_of (or_int [cmpZ b.v a.v, cmpZ b.f a.f, cmpZ a.t b.t] _ _ _ (SlA.ofRow (get_end2 _ _ _ _ _) rfl fun _ => rfl) (by simp)) ?_
  rintro v H' ⟨rfl, rfl⟩
  simp -dsimp only [go_sem, ↓reduceIte, Nat.reduceEqDiff, Nat.reduceAdd, Nat.reduceMul, Nat.reduceSub, Nat.reduceLeDiff, Nat.reduceLT]
  exact ⟨rfl, List.prefix_append _ _⟩

/-- the document's -/
def standsR (a b : Seg) : Bool := if a.f ≠ b.f then decide (a.f < b.f) else if a.t ≠ b.t then decide (a.t < b.t) else if a.v ≠ b.v then decide (a.v < b.v) else decide (a.p < b.p)
theorem refStands (a b : Seg) (H : AHeap) : Sound Try.prog 56 [a.val, b.val] H fun v H' => v = .bool (standsR a b) ∧ H <+: H' := by
  refine Sound.of_body (rs := [.tmp 4]) mixed Try.func56 rfl (by kernel_rfl) rfl (by kernel_rfl) ?_
  simp -dsimp only [go_sem, ↓reduceIte, Nat.reduceEqDiff, Nat.reduceAdd, Nat.reduceMul, Nat.reduceSub, Nat.reduceLeDiff, Nat.reduceLT]
  refine acondP_of (fun h => ?_) (fun h => ?_)
  · simp -dsimp only [go_sem, ↓reduceIte, Nat.reduceEqDiff, Nat.reduceAdd, Nat.reduceMul, Nat.reduceSub, Nat.reduceLeDiff, Nat.reduceLT]
    simp at h; simp [standsR, h]
  · simp -dsimp only [go_sem, ↓reduceIte, Nat.reduceEqDiff, Nat.reduceAdd, Nat.reduceMul, Nat.reduceSub, Nat.reduceLeDiff, Nat.reduceLT]
    refine acondP_of (fun h2 => ?_) (fun h2 => ?_)
    · simp -dsimp only [go_sem, ↓reduceIte, Nat.reduceEqDiff, Nat.reduceAdd, Nat.reduceMul, Nat.reduceSub, Nat.reduceLeDiff, Nat.reduceLT]
      simp at h h2; simp [standsR, h, h2]
    · simp -dsimp only [go_sem, ↓reduceIte, Nat.reduceEqDiff, Nat.reduceAdd, Nat.reduceMul, Nat.reduceSub, Nat.reduceLeDiff, Nat.reduceLT]
      refine acondP_of (fun h3 => ?_) (fun h3 => ?_)
      · simp -dsimp only [go_sem, ↓reduceIte, Nat.reduceEqDiff, Nat.reduceAdd, Nat.reduceMul, Nat.reduceSub, Nat.reduceLeDiff, Nat.reduceLT]
        simp at h h2 h3; simp [standsR, h, h2, h3]
      · simp -dsimp only [go_sem, ↓reduceIte, Nat.reduceEqDiff, Nat.reduceAdd, Nat.reduceMul, Nat.reduceSub, Nat.reduceLeDiff, Nat.reduceLT]
        simp at h h2 h3; simp [standsR, h, h2, h3]
def aheadR (a b : Key) : Bool := if a.v ≠ b.v then decide (b.v < a.v) else if a.f ≠ b.f then decide (b.f < a.f) else decide (a.t < b.t)
theorem refAhead (a b : Seg) (H : AHeap) : Sound Try.prog 13 [a.val, b.val] H fun v H' => v = .bool (aheadR a.key b.key) ∧ H <+: H' := by
  refine Sound.of_body (rs := [.tmp 4]) mixed Try.func13 rfl (by kernel_rfl) rfl (by kernel_rfl) ?_
  simp -dsimp only [go_sem, ↓reduceIte, Nat.reduceEqDiff, Nat.reduceAdd, Nat.reduceMul, Nat.reduceSub, Nat.reduceLeDiff, Nat.reduceLT]
  refine acondP_of (fun h => ?_) (fun h => ?_)
  · simp -dsimp only [go_sem, ↓reduceIte, Nat.reduceEqDiff, Nat.reduceAdd, Nat.reduceMul, Nat.reduceSub, Nat.reduceLeDiff, Nat.reduceLT]
    simp at h; simp [aheadR, Seg.key, h]; rfl
  · simp -dsimp only [go_sem, ↓reduceIte, Nat.reduceEqDiff, Nat.reduceAdd, Nat.reduceMul, Nat.reduceSub, Nat.reduceLeDiff, Nat.reduceLT]
    refine acondP_of (fun h2 => ?_) (fun h2 => ?_)
    · simp -dsimp only [go_sem, ↓reduceIte, Nat.reduceEqDiff, Nat.reduceAdd, Nat.reduceMul, Nat.reduceSub, Nat.reduceLeDiff, Nat.reduceLT]
      simp at h h2; simp [aheadR, Seg.key, h, h2]
    · simp -dsimp only [go_sem, ↓reduceIte, Nat.reduceEqDiff, Nat.reduceAdd, Nat.reduceMul, Nat.reduceSub, Nat.reduceLeDiff, Nat.reduceLT]
      simp at h h2; simp [aheadR, Seg.key, h, h2]
theorem refOne (a b : Seg) (H : AHeap) : Sound Try.prog 15 [a.val, b.val] H fun v H' => v = .bool (decide (a.key = b.key)) ∧ H <+: H' := by
  refine Sound.of_body (rs := [.tmp 4]) mixed Try.func15 rfl (by kernel_rfl) rfl (by kernel_rfl) ?_
  have e : decide (a.key = b.key) = (a.f == b.f && a.t == b.t && a.v == b.v) := by rw [Bool.eq_iff_iff]; simp [Seg.key, and_assoc]
  rw [e]
  simp -dsimp only [go_sem, ↓reduceIte, Nat.reduceEqDiff, Nat.reduceAdd, Nat.reduceMul, Nat.reduceSub, Nat.reduceLeDiff, Nat.reduceLT]
  cases h : (a.f == b.f && a.t == b.t) with
  | true =>
    simp -dsimp only [go_sem, ↓reduceIte, Nat.reduceEqDiff, Nat.reduceAdd, Nat.reduceMul, Nat.reduceSub, Nat.reduceLeDiff, Nat.reduceLT, h]
    simp
  | false =>
    simp -dsimp only [go_sem, ↓reduceIte, Nat.reduceEqDiff, Nat.reduceAdd, Nat.reduceMul, Nat.reduceSub, Nat.reduceLeDiff, Nat.reduceLT, h]
    simp
def maxT : Int := 1099511627776
def mayB (s : Seg) : Bool := decide (0 ≤ s.f) && (decide (s.f < s.t) && (decide (s.t ≤ 1099511627776) && (decide (0 ≤ s.v) && (decide (0 ≤ s.p) && decide (0 ≤ s.c)))))
theorem may (s : Seg) (H : AHeap) : Sound Try.prog 30 [s.val] H fun v H' => v = .bool (mayB s) ∧ H <+: H' := by
  refine Sound.of_body (rs := [.tmp 2]) mixed Try.func30 rfl (by kernel_rfl) rfl (by kernel_rfl) ?_
  simp -dsimp only [go_sem, ↓reduceIte, Nat.reduceEqDiff, Nat.reduceAdd, Nat.reduceMul, Nat.reduceSub, Nat.reduceLeDiff, Nat.reduceLT]
  cases h1 : decide (0 ≤ s.f) with
  | false =>
    simp -dsimp only [go_sem, ↓reduceIte, Nat.reduceEqDiff, Nat.reduceAdd, Nat.reduceMul, Nat.reduceSub, Nat.reduceLeDiff, Nat.reduceLT, h1]
    simp [mayB, h1]
  | true =>
    cases h2 : decide (s.f < s.t) with
    | false =>
      simp -dsimp only [go_sem, ↓reduceIte, Nat.reduceEqDiff, Nat.reduceAdd, Nat.reduceMul, Nat.reduceSub, Nat.reduceLeDiff, Nat.reduceLT, h1, h2]
      simp [mayB, h2]
    | true =>
      cases h3 : decide (s.t ≤ 1099511627776) with
      | false =>
        simp -dsimp only [go_sem, ↓reduceIte, Nat.reduceEqDiff, Nat.reduceAdd, Nat.reduceMul, Nat.reduceSub, Nat.reduceLeDiff, Nat.reduceLT, h1, h2, h3]
        simp only [mayB, h3, Bool.false_and, Bool.and_false]; simp
      | true =>
        simp -dsimp only [go_sem, ↓reduceIte, Nat.reduceEqDiff, Nat.reduceAdd, Nat.reduceMul, Nat.reduceSub, Nat.reduceLeDiff, Nat.reduceLT, h1, h2, h3]
        have e : decide (0 ≤ min s.v (min s.p s.c)) = (decide (0 ≤ s.v) && (decide (0 ≤ s.p) && decide (0 ≤ s.c))) := by rw [Bool.eq_iff_iff]; simp; omega
        rw [e]
        simp only [mayB, h1, h2, h3, Bool.true_and]; simp
theorem refMay (s : Seg) (H : AHeap) : Sound Try.prog 55 [s.val] H fun v H' => v = .bool (mayB s) ∧ H <+: H' := by
  refine Sound.of_body (rs := [.tmp 2]) mixed Try.func55 rfl (by kernel_rfl) rfl (by kernel_rfl) ?_
  simp -dsimp only [go_sem, ↓reduceIte, Nat.reduceEqDiff, Nat.reduceAdd, Nat.reduceMul, Nat.reduceSub, Nat.reduceLeDiff, Nat.reduceLT]
  cases h1 : decide (0 ≤ s.f) with
  | false =>
    simp -dsimp only [go_sem, ↓reduceIte, Nat.reduceEqDiff, Nat.reduceAdd, Nat.reduceMul, Nat.reduceSub, Nat.reduceLeDiff, Nat.reduceLT, h1]
    simp [mayB, h1]
  | true =>
    cases h2 : decide (s.f < s.t) with
    | false =>
      simp -dsimp only [go_sem, ↓reduceIte, Nat.reduceEqDiff, Nat.reduceAdd, Nat.reduceMul, Nat.reduceSub, Nat.reduceLeDiff, Nat.reduceLT, h1, h2]
      simp [mayB, h2]
    | true =>
      cases h3 : decide (s.t ≤ 1099511627776) with
      | false =>
        simp -dsimp only [go_sem, ↓reduceIte, Nat.reduceEqDiff, Nat.reduceAdd, Nat.reduceMul, Nat.reduceSub, Nat.reduceLeDiff, Nat.reduceLT, h1, h2, h3]
        simp only [mayB, h3, Bool.false_and, Bool.and_false]; simp
      | true =>
        cases h4 : decide (0 ≤ s.v) with
        | false =>
          simp -dsimp only [go_sem, ↓reduceIte, Nat.reduceEqDiff, Nat.reduceAdd, Nat.reduceMul, Nat.reduceSub, Nat.reduceLeDiff, Nat.reduceLT, h1, h2, h3, h4]
          simp [mayB, h4]
        | true =>
          cases h5 : decide (0 ≤ s.p) with
          | false =>
            simp -dsimp only [go_sem, ↓reduceIte, Nat.reduceEqDiff, Nat.reduceAdd, Nat.reduceMul, Nat.reduceSub, Nat.reduceLeDiff, Nat.reduceLT, h1, h2, h3, h4, h5]
            simp [mayB, h5]
          | true =>
            simp -dsimp only [go_sem, ↓reduceIte, Nat.reduceEqDiff, Nat.reduceAdd, Nat.reduceMul, Nat.reduceSub, Nat.reduceLeDiff, Nat.reduceLT, h1, h2, h3, h4, h5]
            simp only [mayB, h1, h2, h3, h4, h5, Bool.true_and]; simp
end Go.Proofs.Ythbifkeadbmcnaa
