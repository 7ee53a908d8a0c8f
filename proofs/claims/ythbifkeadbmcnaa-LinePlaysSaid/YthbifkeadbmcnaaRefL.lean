/-
  The document's Line: Complete, Next, At. The document's Line: At.
-/
import Derived.Test.YthbifkeadbmcnaaLook
set_option linter.unusedVariables false
set_option linter.unusedSimpArgs false
namespace Go.Proofs.Ythbifkeadbmcnaa
open Go Go.AW
set_option linter.unusedSimpArgs false
set_option maxRecDepth 20000

/-- a Line that is read -/
structure LineR (H : AHeap) (q : Nat) (a : Option Addr) (c : Nat) (L : List Seg) : Prop where
  at_ : H[q]? = some (.row [.slice a L.length c] 1 true)
  sl : SegsAt H a L
theorem LineR.pre {H H' : AHeap} {q : Nat} {a : Option Addr} {c : Nat} {L : List Seg} (h : LineR H q a c L) (hp : H <+: H') : LineR H' q a c L := ⟨pre_get hp h.at_, h.sl.pre hp⟩
def compP (s z : Seg) : Bool := decide (z.key = s.key) && decide (z.p < s.c)
def compB (L : List Seg) (s : Seg) : Bool := ((L.countP (compP s) : Nat) : Int) == s.c
theorem refComplete (L : List Seg) (s : Seg) (q : Nat) (a : Option Addr) (c : Nat) (H : AHeap) (h : LineR H q a c L) (hl : L.length < 100000) :
    Sound Try.prog 57 [ptrV q, s.val] H fun v H' => v = .bool (compB L s) ∧ H <+: H' := by
  refine Sound.of_body (rs := [.tmp 4]) mixed Try.func57 rfl (by kernel_rfl) rfl (by kernel_rfl) ?_
  have b0 := get_end H (AObj.row s.cells 5 true) []
  have p0 := List.prefix_append H [AObj.row s.cells 5 true]
  have h1 := h.pre p0
  dsimp only [Seg.cells] at b0 p0 h1
  simp -dsimp only [go_sem, ↓reduceIte, Nat.reduceEqDiff, Nat.reduceAdd, Nat.reduceMul, Nat.reduceSub, Nat.reduceLeDiff, Nat.reduceLT]
  generalize hib : H.length = ib at *
  refine aloopP_of (fun n T H' => ∃ (i k : Nat), n = L.length - i ∧ i ≤ L.length ∧ H ++ [.row [.int .i64 s.f, .int .i64 s.t, .int .i64 s.v, .int .i64 s.p, .int .i64 s.c] 5 true] <+: H' ∧ T 0 = ptrV q ∧ T 3 = ptrV ib ∧ T 5 = .int .i64 (k : Nat) ∧ T 6 = .int .i64 (i : Nat) ∧ k = (L.take i).countP (compP s) ∧ k ≤ i) (n := L.length) ?_ ?_
  · refine ⟨0, 0, ?_⟩
    simp -dsimp only [go_sem, ↓reduceIte, Nat.reduceEqDiff, Nat.reduceAdd, Nat.reduceMul, Nat.reduceSub, Nat.reduceLeDiff, Nat.reduceLT]
    exact ⟨rfl, Nat.zero_le _, List.prefix_refl _, rfl, rfl, rfl⟩
  rintro n T H2 ⟨i, k, rfl, hi, p2, t0, t3, t5, t6, hk, hki⟩
  have r2 := (h1.pre p2).at_
  have s2 := (h1.pre p2).sl
  have b2 := pre_get p2 b0
  simp -dsimp only [go_sem, ↓reduceIte, Nat.reduceEqDiff, Nat.reduceAdd, Nat.reduceMul, Nat.reduceSub, Nat.reduceLeDiff, Nat.reduceLT, t0, t3, t5, t6, r2]
  refine acondP_of (fun hc => ?_) (fun hc => ?_)
  · simp at hc
    obtain ⟨z, hz⟩ := get_ex hc
    obtain ⟨id, off, rfl, hat⟩ := s2.at (by omega)
    have hzz := hat i z hz
    have stp : (L.take (i + 1)).countP (compP s) = (L.take i).countP (compP s) + if (decide (z.key = s.key) && decide (z.p < s.c)) = true then 1 else 0 := by
      rw [take_get hz, List.countP_append]; simp [compP, List.countP_cons]
    have w1 := wrS (show i < 4611686018427387904 by omega)
    have w2 := wrS (show k < 4611686018427387904 by omega)
    simp -dsimp only [go_sem, ↓reduceIte, Nat.reduceEqDiff, Nat.reduceAdd, Nat.reduceMul, Nat.reduceSub, Nat.reduceLeDiff, Nat.reduceLT, t0, t3, t5, t6, r2]
    refine adrawnP_of2 [(0, false), (1, false), (2, false), (3, false), (4, false), (5, false), (6, false), (7, false), (8, false), (9, false)] (by kernel_rfl) ?_
    simp -dsimp only [go_sem, ↓reduceIte, Nat.reduceEqDiff, Nat.reduceAdd, Nat.reduceMul, Nat.reduceSub, Nat.reduceLeDiff, Nat.reduceLT, t0, t3, t5, t6, r2, b2, inRange hc, rowLoad_whole hzz]
    refine SoundP_of (refOne z s H2) ?_
    rintro _ H3 ⟨rfl, p3⟩
    have r3 := pre_get p3 r2
    have b3 := pre_get p3 b2
    have g3 : ∀ mm, (H3[id]?).bind (rowLoad (some false) mm (off + i * 5 + 3)) = some (.int .i64 z.p) := fun mm => rowLoad_cell (aload_pre p3 hzz) mm 3 (by decide)
    simp -dsimp only [go_sem, ↓reduceIte, Nat.reduceEqDiff, Nat.reduceAdd, Nat.reduceMul, Nat.reduceSub, Nat.reduceLeDiff, Nat.reduceLT, t0, t3, t5, t6]
    refine adrawnP_of2 [(0, false), (1, false), (2, false), (3, false), (4, false), (5, false), (6, false), (7, false), (8, false), (9, false), (10, false), (11, false), (12, false), (13, false)] (by kernel_rfl) ?_
    cases e1 : decide (z.key = s.key) with
    | false =>
      simp -dsimp only [go_sem, ↓reduceIte, Nat.reduceEqDiff, Nat.reduceAdd, Nat.reduceMul, Nat.reduceSub, Nat.reduceLeDiff, Nat.reduceLT, t0, t3, t5, t6, e1, w1]
      exact ⟨_, by omega, i + 1, k, rfl, hc, p2.trans p3, rfl, rfl, by rw [stp, e1]; simpa using hk, by omega⟩
    | true =>
      simp -dsimp only [go_sem, ↓reduceIte, Nat.reduceEqDiff, Nat.reduceAdd, Nat.reduceMul, Nat.reduceSub, Nat.reduceLeDiff, Nat.reduceLT, t0, t3, t5, t6, e1, r3, b3, inRange hc, g3]
      refine acondP_of (fun e2 => ?_) (fun e2 => ?_)
      · simp -dsimp only [go_sem, ↓reduceIte, Nat.reduceEqDiff, Nat.reduceAdd, Nat.reduceMul, Nat.reduceSub, Nat.reduceLeDiff, Nat.reduceLT, t0, t3, t5, t6, w1, w2]
        exact ⟨_, by omega, i + 1, k + 1, rfl, hc, p2.trans p3, rfl, rfl, by rw [stp, e1, e2]; simpa using hk, by omega⟩
      · simp -dsimp only [go_sem, ↓reduceIte, Nat.reduceEqDiff, Nat.reduceAdd, Nat.reduceMul, Nat.reduceSub, Nat.reduceLeDiff, Nat.reduceLT, t0, t3, t5, t6, w1]
        exact ⟨_, by omega, i + 1, k, rfl, hc, p2.trans p3, rfl, rfl, by rw [stp, e1, e2]; simpa using hk, by omega⟩
  simp at hc
  obtain rfl : i = L.length := by omega
  rw [List.take_length] at hk
  simp -dsimp only [go_sem, ↓reduceIte, Nat.reduceEqDiff, Nat.reduceAdd, Nat.reduceMul, Nat.reduceSub, Nat.reduceLeDiff, Nat.reduceLT, t0, t3, t5, t6, b2]
  refine ⟨?_, p0.trans p2⟩
  rw [hk]; rfl
/-- one more is looked at: what is next behind a time -/
def nxStep (time e : Int) (z : Seg) : Int :=
  let e1 := if time < z.f ∧ z.f < e then z.f else e
  if time < z.t ∧ z.t < e1 then z.t else e1
def nextL (L : List Seg) (time e : Int) : Int := L.foldl (nxStep time) e
theorem decE {p : Prop} [Decidable p] {b : Bool} (h : decide p = b) : p = (b = true) := by subst h; simp
theorem refNext (L : List Seg) (time end_ : Int) (q : Nat) (a : Option Addr) (c : Nat) (H : AHeap) (h : LineR H q a c L) (hl : L.length < 100000) :
    Sound Try.prog 36 [ptrV q, .int .i64 time, .int .i64 end_] H fun v H' => v = .int .i64 (nextL L time end_) ∧ H' = H := by
  refine Sound.of_body (rs := [.tmp 6]) mixed Try.func36 rfl (by kernel_rfl) rfl (by kernel_rfl) ?_
  simp -dsimp only [go_sem, ↓reduceIte, Nat.reduceEqDiff, Nat.reduceAdd, Nat.reduceMul, Nat.reduceSub, Nat.reduceLeDiff, Nat.reduceLT]
  refine aloopP_of (fun n T H' => ∃ (i : Nat), n = L.length - i ∧ i ≤ L.length ∧ H' = H ∧ T 0 = ptrV q ∧ T 1 = .int .i64 time ∧ T 2 = .int .i64 ((L.take i).foldl (nxStep time) end_) ∧ T 7 = .int .i64 (i : Nat)) (n := L.length) ?_ ?_
  · refine ⟨0, ?_⟩
    simp -dsimp only [go_sem, ↓reduceIte, Nat.reduceEqDiff, Nat.reduceAdd, Nat.reduceMul, Nat.reduceSub, Nat.reduceLeDiff, Nat.reduceLT]
    exact ⟨rfl, Nat.zero_le _, rfl, rfl⟩
  rintro n T H2 ⟨i, rfl, hi, rfl, t0, t1, t2, t7⟩
  have r2 := h.at_
  have s2 := h.sl
  simp -dsimp only [go_sem, ↓reduceIte, Nat.reduceEqDiff, Nat.reduceAdd, Nat.reduceMul, Nat.reduceSub, Nat.reduceLeDiff, Nat.reduceLT, t0, t1, t2, t7, r2]
  refine acondP_of (fun hc => ?_) (fun hc => ?_)
  · simp at hc
    obtain ⟨z, hz⟩ := get_ex hc
    obtain ⟨id, off, rfl, hat⟩ := s2.at (by omega)
    have hzz := hat i z hz
    have gF : ∀ mm, (H2[id]?).bind (rowLoad (some false) mm (off + i * 5 + 0 + 0)) = some (.int .i64 z.f) := fun mm => rowLoad_cell hzz mm 0 (by decide)
    have gT : ∀ mm, (H2[id]?).bind (rowLoad (some false) mm (off + i * 5 + 0 + 1)) = some (.int .i64 z.t) := fun mm => rowLoad_cell hzz mm 1 (by decide)
    have stp : (L.take (i + 1)).foldl (nxStep time) end_ = nxStep time ((L.take i).foldl (nxStep time) end_) z := by
      rw [take_get hz, List.foldl_append]; rfl
    have w1 := wrS (show i < 4611686018427387904 by omega)
    generalize (L.take i).foldl (nxStep time) end_ = e at *
    cases h1 : decide (time < z.f) with
    | false =>
      cases h3 : decide (time < z.t) with
      | false =>
        simp -dsimp only [go_sem, ↓reduceIte, Nat.reduceEqDiff, Nat.reduceAdd, Nat.reduceMul, Nat.reduceSub, Nat.reduceLeDiff, Nat.reduceLT, t0, t1, t2, t7, r2, inRange hc, gF, gT, h3, w1, h1]
        exact ⟨_, by omega, i + 1, rfl, hc, by rw [stp]; simp [nxStep, decE h3, decE h1], rfl⟩
      | true =>
        cases h4 : decide (z.t < e) with
        | false =>
          simp -dsimp only [go_sem, ↓reduceIte, Nat.reduceEqDiff, Nat.reduceAdd, Nat.reduceMul, Nat.reduceSub, Nat.reduceLeDiff, Nat.reduceLT, t0, t1, t2, t7, r2, inRange hc, gF, gT, h3, h4, w1, h1]
          exact ⟨_, by omega, i + 1, rfl, hc, by rw [stp]; simp [nxStep, decE h3, decE h4, decE h1], rfl⟩
        | true =>
          simp -dsimp only [go_sem, ↓reduceIte, Nat.reduceEqDiff, Nat.reduceAdd, Nat.reduceMul, Nat.reduceSub, Nat.reduceLeDiff, Nat.reduceLT, t0, t1, t2, t7, r2, inRange hc, gF, gT, h3, h4, w1, h1]
          exact ⟨_, by omega, i + 1, rfl, hc, by rw [stp]; simp [nxStep, decE h3, decE h4, decE h1], rfl⟩
    | true =>
      cases h2 : decide (z.f < e) with
      | false =>
        cases h3 : decide (time < z.t) with
        | false =>
          simp -dsimp only [go_sem, ↓reduceIte, Nat.reduceEqDiff, Nat.reduceAdd, Nat.reduceMul, Nat.reduceSub, Nat.reduceLeDiff, Nat.reduceLT, t0, t1, t2, t7, r2, inRange hc, gF, gT, h3, w1, h1, h2]
          exact ⟨_, by omega, i + 1, rfl, hc, by rw [stp]; simp [nxStep, decE h3, decE h1, decE h2], rfl⟩
        | true =>
          cases h4 : decide (z.t < e) with
          | false =>
            simp -dsimp only [go_sem, ↓reduceIte, Nat.reduceEqDiff, Nat.reduceAdd, Nat.reduceMul, Nat.reduceSub, Nat.reduceLeDiff, Nat.reduceLT, t0, t1, t2, t7, r2, inRange hc, gF, gT, h3, h4, w1, h1, h2]
            exact ⟨_, by omega, i + 1, rfl, hc, by rw [stp]; simp [nxStep, decE h3, decE h4, decE h1, decE h2], rfl⟩
          | true =>
            simp -dsimp only [go_sem, ↓reduceIte, Nat.reduceEqDiff, Nat.reduceAdd, Nat.reduceMul, Nat.reduceSub, Nat.reduceLeDiff, Nat.reduceLT, t0, t1, t2, t7, r2, inRange hc, gF, gT, h3, h4, w1, h1, h2]
            exact ⟨_, by omega, i + 1, rfl, hc, by rw [stp]; simp [nxStep, decE h3, decE h4, decE h1, decE h2], rfl⟩
      | true =>
        cases h3 : decide (time < z.t) with
        | false =>
          simp -dsimp only [go_sem, ↓reduceIte, Nat.reduceEqDiff, Nat.reduceAdd, Nat.reduceMul, Nat.reduceSub, Nat.reduceLeDiff, Nat.reduceLT, t0, t1, t2, t7, r2, inRange hc, gF, gT, h3, w1, h1, h2]
          exact ⟨_, by omega, i + 1, rfl, hc, by rw [stp]; simp [nxStep, decE h3, decE h1, decE h2], rfl⟩
        | true =>
          cases h4 : decide (z.t < z.f) with
          | false =>
            simp -dsimp only [go_sem, ↓reduceIte, Nat.reduceEqDiff, Nat.reduceAdd, Nat.reduceMul, Nat.reduceSub, Nat.reduceLeDiff, Nat.reduceLT, t0, t1, t2, t7, r2, inRange hc, gF, gT, h3, h4, w1, h1, h2]
            exact ⟨_, by omega, i + 1, rfl, hc, by rw [stp]; simp [nxStep, decE h3, decE h4, decE h1, decE h2], rfl⟩
          | true =>
            simp -dsimp only [go_sem, ↓reduceIte, Nat.reduceEqDiff, Nat.reduceAdd, Nat.reduceMul, Nat.reduceSub, Nat.reduceLeDiff, Nat.reduceLT, t0, t1, t2, t7, r2, inRange hc, gF, gT, h3, h4, w1, h1, h2]
            exact ⟨_, by omega, i + 1, rfl, hc, by rw [stp]; simp [nxStep, decE h3, decE h4, decE h1, decE h2], rfl⟩
  simp at hc
  obtain rfl : i = L.length := by omega
  rw [List.take_length] at t2
  simp -dsimp only [go_sem, ↓reduceIte, Nat.reduceEqDiff, Nat.reduceAdd, Nat.reduceMul, Nat.reduceSub, Nat.reduceLeDiff, Nat.reduceLT, t0, t1, t2, t7]
  rfl
abbrev seg0 : Seg := ⟨0, 0, 0, 0, 0⟩
def better (o : Option Seg) (z : Seg) : Bool := match o with
  | none => true
  | some b => aheadR z.key b.key
def atStep (L : List Seg) (time : Int) (o : Option Seg) (z : Seg) : Option Seg := if covers z.key time && (compB L z && better o z) then some z else o
/-- what the document says of a time -/
def atL (L : List Seg) (time : Int) : Option Seg := L.foldl (atStep L time) none
theorem refAt (L : List Seg) (time : Int) (q : Nat) (a : Option Addr) (c : Nat) (H : AHeap) (h : LineR H q a c L) (hl : L.length < 100000) :
    Sound Try.prog 35 [ptrV q, .int .i64 time] H fun v H' => v = .tuple #[((atL L time).getD seg0).val, .bool (atL L time).isSome] ∧ H <+: H' := by
  refine Sound.of_body (rs := [.cell 4 32, .tmp 5]) mixed Try.func35 rfl (by kernel_rfl) rfl (by kernel_rfl) ?_
  simp -dsimp only [go_sem, ↓reduceIte, Nat.reduceEqDiff, Nat.reduceAdd, Nat.reduceMul, Nat.reduceSub, Nat.reduceLeDiff, Nat.reduceLT]
  obtain ⟨ib, hib⟩ : ∃ ib, ib = H.length := ⟨_, rfl⟩
  refine aloopP_of (fun n T H' => ∃ (i : Nat) (o : Option Seg), n = L.length - i ∧ i ≤ L.length ∧ T 0 = ptrV q ∧ T 1 = .int .i64 time ∧ T 4 = ptrV ib ∧ T 6 = ptrV (ib + 1) ∧ T 7 = .bool o.isSome ∧ T 8 = .int .i64 (i : Nat) ∧ o = (L.take i).foldl (atStep L time) none ∧
      H <+: H' ∧ H'[ib]? = some (.row [.int .i64 0, .int .i64 0, .int .i64 0, .int .i64 0, .int .i64 0] 5 true) ∧ H'[ib + 1]? = some (.row (o.getD seg0).cells 5 true)) (n := L.length) ?_ ?_
  · refine ⟨0, none, ?_⟩
    simp -dsimp only [go_sem, ↓reduceIte, Nat.reduceEqDiff, Nat.reduceAdd, Nat.reduceMul, Nat.reduceSub, Nat.reduceLeDiff, Nat.reduceLT]
    subst hib
    refine ⟨rfl, Nat.zero_le _, rfl, rfl, rfl, rfl, ?_⟩
    exact ⟨rfl, List.prefix_append _ _, get_end _ _ _, get_end1 _ _ _ _⟩
  rintro n T H1 ⟨i, o, rfl, hi, t0, t1, t4, t6, t7, t8, ho, p1, r4, r6⟩
  have h1 := h.pre p1
  have r1 := h1.at_
  have s1 := h1.sl
  simp -dsimp only [go_sem, ↓reduceIte, Nat.reduceEqDiff, Nat.reduceAdd, Nat.reduceMul, Nat.reduceSub, Nat.reduceLeDiff, Nat.reduceLT, t0, t1, t4, t6, t7, t8, r1]
  refine acondP_of (fun hc => ?_) (fun hc => ?_)
  · simp at hc
    obtain ⟨z, hz⟩ := get_ex hc
    obtain ⟨id, off, rfl, hat⟩ := s1.at (by omega)
    have hzz := rowLoad_whole (hat i z hz)
    have stp : (L.take (i + 1)).foldl (atStep L time) none = atStep L time o z := by
      rw [take_get hz, List.foldl_append, ← ho]; rfl
    have w1 := wrS (show i < 4611686018427387904 by omega)
    have p2 := List.prefix_append H1 [AObj.row z.cells 5 true]
    have b2 := get_end H1 (AObj.row z.cells 5 true) []
    dsimp only [Seg.cells] at p2 b2
    have r42 := pre_get p2 r4
    have r62 := pre_get p2 r6
    have h2 := h1.pre p2
    have l2 : (H1 ++ [AObj.row [.int .i64 z.f, .int .i64 z.t, .int .i64 z.v, .int .i64 z.p, .int .i64 z.c] 5 true]).length = H1.length + 1 := by simp
    have n1 := pre_len p1
    have q2 := p1.trans p2
    have l6 := get_lt r6
    simp -dsimp only [go_sem, ↓reduceIte, Nat.reduceEqDiff, Nat.reduceAdd, Nat.reduceMul, Nat.reduceSub, Nat.reduceLeDiff, Nat.reduceLT, t0, t1, t4, t6, t7, t8, r1, inRange hc, hzz, b2]
    clear r1 s1 h1 p1 r4 r6 hat hzz p2
    generalize H1 ++ [AObj.row [.int .i64 z.f, .int .i64 z.t, .int .i64 z.v, .int .i64 z.p, .int .i64 z.c] 5 true] = H2 at *
    generalize H1.length = iz at *
    cases e1 : decide (time < z.f) with
    | true =>
      simp -dsimp only [go_sem, ↓reduceIte, Nat.reduceEqDiff, Nat.reduceAdd, Nat.reduceMul, Nat.reduceSub, Nat.reduceLeDiff, Nat.reduceLT, t0, t1, t4, t6, t7, t8, e1, w1, b2]
      have hcv : covers z.key time = false := by
        simp only [decide_eq_true_eq] at e1
        show (decide (z.f ≤ time) && decide (time < z.t)) = false
        simp only [Bool.and_eq_false_iff, decide_eq_false_iff_not]; omega
      exact ⟨_, by omega, i + 1, o, rfl, hc, rfl, rfl, by rw [stp, atStep, hcv]; rfl, q2, r42, r62⟩
    | false =>
      cases e2 : decide (z.t ≤ time) with
      | true =>
        simp -dsimp only [go_sem, ↓reduceIte, Nat.reduceEqDiff, Nat.reduceAdd, Nat.reduceMul, Nat.reduceSub, Nat.reduceLeDiff, Nat.reduceLT, t0, t1, t4, t6, t7, t8, e1, e2, w1, b2]
        have hcv : covers z.key time = false := by
          simp only [decide_eq_true_eq] at e2
          show (decide (z.f ≤ time) && decide (time < z.t)) = false
          simp only [Bool.and_eq_false_iff, decide_eq_false_iff_not]; omega
        exact ⟨_, by omega, i + 1, o, rfl, hc, rfl, rfl, by rw [stp, atStep, hcv]; rfl, q2, r42, r62⟩
      | false =>
        have hcv : covers z.key time = true := by
          simp only [decide_eq_false_iff_not] at e1 e2
          show (decide (z.f ≤ time) && decide (time < z.t)) = true
          simp only [Bool.and_eq_true, decide_eq_true_eq]; omega
        simp -dsimp only [go_sem, ↓reduceIte, Nat.reduceEqDiff, Nat.reduceAdd, Nat.reduceMul, Nat.reduceSub, Nat.reduceLeDiff, Nat.reduceLT, t0, t1, t4, t6, t7, t8, e1, e2, b2]
        refine SoundP_of (refComplete L z q _ _ H2 h2 hl) ?_
        rintro _ H3 ⟨rfl, p3⟩
        have b3 := pre_get p3 b2
        have q3 := q2.trans p3
        have r43 := pre_get p3 r42
        have r63 := pre_get p3 r62
        have h3 := h2.pre p3
        have n3 := pre_len p3
        have keep : ∀ H4 : AHeap, H3 <+: H4 → H <+: H4.set (ib + 1) (.row z.cells 5 true) ∧ (H4.set (ib + 1) (.row z.cells 5 true))[ib]? = some (.row [.int .i64 0, .int .i64 0, .int .i64 0, .int .i64 0, .int .i64 0] 5 true) ∧ (H4.set (ib + 1) (.row z.cells 5 true))[ib + 1]? = some (.row z.cells 5 true) := fun H4 p4 => by
          have n4 := pre_len p4
          refine ⟨List.prefix_iff_getElem?.2 fun j hj => ?_, ?_, ?_⟩
          · rw [List.getElem?_set_ne (by omega)]
            exact pre_get (q3.trans p4) (by simp [hj])
          · rw [List.getElem?_set_ne (by omega)]; exact pre_get p4 r43
          · rw [List.getElem?_set_self (by omega)]
        cases o with
        | none =>
          simp -dsimp only [go_sem, ↓reduceIte, Nat.reduceEqDiff, Nat.reduceAdd, Nat.reduceMul, Nat.reduceSub, Nat.reduceLeDiff, Nat.reduceLT, t0, t1, t4, t6, t7, t8, Option.isSome_none]
          cases e3 : compB L z with
          | false =>
            simp -dsimp only [go_sem, ↓reduceIte, Nat.reduceEqDiff, Nat.reduceAdd, Nat.reduceMul, Nat.reduceSub, Nat.reduceLeDiff, Nat.reduceLT, t0, t1, t4, t6, t7, t8, e3, w1]
            exact ⟨_, by omega, i + 1, none, rfl, hc, rfl, rfl, by rw [stp, atStep, hcv, e3]; rfl, q3, r43, r63⟩
          | true =>
            dsimp only [Option.getD_none, seg0] at r63
            simp -dsimp only [go_sem, ↓reduceIte, Nat.reduceEqDiff, Nat.reduceAdd, Nat.reduceMul, Nat.reduceSub, Nat.reduceLeDiff, Nat.reduceLT, t0, t1, t4, t6, t7, t8, e3, w1, b3, r63]
            obtain ⟨k1, k2, k3⟩ := keep H3 (List.prefix_refl _)
            exact ⟨_, by omega, i + 1, some z, rfl, hc, rfl, rfl, by rw [stp, atStep, hcv, e3]; rfl, k1, k2, k3⟩
        | some b =>
          dsimp only [Option.getD_some] at r63
          simp -dsimp only [go_sem, ↓reduceIte, Nat.reduceEqDiff, Nat.reduceAdd, Nat.reduceMul, Nat.reduceSub, Nat.reduceLeDiff, Nat.reduceLT, t0, t1, t4, t6, t7, t8, b3, r63, Option.isSome_some]
          refine SoundP_of (refAhead z b H3) ?_
          rintro _ H4 ⟨rfl, p4⟩
          have b4 := pre_get p4 b3
          have r44 := pre_get p4 r43
          have r64 := pre_get p4 r63
          have q4 := q3.trans p4
          cases e3 : compB L z with
          | false =>
            simp -dsimp only [go_sem, ↓reduceIte, Nat.reduceEqDiff, Nat.reduceAdd, Nat.reduceMul, Nat.reduceSub, Nat.reduceLeDiff, Nat.reduceLT, t0, t1, t4, t6, t7, t8, e3, w1]
            exact ⟨_, by omega, i + 1, some b, rfl, hc, rfl, rfl, by rw [stp, atStep, hcv, e3]; rfl, q4, r44, r64⟩
          | true =>
            cases e4 : aheadR z.key b.key with
            | false =>
              simp -dsimp only [go_sem, ↓reduceIte, Nat.reduceEqDiff, Nat.reduceAdd, Nat.reduceMul, Nat.reduceSub, Nat.reduceLeDiff, Nat.reduceLT, t0, t1, t4, t6, t7, t8, e3, e4, w1]
              exact ⟨_, by omega, i + 1, some b, rfl, hc, rfl, rfl, by rw [stp, atStep, hcv, e3, better, e4]; rfl, q4, r44, r64⟩
            | true =>
              simp -dsimp only [go_sem, ↓reduceIte, Nat.reduceEqDiff, Nat.reduceAdd, Nat.reduceMul, Nat.reduceSub, Nat.reduceLeDiff, Nat.reduceLT, t0, t1, t4, t6, t7, t8, e3, e4, w1, b4, r64]
              obtain ⟨k1, k2, k3⟩ := keep H4 p4
              exact ⟨_, by omega, i + 1, some z, rfl, hc, rfl, rfl, by rw [stp, atStep, hcv, e3, better, e4]; rfl, k1, k2, k3⟩
  simp at hc
  obtain rfl : i = L.length := by omega
  rw [List.take_length] at ho
  subst ho
  have rr : ∀ o, (H1.set ib o)[ib]? = some o := fun o => List.getElem?_set_self (get_lt r4)
  simp -dsimp only [go_sem, ↓reduceIte, Nat.reduceEqDiff, Nat.reduceAdd, Nat.reduceMul, Nat.reduceSub, Nat.reduceLeDiff, Nat.reduceLT, t0, t1, t4, t6, t7, t8, r4, r6, rr]
  refine ⟨rfl, List.prefix_iff_getElem?.2 fun j hj => ?_⟩
  rw [List.getElem?_set_ne (by omega)]
  exact pre_get p1 (by simp [hj])
end Go.Proofs.Ythbifkeadbmcnaa
