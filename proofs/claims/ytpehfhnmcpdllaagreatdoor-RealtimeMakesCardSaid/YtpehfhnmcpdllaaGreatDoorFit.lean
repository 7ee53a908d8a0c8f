/-
  A setup that may be; a coordinator that is made.
-/
import Derived.Test.YtpehfhnmcpdllaaGreatDoorFacts
import Derived.Test.YtpehfhnmcpdllaaGreatDoorAwLoop
set_option linter.unusedVariables false
set_option linter.unusedSimpArgs false
namespace Go.Proofs.YtpehfhnmcpdllaaGreatDoor
open Go Go.AW
set_option linter.unusedSimpArgs false
set_option maxRecDepth 20000

/-- a setup's numbers -/
structure SetupS where
  dims : Int
  meas : Int
  streams : Int
  stores : Int
  leaders : Int
  chunk : Int
  replicas : Int
  batch : Int
  retry : Int
  retention : Int
abbrev SetupS.cells (s : SetupS) : List Value := [.int .i64 s.dims, .int .i64 s.meas, .int .i64 s.streams, .int .i64 s.stores, .int .i64 s.leaders, .int .i64 s.chunk, .int .i64 s.replicas, .int .i64 s.batch, .int .i64 s.retry, .int .i64 s.retention]
abbrev SetupS.val (s : SetupS) : Value := .agg s.cells.toArray

/-- what a setup must be -/
structure FitsS (s : SetupS) : Prop where
  d0 : 0 ≤ s.dims
  d1 : s.dims ≤ 8
  m0 : 0 ≤ s.meas
  m1 : s.meas ≤ 8
  s0 : 1 ≤ s.streams
  s1 : s.streams ≤ 8
  t0 : 1 ≤ s.stores
  t1 : s.stores ≤ 16
  l0 : 1 ≤ s.leaders
  l1 : s.leaders ≤ 16
  c0 : 1 ≤ s.chunk
  c1 : s.chunk ≤ 1099511627776
  r0 : 1 ≤ s.replicas
  r1 : s.replicas ≤ 1000
  b0 : 1 ≤ s.batch
  b1 : s.batch ≤ 1000
  y0 : 1 ≤ s.retry
  y1 : s.retry ≤ 1000
  n0 : 1 ≤ s.retention
  n1 : s.retention ≤ 1000
instance (s : SetupS) : Decidable (FitsS s) :=
  decidable_of_iff (0 ≤ s.dims ∧ s.dims ≤ 8 ∧ 0 ≤ s.meas ∧ s.meas ≤ 8 ∧ 1 ≤ s.streams ∧ s.streams ≤ 8 ∧ 1 ≤ s.stores ∧ s.stores ≤ 16 ∧ 1 ≤ s.leaders ∧ s.leaders ≤ 16 ∧ 1 ≤ s.chunk ∧ s.chunk ≤ 1099511627776 ∧ 1 ≤ s.replicas ∧ s.replicas ≤ 1000 ∧ 1 ≤ s.batch ∧ s.batch ≤ 1000 ∧ 1 ≤ s.retry ∧ s.retry ≤ 1000 ∧ 1 ≤ s.retention ∧ s.retention ≤ 1000)
    ⟨fun ⟨a, b, c, d, e, f, g, h, i, j, k, l, m, n, o, p, q, r, u, v⟩ => ⟨a, b, c, d, e, f, g, h, i, j, k, l, m, n, o, p, q, r, u, v⟩, fun ⟨a, b, c, d, e, f, g, h, i, j, k, l, m, n, o, p, q, r, u, v⟩ => ⟨a, b, c, d, e, f, g, h, i, j, k, l, m, n, o, p, q, r, u, v⟩⟩
def schemaB (d m : Int) : Bool := decide (0 ≤ d ∧ d ≤ 8 ∧ 0 ≤ m ∧ m ≤ 8)
def inB (n most : Int) : Bool := decide (1 ≤ n) && decide (n ≤ most)

theorem inLaw (n most : Int) (H : AHeap) : Sound Tryz.prog 32 [.int .i64 n, .int .i64 most] H fun v H' => v = .bool (inB n most) ∧ H <+: H' := by
  refine Sound.of_body (rs := [.tmp 4]) mixed Tryz.func32 rfl (by kernel_rfl) rfl (by kernel_rfl) ?_
  cases h : decide (1 ≤ n) with
  | false => simp -dsimp only [go_sem, ↓reduceIte, Nat.reduceEqDiff, Nat.reduceAdd, Nat.reduceMul, Nat.reduceSub, Nat.reduceLeDiff, Nat.reduceLT, h]; simp [inB, h]
  | true => simp -dsimp only [go_sem, ↓reduceIte, Nat.reduceEqDiff, Nat.reduceAdd, Nat.reduceMul, Nat.reduceSub, Nat.reduceLeDiff, Nat.reduceLT, h]; simp [inB, h]
theorem dec_false {p : Prop} [Decidable p] (h : decide p = false) : ¬ p := by simpa using h
theorem fineLaw (d m : Int) (H : AHeap) : Sound Tryz.prog 33 [.agg [.int .i64 d, .int .i64 m].toArray] H fun v H' => v = .int .i64 (bif schemaB d m then 0 else 1) ∧ H <+: H' := by
  refine Sound.of_body (rs := [.tmp 2]) mixed Tryz.func33 rfl (by kernel_rfl) rfl (by kernel_rfl) ?_
  cases h1 : decide (d < 0) with
  | true => simp -dsimp only [go_sem, ↓reduceIte, Nat.reduceEqDiff, Nat.reduceAdd, Nat.reduceMul, Nat.reduceSub, Nat.reduceLeDiff, Nat.reduceLT, h1]; have := of_decide_eq_true h1; simp [schemaB, show ¬ 0 ≤ d by omega]
  | false =>
    have := dec_false h1
    cases h2 : decide (8 < d) with
    | true => simp -dsimp only [go_sem, ↓reduceIte, Nat.reduceEqDiff, Nat.reduceAdd, Nat.reduceMul, Nat.reduceSub, Nat.reduceLeDiff, Nat.reduceLT, h1, h2]; have := of_decide_eq_true h2; simp [schemaB, show ¬ d ≤ 8 by omega]
    | false =>
      have := dec_false h2
      cases h3 : decide (m < 0) with
      | true => simp -dsimp only [go_sem, ↓reduceIte, Nat.reduceEqDiff, Nat.reduceAdd, Nat.reduceMul, Nat.reduceSub, Nat.reduceLeDiff, Nat.reduceLT, h1, h2, h3]; have := of_decide_eq_true h3; simp [schemaB, show ¬ 0 ≤ m by omega]
      | false =>
        have := dec_false h3
        cases h4 : decide (8 < m) with
        | true => simp -dsimp only [go_sem, ↓reduceIte, Nat.reduceEqDiff, Nat.reduceAdd, Nat.reduceMul, Nat.reduceSub, Nat.reduceLeDiff, Nat.reduceLT, h1, h2, h3, h4]; have := of_decide_eq_true h4; simp [schemaB, show ¬ m ≤ 8 by omega]
        | false =>
          have := dec_false h4
          simp -dsimp only [go_sem, ↓reduceIte, Nat.reduceEqDiff, Nat.reduceAdd, Nat.reduceMul, Nat.reduceSub, Nat.reduceLeDiff, Nat.reduceLT, h1, h2, h3, h4]
          rw [schemaB, decide_eq_true (by omega)]
          simp
theorem lapp_nil (l : List Oper) : List.append [] l = l := rfl
theorem lapp_cons (a : Oper) (k l : List Oper) : List.append (a :: k) l = a :: List.append k l := rfl
attribute [go_sem ↓] lapp_nil lapp_cons
def fitsB (s : SetupS) : Bool := schemaB s.dims s.meas && (inB s.streams 8 && (inB s.stores 16 && (inB s.leaders 16 && (decide (1 ≤ s.chunk) && (decide (s.chunk ≤ 1099511627776) && (inB s.replicas 1000 && (inB s.batch 1000 && (inB s.retry 1000 && inB s.retention 1000))))))))
theorem fitsB_iff (s : SetupS) : fitsB s = true ↔ FitsS s := by
  simp only [fitsB, schemaB, inB, Bool.and_eq_true, decide_eq_true_eq]
  constructor
  · rintro ⟨⟨a, b, c, d⟩, ⟨e, f⟩, ⟨g, h⟩, ⟨i, j⟩, k, l, ⟨m, n⟩, ⟨o, p⟩, ⟨q, r⟩, u, v⟩
    exact ⟨a, b, c, d, e, f, g, h, i, j, k, l, m, n, o, p, q, r, u, v⟩
  · rintro ⟨a, b, c, d, e, f, g, h, i, j, k, l, m, n, o, p, q, r, u, v⟩
    exact ⟨⟨a, b, c, d⟩, ⟨e, f⟩, ⟨g, h⟩, ⟨i, j⟩, k, l, ⟨m, n⟩, ⟨o, p⟩, ⟨q, r⟩, u, v⟩
set_option maxHeartbeats 1000000 in
theorem fitsLaw (s : SetupS) (H : AHeap) : Sound Tryz.prog 19 [s.val] H fun v H' => v = .bool (fitsB s) ∧ H <+: H' := by
  refine Sound.of_body (rs := [.tmp 2]) mixed Tryz.func19 rfl (by kernel_rfl) rfl (by kernel_rfl) ?_
  have b0 := get_end H (AObj.row s.cells 10 true) []
  have p0 := List.prefix_append H [AObj.row s.cells 10 true]
  simp -dsimp only [go_sem, ↓reduceIte, Nat.reduceEqDiff, Nat.reduceAdd, Nat.reduceMul, Nat.reduceSub, Nat.reduceLeDiff, Nat.reduceLT]
  generalize H ++ [AObj.row s.cells 10 true] = H0 at *
  refine SoundP_of (fineLaw s.dims s.meas H0) ?_
  rintro _ H1 ⟨rfl, p1⟩
  have b1 := pre_get p1 b0
  have q1 := p0.trans p1
  cases hA : schemaB s.dims s.meas with
  | false => simp -dsimp only [go_sem, ↓reduceIte, Nat.reduceEqDiff, Nat.reduceAdd, Nat.reduceMul, Nat.reduceSub, Nat.reduceLeDiff, Nat.reduceLT, hA, cond_false, Int.reduceBEq]; simp [fitsB, hA]; exact q1
  | true =>
  simp -dsimp only [go_sem, ↓reduceIte, Nat.reduceEqDiff, Nat.reduceAdd, Nat.reduceMul, Nat.reduceSub, Nat.reduceLeDiff, Nat.reduceLT, hA, cond_true, Int.reduceBEq, b1]
  refine SoundP_of (inLaw s.streams 8 H1) ?_
  rintro _ H2 ⟨rfl, p2⟩
  have b2 := pre_get p2 b1
  have q2 := q1.trans p2
  cases hB : inB s.streams 8 with
  | false => simp -dsimp only [go_sem, ↓reduceIte, Nat.reduceEqDiff, Nat.reduceAdd, Nat.reduceMul, Nat.reduceSub, Nat.reduceLeDiff, Nat.reduceLT, hB]; simp [fitsB, hA, hB]; exact q2
  | true =>
  simp -dsimp only [go_sem, ↓reduceIte, Nat.reduceEqDiff, Nat.reduceAdd, Nat.reduceMul, Nat.reduceSub, Nat.reduceLeDiff, Nat.reduceLT, hB, b2]
  refine SoundP_of (inLaw s.stores 16 H2) ?_
  rintro _ H3 ⟨rfl, p3⟩
  have b3 := pre_get p3 b2
  have q3 := q2.trans p3
  cases hC : inB s.stores 16 with
  | false => simp -dsimp only [go_sem, ↓reduceIte, Nat.reduceEqDiff, Nat.reduceAdd, Nat.reduceMul, Nat.reduceSub, Nat.reduceLeDiff, Nat.reduceLT, hC]; simp [fitsB, hA, hB, hC]; exact q3
  | true =>
  simp -dsimp only [go_sem, ↓reduceIte, Nat.reduceEqDiff, Nat.reduceAdd, Nat.reduceMul, Nat.reduceSub, Nat.reduceLeDiff, Nat.reduceLT, hC, b3]
  refine SoundP_of (inLaw s.leaders 16 H3) ?_
  rintro _ H4 ⟨rfl, p4⟩
  have b4 := pre_get p4 b3
  have q4 := q3.trans p4
  cases hD : inB s.leaders 16 with
  | false => simp -dsimp only [go_sem, ↓reduceIte, Nat.reduceEqDiff, Nat.reduceAdd, Nat.reduceMul, Nat.reduceSub, Nat.reduceLeDiff, Nat.reduceLT, hD]; simp [fitsB, hA, hB, hC, hD]; exact q4
  | true =>
  cases hE : decide (1 ≤ s.chunk) with
  | false => simp -dsimp only [go_sem, ↓reduceIte, Nat.reduceEqDiff, Nat.reduceAdd, Nat.reduceMul, Nat.reduceSub, Nat.reduceLeDiff, Nat.reduceLT, hD, b4, hE]; simp [fitsB, hA, hB, hC, hD, hE]; exact q4
  | true =>
  cases hF : decide (s.chunk ≤ 1099511627776) with
  | false => simp -dsimp only [go_sem, ↓reduceIte, Nat.reduceEqDiff, Nat.reduceAdd, Nat.reduceMul, Nat.reduceSub, Nat.reduceLeDiff, Nat.reduceLT, hD, b4, hE, hF]; simp [fitsB, hA, hB, hC, hD, hE, hF]; exact q4
  | true =>
  simp -dsimp only [go_sem, ↓reduceIte, Nat.reduceEqDiff, Nat.reduceAdd, Nat.reduceMul, Nat.reduceSub, Nat.reduceLeDiff, Nat.reduceLT, hD, b4, hE, hF]
  refine SoundP_of (inLaw s.replicas 1000 H4) ?_
  rintro _ H5 ⟨rfl, p5⟩
  have b5 := pre_get p5 b4
  have q5 := q4.trans p5
  cases hG : inB s.replicas 1000 with
  | false => simp -dsimp only [go_sem, ↓reduceIte, Nat.reduceEqDiff, Nat.reduceAdd, Nat.reduceMul, Nat.reduceSub, Nat.reduceLeDiff, Nat.reduceLT, hG]; simp [fitsB, hA, hB, hC, hD, hE, hF, hG]; exact q5
  | true =>
  simp -dsimp only [go_sem, ↓reduceIte, Nat.reduceEqDiff, Nat.reduceAdd, Nat.reduceMul, Nat.reduceSub, Nat.reduceLeDiff, Nat.reduceLT, hG, b5]
  refine SoundP_of (inLaw s.batch 1000 H5) ?_
  rintro _ H6 ⟨rfl, p6⟩
  have b6 := pre_get p6 b5
  have q6 := q5.trans p6
  cases hH : inB s.batch 1000 with
  | false => simp -dsimp only [go_sem, ↓reduceIte, Nat.reduceEqDiff, Nat.reduceAdd, Nat.reduceMul, Nat.reduceSub, Nat.reduceLeDiff, Nat.reduceLT, hH]; simp [fitsB, hA, hB, hC, hD, hE, hF, hG, hH]; exact q6
  | true =>
  simp -dsimp only [go_sem, ↓reduceIte, Nat.reduceEqDiff, Nat.reduceAdd, Nat.reduceMul, Nat.reduceSub, Nat.reduceLeDiff, Nat.reduceLT, hH, b6]
  refine SoundP_of (inLaw s.retry 1000 H6) ?_
  rintro _ H7 ⟨rfl, p7⟩
  have b7 := pre_get p7 b6
  have q7 := q6.trans p7
  cases hI : inB s.retry 1000 with
  | false => simp -dsimp only [go_sem, ↓reduceIte, Nat.reduceEqDiff, Nat.reduceAdd, Nat.reduceMul, Nat.reduceSub, Nat.reduceLeDiff, Nat.reduceLT, hI]; simp [fitsB, hA, hB, hC, hD, hE, hF, hG, hH, hI]; exact q7
  | true =>
  simp -dsimp only [go_sem, ↓reduceIte, Nat.reduceEqDiff, Nat.reduceAdd, Nat.reduceMul, Nat.reduceSub, Nat.reduceLeDiff, Nat.reduceLT, hI, b7]
  refine SoundP_of (inLaw s.retention 1000 H7) ?_
  rintro _ H8 ⟨rfl, p8⟩
  have q8 := q7.trans p8
  simp -dsimp only [go_sem, ↓reduceIte, Nat.reduceEqDiff, Nat.reduceAdd, Nat.reduceMul, Nat.reduceSub, Nat.reduceLeDiff, Nat.reduceLT]
  simp [fitsB, hA, hB, hC, hD, hE, hF, hG, hH, hI]; exact q8
theorem schemaLaw (d m : Int) (H : AHeap) : Sound Tryz.prog 18 [.agg [.int .i64 d, .int .i64 m].toArray] H fun v H' => v = .bool (schemaB d m) ∧ H <+: H' := by
  refine Sound.of_body (rs := [.tmp 2]) mixed Tryz.func18 rfl (by kernel_rfl) rfl (by kernel_rfl) ?_
  cases h1 : decide (0 ≤ d) with
  | false => simp -dsimp only [go_sem, ↓reduceIte, Nat.reduceEqDiff, Nat.reduceAdd, Nat.reduceMul, Nat.reduceSub, Nat.reduceLeDiff, Nat.reduceLT, h1]; have := dec_false h1; simp [schemaB, this]
  | true =>
    have := of_decide_eq_true h1
    cases h2 : decide (d ≤ 8) with
    | false => simp -dsimp only [go_sem, ↓reduceIte, Nat.reduceEqDiff, Nat.reduceAdd, Nat.reduceMul, Nat.reduceSub, Nat.reduceLeDiff, Nat.reduceLT, h1, h2]; have := dec_false h2; simp [schemaB, this]
    | true =>
      have := of_decide_eq_true h2
      cases h3 : decide (0 ≤ m) with
      | false => simp -dsimp only [go_sem, ↓reduceIte, Nat.reduceEqDiff, Nat.reduceAdd, Nat.reduceMul, Nat.reduceSub, Nat.reduceLeDiff, Nat.reduceLT, h1, h2, h3]; have := dec_false h3; simp [schemaB, this]
      | true =>
        have := of_decide_eq_true h3
        cases h4 : decide (m ≤ 8) with
        | false => simp -dsimp only [go_sem, ↓reduceIte, Nat.reduceEqDiff, Nat.reduceAdd, Nat.reduceMul, Nat.reduceSub, Nat.reduceLeDiff, Nat.reduceLT, h1, h2, h3, h4]; have := dec_false h4; simp [schemaB, this]
        | true =>
          have := of_decide_eq_true h4
          simp -dsimp only [go_sem, ↓reduceIte, Nat.reduceEqDiff, Nat.reduceAdd, Nat.reduceMul, Nat.reduceSub, Nat.reduceLeDiff, Nat.reduceLT, h1, h2, h3, h4]
          rw [schemaB, decide_eq_true (by omega)]
          simp
set_option maxHeartbeats 2000000 in
theorem refFits (s : SetupS) (H : AHeap) : Sound Tryz.prog 6 [s.val] H fun v H' => v = .bool (fitsB s) ∧ H <+: H' := by
  refine Sound.of_body (rs := [.tmp 2]) mixed Tryz.func6 rfl (by kernel_rfl) rfl (by kernel_rfl) ?_
  have b0 := get_end H (AObj.row s.cells 10 true) []
  have p0 := List.prefix_append H [AObj.row s.cells 10 true]
  simp -dsimp only [go_sem, ↓reduceIte, Nat.reduceEqDiff, Nat.reduceAdd, Nat.reduceMul, Nat.reduceSub, Nat.reduceLeDiff, Nat.reduceLT]
  generalize H ++ [AObj.row s.cells 10 true] = H0 at *
  refine SoundP_of (schemaLaw s.dims s.meas H0) ?_
  rintro _ H1 ⟨rfl, p1⟩
  have b1 := pre_get p1 b0
  have q1 := p0.trans p1
  cases hA : schemaB s.dims s.meas with
  | false => simp -dsimp only [go_sem, ↓reduceIte, Nat.reduceEqDiff, Nat.reduceAdd, Nat.reduceMul, Nat.reduceSub, Nat.reduceLeDiff, Nat.reduceLT, hA, b1]; exact ⟨by simp [fitsB, hA], q1⟩
  | true =>
  simp -dsimp only [go_sem, ↓reduceIte, Nat.reduceEqDiff, Nat.reduceAdd, Nat.reduceMul, Nat.reduceSub, Nat.reduceLeDiff, Nat.reduceLT, hA, b1]
  cases hs0 : decide (1 ≤ s.streams) with
  | false => simp -dsimp only [go_sem, ↓reduceIte, Nat.reduceEqDiff, Nat.reduceAdd, Nat.reduceMul, Nat.reduceSub, Nat.reduceLeDiff, Nat.reduceLT, b1, hs0]; exact ⟨congrArg Value.bool (Bool.eq_false_iff.2 fun q => absurd ((fitsB_iff s).1 q).s0 (dec_false hs0)).symm, q1⟩
  | true =>
  cases hs1 : decide (s.streams ≤ 8) with
  | false => simp -dsimp only [go_sem, ↓reduceIte, Nat.reduceEqDiff, Nat.reduceAdd, Nat.reduceMul, Nat.reduceSub, Nat.reduceLeDiff, Nat.reduceLT, b1, hs0, hs1]; exact ⟨congrArg Value.bool (Bool.eq_false_iff.2 fun q => absurd ((fitsB_iff s).1 q).s1 (dec_false hs1)).symm, q1⟩
  | true =>
  cases ht0 : decide (1 ≤ s.stores) with
  | false => simp -dsimp only [go_sem, ↓reduceIte, Nat.reduceEqDiff, Nat.reduceAdd, Nat.reduceMul, Nat.reduceSub, Nat.reduceLeDiff, Nat.reduceLT, b1, hs0, hs1, ht0]; exact ⟨congrArg Value.bool (Bool.eq_false_iff.2 fun q => absurd ((fitsB_iff s).1 q).t0 (dec_false ht0)).symm, q1⟩
  | true =>
  cases ht1 : decide (s.stores ≤ 16) with
  | false => simp -dsimp only [go_sem, ↓reduceIte, Nat.reduceEqDiff, Nat.reduceAdd, Nat.reduceMul, Nat.reduceSub, Nat.reduceLeDiff, Nat.reduceLT, b1, hs0, hs1, ht0, ht1]; exact ⟨congrArg Value.bool (Bool.eq_false_iff.2 fun q => absurd ((fitsB_iff s).1 q).t1 (dec_false ht1)).symm, q1⟩
  | true =>
  cases hl0 : decide (1 ≤ s.leaders) with
  | false => simp -dsimp only [go_sem, ↓reduceIte, Nat.reduceEqDiff, Nat.reduceAdd, Nat.reduceMul, Nat.reduceSub, Nat.reduceLeDiff, Nat.reduceLT, b1, hs0, hs1, ht0, ht1, hl0]; exact ⟨congrArg Value.bool (Bool.eq_false_iff.2 fun q => absurd ((fitsB_iff s).1 q).l0 (dec_false hl0)).symm, q1⟩
  | true =>
  cases hl1 : decide (s.leaders ≤ 16) with
  | false => simp -dsimp only [go_sem, ↓reduceIte, Nat.reduceEqDiff, Nat.reduceAdd, Nat.reduceMul, Nat.reduceSub, Nat.reduceLeDiff, Nat.reduceLT, b1, hs0, hs1, ht0, ht1, hl0, hl1]; exact ⟨congrArg Value.bool (Bool.eq_false_iff.2 fun q => absurd ((fitsB_iff s).1 q).l1 (dec_false hl1)).symm, q1⟩
  | true =>
  cases hc0 : decide (1 ≤ s.chunk) with
  | false => simp -dsimp only [go_sem, ↓reduceIte, Nat.reduceEqDiff, Nat.reduceAdd, Nat.reduceMul, Nat.reduceSub, Nat.reduceLeDiff, Nat.reduceLT, b1, hs0, hs1, ht0, ht1, hl0, hl1, hc0]; exact ⟨congrArg Value.bool (Bool.eq_false_iff.2 fun q => absurd ((fitsB_iff s).1 q).c0 (dec_false hc0)).symm, q1⟩
  | true =>
  cases hc1 : decide (s.chunk ≤ 1099511627776) with
  | false => simp -dsimp only [go_sem, ↓reduceIte, Nat.reduceEqDiff, Nat.reduceAdd, Nat.reduceMul, Nat.reduceSub, Nat.reduceLeDiff, Nat.reduceLT, b1, hs0, hs1, ht0, ht1, hl0, hl1, hc0, hc1]; exact ⟨congrArg Value.bool (Bool.eq_false_iff.2 fun q => absurd ((fitsB_iff s).1 q).c1 (dec_false hc1)).symm, q1⟩
  | true =>
  cases hr0 : decide (1 ≤ s.replicas) with
  | false => simp -dsimp only [go_sem, ↓reduceIte, Nat.reduceEqDiff, Nat.reduceAdd, Nat.reduceMul, Nat.reduceSub, Nat.reduceLeDiff, Nat.reduceLT, b1, hs0, hs1, ht0, ht1, hl0, hl1, hc0, hc1, hr0]; exact ⟨congrArg Value.bool (Bool.eq_false_iff.2 fun q => absurd ((fitsB_iff s).1 q).r0 (dec_false hr0)).symm, q1⟩
  | true =>
  cases hr1 : decide (s.replicas ≤ 1000) with
  | false => simp -dsimp only [go_sem, ↓reduceIte, Nat.reduceEqDiff, Nat.reduceAdd, Nat.reduceMul, Nat.reduceSub, Nat.reduceLeDiff, Nat.reduceLT, b1, hs0, hs1, ht0, ht1, hl0, hl1, hc0, hc1, hr0, hr1]; exact ⟨congrArg Value.bool (Bool.eq_false_iff.2 fun q => absurd ((fitsB_iff s).1 q).r1 (dec_false hr1)).symm, q1⟩
  | true =>
  cases hb0 : decide (1 ≤ s.batch) with
  | false => simp -dsimp only [go_sem, ↓reduceIte, Nat.reduceEqDiff, Nat.reduceAdd, Nat.reduceMul, Nat.reduceSub, Nat.reduceLeDiff, Nat.reduceLT, b1, hs0, hs1, ht0, ht1, hl0, hl1, hc0, hc1, hr0, hr1, hb0]; exact ⟨congrArg Value.bool (Bool.eq_false_iff.2 fun q => absurd ((fitsB_iff s).1 q).b0 (dec_false hb0)).symm, q1⟩
  | true =>
  cases hb1 : decide (s.batch ≤ 1000) with
  | false => simp -dsimp only [go_sem, ↓reduceIte, Nat.reduceEqDiff, Nat.reduceAdd, Nat.reduceMul, Nat.reduceSub, Nat.reduceLeDiff, Nat.reduceLT, b1, hs0, hs1, ht0, ht1, hl0, hl1, hc0, hc1, hr0, hr1, hb0, hb1]; exact ⟨congrArg Value.bool (Bool.eq_false_iff.2 fun q => absurd ((fitsB_iff s).1 q).b1 (dec_false hb1)).symm, q1⟩
  | true =>
  cases hy0 : decide (1 ≤ s.retry) with
  | false => simp -dsimp only [go_sem, ↓reduceIte, Nat.reduceEqDiff, Nat.reduceAdd, Nat.reduceMul, Nat.reduceSub, Nat.reduceLeDiff, Nat.reduceLT, b1, hs0, hs1, ht0, ht1, hl0, hl1, hc0, hc1, hr0, hr1, hb0, hb1, hy0]; exact ⟨congrArg Value.bool (Bool.eq_false_iff.2 fun q => absurd ((fitsB_iff s).1 q).y0 (dec_false hy0)).symm, q1⟩
  | true =>
  cases hy1 : decide (s.retry ≤ 1000) with
  | false => simp -dsimp only [go_sem, ↓reduceIte, Nat.reduceEqDiff, Nat.reduceAdd, Nat.reduceMul, Nat.reduceSub, Nat.reduceLeDiff, Nat.reduceLT, b1, hs0, hs1, ht0, ht1, hl0, hl1, hc0, hc1, hr0, hr1, hb0, hb1, hy0, hy1]; exact ⟨congrArg Value.bool (Bool.eq_false_iff.2 fun q => absurd ((fitsB_iff s).1 q).y1 (dec_false hy1)).symm, q1⟩
  | true =>
  cases hn0 : decide (1 ≤ s.retention) with
  | false => simp -dsimp only [go_sem, ↓reduceIte, Nat.reduceEqDiff, Nat.reduceAdd, Nat.reduceMul, Nat.reduceSub, Nat.reduceLeDiff, Nat.reduceLT, b1, hs0, hs1, ht0, ht1, hl0, hl1, hc0, hc1, hr0, hr1, hb0, hb1, hy0, hy1, hn0]; exact ⟨congrArg Value.bool (Bool.eq_false_iff.2 fun q => absurd ((fitsB_iff s).1 q).n0 (dec_false hn0)).symm, q1⟩
  | true =>
  cases hn1 : decide (s.retention ≤ 1000) with
  | false => simp -dsimp only [go_sem, ↓reduceIte, Nat.reduceEqDiff, Nat.reduceAdd, Nat.reduceMul, Nat.reduceSub, Nat.reduceLeDiff, Nat.reduceLT, b1, hs0, hs1, ht0, ht1, hl0, hl1, hc0, hc1, hr0, hr1, hb0, hb1, hy0, hy1, hn0, hn1]; exact ⟨congrArg Value.bool (Bool.eq_false_iff.2 fun q => absurd ((fitsB_iff s).1 q).n1 (dec_false hn1)).symm, q1⟩
  | true =>
  simp -dsimp only [go_sem, ↓reduceIte, Nat.reduceEqDiff, Nat.reduceAdd, Nat.reduceMul, Nat.reduceSub, Nat.reduceLeDiff, Nat.reduceLT, b1, hs0, hs1, ht0, ht1, hl0, hl1, hc0, hc1, hr0, hr1, hb0, hb1, hy0, hy1, hn0, hn1]
  refine ⟨congrArg Value.bool ((fitsB_iff s).2 ?_).symm, q1⟩
  have hA' : 0 ≤ s.dims ∧ s.dims ≤ 8 ∧ 0 ≤ s.meas ∧ s.meas ≤ 8 := by simpa [schemaB] using hA
  exact ⟨hA'.1, hA'.2.1, hA'.2.2.1, hA'.2.2.2, of_decide_eq_true hs0, of_decide_eq_true hs1, of_decide_eq_true ht0, of_decide_eq_true ht1, of_decide_eq_true hl0, of_decide_eq_true hl1, of_decide_eq_true hc0, of_decide_eq_true hc1, of_decide_eq_true hr0, of_decide_eq_true hr1, of_decide_eq_true hb0, of_decide_eq_true hb1, of_decide_eq_true hy0, of_decide_eq_true hy1, of_decide_eq_true hn0, of_decide_eq_true hn1⟩
end Go.Proofs.YtpehfhnmcpdllaaGreatDoor
