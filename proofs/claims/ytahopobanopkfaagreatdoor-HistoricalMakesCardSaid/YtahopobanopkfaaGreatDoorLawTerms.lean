/-
  HistoricalTerms: the walk.
-/
import Derived.Test.YtahopobanopkfaaGreatDoorAwake
import Derived.Test.YtahopobanopkfaaGreatDoorHist
import Derived.Test.YtahopobanopkfaaGreatDoorAwTop
set_option linter.unusedVariables false
set_option linter.unusedSimpArgs false
namespace Go.Proofs.YtahopobanopkfaaGreatDoor
open Go Go.AW
set_option linter.unusedSimpArgs false
set_option maxRecDepth 20000

abbrev encI (n : Int) : List Value := [.int .i64 n]
attribute [go_sem] encI
theorem NodeAt.pre {b n : Nat} {H H' : AHeap} {s : SetupS} {l : List Nat} {term : Int} (h : NodeAt b H n s l term) (hp : H <+: H') : NodeAt b H' n s l term := by
  obtain ⟨⟨q, m, v, hr, ho⟩, hge⟩ := h
  exact ⟨⟨q, m, v, pre_get hp hr, ho.pre hp⟩, hge⟩
theorem termN {b n : Nat} {H : AHeap} {s : SetupS} {l : List Nat} {term : Int} (h : NodeAt b H n s l term) : Sound Tryz.prog 10 [ptrV n] H fun v H' => v = .int .i64 term ∧ H' = H := by
  obtain ⟨⟨q, m, v, hr, ho⟩, hge⟩ := h
  exact termLaw hr
theorem waitN {b n : Nat} {H : AHeap} {s : SetupS} {l : List Nat} {term : Int} (h : NodeAt b H n s l term) : Sound Tryz.prog 11 [ptrV n] H fun v H' => v = .int .i64 l.length ∧ H' = H := by
  obtain ⟨⟨q, m, v, hr, ho⟩, hge⟩ := h
  obtain ⟨a, c, rfl, -⟩ := ho.sl (fun _ => rfl)
  exact waitLaw hr
theorem lt_app {l : List Nat} {j : Nat} (h : ∀ x ∈ l, x < j) : ∀ x ∈ l ++ [j], x < j + 1 := fun x hx => by
  rcases List.mem_append.1 hx with q | q
  · have := h x q; omega
  · have := List.mem_singleton.1 q; omega
theorem bneI (i : Int) : (i != i) = false := by simp
set_option maxHeartbeats 2000000 in
theorem historicalTerms (s : SetupS) (hs : SetupI s) (ts ns : List Int) (a1 a2 : Option Addr) (c1 c2 : Nat) (H : AHeap) (h1 : SlA H encI 1 a1 ts) (h2 : SlA H encI 1 a2 ns) (g1 : ArgSl a1 ts.length c1) (g2 : ArgSl a2 ns.length c2) :
    Sound Tryz.prog 3 [s.val, .slice a1 ts.length c1, .slice a2 ns.length c2] H fun v _ => v = .bool true := by
  refine Sound.of_body (rs := [.tmp 6]) mixed Tryz.func3 rfl (by kernel_rfl) rfl (by kernel_rfl) ?_
  have b0 := get_end H (AObj.row s.cells 10 true) []
  have p0 := List.prefix_append H [AObj.row s.cells 10 true]
  have h1' := h1.pre p0
  have h2' := h2.pre p0
  simp -dsimp only [go_sem, ↓reduceIte, Nat.reduceEqDiff, Nat.reduceAdd, Nat.reduceMul, Nat.reduceSub, Nat.reduceLeDiff, Nat.reduceLT]
  generalize H ++ [AObj.row s.cells 10 true] = H0 at *
  refine SoundP_of (awakeLaw H0) ?_
  rintro _ K ⟨rfl, hK⟩
  rw [hK]
  simp -dsimp only [go_sem, ↓reduceIte, Nat.reduceEqDiff, Nat.reduceAdd, Nat.reduceMul, Nat.reduceSub, Nat.reduceLeDiff, Nat.reduceLT, b0]
  refine SoundP_of (setupLaw s hs H0) ?_
  have hf := small_fits s
  generalize smallS s = r at *
  rintro _ H1 ⟨rfl, p1⟩
  simp -dsimp only [go_sem, ↓reduceIte, Nat.reduceEqDiff, Nat.reduceAdd, Nat.reduceMul, Nat.reduceSub, Nat.reduceLeDiff, Nat.reduceLT]
  refine adrawnP_of2 [(0, false), (1, true), (2, false), (3, false), (4, false), (5, false), (6, false), (7, false)] (by kernel_rfl) ?_
  simp -dsimp only [go_sem, ↓reduceIte, Nat.reduceEqDiff, Nat.reduceAdd, Nat.reduceMul, Nat.reduceSub, Nat.reduceLeDiff, Nat.reduceLT]
  refine SoundP_of (diskNew _) ?_
  rintro _ H2 ⟨rfl, p2, hd⟩
  refine grown_of p2 ?_
  have b2 := pre_get p2 (get_end H1 (AObj.row r.cells 10 true) [])
  have hd' : DiskE H2 (H1.length + 1 + 1) (H1.length + 1) 0 false := by simpa only [List.length_append, List.length_cons, List.length_nil] using hd
  simp -dsimp only [go_sem, ↓reduceIte, Nat.reduceEqDiff, Nat.reduceAdd, Nat.reduceMul, Nat.reduceSub, Nat.reduceLeDiff, Nat.reduceLT, b2]
  refine SoundP_of (newLaw r 21 hd') ?_
  have hfit := (fitsB_iff r).2 hf
  have hmay : mayB r 21 = true := by simp only [mayB, hfit, Bool.true_and, Bool.and_eq_true, decide_eq_true_eq]; have := hf.t0; omega
  rintro v H3 ⟨p3, hv⟩
  rcases hv with ⟨h, -⟩ | ⟨-, h, -⟩ | ⟨-, -, n, q, m1, rfl, hge, hn, -⟩
  · rw [hmay] at h; cases h
  · cases h
  simp -dsimp only [go_sem, ↓reduceIte, Nat.reduceEqDiff, Nat.reduceAdd, Nat.reduceMul, Nat.reduceSub, Nat.reduceLeDiff, Nat.reduceLT, Int.reduceBNe]
  have q3 : H <+: H3 := p0.trans (p1.trans ((List.prefix_append _ _).trans (p2.trans p3)))
  have ln : H.length ≤ n := Nat.le_trans (pre_len (p0.trans (p1.trans ((List.prefix_append _ _).trans p2)))) hge
  have nB : n < H3.length := get_lt hn
  refine aloopP_of (fun k T H' => ∃ (j : Nat) (l : List Nat) (m : Int), k = 60 - j ∧ j ≤ 60 ∧ H <+: H' ∧ H3.length ≤ H'.length ∧ NodeAt H3.length H' n r l m ∧ (∀ x ∈ l, x < j) ∧ l.length ≤ j ∧ T 1 = .slice a1 ts.length c1 ∧ T 2 = .slice a2 ns.length c2 ∧ T 9 = ptrV n ∧ T 11 = .int .i64 m ∧ T 12 = .int .i64 (l.length : Nat) ∧ T 13 = .int .i64 (j : Nat)) (n := 60) ?_ ?_
  · refine ⟨0, [], 0, ?_⟩
    simp -dsimp only [go_sem, ↓reduceIte, Nat.reduceEqDiff, Nat.reduceAdd, Nat.reduceMul, Nat.reduceSub, Nat.reduceLeDiff, Nat.reduceLT]
    exact ⟨q3, ⟨⟨_, _, _, hn, Own.nil _ _ _ _⟩, nB⟩, (fun _ h => nomatch h), rfl⟩
  · rintro k T H' ⟨j, l, m, rfl, hj, qH, lH, nd, hlt, hll, e1, e2, e9, e11, e12, e13⟩
    cases hA : decide ((j : Int) < (ts.length : Nat)) with
    | false => simp -dsimp only [go_sem, ↓reduceIte, Nat.reduceEqDiff, Nat.reduceAdd, Nat.reduceMul, Nat.reduceSub, Nat.reduceLeDiff, Nat.reduceLT, e1, e2, e9, e11, e12, e13, hA]
    | true =>
    cases hB : decide ((j : Int) < (ns.length : Nat)) with
    | false => simp -dsimp only [go_sem, ↓reduceIte, Nat.reduceEqDiff, Nat.reduceAdd, Nat.reduceMul, Nat.reduceSub, Nat.reduceLeDiff, Nat.reduceLT, e1, e2, e9, e11, e12, e13, hA, hB]
    | true =>
    cases hC : decide ((j : Int) < 60) with
    | false => simp -dsimp only [go_sem, ↓reduceIte, Nat.reduceEqDiff, Nat.reduceAdd, Nat.reduceMul, Nat.reduceSub, Nat.reduceLeDiff, Nat.reduceLT, e1, e2, e9, e11, e12, e13, hA, hB, hC]
    | true =>
    have hA' : j < ts.length := by have := of_decide_eq_true hA; omega
    have hB' : j < ns.length := by have := of_decide_eq_true hB; omega
    have hC' : j < 60 := by have := of_decide_eq_true hC; omega
    obtain ⟨t, ht⟩ := get_ex hA'
    obtain ⟨nd0, hn0⟩ := get_ex hB'
    obtain ⟨id1, off1, rfl, hat1⟩ := (h1.pre qH).at (by omega)
    obtain ⟨id2, off2, rfl, hat2⟩ := (h2.pre qH).at (by omega)
    simp -dsimp only [go_sem, ↓reduceIte, Nat.reduceEqDiff, Nat.reduceAdd, Nat.reduceMul, Nat.reduceSub, Nat.reduceLeDiff, Nat.reduceLT, e1, e2, e9, e11, e12, e13, hA, hB, hC, inRange hB', inRange hA', rowLoad_one0 (hat1 j t ht), rowLoad_one0 (hat2 j nd0 hn0)]
    have p4 := List.prefix_append H' [AObj.row (ordC nd0 j) 7 true]
    obtain ⟨_, _, e, hat1'⟩ := (h1.pre (qH.trans p4)).at (by omega)
    cases e
    refine adrawnP_of2 [(0, false), (1, false), (2, false), (3, false), (4, false), (5, false), (6, false), (7, false)] (by kernel_rfl) ?_
    simp -dsimp only [go_sem, ↓reduceIte, Nat.reduceEqDiff, Nat.reduceAdd, Nat.reduceMul, Nat.reduceSub, Nat.reduceLeDiff, Nat.reduceLT, e1, e2, e9, e11, e12, e13, inRange hA', rowLoad_one0 (hat1' j t ht)]
    refine SoundP_of (handleLaw (nd.pre p4) j t nd0 (by simp; omega) (by omega) (fun x hx => by have := hlt x hx; omega)) ?_
    rintro u H5 ⟨fr, l5, nd5⟩
    have q5 : H <+: H5 := List.prefix_iff_getElem?.2 fun i hi => by
      rw [fr i (by omega) (by omega)]
      exact pre_get (qH.trans p4) (by simp [hi])
    obtain ⟨_, _, e, hat1''⟩ := (h1.pre q5).at (by omega)
    cases e
    obtain ⟨_, _, e, hat2'⟩ := (h2.pre q5).at (by omega)
    cases e
    have l6 : H3.length ≤ H5.length := by simp at l5; omega
    cases hD : (nd0 == 21) with
    | false =>
      have hD' : nd0 ≠ 21 := by simpa using hD
      rw [if_neg (fun h => hD' h.2)] at nd5
      simp -dsimp only [go_sem, ↓reduceIte, Nat.reduceEqDiff, Nat.reduceAdd, Nat.reduceMul, Nat.reduceSub, Nat.reduceLeDiff, Nat.reduceLT, e1, e2, e9, e11, e12, e13, inRange hB', rowLoad_one0 (hat2' j nd0 hn0), hD]
      refine SoundP_of (termN nd5) ?_
      rintro _ _ ⟨rfl, rfl⟩
      simp -dsimp only [go_sem, ↓reduceIte, Nat.reduceEqDiff, Nat.reduceAdd, Nat.reduceMul, Nat.reduceSub, Nat.reduceLeDiff, Nat.reduceLT, e1, e2, e9, e11, e12, e13, bneI]
      refine SoundP_of (waitN nd5) ?_
      rintro _ _ ⟨rfl, rfl⟩
      simp -dsimp only [go_sem, ↓reduceIte, Nat.reduceEqDiff, Nat.reduceAdd, Nat.reduceMul, Nat.reduceSub, Nat.reduceLeDiff, Nat.reduceLT, e1, e2, e9, e11, e12, e13, bneI, wrS (show j < 4611686018427387904 by omega)]
      exact ⟨_, by omega, j + 1, l, m, rfl, by omega, q5, l6, nd5, fun x hx => by have := hlt x hx; omega, by omega, rfl, rfl, rfl⟩
    | true =>
    obtain rfl : nd0 = 21 := by simpa using hD
    cases hE : decide (m ≤ t) with
    | false =>
      have hE' := dec_false hE
      rw [if_neg (fun h => hE' h.1)] at nd5
      simp -dsimp only [go_sem, ↓reduceIte, Nat.reduceEqDiff, Nat.reduceAdd, Nat.reduceMul, Nat.reduceSub, Nat.reduceLeDiff, Nat.reduceLT, e1, e2, e9, e11, e12, e13, inRange hB', rowLoad_one0 (hat2' j 21 hn0), hD, inRange hA', rowLoad_one0 (hat1'' j t ht), hE]
      refine SoundP_of (termN nd5) ?_
      rintro _ _ ⟨rfl, rfl⟩
      simp -dsimp only [go_sem, ↓reduceIte, Nat.reduceEqDiff, Nat.reduceAdd, Nat.reduceMul, Nat.reduceSub, Nat.reduceLeDiff, Nat.reduceLT, e1, e2, e9, e11, e12, e13, bneI]
      refine SoundP_of (waitN nd5) ?_
      rintro _ _ ⟨rfl, rfl⟩
      simp -dsimp only [go_sem, ↓reduceIte, Nat.reduceEqDiff, Nat.reduceAdd, Nat.reduceMul, Nat.reduceSub, Nat.reduceLeDiff, Nat.reduceLT, e1, e2, e9, e11, e12, e13, bneI, wrS (show j < 4611686018427387904 by omega)]
      exact ⟨_, by omega, j + 1, l, m, rfl, by omega, q5, l6, nd5, fun x hx => by have := hlt x hx; omega, by omega, rfl, rfl, rfl⟩
    | true =>
      have hE' := of_decide_eq_true hE
      rw [if_pos ⟨hE', rfl⟩] at nd5
      simp -dsimp only [go_sem, ↓reduceIte, Nat.reduceEqDiff, Nat.reduceAdd, Nat.reduceMul, Nat.reduceSub, Nat.reduceLeDiff, Nat.reduceLT, e1, e2, e9, e11, e12, e13, inRange hB', rowLoad_one0 (hat2' j 21 hn0), hD, inRange hA', rowLoad_one0 (hat1'' j t ht), hE, wrS (show l.length < 4611686018427387904 by omega)]
      refine SoundP_of (termN nd5) ?_
      rintro _ _ ⟨rfl, rfl⟩
      simp -dsimp only [go_sem, ↓reduceIte, Nat.reduceEqDiff, Nat.reduceAdd, Nat.reduceMul, Nat.reduceSub, Nat.reduceLeDiff, Nat.reduceLT, e1, e2, e9, e11, e12, e13, bneI]
      refine SoundP_of (waitN nd5) ?_
      rintro _ _ ⟨rfl, rfl⟩
      have gl : (l ++ [j]).length = l.length + 1 := by simp
      simp -dsimp only [go_sem, ↓reduceIte, Nat.reduceEqDiff, Nat.reduceAdd, Nat.reduceMul, Nat.reduceSub, Nat.reduceLeDiff, Nat.reduceLT, e1, e2, e9, e11, e12, e13, bneI, gl, wrS (show j < 4611686018427387904 by omega)]
      exact ⟨_, by omega, j + 1, l ++ [j], t, rfl, by omega, q5, l6, nd5, lt_app hlt, by rw [gl]; omega, rfl, by rw [gl], rfl⟩
/-! ### how what is handed in is read -/
theorem decInt : ∀ cs, AW.Fits [.int .i64] cs → ∃ n : Int, cs = encI n ∧ True := by
  intro cs h
  obtain ⟨v0, r1, rfl, ⟨n0, rfl, w0⟩, h1⟩ := h.cons
  obtain rfl := h1.end_
  exact ⟨n0, rfl, trivial⟩
theorem inI_of {n : Int} (h : (Lit.int .i64 n).wf = true) : InI n := by
  simp [Lit.wf, IntKind.min, IntKind.max, IntKind.bits, IntKind.signed] at h
  unfold InI; omega
theorem decSetup : ∀ cs, AW.Fits [.int .i64, .int .i64, .int .i64, .int .i64, .int .i64, .int .i64, .int .i64, .int .i64, .int .i64, .int .i64] cs → ∃ s : SetupS, cs = s.cells ∧ SetupI s := by
  intro cs h
  obtain ⟨v0, r1, rfl, ⟨n0, rfl, w0⟩, h1⟩ := h.cons
  obtain ⟨v1, r2, rfl, ⟨n1, rfl, w1⟩, h2⟩ := h1.cons
  obtain ⟨v2, r3, rfl, ⟨n2, rfl, w2⟩, h3⟩ := h2.cons
  obtain ⟨v3, r4, rfl, ⟨n3, rfl, w3⟩, h4⟩ := h3.cons
  obtain ⟨v4, r5, rfl, ⟨n4, rfl, w4⟩, h5⟩ := h4.cons
  obtain ⟨v5, r6, rfl, ⟨n5, rfl, w5⟩, h6⟩ := h5.cons
  obtain ⟨v6, r7, rfl, ⟨n6, rfl, w6⟩, h7⟩ := h6.cons
  obtain ⟨v7, r8, rfl, ⟨n7, rfl, w7⟩, h8⟩ := h7.cons
  obtain ⟨v8, r9, rfl, ⟨n8, rfl, w8⟩, h9⟩ := h8.cons
  obtain ⟨v9, r10, rfl, ⟨n9, rfl, w9⟩, h10⟩ := h9.cons
  obtain rfl := h10.end_
  exact ⟨⟨n0, n1, n2, n3, n4, n5, n6, n7, n8, n9⟩, rfl, inI_of w0, inI_of w1, inI_of w2, inI_of w3, inI_of w4, inI_of w5, inI_of w6, inI_of w7, inI_of w8, inI_of w9⟩
end Go.Proofs.YtahopobanopkfaaGreatDoor
