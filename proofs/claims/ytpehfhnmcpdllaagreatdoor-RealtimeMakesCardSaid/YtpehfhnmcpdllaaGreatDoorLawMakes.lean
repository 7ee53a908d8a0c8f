/-
  RealtimeMakes: the walk.
-/
import Derived.Test.YtpehfhnmcpdllaaGreatDoorAwake
import Derived.Test.YtpehfhnmcpdllaaGreatDoorAsk
import Derived.Test.YtpehfhnmcpdllaaGreatDoorAwTop
set_option linter.unusedVariables false
set_option linter.unusedSimpArgs false
namespace Go.Proofs.YtpehfhnmcpdllaaGreatDoor
open Go Go.AW
set_option linter.unusedSimpArgs false
set_option maxRecDepth 20000

theorem NodeAt.pre {H H' : AHeap} {n : Nat} {x : Int} (h : NodeAt H n x) (hp : H <+: H') : NodeAt H' n x := by
  obtain ⟨q, ⟨pre, hl, hn⟩, d, m, c, hq⟩ := h
  exact ⟨q, ⟨pre, hl, pre_get hp hn⟩, d, m, c, pre_get hp hq⟩
set_option maxHeartbeats 2000000 in
theorem realtimeMakes (s : SetupS) (stream : Int) (ofs : List Int) (away : Int) (a : Option Addr) (c : Nat) (H : AHeap) (hs : SlA H encU 1 a ofs) (ga : ArgSl a ofs.length c) (hw : ∀ x ∈ ofs, 0 ≤ x) (ha : InI away) :
    Sound Tryz.prog 3 [s.val, .int .i64 stream, .slice a ofs.length c, .int .i64 away] H fun v _ => v = .bool true := by
  refine Sound.of_body (rs := [.tmp 8]) mixed Tryz.func3 rfl (by kernel_rfl) rfl (by kernel_rfl) ?_
  have b0 := get_end H (AObj.row s.cells 10 true) []
  have p0 := List.prefix_append H [AObj.row s.cells 10 true]
  simp -dsimp only [go_sem, ↓reduceIte, Nat.reduceEqDiff, Nat.reduceAdd, Nat.reduceMul, Nat.reduceSub, Nat.reduceLeDiff, Nat.reduceLT]
  generalize H ++ [AObj.row s.cells 10 true] = H0 at *
  refine SoundP_of (awakeLaw H0) ?_
  rintro _ K ⟨rfl, hK⟩
  rw [hK]
  simp -dsimp only [go_sem, ↓reduceIte, Nat.reduceEqDiff, Nat.reduceAdd, Nat.reduceMul, Nat.reduceSub, Nat.reduceLeDiff, Nat.reduceLT, b0]
  refine SoundP_of (absLaw2 away _ ha) ?_
  rintro _ K2 ⟨rfl, hK2⟩
  rw [hK2]
  generalize hz : absZ away = z at *
  simp -dsimp only [go_sem, ↓reduceIte, Nat.reduceEqDiff, Nat.reduceAdd, Nat.reduceMul, Nat.reduceSub, Nat.reduceLeDiff, Nat.reduceLT, Int.reduceEq]
  generalize hoff : (z.tmod 2 == 1) = off at *
  have hs0 := hs.pre p0
  have lH0 := get_lt b0
  refine aloop_join (fun T H' => ∃ l : List Int, l.length ≤ 10 ∧ (∀ x ∈ l, 0 ≤ x ∧ x < 1099511627776) ∧ H0 <+: H' ∧ BookAt (H0.length + 1) H' H0.length off 0 l ∧ T 1 = .int .i64 stream ∧ T 3 = .int .i64 away ∧ T 4 = ptrV H.length ∧ T 10 = ptrV H0.length)
    (fun k T H' => ∃ (j : Nat) (l : List Int), k = 10 - j ∧ j ≤ 10 ∧ l.length = j ∧ (∀ x ∈ l, 0 ≤ x ∧ x < 1099511627776) ∧ H0 <+: H' ∧ BookAt (H0.length + 1) H' H0.length off 0 l ∧ T 1 = .int .i64 stream ∧ T 2 = .slice a ofs.length c ∧ T 3 = .int .i64 away ∧ T 4 = ptrV H.length ∧ T 10 = ptrV H0.length ∧ T 11 = .int .i64 (j : Nat)) (n := 10) ?_ ?_ ?_
  · refine ⟨0, [], ?_⟩
    simp -dsimp only [go_sem, ↓reduceIte, Nat.reduceEqDiff, Nat.reduceAdd, Nat.reduceMul, Nat.reduceSub, Nat.reduceLeDiff, Nat.reduceLT]
    exact ⟨(fun _ h => nomatch h), List.prefix_append _ _, ⟨⟨_, get_end _ _ _, Own.nil _ _ _ _⟩, by omega⟩, rfl⟩
  · rintro k T H' ⟨j, l, rfl, hj, hl, hb, q, bk, h1, h2, h3, h4, h10, h11⟩
    cases hA : decide ((j : Int) < (ofs.length : Nat)) with
    | false =>
      simp -dsimp only [go_sem, ↓reduceIte, Nat.reduceEqDiff, Nat.reduceAdd, Nat.reduceMul, Nat.reduceSub, Nat.reduceLeDiff, Nat.reduceLT, h1, h2, h3, h4, h10, h11, hA]
      exact ⟨l, by omega, hb, q, bk⟩
    | true =>
    cases hC : decide ((j : Int) < 10) with
    | false =>
      simp -dsimp only [go_sem, ↓reduceIte, Nat.reduceEqDiff, Nat.reduceAdd, Nat.reduceMul, Nat.reduceSub, Nat.reduceLeDiff, Nat.reduceLT, h1, h2, h3, h4, h10, h11, hA, hC]
      exact ⟨l, by omega, hb, q, bk⟩
    | true =>
    have hA' : j < ofs.length := by have := of_decide_eq_true hA; omega
    have hC' : j < 10 := by have := of_decide_eq_true hC; omega
    obtain ⟨x, hx⟩ := get_ex hA'
    obtain ⟨⟨ow, hr, ho⟩, hlt⟩ := bk
    obtain ⟨id, o, rfl, hat⟩ := (hs0.pre q).at (by omega)
    simp -dsimp only [go_sem, ↓reduceIte, Nat.reduceEqDiff, Nat.reduceAdd, Nat.reduceMul, Nat.reduceSub, Nat.reduceLeDiff, Nat.reduceLT, h1, h2, h3, h4, h10, h11, hA, hC]
    refine adrawnP_of2 [(0, false), (1, false), (2, false), (3, false), (4, false), (5, false), (6, false), (7, false), (8, false), (9, false), (10, false), (11, false), (12, false), (13, false), (14, false), (15, false), (16, false)] (by kernel_rfl) ?_
    have hx0 := hw x (List.mem_of_getElem? hx)
    have hlt2 := get_lt hr
    obtain ⟨v3, H3, g1, g2, g3, g4, g5⟩ := Own.app1b un26 el26 inf37 rfl (by decide) (by decide) (fun _ => rfl) (fun _ => rfl) (b := H0.length + 1) (by omega) ho (x.tmod 1099511627776) (by omega)
    have r2 := get_app hr [AObj.row (encU (x.tmod 1099511627776)) 1 true]
    have r3 := (g4 H0.length (by omega) (fun h => by have := (ho.owner_ge h).1; omega)).trans hr
    obtain ⟨a3, c3, rfl, -⟩ := g2.sl (fun _ => rfl)
    simp -dsimp only [go_sem, ↓reduceIte, Nat.reduceEqDiff, Nat.reduceAdd, Nat.reduceMul, Nat.reduceSub, Nat.reduceLeDiff, Nat.reduceLT, h1, h2, h3, h4, h10, h11, hr, inRange hA', rowLoad_one0 (hat j x hx), Int.reduceEq, r2, g1, r3, wrS (show j < 4611686018427387904 by omega)]
    have gl : (l ++ [x.tmod 1099511627776]).length = l.length + 1 := by simp
    rw [gl] at g2
    refine ⟨_, by omega, j + 1, l ++ [x.tmod 1099511627776], rfl, by omega, by simp [hl], ?_, ?_, ⟨⟨.slice a3 (l.length + 1) c3, List.getElem?_set_self (get_lt r3), ?_⟩, by omega⟩, rfl⟩
    · intro y hy
      rcases List.mem_append.1 hy with h | h
      · exact hb y h
      · rw [List.mem_singleton.1 h, Int.tmod_eq_emod_of_nonneg hx0]
        exact ⟨Int.emod_nonneg _ (by omega), Int.emod_lt_of_pos _ (by omega)⟩
    · refine List.prefix_iff_getElem?.2 fun i hi => ?_
      rw [List.getElem?_set_ne (by omega), g4 i (by omega) (fun h => by have := (ho.owner_ge h).1; omega)]
      exact pre_get q (by simp [hi])
    · exact g2.keep fun i hi => List.getElem?_set_ne (by have := (g2.owner_ge hi).1; omega)
  · rintro T H1 ⟨l, hl, hb, q, bk, h1, h3, h4, h10⟩
    have b1 := pre_get q b0
    have u1 : Tryz.prog.underlying 28 = some (.pointer 36) := by kernel_rfl
    have u2 : Tryz.prog.underlying 72 = some (.pointer 75) := by kernel_rfl
    have z0 : (((0 : Nat) : Int) == (0 : Int)) = true := rfl
    have zn0 : (((0 : Nat) : Int) != (0 : Int)) = false := rfl
    simp -dsimp only [go_sem, ↓reduceIte, Nat.reduceEqDiff, Nat.reduceAdd, Nat.reduceMul, Nat.reduceSub, Nat.reduceLeDiff, Nat.reduceLT, h1, h3, h4, h10, b1]
    refine SoundP_of (refFits s H1) ?_
    rintro _ H2 ⟨rfl, p2⟩
    have b2 := pre_get p2 b1
    have bk2 := bk.pre p2
    have lb := get_lt (pre_get p2 bk.row.choose_spec.1)
    simp -dsimp only [go_sem, ↓reduceIte, Nat.reduceEqDiff, Nat.reduceAdd, Nat.reduceMul, Nat.reduceSub, Nat.reduceLeDiff, Nat.reduceLT, h1, h3, h4, h10, b2, u1]
    refine SoundP_of (newLaw s stream bk2 (by omega) (by omega) (by omega) hb) ?_
    rintro v H3 ⟨l3, f3, ⟨calls', _, bk3⟩, hv⟩
    have b3 := (f3 H.length (by omega) (by omega)).trans b2
    rcases hv with ⟨hmay, rfl⟩ | ⟨hmay, rfl, rfl⟩ | ⟨hmay, rfl, hle, rfl⟩ | ⟨hmay, rfl, k, x, n, rfl, hx, rfl, hn⟩
    · simp -dsimp only [go_sem, ↓reduceIte, Nat.reduceEqDiff, Nat.reduceAdd, Nat.reduceMul, Nat.reduceSub, Nat.reduceLeDiff, Nat.reduceLT, h1, h3, h4, h10, b3]
      refine SoundP_of (newNil s stream H3) ?_
      rintro v H4 ⟨rfl, p4⟩
      have b4 := pre_get p4 b3
      simp -dsimp only [go_sem, ↓reduceIte, Nat.reduceEqDiff, Nat.reduceAdd, Nat.reduceMul, Nat.reduceSub, Nat.reduceLeDiff, Nat.reduceLT, h1, h3, h4, h10]
      refine SoundP_of (sealN _) ?_
      rintro _ K3 hK3
      rw [hK3]
      simp -dsimp only [go_sem, ↓reduceIte, Nat.reduceEqDiff, Nat.reduceAdd, Nat.reduceMul, Nat.reduceSub, Nat.reduceLeDiff, Nat.reduceLT, h1, h3, h4, h10, Int.reduceBNe]
      refine SoundP_of (takenN _) ?_
      rintro _ K4 ⟨rfl, hK4⟩
      rw [hK4]
      simp -dsimp only [go_sem, ↓reduceIte, Nat.reduceEqDiff, Nat.reduceAdd, Nat.reduceMul, Nat.reduceSub, Nat.reduceLeDiff, Nat.reduceLT, h1, h3, h4, h10, Int.reduceBNe]
      refine SoundP_of (servedN _) ?_
      rintro _ H5 ⟨rfl, p5⟩
      have b5 := pre_get p5 b4
      simp -dsimp only [go_sem, ↓reduceIte, Nat.reduceEqDiff, Nat.reduceAdd, Nat.reduceMul, Nat.reduceSub, Nat.reduceLeDiff, Nat.reduceLT, h1, h3, h4, h10, zn0]
      refine SoundP_of (waitingN _) ?_
      rintro _ K5 ⟨rfl, hK5⟩
      rw [hK5]
      simp -dsimp only [go_sem, ↓reduceIte, Nat.reduceEqDiff, Nat.reduceAdd, Nat.reduceMul, Nat.reduceSub, Nat.reduceLeDiff, Nat.reduceLT, h1, h3, h4, h10, Int.reduceBNe]
      refine SoundP_of (handleN _) ?_
      rintro _ H6 ⟨rfl, p6⟩
      have b6 := pre_get p6 b5
      simp -dsimp only [go_sem, ↓reduceIte, Nat.reduceEqDiff, Nat.reduceAdd, Nat.reduceMul, Nat.reduceSub, Nat.reduceLeDiff, Nat.reduceLT, h1, h3, h4, h10, zn0, u1, u2]
      refine SoundP_of (tickN 1 _ _ _) ?_
      rintro _ H7 ⟨rfl, p7⟩
      have b7 := pre_get p7 (get_app b6 _)
      simp -dsimp only [go_sem, ↓reduceIte, Nat.reduceEqDiff, Nat.reduceAdd, Nat.reduceMul, Nat.reduceSub, Nat.reduceLeDiff, Nat.reduceLT, h1, h3, h4, h10, zn0, b7]
      cases hF : fitsB s with
      | false => simp -dsimp only [go_sem, ↓reduceIte, Nat.reduceEqDiff, Nat.reduceAdd, Nat.reduceMul, Nat.reduceSub, Nat.reduceLeDiff, Nat.reduceLT, h1, h3, h4, h10, hF, Int.reduceBEq]
      | true =>
      cases hA : decide (stream < 0) with
      | true => simp -dsimp only [go_sem, ↓reduceIte, Nat.reduceEqDiff, Nat.reduceAdd, Nat.reduceMul, Nat.reduceSub, Nat.reduceLeDiff, Nat.reduceLT, h1, h3, h4, h10, hF, hA, Int.reduceBEq]
      | false =>
      have hB : decide (s.streams ≤ stream) = true := by
        have hA' := dec_false hA
        simp only [mayB, hF, Bool.true_and, Bool.and_eq_false_iff, decide_eq_false_iff_not] at hmay
        exact decide_eq_true (by omega)
      simp -dsimp only [go_sem, ↓reduceIte, Nat.reduceEqDiff, Nat.reduceAdd, Nat.reduceMul, Nat.reduceSub, Nat.reduceLeDiff, Nat.reduceLT, h1, h3, h4, h10, hF, hA, b7, hB, Int.reduceBEq]
    · simp -dsimp only [go_sem, ↓reduceIte, Nat.reduceEqDiff, Nat.reduceAdd, Nat.reduceMul, Nat.reduceSub, Nat.reduceLeDiff, Nat.reduceLT, h1, h3, h4, h10, b3]
      refine SoundP_of (newNil s stream H3) ?_
      rintro v H4 ⟨rfl, p4⟩
      have b4 := pre_get p4 b3
      simp -dsimp only [go_sem, ↓reduceIte, Nat.reduceEqDiff, Nat.reduceAdd, Nat.reduceMul, Nat.reduceSub, Nat.reduceLeDiff, Nat.reduceLT, h1, h3, h4, h10]
      refine SoundP_of (sealN _) ?_
      rintro _ K3 hK3
      rw [hK3]
      simp -dsimp only [go_sem, ↓reduceIte, Nat.reduceEqDiff, Nat.reduceAdd, Nat.reduceMul, Nat.reduceSub, Nat.reduceLeDiff, Nat.reduceLT, h1, h3, h4, h10, Int.reduceBNe]
      refine SoundP_of (takenN _) ?_
      rintro _ K4 ⟨rfl, hK4⟩
      rw [hK4]
      simp -dsimp only [go_sem, ↓reduceIte, Nat.reduceEqDiff, Nat.reduceAdd, Nat.reduceMul, Nat.reduceSub, Nat.reduceLeDiff, Nat.reduceLT, h1, h3, h4, h10, Int.reduceBNe]
      refine SoundP_of (servedN _) ?_
      rintro _ H5 ⟨rfl, p5⟩
      have b5 := pre_get p5 b4
      simp -dsimp only [go_sem, ↓reduceIte, Nat.reduceEqDiff, Nat.reduceAdd, Nat.reduceMul, Nat.reduceSub, Nat.reduceLeDiff, Nat.reduceLT, h1, h3, h4, h10, zn0]
      refine SoundP_of (waitingN _) ?_
      rintro _ K5 ⟨rfl, hK5⟩
      rw [hK5]
      simp -dsimp only [go_sem, ↓reduceIte, Nat.reduceEqDiff, Nat.reduceAdd, Nat.reduceMul, Nat.reduceSub, Nat.reduceLeDiff, Nat.reduceLT, h1, h3, h4, h10, Int.reduceBNe]
      refine SoundP_of (handleN _) ?_
      rintro _ H6 ⟨rfl, p6⟩
      have b6 := pre_get p6 b5
      simp -dsimp only [go_sem, ↓reduceIte, Nat.reduceEqDiff, Nat.reduceAdd, Nat.reduceMul, Nat.reduceSub, Nat.reduceLeDiff, Nat.reduceLT, h1, h3, h4, h10, zn0, u1, u2]
      refine SoundP_of (tickN 1 _ _ _) ?_
      rintro _ H7 ⟨rfl, p7⟩
      have b7 := pre_get p7 (get_app b6 _)
      simp only [mayB, Bool.and_eq_true, decide_eq_true_eq] at hmay
      have hF := hmay.1
      have hA : decide (stream < 0) = false := decide_eq_false (by omega)
      have hB : decide (s.streams ≤ stream) = false := decide_eq_false (by omega)
      simp -dsimp only [go_sem, ↓reduceIte, Nat.reduceEqDiff, Nat.reduceAdd, Nat.reduceMul, Nat.reduceSub, Nat.reduceLeDiff, Nat.reduceLT, h1, h3, h4, h10, zn0, b7, hF, hA, hB]
      refine SoundP_of (absLaw2 away _ ha) ?_
      rintro _ K6 ⟨rfl, hK6⟩
      rw [hK6]
      simp -dsimp only [go_sem, ↓reduceIte, Nat.reduceEqDiff, Nat.reduceAdd, Nat.reduceMul, Nat.reduceSub, Nat.reduceLeDiff, Nat.reduceLT, h1, h3, h4, h10, Int.reduceEq, hz, hoff]
      rfl
    · simp -dsimp only [go_sem, ↓reduceIte, Nat.reduceEqDiff, Nat.reduceAdd, Nat.reduceMul, Nat.reduceSub, Nat.reduceLeDiff, Nat.reduceLT, h1, h3, h4, h10, b3]
      refine SoundP_of (newNil s stream H3) ?_
      rintro v H4 ⟨rfl, p4⟩
      have b4 := pre_get p4 b3
      simp -dsimp only [go_sem, ↓reduceIte, Nat.reduceEqDiff, Nat.reduceAdd, Nat.reduceMul, Nat.reduceSub, Nat.reduceLeDiff, Nat.reduceLT, h1, h3, h4, h10]
      refine SoundP_of (sealN _) ?_
      rintro _ K3 hK3
      rw [hK3]
      simp -dsimp only [go_sem, ↓reduceIte, Nat.reduceEqDiff, Nat.reduceAdd, Nat.reduceMul, Nat.reduceSub, Nat.reduceLeDiff, Nat.reduceLT, h1, h3, h4, h10, Int.reduceBNe]
      refine SoundP_of (takenN _) ?_
      rintro _ K4 ⟨rfl, hK4⟩
      rw [hK4]
      simp -dsimp only [go_sem, ↓reduceIte, Nat.reduceEqDiff, Nat.reduceAdd, Nat.reduceMul, Nat.reduceSub, Nat.reduceLeDiff, Nat.reduceLT, h1, h3, h4, h10, Int.reduceBNe]
      refine SoundP_of (servedN _) ?_
      rintro _ H5 ⟨rfl, p5⟩
      have b5 := pre_get p5 b4
      simp -dsimp only [go_sem, ↓reduceIte, Nat.reduceEqDiff, Nat.reduceAdd, Nat.reduceMul, Nat.reduceSub, Nat.reduceLeDiff, Nat.reduceLT, h1, h3, h4, h10, zn0]
      refine SoundP_of (waitingN _) ?_
      rintro _ K5 ⟨rfl, hK5⟩
      rw [hK5]
      simp -dsimp only [go_sem, ↓reduceIte, Nat.reduceEqDiff, Nat.reduceAdd, Nat.reduceMul, Nat.reduceSub, Nat.reduceLeDiff, Nat.reduceLT, h1, h3, h4, h10, Int.reduceBNe]
      refine SoundP_of (handleN _) ?_
      rintro _ H6 ⟨rfl, p6⟩
      have b6 := pre_get p6 b5
      simp -dsimp only [go_sem, ↓reduceIte, Nat.reduceEqDiff, Nat.reduceAdd, Nat.reduceMul, Nat.reduceSub, Nat.reduceLeDiff, Nat.reduceLT, h1, h3, h4, h10, zn0, u1, u2]
      refine SoundP_of (tickN 1 _ _ _) ?_
      rintro _ H7 ⟨rfl, p7⟩
      have b7 := pre_get p7 (get_app b6 _)
      simp only [mayB, Bool.and_eq_true, decide_eq_true_eq] at hmay
      have hF := hmay.1
      have hA : decide (stream < 0) = false := decide_eq_false (by omega)
      have hB : decide (s.streams ≤ stream) = false := decide_eq_false (by omega)
      simp -dsimp only [go_sem, ↓reduceIte, Nat.reduceEqDiff, Nat.reduceAdd, Nat.reduceMul, Nat.reduceSub, Nat.reduceLeDiff, Nat.reduceLT, h1, h3, h4, h10, zn0, b7, hF, hA, hB]
      refine SoundP_of (absLaw2 away _ ha) ?_
      rintro _ K6 ⟨rfl, hK6⟩
      rw [hK6]
      simp -dsimp only [go_sem, ↓reduceIte, Nat.reduceEqDiff, Nat.reduceAdd, Nat.reduceMul, Nat.reduceSub, Nat.reduceLeDiff, Nat.reduceLT, h1, h3, h4, h10, Int.reduceEq, hz, hoff]
      have p37 := p4.trans (p5.trans (p6.trans ((List.prefix_append _ _).trans p7)))
      obtain ⟨⟨ow, hr, ho⟩, -⟩ := bk3.pre p37
      obtain ⟨a7, c7, rfl, sl7⟩ := ho.sl (fun _ => rfl)
      have hD : decide ((l.length : Int) ≤ stream) = true := decide_eq_true hle
      simp -dsimp only [go_sem, ↓reduceIte, Nat.reduceEqDiff, Nat.reduceAdd, Nat.reduceMul, Nat.reduceSub, Nat.reduceLeDiff, Nat.reduceLT, h1, h3, h4, h10, hr, hD, Int.reduceBEq]
    · simp -dsimp only [go_sem, ↓reduceIte, Nat.reduceEqDiff, Nat.reduceAdd, Nat.reduceMul, Nat.reduceSub, Nat.reduceLeDiff, Nat.reduceLT, h1, h3, h4, h10, b3]
      refine SoundP_of (newNil s k H3) ?_
      rintro v H4 ⟨rfl, p4⟩
      have b4 := pre_get p4 b3
      simp -dsimp only [go_sem, ↓reduceIte, Nat.reduceEqDiff, Nat.reduceAdd, Nat.reduceMul, Nat.reduceSub, Nat.reduceLeDiff, Nat.reduceLT, h1, h3, h4, h10]
      refine SoundP_of (sealN _) ?_
      rintro _ K3 hK3
      rw [hK3]
      simp -dsimp only [go_sem, ↓reduceIte, Nat.reduceEqDiff, Nat.reduceAdd, Nat.reduceMul, Nat.reduceSub, Nat.reduceLeDiff, Nat.reduceLT, h1, h3, h4, h10, Int.reduceBNe]
      refine SoundP_of (takenN _) ?_
      rintro _ K4 ⟨rfl, hK4⟩
      rw [hK4]
      simp -dsimp only [go_sem, ↓reduceIte, Nat.reduceEqDiff, Nat.reduceAdd, Nat.reduceMul, Nat.reduceSub, Nat.reduceLeDiff, Nat.reduceLT, h1, h3, h4, h10, Int.reduceBNe]
      refine SoundP_of (servedN _) ?_
      rintro _ H5 ⟨rfl, p5⟩
      have b5 := pre_get p5 b4
      simp -dsimp only [go_sem, ↓reduceIte, Nat.reduceEqDiff, Nat.reduceAdd, Nat.reduceMul, Nat.reduceSub, Nat.reduceLeDiff, Nat.reduceLT, h1, h3, h4, h10, zn0]
      refine SoundP_of (waitingN _) ?_
      rintro _ K5 ⟨rfl, hK5⟩
      rw [hK5]
      simp -dsimp only [go_sem, ↓reduceIte, Nat.reduceEqDiff, Nat.reduceAdd, Nat.reduceMul, Nat.reduceSub, Nat.reduceLeDiff, Nat.reduceLT, h1, h3, h4, h10, Int.reduceBNe]
      refine SoundP_of (handleN _) ?_
      rintro _ H6 ⟨rfl, p6⟩
      have b6 := pre_get p6 b5
      simp -dsimp only [go_sem, ↓reduceIte, Nat.reduceEqDiff, Nat.reduceAdd, Nat.reduceMul, Nat.reduceSub, Nat.reduceLeDiff, Nat.reduceLT, h1, h3, h4, h10, zn0, u1, u2]
      refine SoundP_of (tickN 1 _ _ _) ?_
      rintro _ H7 ⟨rfl, p7⟩
      have b7 := pre_get p7 (get_app b6 _)
      simp only [mayB, Bool.and_eq_true, decide_eq_true_eq] at hmay
      have hF := hmay.1
      have hA : decide ((k : Int) < 0) = false := decide_eq_false (by omega)
      have hB : decide (s.streams ≤ (k : Int)) = false := decide_eq_false (by omega)
      simp -dsimp only [go_sem, ↓reduceIte, Nat.reduceEqDiff, Nat.reduceAdd, Nat.reduceMul, Nat.reduceSub, Nat.reduceLeDiff, Nat.reduceLT, h1, h3, h4, h10, zn0, b7, hF, hA, hB]
      refine SoundP_of (absLaw2 away _ ha) ?_
      rintro _ K6 ⟨rfl, hK6⟩
      rw [hK6]
      simp -dsimp only [go_sem, ↓reduceIte, Nat.reduceEqDiff, Nat.reduceAdd, Nat.reduceMul, Nat.reduceSub, Nat.reduceLeDiff, Nat.reduceLT, h1, h3, h4, h10, Int.reduceEq, hz, hoff]
      have p37 := p4.trans (p5.trans (p6.trans ((List.prefix_append _ _).trans p7)))
      obtain ⟨⟨ow, hr, ho⟩, -⟩ := bk3.pre p37
      obtain ⟨a7, c7, rfl, sl7⟩ := ho.sl (fun _ => rfl)
      have hk : k < l.length := (List.getElem?_eq_some_iff.1 hx).1
      have hD : decide ((l.length : Int) ≤ (k : Int)) = false := decide_eq_false (by omega)
      have hn7 : NodeAt H7 n x := hn.pre p37
      have hx7 := hb x (List.mem_of_getElem? hx)
      obtain ⟨id, o, rfl, hat⟩ := sl7.at (by omega)
      simp -dsimp only [go_sem, ↓reduceIte, Nat.reduceEqDiff, Nat.reduceAdd, Nat.reduceMul, Nat.reduceSub, Nat.reduceLeDiff, Nat.reduceLT, h1, h3, h4, h10, hr, hD, Int.reduceBEq]
      refine adrawnP_of2 [(0, false), (1, false), (2, false), (3, false), (4, false), (5, false), (6, false), (7, false), (9, false), (10, false), (11, false), (12, false), (13, false), (14, false), (15, false), (16, false), (8, true), (17, false), (18, false), (19, false), (20, false), (21, false), (22, false), (23, false), (24, false), (25, false), (26, false), (27, false), (28, false), (29, false), (30, false)] (by kernel_rfl) ?_
      have zx : (x == x) = true := beq_self_eq_true x
      simp -dsimp only [go_sem, ↓reduceIte, Nat.reduceEqDiff, Nat.reduceAdd, Nat.reduceMul, Nat.reduceSub, Nat.reduceLeDiff, Nat.reduceLT, h1, h3, h4, h10, hr, inRange hk, rowLoad_one0 (hat k x hx), Int.reduceBEq]
      refine SoundP_of (takenLaw hn7 hx7.1 hx7.2) ?_
      rintro v H' ⟨rfl, rfl⟩
      simp -dsimp only [go_sem, ↓reduceIte, Nat.reduceEqDiff, Nat.reduceAdd, Nat.reduceMul, Nat.reduceSub, Nat.reduceLeDiff, Nat.reduceLT, h1, h3, h4, h10]
      simp -dsimp only [go_sem, ↓reduceIte, Nat.reduceEqDiff, Nat.reduceAdd, Nat.reduceMul, Nat.reduceSub, Nat.reduceLeDiff, Nat.reduceLT, h1, h3, h4, h10, hr, inRange hk, rowLoad_one0 (hat k x hx), Int.reduceBEq, zx]
      refine SoundP_of (waitingLaw hn7 hx7.1 hx7.2) ?_
      rintro v H' ⟨rfl, rfl⟩
      simp -dsimp only [go_sem, ↓reduceIte, Nat.reduceEqDiff, Nat.reduceAdd, Nat.reduceMul, Nat.reduceSub, Nat.reduceLeDiff, Nat.reduceLT, h1, h3, h4, h10]
      simp -dsimp only [go_sem, ↓reduceIte, Nat.reduceEqDiff, Nat.reduceAdd, Nat.reduceMul, Nat.reduceSub, Nat.reduceLeDiff, Nat.reduceLT, h1, h3, h4, h10, zx, Int.reduceBEq]
      refine SoundP_of (servedLaw hn7) ?_
      rintro _ H8 ⟨rfl, p8⟩
      simp -dsimp only [go_sem, ↓reduceIte, Nat.reduceEqDiff, Nat.reduceAdd, Nat.reduceMul, Nat.reduceSub, Nat.reduceLeDiff, Nat.reduceLT, h1, h3, h4, h10, z0]
theorem realtimeMakes' (s : SetupS) (stream : Int) (ofs : List Int) (away : Int) (a : Option Addr) (c : Nat) (H : AHeap) (hs : SlA H encU 1 a ofs) (ga : ArgSl a ofs.length c) (hw : ∀ x ∈ ofs, 0 ≤ x) (_ : (Lit.int .i64 stream).wf = true) (ha : (Lit.int .i64 away).wf = true) :
    Sound Tryz.prog 3 [s.val, .int .i64 stream, .slice a ofs.length c, .int .i64 away] H fun v _ => v = .bool true :=
  realtimeMakes s stream ofs away a c H hs ga hw (by
    simp [Lit.wf, IntKind.min, IntKind.max, IntKind.bits, IntKind.signed] at ha
    unfold InI; omega)
/-! ### how what is handed in is read -/
theorem decU : ∀ cs, AW.Fits [.int .u64] cs → ∃ n : Int, cs = encU n ∧ 0 ≤ n := by
  intro cs h
  obtain ⟨v0, r1, rfl, ⟨n0, rfl, w0⟩, h1⟩ := h.cons
  obtain rfl := h1.end_
  refine ⟨n0, rfl, ?_⟩
  simp [Lit.wf, IntKind.min, IntKind.max, IntKind.bits, IntKind.signed] at w0
  omega
theorem decSetup : ∀ cs, AW.Fits [.int .i64, .int .i64, .int .i64, .int .i64, .int .i64, .int .i64, .int .i64, .int .i64, .int .i64, .int .i64] cs → ∃ s : SetupS, cs = s.cells ∧ True := by
  intro cs h
  obtain ⟨v0, r1, rfl, ⟨n0, rfl, w0⟩, h1⟩ := h.cons
  obtain ⟨v1, r2, rfl, ⟨n1, rfl, w1⟩, h2⟩ := h1.cons
  obtain ⟨v2, r3, rfl, ⟨n2, rfl, w2⟩, h3⟩ := h2.cons
  obtain ⟨v3, r4, rfl, ⟨n3, rfl, w3⟩, h4⟩ := h3.cons
  obtain ⟨v4, r5, rfl, ⟨n4, rfl, w4⟩, h5⟩ := h4.cons
  obtain ⟨v5, r6, rfl, ⟨n5, rfl, w5⟩, h6⟩ := h5.cons
  obtain ⟨v6, r7, rfl, ⟨n6, rfl, w6⟩, h7⟩ := h6.cons
  obtain ⟨v7, r8, rfl, ⟨n7, rfl, w7⟩, h8⟩ := h7.cons
  obtain ⟨v8, r9, rfl, ⟨n8, rfl, w8⟩, h9⟩ := h8.cons
  obtain ⟨v9, r10, rfl, ⟨n9, rfl, w9⟩, h10⟩ := h9.cons
  obtain rfl := h10.end_
  exact ⟨⟨n0, n1, n2, n3, n4, n5, n6, n7, n8, n9⟩, rfl, trivial⟩
end Go.Proofs.YtpehfhnmcpdllaaGreatDoor
