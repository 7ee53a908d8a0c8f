/-
  The document's first examples.
-/
import Derived.Test.YthbifkeadbmcnaaMade
set_option linter.unusedVariables false
set_option linter.unusedSimpArgs false
namespace Go.Proofs.Ythbifkeadbmcnaa
open Go Go.AW
set_option linter.unusedSimpArgs false
set_option maxRecDepth 20000

abbrev sA : Seg := ⟨0, 10, 0, 0, 1⟩
abbrev sB : Seg := ⟨3, 6, 1, 0, 2⟩
abbrev sC : Seg := ⟨3, 6, 1, 1, 2⟩
abbrev kA : Key := ⟨0, 10, 0⟩
abbrev kB : Key := ⟨3, 6, 1⟩
attribute [go_sem] sA sB sC
theorem add1 {e : Int} {C : List KL} (h : AddTo [] sA e C) : e = 0 ∧ C = [(kA, [sA])] := by
  cases h with
  | bad h => exact absurd h (by decide)
  | first h hn => exact ⟨rfl, rfl⟩
  | twice h hc hz hp => simp at hc
  | form h hc hp hz hzc => simp at hc
  | more h hc hp hz hi => simp at hc
theorem add2 {e : Int} {C : List KL} (h : AddTo [(kA, [sA])] sB e C) : e = 0 ∧ C = [(kA, [sA]), (kB, [sB])] := by
  have no : ∀ {A B : List KL} {l : List Seg}, ¬ [(kA, [sA])] = A ++ (sB.key, l) :: B := fun {A B l} hc => by
    cases A with
    | nil => simp [Seg.key] at hc
    | cons a A => simp at hc
  cases h with
  | bad h => exact absurd h (by decide)
  | first h hn => exact ⟨rfl, rfl⟩
  | twice h hc hz hp => exact absurd hc no
  | form h hc hp hz hzc => exact absurd hc no
  | more h hc hp hz hi => exact absurd hc no
theorem add3 {e : Int} {C : List KL} (h : AddTo [(kA, [sA]), (kB, [sB])] sC e C) : e = 0 ∧ C = [(kA, [sA]), (kB, [sB, sC])] := by
  have eq : ∀ {A B : List KL} {l : List Seg}, [(kA, [sA]), (kB, [sB])] = A ++ (sC.key, l) :: B → A = [(kA, [sA])] ∧ l = [sB] ∧ B = [] := fun {A B l} hc => by
    cases A with
    | nil => simp [Seg.key] at hc
    | cons a A =>
      cases A with
      | nil => simp [Seg.key] at hc; obtain ⟨rfl, rfl, rfl⟩ := hc; exact ⟨rfl, rfl, rfl⟩
      | cons b A => simp at hc
  cases h with
  | bad h => exact absurd h (by decide)
  | first h hn => exact absurd rfl (hn (kB, [sB]) (by simp))
  | twice h hc hz hp =>
    obtain ⟨-, rfl, -⟩ := eq hc
    rw [List.mem_singleton] at hz; subst hz; exact absurd hp (by decide)
  | form h hc hp hz hzc =>
    obtain ⟨-, rfl, -⟩ := eq hc
    rw [List.mem_singleton] at hz; subst hz; exact absurd rfl hzc
  | @more A B l h hc hp hz i hi =>
    obtain ⟨rfl, rfl, rfl⟩ := eq hc
    obtain rfl : i = 1 := by
      have h1 := hi.le
      rcases Nat.eq_zero_or_pos i with q | q
      · subst q
        have := hi.hi sB (by simp)
        exact absurd this (by decide)
      · simp at h1; omega
    exact ⟨rfl, rfl⟩
theorem look1 : lookC [(kA, [sA]), (kB, [sB])] 0 8 = [⟨sA, 0, 8⟩] := by
  have e1 : wholes [(kA, [sA]), (kB, [sB])] = [(kA, [sA])] := (wholes_uniq (W := [(kA, [sA])]) (by simp) (by exact List.Perm.refl _) (by simp)).symm
  have e2 : timesC [(kA, [sA])] = [0, 10] := (timesC_uniq (T := [0, 10]) (by simp) (fun n => by simp)).symm
  rw [lookC, strsC, e1, e2]
  decide
theorem look2 : lookC [(kA, [sA]), (kB, [sB, sC])] 0 8 = [⟨sA, 0, 3⟩, ⟨sB, 3, 6⟩, ⟨sC, 3, 6⟩, ⟨sA, 6, 8⟩] := by
  have e1 : wholes [(kA, [sA]), (kB, [sB, sC])] = [(kB, [sB, sC]), (kA, [sA])] := (wholes_uniq (W := [(kB, [sB, sC]), (kA, [sA])]) (by simp) (by exact List.Perm.swap _ _ _) (by simp [aheadR])).symm
  have e2 : timesC [(kB, [sB, sC]), (kA, [sA])] = [0, 3, 6, 10] := (timesC_uniq (T := [0, 3, 6, 10]) (by simp) (fun n => by simp; omega)).symm
  rw [lookC, strsC, e1, e2]
  decide
theorem set_end2 (H : AHeap) (o p q r : AObj) (L : AHeap) : (H ++ o :: p :: q :: L).set (H.length + 2) r = H ++ o :: p :: r :: L := by
  rw [List.set_append_right _ _ (by omega)]; simp
theorem two_len {M : List SetS} {C : List KL} (h : cont M = C) {n q : Nat} (hn : C.length ≤ n) (hq : ∀ x ∈ C, x.2.length < q) : M.length ≤ n ∧ ∀ x ∈ M, x.l.length < q := by
  subst h
  exact ⟨by simpa [cont] using hn, fun x hx => hq (x.k, x.l) (List.mem_map.2 ⟨x, hx, rfl⟩)⟩
set_option maxHeartbeats 4000000 in
theorem awake (H : AHeap) : Sound Try.prog 10 [] H fun v H' => v = .bool true ∧ H <+: H' := by
  refine Sound.of_body (rs := [.tmp 0]) mixed Try.func10 rfl (by kernel_rfl) rfl (by kernel_rfl) ?_
  simp -dsimp only [go_sem, ↓reduceIte, Nat.reduceEqDiff, Nat.reduceAdd, Nat.reduceMul, Nat.reduceSub, Nat.reduceLeDiff, Nat.reduceLT]
  refine SoundP_of (tlNew H) ?_
  rintro _ H1 ⟨rfl, hH1, hT⟩
  have p1 : H <+: H1 := by rw [hH1]; exact List.prefix_append _ _
  clear hH1
  generalize hp : H.length + 1 = p at *
  simp -dsimp only [go_sem, ↓reduceIte, Nat.reduceEqDiff, Nat.reduceAdd, Nat.reduceMul, Nat.reduceSub, Nat.reduceLeDiff, Nat.reduceLT, set_end2]
  have q2 : H1 <+: H1 ++ [AObj.row sA.cells 5 true, AObj.row sB.cells 5 true, AObj.row sC.cells 5 true] := List.prefix_append _ _
  have rA := get_end H1 (AObj.row sA.cells 5 true) [AObj.row sB.cells 5 true, AObj.row sC.cells 5 true]
  have rB := get_end1 H1 (AObj.row sA.cells 5 true) (AObj.row sB.cells 5 true) [AObj.row sC.cells 5 true]
  have rC := get_end2 H1 (AObj.row sA.cells 5 true) (AObj.row sB.cells 5 true) (AObj.row sC.cells 5 true) []
  have hT2 := hT.pre q2
  have p2 := p1.trans q2
  have n1 := pre_len p1
  have n2 := pre_len q2
  have l2 : (H1 ++ [AObj.row sA.cells 5 true, AObj.row sB.cells 5 true, AObj.row sC.cells 5 true]).length = H1.length + 3 := by simp
  have ft1 : ∀ j, footT p H.length [] j → j < H1.length := fun j hj => (hT.foot hj).2
  clear hT
  generalize hH2 : H1 ++ [AObj.row sA.cells 5 true, AObj.row sB.cells 5 true, AObj.row sC.cells 5 true] = H2 at *
  refine SoundP_of (tlAdd sA H.length H2 p H.length [] hT2 (by omega) (by simp)) ?_
  rintro _ H3 ⟨M1, e, rfl, hT3, hadd, n3, fr3, ft3⟩
  obtain ⟨rfl, hC1⟩ := add1 hadd
  have rA := (fr3 _ (by omega) (fun q => by have := ft1 _ q; omega)).trans rA
  have rB := (fr3 _ (by omega) (fun q => by have := ft1 _ q; omega)).trans rB
  have rC := (fr3 _ (by omega) (fun q => by have := ft1 _ q; omega)).trans rC
  have p3 : H <+: H3 := by
    refine List.prefix_iff_getElem?.2 fun j hj => ?_
    rw [fr3 j (by omega) (fun q => by have := hT2.foot q; omega)]
    exact pre_get p2 (by simp [hj])
  have nf : ∀ j, footT p H.length M1 j → j < H1.length ∨ H2.length ≤ j := fun j hj => (ft3 j hj).imp (ft1 j) (fun q => q)
  have t1 := two_len hC1 (n := 1) (q := 2) (by simp) (by simp)
  dsimp only [Seg.cells] at rA rB rC
  simp -dsimp only [go_sem, ↓reduceIte, Nat.reduceEqDiff, Nat.reduceAdd, Nat.reduceMul, Nat.reduceSub, Nat.reduceLeDiff, Nat.reduceLT, rA, rB, rC]
  refine SoundP_of (tlAdd sB H.length H3 p H.length M1 hT3 (by omega) (fun x hx => by have := t1.2 x hx; omega)) ?_
  rintro _ H4 ⟨M2, e, rfl, hT4, hadd2, n4, fr4, ft4⟩
  rw [hC1] at hadd2
  obtain ⟨rfl, hC2⟩ := add2 hadd2
  have rA := (fr4 _ (by omega) (fun q => by have := nf _ q; omega)).trans rA
  have rB := (fr4 _ (by omega) (fun q => by have := nf _ q; omega)).trans rB
  have rC := (fr4 _ (by omega) (fun q => by have := nf _ q; omega)).trans rC
  have p4 : H <+: H4 := by
    refine List.prefix_iff_getElem?.2 fun j hj => ?_
    rw [fr4 j (by omega) (fun q => by have := hT3.foot q; omega)]
    exact pre_get p3 (by simp [hj])
  have nf2 : ∀ j, footT p H.length M2 j → j < H1.length ∨ H2.length ≤ j := fun j hj => by
    rcases ft4 j hj with q | q
    · exact nf j q
    · right; omega
  have t2 := two_len hC2 (n := 2) (q := 2) (by simp) (by simp)
  simp -dsimp only [go_sem, ↓reduceIte, Nat.reduceEqDiff, Nat.reduceAdd, Nat.reduceMul, Nat.reduceSub, Nat.reduceLeDiff, Nat.reduceLT, rA, rB, rC]
  refine SoundP_of (tlLookup 0 8 H.length H4 p H.length M2 hT4 (by omega) (fun x hx => by have := t2.2 x hx; omega)) ?_
  rintro v5 H5 ⟨o5, p5⟩
  rw [hC2, look1] at o5
  have rA := pre_get p5 rA
  have rB := pre_get p5 rB
  have rC := pre_get p5 rC
  have hT5 := hT4.pre p5
  have n5 := pre_len p5
  simp -dsimp only [go_sem, ↓reduceIte, Nat.reduceEqDiff, Nat.reduceAdd, Nat.reduceMul, Nat.reduceSub, Nat.reduceLeDiff, Nat.reduceLT, rA, rB, rC]
  refine SoundP_of (tlAdd sC H.length H5 p H.length M2 hT5 (by omega) (fun x hx => by have := t2.2 x hx; omega)) ?_
  rintro _ H6 ⟨M3, e, rfl, hT6, hadd3, n6, fr6, ft6⟩
  rw [hC2] at hadd3
  obtain ⟨rfl, hC3⟩ := add3 hadd3
  have rA := (fr6 _ (by omega) (fun q => by have := nf2 _ q; omega)).trans rA
  have rC := (fr6 _ (by omega) (fun q => by have := nf2 _ q; omega)).trans rC
  have o6 := o5.keep fun j hj => fr6 j (o5.owner_ge hj).2 (fun q => by have := hT4.foot q; have := o5.owner_ge hj; omega)
  have p6 : H <+: H6 := by
    refine List.prefix_iff_getElem?.2 fun j hj => ?_
    rw [fr6 j (by omega) (fun q => by have := hT5.foot q; omega)]
    exact pre_get (p4.trans p5) (by simp [hj])
  have t3 := two_len hC3 (n := 2) (q := 3) (by simp) (by simp)
  simp -dsimp only [go_sem, ↓reduceIte, Nat.reduceEqDiff, Nat.reduceAdd, Nat.reduceMul, Nat.reduceSub, Nat.reduceLeDiff, Nat.reduceLT, rA, rC]
  refine SoundP_of (tlLookup 0 8 H.length H6 p H.length M3 hT6 (by omega) (fun x hx => by have := t3.2 x hx; omega)) ?_
  rintro v7 H7 ⟨o7, p7⟩
  rw [hC3, look2] at o7
  have rA := pre_get p7 rA
  have rC := pre_get p7 rC
  obtain ⟨a5, c5, rfl, s5⟩ := (o6.pre p7).sl (fun _ => rfl)
  obtain ⟨a7, c7, rfl, s7⟩ := o7.sl (fun _ => rfl)
  obtain ⟨i5, f5, rfl, at5⟩ := s5.at (by decide)
  obtain ⟨i7, f7, rfl, at7⟩ := s7.at (by decide)
  have x0 := rowLoad_whole (at5 0 _ rfl)
  have y2 := rowLoad_whole (at7 2 _ rfl)
  have y3 := rowLoad_whole (aload_sub (at7 3 _ rfl) 5 2 (by decide))
  simp -dsimp only [go_sem, ↓reduceIte, Nat.reduceEqDiff, Nat.reduceAdd, Nat.reduceMul, Nat.reduceSub, Nat.reduceLeDiff, Nat.reduceLT]
  refine adrawnP_of2 [(0, false), (1, false), (2, false), (3, false), (4, false), (5, false), (6, false), (7, false), (8, false), (9, false), (10, false), (11, false), (12, false), (13, false), (14, false), (15, false), (16, false), (17, false), (18, false), (19, false), (20, false), (21, false), (22, false), (23, false), (24, false), (25, false), (26, false), (27, false), (28, false), (29, false), (30, false), (31, false), (32, false), (33, false), (34, false), (35, false), (36, false), (37, false), (38, false), (39, false), (40, false), (41, false), (42, false), (43, false), (44, false), (45, false), (46, false)] (by kernel_rfl) ?_
  have c1 : (((1 : Nat) : Int) == (1 : Int)) = true := rfl
  have c4 : (((4 : Nat) : Int) == (4 : Int)) = true := rfl
  have i0 : (((0 : Int) ≤ 0 ∧ (0 : Int) < ((1 : Nat) : Int))) = True := by simp
  have i2 : (((0 : Int) ≤ 2 ∧ (2 : Int) < ((4 : Nat) : Int))) = True := by simp
  have i3 : (((0 : Int) ≤ 3 ∧ (3 : Int) < ((4 : Nat) : Int))) = True := by simp
  have n0 : (0 : Int).toNat = 0 := rfl
  have n2 : (2 : Int).toNat = 2 := rfl
  have n3 : (3 : Int).toNat = 3 := rfl
  simp -dsimp only [go_sem, ↓reduceIte, Nat.reduceEqDiff, Nat.reduceAdd, Nat.reduceMul, Nat.reduceSub, Nat.reduceLeDiff, Nat.reduceLT, rA, rC, beq_self_eq_true, c1, c4, i0, i2, i3, n0, n2, n3, x0, y2, y3, Bool.and_self]
  exact p6.trans p7
end Go.Proofs.Ythbifkeadbmcnaa
