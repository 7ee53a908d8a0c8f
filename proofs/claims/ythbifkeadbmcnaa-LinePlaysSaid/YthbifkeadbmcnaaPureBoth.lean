/-
  Plain: the timeline and the document's Line go together. A call on a timeline and on the document's Line.
-/
import Derived.Test.YthbifkeadbmcnaaRefAdd
import Derived.Test.YthbifkeadbmcnaaMade
import Derived.Test.YthbifkeadbmcnaaLook2
import Derived.Test.YthbifkeadbmcnaaHelp
import Derived.Test.YthbifkeadbmcnaaAwAgain
set_option linter.unusedVariables false
set_option linter.unusedSimpArgs false
namespace Go.Proofs.Ythbifkeadbmcnaa
open Go Go.AW Go.Bub

theorem line_len {L : List Seg} {C : List KL} (h : LineC L C) (hg : GoodC C) : C.length ≤ L.length ∧ ∀ x ∈ C, x.2.length ≤ L.length := by
  have hl := (h.perm hg).length_eq
  rw [hl]
  have hn : ∀ x ∈ C, 0 < x.2.length := fun x hx => (hg.good x hx).ne
  clear hl h hg
  induction C with
  | nil => simp
  | cons x C ih =>
    have := ih fun y hy => hn y (by simp [hy])
    have h0 := hn x (by simp)
    rw [List.flatMap_cons, List.length_append, List.length_cons]
    refine ⟨by omega, fun y hy => ?_⟩
    rcases List.mem_cons.1 hy with rfl | hy
    · omega
    · have := this.2 y hy; omega
theorem line_pure {L : List Seg} {C : List KL} (h : LineC L C) (hg : GoodC C) (hl : L.length ≤ 100) : LinePure L C := by
  have := line_len h hg
  exact ⟨h, hg, hl, by omega, fun x hx => by have := this.2 x hx; omega⟩
theorem line_nil : LineC [] [] := ⟨.nil, by simp⟩
theorem none_any {L : List Seg} {f : Seg → Bool} (h : ∀ z ∈ L, f z = false) : L.any f = false := by
  rw [List.any_eq_false]
  intro z hz
  rw [h z hz]; decide
/-- what Add answers is the same; and they go on together -/
theorem add_both {L L' : List Seg} {C C' : List KL} {s : Seg} {e e' : Int} (h : LineC L C) (hg : GoodC C) (ha : AddTo C s e C') (hb : AddL L s e' L') : e = e' ∧ LineC L' C' := by
  have keyed : ∀ z, z ∈ L → z.key = s.key → ∃ x ∈ C, x.1 = s.key ∧ z ∈ x.2 := fun z hz hk => by
    obtain ⟨x, hx, hzx⟩ := (h.mem z).1 hz
    exact ⟨x, hx, by rw [← (hg.good x hx).key z hzx, hk], hzx⟩
  have ok : e = 0 → addE L s = 0 → e = e' ∧ LineC L' C' := fun h0 h1 => by
    have he : e' = 0 := by rw [hb.err, h1]
    refine ⟨by rw [h0, he], hb.sort he, fun z => ?_⟩
    rw [(hb.perm he).mem_iff, List.mem_append, List.mem_singleton, h.mem]
    have hp := (addTo_zero ha h0).mem_iff (a := z)
    rw [List.mem_flatMap, List.mem_append, List.mem_singleton, List.mem_flatMap] at hp
    exact hp.symm
  have no : e ≠ 0 → addE L s = e → e = e' ∧ LineC L' C' := fun h0 h1 => by
    have he : e' = e := by rw [hb.err, h1]
    refine ⟨he.symm, ?_⟩
    rw [hb.bad (by rw [he]; exact h0), addTo_ne ha h0]
    exact h
  cases ha with
  | bad q => exact no (by decide) (by unfold addE; rw [if_pos q])
  | first q hn =>
    have a1 : L.any (twiceP s) = false := none_any fun z hz => by
      unfold twiceP
      rw [decide_eq_false fun hk => by obtain ⟨x, hx, hxk, _⟩ := keyed z hz hk; exact hn x hx hxk]; rfl
    have a2 : L.any (otherP s) = false := none_any fun z hz => by
      unfold otherP
      rw [decide_eq_false fun hk => by obtain ⟨x, hx, hxk, _⟩ := keyed z hz hk; exact hn x hx hxk]; rfl
    exact ok rfl (by unfold addE; rw [if_neg (by rw [q]; decide), if_neg (by rw [a1]; decide), if_neg (by rw [a2]; decide)])
  | @twice A B l q hc z hz hp =>
    have hx : (s.key, l) ∈ C := by rw [hc]; simp
    have a1 : L.any (twiceP s) = true := List.any_eq_true.2 ⟨z, (h.mem z).2 ⟨_, hx, hz⟩, by
      unfold twiceP
      rw [decide_eq_true ((hg.good _ hx).key z hz), hp]; simp⟩
    exact no (by decide) (by unfold addE; rw [if_neg (by rw [q]; decide), if_pos a1])
  | @form A B l q hc hno z hz hzc =>
    have hx : (s.key, l) ∈ C := by rw [hc]; simp
    have a1 : L.any (twiceP s) = false := none_any fun y hy => by
      unfold twiceP
      cases hk : decide (y.key = s.key) with
      | false => rfl
      | true =>
        obtain ⟨x, hxC, hxk, hyx⟩ := keyed y hy (of_decide_eq_true hk)
        have := hg.keys.uniq hxC hx hxk
        subst this
        have := hno y hyx
        simpa using this
    have a2 : L.any (otherP s) = true := List.any_eq_true.2 ⟨z, (h.mem z).2 ⟨_, hx, hz⟩, by
      unfold otherP
      rw [decide_eq_true ((hg.good _ hx).key z hz)]; simpa using hzc⟩
    exact no (by decide) (by unfold addE; rw [if_neg (by rw [q]; decide), if_neg (by rw [a1]; decide), if_pos a2])
  | @more A B l q hc hno hzc i hi =>
    have hx : (s.key, l) ∈ C := by rw [hc]; simp
    have a1 : L.any (twiceP s) = false := none_any fun y hy => by
      unfold twiceP
      cases hk : decide (y.key = s.key) with
      | false => rfl
      | true =>
        obtain ⟨x, hxC, hxk, hyx⟩ := keyed y hy (of_decide_eq_true hk)
        have := hg.keys.uniq hxC hx hxk
        subst this
        have := hno y hyx
        simpa using this
    have a2 : L.any (otherP s) = false := none_any fun y hy => by
      unfold otherP
      cases hk : decide (y.key = s.key) with
      | false => rfl
      | true =>
        obtain ⟨x, hxC, hxk, hyx⟩ := keyed y hy (of_decide_eq_true hk)
        have := hg.keys.uniq hxC hx hxk
        subst this
        have := hzc y hyx
        simpa using this
    exact ok rfl (by unfold addE; rw [if_neg (by rw [q]; decide), if_neg (by rw [a1]; decide), if_neg (by rw [a2]; decide)])
theorem rem_both {L L' : List Seg} {C C' : List KL} {s : Seg} {e e' : Int} (h : LineC L C) (hg : GoodC C) (ha : RemTo C s e C') (hb : RemL L s e' L') : e = e' ∧ LineC L' C' := by
  by_cases hs : ∃ x ∈ C, s ∈ x.2
  · obtain ⟨x, hx, hsx⟩ := hs
    have hsL := (h.mem s).2 ⟨x, hx, hsx⟩
    obtain ⟨rfl, _, hseg⟩ := rem_mem hg ha hx hsx
    have he : e' = 0 := by rw [hb.err, if_neg (by rw [(hg.good x hx).may s hsx]; decide), if_pos hsL]
    obtain ⟨i, hi, hL'⟩ := hb.del he
    have hsub : (L.take i ++ L.drop (i + 1)).Sublist L := del_sub L i
    refine ⟨he.symm, by rw [hL']; exact h.sort.sublist hsub, fun y => ?_⟩
    rw [hseg, ← h.mem, hL']
    have hsplit : L = L.take i ++ s :: L.drop (i + 1) := by rw [← drop_get hi, List.take_append_drop]
    have hst := h.sort
    rw [hsplit, StandL, List.pairwise_append, List.pairwise_cons] at hst
    constructor
    · intro hy
      refine ⟨hsub.subset hy, ?_⟩
      rintro rfl
      rcases List.mem_append.1 hy with q | q
      · exact standsR_irrefl _ (hst.2.2 y q y (by simp))
      · exact standsR_irrefl _ (hst.2.1.1 y q)
    · rintro ⟨hy, hne⟩
      rw [hsplit] at hy
      rcases List.mem_append.1 hy with q | q
      · exact List.mem_append_left _ q
      · rcases List.mem_cons.1 q with q | q
        · exact absurd q hne
        · exact List.mem_append_right _ q
  · have hsL : ¬ s ∈ L := fun q => hs ((h.mem s).1 q)
    have key : ∀ e0 : Int, e0 ≠ 0 → e = e0 → C' = C → e' = e0 → e = e' ∧ LineC L' C' := fun e0 h0 h1 h2 h3 => by
      refine ⟨by rw [h1, h3], ?_⟩
      rw [h2, hb.bad (by rw [h3]; exact h0)]; exact h
    cases ha with
    | bad q => exact key 1 (by decide) rfl rfl (by rw [hb.err, if_pos q])
    | none q hn => exact key 120 (by decide) rfl rfl (by rw [hb.err, if_neg (by rw [q]; decide), if_neg hsL])
    | @some A B l i q hc hi hl => exact absurd ⟨(s.key, l), by rw [hc]; simp, List.mem_of_getElem? hi⟩ hs
    | @last A B q hc => exact absurd ⟨(s.key, [s]), by rw [hc]; simp, by simp⟩ hs
theorem addL_len {L L' : List Seg} {s : Seg} {e : Int} (h : AddL L s e L') : L'.length ≤ L.length + 1 := by
  by_cases he : e = 0
  · rw [(h.perm he).length_eq]; simp
  · rw [h.bad he]; omega
theorem remL_len {L L' : List Seg} {s : Seg} {e : Int} (h : RemL L s e L') : L'.length ≤ L.length := by
  by_cases he : e = 0
  · obtain ⟨i, _, hL⟩ := h.del he
    rw [hL]; exact (del_sub L i).length_le
  · rw [h.bad he]; omega
set_option linter.unusedSimpArgs false
set_option maxRecDepth 20000

structure OpS where
  k : Int
  s : Seg
  f : Int
  t : Int
abbrev OpS.cells (o : OpS) : List Value := [.int .i64 o.k, .int .i64 o.s.f, .int .i64 o.s.t, .int .i64 o.s.v, .int .i64 o.s.p, .int .i64 o.s.c, .int .i64 o.f, .int .i64 o.t]
abbrev OpS.val (o : OpS) : Value := .agg #[.int .i64 o.k, .int .i64 o.s.f, .int .i64 o.s.t, .int .i64 o.s.v, .int .i64 o.s.p, .int .i64 o.s.c, .int .i64 o.f, .int .i64 o.t]
attribute [go_sem] OpS.cells OpS.val
def OpI (o : OpS) : Prop := InI o.k ∧ SegI o.s ∧ InI o.f ∧ InI o.t
/-- both at work, above what lay there -/
structure Both (H0 H : AHeap) (p m : Nat) (M : List SetS) (q : Nat) (v : Value) (L : List Seg) : Prop where
  pre : H0 <+: H
  tl : TimeAt H0.length H p m M
  ln : LineAt H0.length H q v L
  lc : LineC L (cont M)
  off : ∀ j, footT p m M j → j ≠ q ∧ owner v ≠ some j
theorem Both.grow {H0 H H' : AHeap} {p m : Nat} {M : List SetS} {q : Nat} {v : Value} {L : List Seg} (h : Both H0 H p m M q v L) (hp : H <+: H') : Both H0 H' p m M q v L := ⟨h.pre.trans hp, h.tl.pre hp, h.ln.pre hp, h.lc, h.off⟩
/-- a step of the timeline -/
theorem Both.stepT {H0 H H' : AHeap} {p m : Nat} {M M' : List SetS} {q : Nat} {v : Value} {L : List Seg} (h : Both H0 H p m M q v L) (n : H.length ≤ H'.length) (fr : ∀ j, j < H.length → ¬ footT p m M j → H'[j]? = H[j]?) (ft : ∀ j, footT p m M' j → footT p m M j ∨ H.length ≤ j) :
    H0 <+: H' ∧ LineAt H0.length H' q v L ∧ ∀ j, footT p m M' j → j ≠ q ∧ owner v ≠ some j := by
  have n0 := pre_len h.pre
  have g : ∀ {j : Nat}, footT p m M j → H0.length ≤ j ∧ j < H.length := fun hj => h.tl.foot hj
  have hq := get_lt h.ln.at_
  refine ⟨List.prefix_iff_getElem?.2 fun j hj => ?_, h.ln.keep (fr q hq fun q2 => (h.off q q2).1 rfl) (fun j hj => fr j (h.ln.own.owner_ge hj).2 fun q2 => (h.off j q2).2 hj), fun j hj => ?_⟩
  · rw [fr j (by omega) (fun q => by have := g q; omega)]
    exact pre_get h.pre (by simp [hj])
  · rcases ft j hj with q2 | q2
    · exact h.off j q2
    · exact ⟨by omega, fun q3 => by have := (h.ln.own.owner_ge q3).2; omega⟩
/-- a step of the Line behind one of the timeline -/
theorem both_stepL {H0 H H' : AHeap} {p m : Nat} {M : List SetS} {q : Nat} {v v' : Value} {L L' : List Seg} (pre : H0 <+: H) (tl : TimeAt H0.length H p m M) (ln : LineAt H0.length H q v L) (off : ∀ j, footT p m M j → j ≠ q ∧ owner v ≠ some j)
    (lc : LineC L' (cont M)) (ln' : LineAt H0.length H' q v' L') (n : H.length ≤ H'.length) (fr : ∀ j, j < H.length → j ≠ q → owner v ≠ some j → H'[j]? = H[j]?) (ow : ∀ j, owner v' = some j → owner v = some j ∨ H.length ≤ j) : Both H0 H' p m M q v' L' := by
  have n0 := pre_len pre
  refine ⟨List.prefix_iff_getElem?.2 fun j hj => ?_, tl.keep fun j hj => fr j (tl.foot hj).2 (off j hj).1 (off j hj).2, ln', lc, fun j hj => ⟨(off j hj).1, fun q2 => ?_⟩⟩
  · rw [fr j (by omega) (by have := ln.bq; omega) (fun q2 => by have := (ln.own.owner_ge q2).1; omega)]
    exact pre_get pre (by simp [hj])
  · rcases ow j q2 with q3 | q3
    · exact (off j hj).2 q3
    · have := (tl.foot hj).2; omega
set_option maxHeartbeats 4000000 in
theorem callLaw (o : OpS) (H0 H : AHeap) (p m : Nat) (M : List SetS) (q : Nat) (v : Value) (L : List Seg) (h : Both H0 H p m M q v L) (hl : L.length ≤ 90) (ho : OpI o) :
    Sound Try.prog 20 [ptrV p, ptrV q, o.val] H fun r H' => r = .bool true ∧ ∃ M' v' L', Both H0 H' p m M' q v' L' ∧ L'.length ≤ L.length + 1 := by
  refine Sound.of_body (rs := [.tmp 6]) mixed Try.func20 rfl (by kernel_rfl) rfl (by kernel_rfl) ?_
  obtain ⟨hk, hsI, hf, ht⟩ := ho
  have n0 := pre_len h.pre
  have p1 := List.prefix_append H [AObj.row o.cells 8 true, AObj.row o.s.cells 5 true]
  have b5 := get_end H (AObj.row o.cells 8 true) [AObj.row o.s.cells 5 true]
  have b7 := get_end1 H (AObj.row o.cells 8 true) (AObj.row o.s.cells 5 true) []
  have b50 := get_end H (AObj.row o.cells 8 true) []
  have h1 := h.grow p1
  have l1 : (H ++ [AObj.row o.cells 8 true, AObj.row o.s.cells 5 true]).length = H.length + 2 := by simp
  dsimp only [Seg.cells, OpS.cells] at p1 b5 b7 h1 b50 l1
  simp -dsimp only [go_sem, ↓reduceIte, Nat.reduceEqDiff, Nat.reduceAdd, Nat.reduceMul, Nat.reduceSub, Nat.reduceLeDiff, Nat.reduceLT, b50, b5]
  have off5 : ∀ j, footT p m M j → j < H.length := fun j hj => by have := (h.tl.foot hj).2; omega
  have qf : q < H.length := by have := get_lt h.ln.at_; omega
  have vf : ∀ j, owner v = some j → j < H.length := fun j hj => by have := (h.ln.own.owner_ge hj).2; omega
  refine SoundP_of (absLaw o.k _ hk) ?_
  rintro _ H1 ⟨rfl, e1⟩
  rw [← e1] at p1 b5 b7 h1 l1
  have an := absL_nn o.k
  clear e1 b50 h
  simp -dsimp only [go_sem, ↓reduceIte, Nat.reduceEqDiff, Nat.reduceAdd, Nat.reduceMul, Nat.reduceSub, Nat.reduceLeDiff, Nat.reduceLT, show ((7 : Int) = 0) = False by simp, tm (b := 7) an]
  refine acond_join (fun T H' => ∃ s : Seg, T 0 = ptrV p ∧ T 1 = ptrV q ∧ T 5 = ptrV H.length ∧ T 7 = ptrV (H.length + 1) ∧ Both H0 H' p m M q v L ∧ H'[H.length]? = some (.row o.cells 8 true) ∧ H'[H.length + 1]? = some (.row s.cells 5 true) ∧ H.length + 2 ≤ H'.length) (fun hc => ?_) (fun hc => ?_) ?_
  · simp -dsimp only [go_sem, ↓reduceIte, Nat.reduceEqDiff, Nat.reduceAdd, Nat.reduceMul, Nat.reduceSub, Nat.reduceLeDiff, Nat.reduceLT, b7]
    refine SoundP_of (segLaw o.s _ hsI) ?_
    rintro _ H2 ⟨rfl, p2⟩
    have b72 := pre_get p2 b7
    have b52 := pre_get p2 b5
    have h2 := h1.grow p2
    have n2 := pre_len p2
    obtain ⟨H3, hH3⟩ : ∃ H3, H2.set (H.length + 1) (.row (segL o.s).cells 5 true) = H3 := ⟨_, rfl⟩
    have k3 : ∀ j, j < H.length + 1 → H3[j]? = H2[j]? := fun j hj => by rw [← hH3]; exact List.getElem?_set_ne (by omega)
    have hb : Both H0 H3 p m M q v L := by
      refine ⟨List.prefix_iff_getElem?.2 fun j hj => ?_, h2.tl.keep fun j hj => k3 j (by have := off5 j hj; omega), h2.ln.keep (k3 q (by omega)) (fun j hj => k3 j (by have := vf j hj; omega)), h2.lc, h2.off⟩
      rw [k3 j (by omega)]
      exact pre_get h2.pre (by simp [hj])
    simp -dsimp only [go_sem, ↓reduceIte, Nat.reduceEqDiff, Nat.reduceAdd, Nat.reduceMul, Nat.reduceSub, Nat.reduceLeDiff, Nat.reduceLT, b72, hH3]
    refine ⟨segL o.s, hb, by rw [k3 H.length (by omega)]; exact b52, by rw [← hH3]; exact List.getElem?_set_self (get_lt b72), by rw [← hH3, List.length_set]; omega⟩
  · simp -dsimp only [go_sem, ↓reduceIte, Nat.reduceEqDiff, Nat.reduceAdd, Nat.reduceMul, Nat.reduceSub, Nat.reduceLeDiff, Nat.reduceLT]
    exact ⟨o.s, h1, b5, b7, by omega⟩
  clear p1 b5 b7 h1 l1 n0
  generalize H.length = i5 at *
  rintro T H2 ⟨s, t0, t1, t5, t7, hB, b5, b7, n2⟩
  simp -dsimp only [go_sem, ↓reduceIte, Nat.reduceEqDiff, Nat.reduceAdd, Nat.reduceMul, Nat.reduceSub, Nat.reduceLeDiff, Nat.reduceLT, t0, t1, t5, t7, b5]
  refine SoundP_of (absLaw o.k _ hk) ?_
  rintro _ H2 ⟨rfl, rfl⟩
  simp -dsimp only [go_sem, ↓reduceIte, Nat.reduceEqDiff, Nat.reduceAdd, Nat.reduceMul, Nat.reduceSub, Nat.reduceLeDiff, Nat.reduceLT, t0, t1, t5, t7, show ((9 : Int) = 0) = False by simp, tm (b := 9) an]
  have hd9 : absL o.k % 9 = 0 ∨ absL o.k % 9 = 1 ∨ absL o.k % 9 = 2 ∨ absL o.k % 9 = 3 ∨ absL o.k % 9 = 4 ∨ absL o.k % 9 = 5 ∨ absL o.k % 9 = 6 ∨ absL o.k % 9 = 7 ∨ absL o.k % 9 = 8 := by omega
  have nb : H0.length ≤ H2.length := pre_len hB.pre
  have lM := line_len hB.lc hB.tl.goodC
  rw [List.length_map] at lM
  have lM2 : ∀ x ∈ M, x.l.length ≤ L.length := fun x hx => lM.2 (x.k, x.l) (List.mem_map.2 ⟨x, hx, rfl⟩)
  clear hk hf ht an
  rcases hd9 with h | h | h | h | h | h | h | h | h
  iterate 6
    · simp -dsimp only [go_sem, ↓reduceIte, Nat.reduceEqDiff, Nat.reduceAdd, Nat.reduceMul, Nat.reduceSub, Nat.reduceLeDiff, Nat.reduceLT, t0, t1, t5, t7, h, Int.reduceBEq]
      refine adrawnP_of4 [(0, 1), (1, 1), (3, 1), (4, 1), (2, 2), (5, 0), (6, 0), (7, 0)] (by kernel_rfl) ?_
      simp -dsimp only [go_sem, ↓reduceIte, Nat.reduceEqDiff, Nat.reduceAdd, Nat.reduceMul, Nat.reduceSub, Nat.reduceLeDiff, Nat.reduceLT, t0, t1, t5, t7, b7]
      refine SoundP_of (tlAdd s H0.length H2 p m M hB.tl nb (fun x hx => by have := lM2 x hx; omega)) ?_
      rintro _ H3 ⟨M3, e, rfl, hT3, hadd, n3, fr3, ft3⟩
      obtain ⟨q3, hL3, off3⟩ := hB.stepT n3 fr3 ft3
      have b73 : H3[i5 + 1]? = some (.row s.cells 5 true) := by rw [fr3 _ (by omega) (fun q2 => by have := off5 _ q2; omega)]; exact b7
      dsimp only [Seg.cells] at b73
      refine again_of (by simp -dsimp only [go_sem, ↓reduceIte, Nat.reduceEqDiff, Nat.reduceAdd, Nat.reduceMul, Nat.reduceSub, Nat.reduceLeDiff, Nat.reduceLT, t0, t1, t5, t7, b73]) ?_
      simp -dsimp only [go_sem, ↓reduceIte, Nat.reduceEqDiff, Nat.reduceAdd, Nat.reduceMul, Nat.reduceSub, Nat.reduceLeDiff, Nat.reduceLT, t0, t1, t5, t7]
      refine SoundP_of (refAdd L s H0.length H3 q v hL3 (by omega) hB.lc.sort (by omega)) ?_
      rintro _ H4 ⟨v4, L4, e', rfl, hL4, hAL, n4, fr4, ow4⟩
      obtain ⟨rfl, hlc⟩ := add_both hB.lc hB.tl.goodC hadd hAL
      simp -dsimp only [go_sem, ↓reduceIte, Nat.reduceEqDiff, Nat.reduceAdd, Nat.reduceMul, Nat.reduceSub, Nat.reduceLeDiff, Nat.reduceLT, t0, t1, t5, t7, beq_self_eq_true]
      exact ⟨M3, v4, L4, both_stepL q3 hT3 hL3 off3 hlc hL4 n4 fr4 ow4, addL_len hAL⟩
  · simp -dsimp only [go_sem, ↓reduceIte, Nat.reduceEqDiff, Nat.reduceAdd, Nat.reduceMul, Nat.reduceSub, Nat.reduceLeDiff, Nat.reduceLT, t0, t1, t5, t7, h, Int.reduceBEq]
    refine adrawnP_of4 [(0, 1), (1, 1), (3, 1), (4, 1), (2, 2), (5, 0), (6, 0), (7, 0)] (by kernel_rfl) ?_
    simp -dsimp only [go_sem, ↓reduceIte, Nat.reduceEqDiff, Nat.reduceAdd, Nat.reduceMul, Nat.reduceSub, Nat.reduceLeDiff, Nat.reduceLT, t0, t1, t5, t7, b7]
    refine SoundP_of (tlRemove s H0.length H2 p m M hB.tl nb) ?_
    rintro _ H3 ⟨M3, e, rfl, hT3, hrem, n3, fr3, ft3⟩
    obtain ⟨q3, hL3, off3⟩ := hB.stepT n3 fr3 ft3
    have b73 : H3[i5 + 1]? = some (.row s.cells 5 true) := by rw [fr3 _ (by omega) (fun q2 => by have := off5 _ q2; omega)]; exact b7
    dsimp only [Seg.cells] at b73
    refine again_of (by simp -dsimp only [go_sem, ↓reduceIte, Nat.reduceEqDiff, Nat.reduceAdd, Nat.reduceMul, Nat.reduceSub, Nat.reduceLeDiff, Nat.reduceLT, t0, t1, t5, t7, b73]) ?_
    simp -dsimp only [go_sem, ↓reduceIte, Nat.reduceEqDiff, Nat.reduceAdd, Nat.reduceMul, Nat.reduceSub, Nat.reduceLeDiff, Nat.reduceLT, t0, t1, t5, t7]
    refine SoundP_of (refRemove L s H0.length H3 q v hL3 (by omega) (by omega)) ?_
    rintro _ H4 ⟨v4, L4, e', rfl, hL4, hRL, n4, fr4, ow4⟩
    obtain ⟨rfl, hlc⟩ := rem_both hB.lc hB.tl.goodC hrem hRL
    simp -dsimp only [go_sem, ↓reduceIte, Nat.reduceEqDiff, Nat.reduceAdd, Nat.reduceMul, Nat.reduceSub, Nat.reduceLeDiff, Nat.reduceLT, t0, t1, t5, t7, beq_self_eq_true]
    exact ⟨M3, v4, L4, both_stepL q3 hT3 hL3 off3 hlc hL4 n4 fr4 ow4, by have := remL_len hRL; omega⟩
  · obtain ⟨a, c, rfl, r2⟩ := hB.ln.read
    have g2 := r2.at_
    simp -dsimp only [go_sem, ↓reduceIte, Nat.reduceEqDiff, Nat.reduceAdd, Nat.reduceMul, Nat.reduceSub, Nat.reduceLeDiff, Nat.reduceLT, t0, t1, t5, t7, h, Int.reduceBEq, g2]
    refine acondP_of (fun hc => ?_) (fun hc => ?_)
    · simp -dsimp only [go_sem, ↓reduceIte, Nat.reduceEqDiff, Nat.reduceAdd, Nat.reduceMul, Nat.reduceSub, Nat.reduceLeDiff, Nat.reduceLT, t0, t1, t5, t7]
      exact ⟨M, _, L, hB, by omega⟩
    have hpos : 0 < L.length := by
      rcases Nat.eq_zero_or_pos L.length with q2 | q2
      · rw [q2] at hc; cases hc
      · exact q2
    have an2 := absL_nn o.s.p
    obtain ⟨j, hj⟩ : ∃ j : Nat, (j : Int) = absL o.s.p % L.length := ⟨(absL o.s.p % L.length).toNat, by have := Int.emod_nonneg (absL o.s.p) (b := (L.length : Int)) (by omega); omega⟩
    have hjl : j < L.length := by have := Int.emod_lt_of_pos (absL o.s.p) (b := (L.length : Int)) (by omega); omega
    obtain ⟨z, hz⟩ := get_ex hjl
    obtain ⟨id, off, rfl, hat⟩ := r2.sl.at (by omega)
    simp -dsimp only [go_sem, ↓reduceIte, Nat.reduceEqDiff, Nat.reduceAdd, Nat.reduceMul, Nat.reduceSub, Nat.reduceLeDiff, Nat.reduceLT, t0, t1, t5, t7]
    refine adrawnP_of2 [(0, false), (1, false), (2, false), (3, false), (4, false), (5, false), (6, false), (8, false), (9, false), (10, false), (11, false), (12, false), (16, false), (7, true), (13, false), (14, false), (15, false), (17, false)] (by kernel_rfl) ?_
    simp -dsimp only [go_sem, ↓reduceIte, Nat.reduceEqDiff, Nat.reduceAdd, Nat.reduceMul, Nat.reduceSub, Nat.reduceLeDiff, Nat.reduceLT, t0, t1, t5, t7, g2, b5]
    refine SoundP_of (absLaw o.s.p _ hsI.2.2.2.1) ?_
    rintro _ H2 ⟨rfl, rfl⟩
    have gz := rowLoad_whole (aload_pre (List.prefix_append H2 [AObj.row [.int .i64 0, .int .i64 0, .int .i64 0, .int .i64 0, .int .i64 0] 5 true]) (hat j z hz))
    have p3 := List.prefix_append H2 [AObj.row z.cells 5 true]
    have b3 := get_end H2 (AObj.row z.cells 5 true) []
    have hB3 := hB.grow p3
    have l3 : (H2 ++ [AObj.row z.cells 5 true]).length = H2.length + 1 := by simp
    have off3 : ∀ j, footT p m M j → j < H2.length := fun j hj => (hB.tl.foot hj).2
    dsimp only [Seg.cells] at p3 b3 hB3 l3
    simp -dsimp only [go_sem, ↓reduceIte, Nat.reduceEqDiff, Nat.reduceAdd, Nat.reduceMul, Nat.reduceSub, Nat.reduceLeDiff, Nat.reduceLT, t0, t1, t5, t7, show ((L.length : Int) = 0) = False by simp only [eq_iff_iff, iff_false]; omega, tm (b := (L.length : Int)) an2, ← hj, inRange hjl, gz, b3]
    generalize H2 ++ [AObj.row [.int .i64 z.f, .int .i64 z.t, .int .i64 z.v, .int .i64 z.p, .int .i64 z.c] 5 true] = H3 at *
    generalize H2.length = i8 at *
    refine adrawnP_of4 [(0, 1), (1, 1), (3, 1), (4, 1), (2, 2), (5, 0), (6, 0), (7, 0)] (by kernel_rfl) ?_
    simp -dsimp only [go_sem, ↓reduceIte, Nat.reduceEqDiff, Nat.reduceAdd, Nat.reduceMul, Nat.reduceSub, Nat.reduceLeDiff, Nat.reduceLT, t0, t1, t5, t7, b3]
    refine SoundP_of (tlRemove z H0.length H3 p m M hB3.tl (pre_len hB3.pre)) ?_
    rintro _ H4 ⟨M4, e, rfl, hT4, hrem, n4, fr4, ft4⟩
    obtain ⟨q4, hL4, off4⟩ := hB3.stepT n4 fr4 ft4
    have b4 : H4[i8]? = some (.row z.cells 5 true) := by rw [fr4 _ (by omega) (fun q2 => by have := off3 _ q2; omega)]; exact b3
    dsimp only [Seg.cells] at b4
    refine again_of (by simp -dsimp only [go_sem, ↓reduceIte, Nat.reduceEqDiff, Nat.reduceAdd, Nat.reduceMul, Nat.reduceSub, Nat.reduceLeDiff, Nat.reduceLT, t0, t1, t5, t7, b4]) ?_
    simp -dsimp only [go_sem, ↓reduceIte, Nat.reduceEqDiff, Nat.reduceAdd, Nat.reduceMul, Nat.reduceSub, Nat.reduceLeDiff, Nat.reduceLT, t0, t1, t5, t7]
    refine SoundP_of (refRemove L z H0.length H4 q _ hL4 (by have := pre_len q4; omega) (by omega)) ?_
    rintro _ H5 ⟨v5, L5, e', rfl, hL5, hRL, n5, fr5, ow5⟩
    obtain ⟨rfl, hlc⟩ := rem_both hB.lc hB.tl.goodC hrem hRL
    simp -dsimp only [go_sem, ↓reduceIte, Nat.reduceEqDiff, Nat.reduceAdd, Nat.reduceMul, Nat.reduceSub, Nat.reduceLeDiff, Nat.reduceLT, t0, t1, t5, t7, beq_self_eq_true]
    exact ⟨M4, v5, L5, both_stepL q4 hT4 hL4 off4 hlc hL5 n5 fr5 ow5, by have := remL_len hRL; omega⟩
  · simp -dsimp only [go_sem, ↓reduceIte, Nat.reduceEqDiff, Nat.reduceAdd, Nat.reduceMul, Nat.reduceSub, Nat.reduceLeDiff, Nat.reduceLT, t0, t1, t5, t7, h, Int.reduceBEq]
    refine adrawnP_of4 [(0, 1), (1, 1), (2, 1), (4, 1), (5, 1), (6, 1), (3, 2), (7, 0), (8, 0), (9, 0)] (by kernel_rfl) ?_
    simp -dsimp only [go_sem, ↓reduceIte, Nat.reduceEqDiff, Nat.reduceAdd, Nat.reduceMul, Nat.reduceSub, Nat.reduceLeDiff, Nat.reduceLT, t0, t1, t5, t7, b5]
    refine SoundP_of (tlLookup o.f o.t H0.length H2 p m M hB.tl (by omega) (fun x hx => by have := lM2 x hx; omega)) ?_
    rintro v3 H3 ⟨o3, p3⟩
    have b53 := pre_get p3 b5
    dsimp only [OpS.cells] at b53
    have hB3 := hB.grow p3
    have hP := line_pure hB.lc hB.tl.goodC (by omega)
    have hlen := looks_len hP.good hP.clen hP.xlen o.f o.t
    obtain ⟨a, c, rfl, r3⟩ := hB3.ln.read
    refine again_of (by simp -dsimp only [go_sem, ↓reduceIte, Nat.reduceEqDiff, Nat.reduceAdd, Nat.reduceMul, Nat.reduceSub, Nat.reduceLeDiff, Nat.reduceLT, t0, t1, t5, t7, b53]) ?_
    simp -dsimp only [go_sem, ↓reduceIte, Nat.reduceEqDiff, Nat.reduceAdd, Nat.reduceMul, Nat.reduceSub, Nat.reduceLeDiff, Nat.reduceLT, t0, t1, t5, t7]
    refine SoundP_of (refLookup L (cont M) o.f o.t q a c H3 r3 hP) ?_
    rintro v4 H4 ⟨o4, p4⟩
    obtain ⟨a3, c3, rfl, s3⟩ := o3.sl (fun _ => rfl)
    obtain ⟨a4, c4, rfl, s4⟩ := o4.sl (fun _ => rfl)
    simp -dsimp only [go_sem, ↓reduceIte, Nat.reduceEqDiff, Nat.reduceAdd, Nat.reduceMul, Nat.reduceSub, Nat.reduceLeDiff, Nat.reduceLT, t0, t1, t5, t7]
    refine SoundP_of (samePieces _ _ a3 a4 c3 c4 H4 (s3.pre p4) s4 (by change (lookC (cont M) o.f o.t).length ≤ 20000 at hlen; omega)) ?_
    rintro _ H5 ⟨rfl, p5⟩
    simp -dsimp only [go_sem, ↓reduceIte, Nat.reduceEqDiff, Nat.reduceAdd, Nat.reduceMul, Nat.reduceSub, Nat.reduceLeDiff, Nat.reduceLT, t0, t1, t5, t7, decide_true]
    exact ⟨M, _, L, hB3.grow (p4.trans p5), by omega⟩
end Go.Proofs.Ythbifkeadbmcnaa
