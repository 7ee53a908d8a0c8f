/-
  The walk of LinePlays.
-/
import Derived.Test.YthbifkeadbmcnaaPureBoth
import Derived.Test.YthbifkeadbmcnaaAwake
import Derived.Test.YthbifkeadbmcnaaAwTop
set_option linter.unusedVariables false
set_option linter.unusedSimpArgs false
namespace Go.Proofs.Ythbifkeadbmcnaa
open Go Go.AW Go.Bub
set_option linter.unusedSimpArgs false
set_option maxRecDepth 20000

set_option maxHeartbeats 2000000 in
theorem linePlays (script : List OpS) (f0 t0 : Int) (a : Option Addr) (c : Nat) (H : AHeap) (hs : SlA H OpS.cells 8 a script) (ga : ArgSl a script.length c) (hw : ∀ o ∈ script, OpI o) :
    Sound Try.prog 7 [.slice a script.length c, spanV f0 t0] H fun v _ => v = .bool true := by
  refine Sound.of_body (rs := [.tmp 4]) mixed Try.func7 rfl (by kernel_rfl) rfl (by kernel_rfl) ?_
  have b0 := get_end H (AObj.row [.int .i64 f0, .int .i64 t0] 2 true) []
  have hs0 := hs.pre (List.prefix_append H [AObj.row [.int .i64 f0, .int .i64 t0] 2 true])
  simp -dsimp only [go_sem, ↓reduceIte, Nat.reduceEqDiff, Nat.reduceAdd, Nat.reduceMul, Nat.reduceSub, Nat.reduceLeDiff, Nat.reduceLT]
  generalize H ++ [AObj.row [.int .i64 f0, .int .i64 t0] 2 true] = H0 at *
  generalize H.length = ib at *
  refine SoundP_of (awake H0) ?_
  rintro _ H1 ⟨rfl, p1⟩
  have b1 := pre_get p1 b0
  have hs1 := hs0.pre p1
  simp -dsimp only [go_sem, ↓reduceIte, Nat.reduceEqDiff, Nat.reduceAdd, Nat.reduceMul, Nat.reduceSub, Nat.reduceLeDiff, Nat.reduceLT]
  refine SoundP_of (tlNew H1) ?_
  rintro _ H2 ⟨rfl, hH2, hT2⟩
  have p2 : H1 <+: H2 := by rw [hH2]; exact List.prefix_append _ _
  have n2 := pre_len p2
  clear hH2
  have p23 := List.prefix_append H2 [AObj.row [.slice none 0 0] 1 true]
  have hB3 : Both H1 (H2 ++ [AObj.row [.slice none 0 0] 1 true]) (H1.length + 1) H1.length [] H2.length (.slice none 0 0) [] :=
    ⟨p2.trans p23, hT2.pre p23, ⟨n2, get_end _ _ _, Own.nil _ _ _ _, fun q => by simp [owner] at q⟩, line_nil, fun j hj => ⟨by have := (hT2.foot hj).2; omega, fun q => by simp [owner] at q⟩⟩
  obtain ⟨H3, hH3⟩ : ∃ H3, H2 ++ [AObj.row [.slice none 0 0] 1 true] = H3 := ⟨_, rfl⟩
  obtain ⟨q, hq⟩ : ∃ q, H2.length = q := ⟨_, rfl⟩
  obtain ⟨p, hp⟩ : ∃ p, H1.length + 1 = p := ⟨_, rfl⟩
  obtain ⟨m, hm⟩ : ∃ m, H1.length = m := ⟨_, rfl⟩
  rw [hH3, hq, hp] at hB3
  have hB3 : Both H1 H3 p m [] q (.slice none 0 0) [] := by rw [← hm]; exact hB3
  clear hT2 p23
  simp -dsimp only [go_sem, ↓reduceIte, Nat.reduceEqDiff, Nat.reduceAdd, Nat.reduceMul, Nat.reduceSub, Nat.reduceLeDiff, Nat.reduceLT, hH3]
  refine aloop_join (fun T H' => ∃ (M : List SetS) (v : Value) (L : List Seg), T 3 = ptrV ib ∧ T 6 = ptrV p ∧ T 7 = ptrV q ∧ Both H1 H' p m M q v L ∧ L.length ≤ 40)
    (fun n T H' => ∃ (i : Nat) (M : List SetS) (v : Value) (L : List Seg), n = 40 - i ∧ i ≤ 40 ∧ T 0 = .slice a script.length c ∧ T 3 = ptrV ib ∧ T 6 = ptrV p ∧ T 7 = ptrV q ∧ T 8 = .int .i64 (i : Nat) ∧ Both H1 H' p m M q v L ∧ L.length ≤ i) (n := 40) ?_ ?_ ?_
  · refine ⟨0, [], .slice none 0 0, [], ?_⟩
    simp -dsimp only [go_sem, ↓reduceIte, Nat.reduceEqDiff, Nat.reduceAdd, Nat.reduceMul, Nat.reduceSub, Nat.reduceLeDiff, Nat.reduceLT, hq, hp, hH3]
    exact ⟨rfl, hB3⟩
  · rintro n T H4 ⟨i, M, v, L, rfl, hi, t0', t3, t6, t7, t8, hB, hLi⟩
    cases hc1 : decide ((i : Int) < (script.length : Int)) with
    | false =>
      simp -dsimp only [go_sem, ↓reduceIte, Nat.reduceEqDiff, Nat.reduceAdd, Nat.reduceMul, Nat.reduceSub, Nat.reduceLeDiff, Nat.reduceLT, t0', t3, t6, t7, t8, hc1]
      exact ⟨M, v, L, hB, by omega⟩
    | true =>
      have hc1' : i < script.length := by simpa using hc1
      simp -dsimp only [go_sem, ↓reduceIte, Nat.reduceEqDiff, Nat.reduceAdd, Nat.reduceMul, Nat.reduceSub, Nat.reduceLeDiff, Nat.reduceLT, t0', t3, t6, t7, t8, hc1]
      refine acondP_of (fun hc2 => ?_) (fun hc2 => ?_)
      rotate_left
      · simp -dsimp only [go_sem, ↓reduceIte, Nat.reduceEqDiff, Nat.reduceAdd, Nat.reduceMul, Nat.reduceSub, Nat.reduceLeDiff, Nat.reduceLT, t0', t3, t6, t7, t8]
        exact ⟨M, v, L, hB, by omega⟩
      simp at hc2
      obtain ⟨o, hoi⟩ := get_ex hc1'
      obtain ⟨id, off, rfl, hat⟩ := (hs1.pre hB.pre).at (by omega)
      simp -dsimp only [go_sem, ↓reduceIte, Nat.reduceEqDiff, Nat.reduceAdd, Nat.reduceMul, Nat.reduceSub, Nat.reduceLeDiff, Nat.reduceLT, t0', t3, t6, t7, t8, inRange hc1', rowLoad_whole (hat i o hoi)]
      refine SoundP_of (callLaw o H1 H4 p m M q v L hB (by omega) (hw o (List.mem_of_getElem? hoi))) ?_
      rintro _ H5 ⟨rfl, M5, v5, L5, hB5, hL5⟩
      simp -dsimp only [go_sem, ↓reduceIte, Nat.reduceEqDiff, Nat.reduceAdd, Nat.reduceMul, Nat.reduceSub, Nat.reduceLeDiff, Nat.reduceLT, t0', t3, t6, t7, t8, wrS (show i < 4611686018427387904 by omega)]
      exact ⟨_, by omega, i + 1, M5, v5, L5, rfl, by omega, rfl, hB5, by omega⟩
  rintro T H4 ⟨M, v, L, t3, t6, t7, hB, hL⟩
  have b4 := pre_get hB.pre b1
  have lM := line_len hB.lc hB.tl.goodC
  rw [List.length_map] at lM
  have lM2 : ∀ x ∈ M, x.l.length ≤ L.length := fun x hx => lM.2 (x.k, x.l) (List.mem_map.2 ⟨x, hx, rfl⟩)
  have hP := line_pure hB.lc hB.tl.goodC (by omega)
  have hlen := looks_len hP.good hP.clen hP.xlen f0 t0
  change (lookC (cont M) f0 t0).length ≤ 20000 at hlen
  have hfl : ((cont M).flatMap fun x => x.2).length ≤ 40 := by rw [← (hB.lc.perm hP.good).length_eq]; exact hL
  have hvL := Nat.le_trans (visL_len (cont M)) hfl
  have hcL := Nat.le_trans (coverL_len (cont M)) hfl
  simp -dsimp only [go_sem, ↓reduceIte, Nat.reduceEqDiff, Nat.reduceAdd, Nat.reduceMul, Nat.reduceSub, Nat.reduceLeDiff, Nat.reduceLT, t3, t6, t7]
  refine adrawnP_of4 [(0, 1), (1, 1), (3, 1), (4, 1), (2, 2), (5, 0), (6, 0), (7, 0)] (by kernel_rfl) ?_
  simp -dsimp only [go_sem, ↓reduceIte, Nat.reduceEqDiff, Nat.reduceAdd, Nat.reduceMul, Nat.reduceSub, Nat.reduceLeDiff, Nat.reduceLT, t3, t6, t7, b4]
  refine SoundP_of (tlLookup f0 t0 H1.length H4 p m M hB.tl (by omega) (fun x hx => by have := lM2 x hx; omega)) ?_
  rintro v5 H5 ⟨o5, p5⟩
  have b5 := pre_get p5 b4
  have hB5 := hB.grow p5
  obtain ⟨av, cv, rfl, r5⟩ := hB5.ln.read
  refine again_of (by simp -dsimp only [go_sem, ↓reduceIte, Nat.reduceEqDiff, Nat.reduceAdd, Nat.reduceMul, Nat.reduceSub, Nat.reduceLeDiff, Nat.reduceLT, t3, t6, t7, b5]) ?_
  simp -dsimp only [go_sem, ↓reduceIte, Nat.reduceEqDiff, Nat.reduceAdd, Nat.reduceMul, Nat.reduceSub, Nat.reduceLeDiff, Nat.reduceLT, t3, t6, t7]
  refine SoundP_of (refLookup L (cont M) f0 t0 q av cv H5 r5 hP) ?_
  rintro v6 H6 ⟨o6, p6⟩
  obtain ⟨a5, c5, rfl, s5⟩ := o5.sl (fun _ => rfl)
  obtain ⟨a6, c6, rfl, s6⟩ := o6.sl (fun _ => rfl)
  simp -dsimp only [go_sem, ↓reduceIte, Nat.reduceEqDiff, Nat.reduceAdd, Nat.reduceMul, Nat.reduceSub, Nat.reduceLeDiff, Nat.reduceLT, t3, t6, t7]
  refine SoundP_of (samePieces _ _ a5 a6 c5 c6 H6 (s5.pre p6) s6 (by omega)) ?_
  rintro _ H7 ⟨rfl, p7⟩
  have hB7 := hB5.grow (p6.trans p7)
  have r7 := r5.pre (p6.trans p7)
  simp -dsimp only [go_sem, ↓reduceIte, Nat.reduceEqDiff, Nat.reduceAdd, Nat.reduceMul, Nat.reduceSub, Nat.reduceLeDiff, Nat.reduceLT, t3, t6, t7, decide_true]
  refine SoundP_of (tlVisible H1.length H7 p m M hB7.tl (by omega) (fun x hx => by have := lM2 x hx; omega)) ?_
  rintro v8 H8 ⟨o8, p8⟩
  simp -dsimp only [go_sem, ↓reduceIte, Nat.reduceEqDiff, Nat.reduceAdd, Nat.reduceMul, Nat.reduceSub, Nat.reduceLeDiff, Nat.reduceLT, t3, t6, t7]
  refine SoundP_of (refVisible L (cont M) q av cv H8 (r7.pre p8) hP) ?_
  rintro v9 H9 ⟨o9, p9⟩
  obtain ⟨a8, c8, rfl, s8⟩ := o8.sl (fun _ => rfl)
  obtain ⟨a9, c9, rfl, s9⟩ := o9.sl (fun _ => rfl)
  simp -dsimp only [go_sem, ↓reduceIte, Nat.reduceEqDiff, Nat.reduceAdd, Nat.reduceMul, Nat.reduceSub, Nat.reduceLeDiff, Nat.reduceLT, t3, t6, t7]
  refine SoundP_of (sameSegs _ _ a8 a9 c8 c9 H9 (s8.pre p9) s9 (by omega)) ?_
  rintro _ H10 ⟨rfl, p10⟩
  have p710 := p8.trans (p9.trans p10)
  have hB10 := hB7.grow p710
  have r10 := r7.pre p710
  simp -dsimp only [go_sem, ↓reduceIte, Nat.reduceEqDiff, Nat.reduceAdd, Nat.reduceMul, Nat.reduceSub, Nat.reduceLeDiff, Nat.reduceLT, t3, t6, t7, decide_true]
  refine SoundP_of (tlCovered H1.length H10 p m M hB10.tl (by omega) (fun x hx => by have := lM2 x hx; omega)) ?_
  rintro v11 H11 ⟨o11, p11⟩
  simp -dsimp only [go_sem, ↓reduceIte, Nat.reduceEqDiff, Nat.reduceAdd, Nat.reduceMul, Nat.reduceSub, Nat.reduceLeDiff, Nat.reduceLT, t3, t6, t7]
  refine SoundP_of (refCovered L (cont M) q av cv H11 (r10.pre p11) hP) ?_
  rintro v12 H12 ⟨o12, p12⟩
  obtain ⟨a11, c11, rfl, s11⟩ := o11.sl (fun _ => rfl)
  obtain ⟨a12, c12, rfl, s12⟩ := o12.sl (fun _ => rfl)
  simp -dsimp only [go_sem, ↓reduceIte, Nat.reduceEqDiff, Nat.reduceAdd, Nat.reduceMul, Nat.reduceSub, Nat.reduceLeDiff, Nat.reduceLT, t3, t6, t7]
  refine SoundP_of (sameSegs _ _ a11 a12 c11 c12 H12 (s11.pre p12) s12 (by omega)) ?_
  rintro _ H13 ⟨rfl, p13⟩
  simp -dsimp only [go_sem, ↓reduceIte, Nat.reduceEqDiff, Nat.reduceAdd, Nat.reduceMul, Nat.reduceSub, Nat.reduceLeDiff, Nat.reduceLT, t3, t6, t7, decide_true]
/-! ### how what is handed in is read -/
open Go.ChangeShapes Go.WideShapes
theorem wfI {n : Int} (h : (Lit.int .i64 n).wf = true) : InI n := by
  simp [Lit.wf, IntKind.min, IntKind.max, IntKind.bits, IntKind.signed] at h
  unfold InI; omega
instance : Inhabited OpS := ⟨⟨0, ⟨0, 0, 0, 0, 0⟩, 0, 0⟩⟩
theorem decOp : ∀ cs, AW.Fits [.int .i64, .int .i64, .int .i64, .int .i64, .int .i64, .int .i64, .int .i64, .int .i64] cs → ∃ o : OpS, cs = o.cells ∧ OpI o := by
  intro cs h
  obtain ⟨v0, r1, rfl, ⟨n0, rfl, w0⟩, h1⟩ := h.cons
  obtain ⟨v1, r2, rfl, ⟨n1, rfl, w1⟩, h2⟩ := h1.cons
  obtain ⟨v2, r3, rfl, ⟨n2, rfl, w2⟩, h3⟩ := h2.cons
  obtain ⟨v3, r4, rfl, ⟨n3, rfl, w3⟩, h4⟩ := h3.cons
  obtain ⟨v4, r5, rfl, ⟨n4, rfl, w4⟩, h5⟩ := h4.cons
  obtain ⟨v5, r6, rfl, ⟨n5, rfl, w5⟩, h6⟩ := h5.cons
  obtain ⟨v6, r7, rfl, ⟨n6, rfl, w6⟩, h7⟩ := h6.cons
  obtain ⟨v7, r8, rfl, ⟨n7, rfl, w7⟩, h8⟩ := h7.cons
  obtain rfl := h8.end_
  exact ⟨⟨n0, ⟨n1, n2, n3, n4, n5⟩, n6, n7⟩, rfl, wfI w0, ⟨wfI w1, wfI w2, wfI w3, wfI w4, wfI w5⟩, wfI w6, wfI w7⟩
/-- a span that is handed in -/
theorem openSpan {H : Type} {enc : TypeId × Value → H} {P : Program} {W : World} {r : Reach} {b0 b1 d : Nat} {spare : Nat → Bool} {held : Bool} {t : TypeId} {fs : Array Field} {v : Value} {x : DataW H} {ps : List MemPlace} (ht : P.underlying t = some (.struct fs)) (hl : leafs P d t = some [.int .i64, .int .i64]) (hval : Value.okWide P W r b0 t v)
    (hd : DataW.Trod enc P W b1 spare held t v x ps) : ∃ f t : Int, v = spanV f t ∧ InI f ∧ InI t ∧ ∀ ρ : Ren, VR ρ (spanV f t) v := by
  obtain ⟨cs, rfl, -⟩ := okWide_struct ht hval
  obtain ⟨m, hm⟩ := hd
  have hf := trod_leafs d t _ m _ _ hl hm
  obtain ⟨v0, r1, h0, ⟨n0, rfl, w0⟩, h1⟩ := hf.cons
  obtain ⟨v1, r2, rfl, ⟨n1, rfl, w1⟩, h2⟩ := h1.cons
  obtain rfl := h2.end_
  have e : cs = #[.int .i64 n0, .int .i64 n1] := by
    apply Array.toList_inj.1
    simpa [Value.cells] using h0
  subst e
  refine ⟨n0, n1, rfl, wfI w0, wfI w1, fun ρ => .agg rfl fun i u u' h h' => ?_⟩
  cases h.symm.trans h'
  match i, h with
  | 0, h => cases h; exact .int _ _
  | 1, h => cases h; exact .int _ _
end Go.Proofs.Ythbifkeadbmcnaa
