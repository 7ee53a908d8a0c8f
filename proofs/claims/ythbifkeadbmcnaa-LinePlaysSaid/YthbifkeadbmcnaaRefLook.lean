/-
  The document's Lookup. The document's Visible and Covered.
-/
import Derived.Test.YthbifkeadbmcnaaPureRef
set_option linter.unusedVariables false
set_option linter.unusedSimpArgs false
namespace Go.Proofs.Ythbifkeadbmcnaa
open Go Go.AW Go.Bub
set_option linter.unusedSimpArgs false
set_option maxRecDepth 20000

/-- what is settled once -/
structure LinePure (L : List Seg) (C : List KL) : Prop where
  line : LineC L C
  good : GoodC C
  len : L.length ≤ 100
  clen : C.length ≤ 100
  xlen : ∀ x ∈ C, x.2.length ≤ 100
theorem looks_len {C : List KL} (hg : GoodC C) (hC : C.length ≤ 100) (hl : ∀ x ∈ C, x.2.length ≤ 100) (a b : Int) : (lookS (strsC C) a b).length ≤ 20000 := lookC_len hg hC hl a b
def filt (L : List Seg) (k : Key) (f t : Int) (i : Nat) : List Piece := ((L.take i).filter fun z => decide (z.key = k)).map fun z => ⟨z, f, t⟩
theorem filt_step {L : List Seg} {k : Key} {f t : Int} {i : Nat} {z : Seg} (hz : L[i]? = some z) : filt L k f t (i + 1) = filt L k f t i ++ if z.key = k then [⟨z, f, t⟩] else [] := by
  unfold filt
  rw [take_get hz, List.filter_append, List.map_append]
  by_cases h : z.key = k
  · simp [h]
  · simp [h]
theorem filt_len (L : List Seg) (k : Key) (f t : Int) (i : Nat) : (filt L k f t i).length ≤ L.length := by
  unfold filt
  rw [List.length_map]
  refine Nat.le_trans (List.length_filter_le _ _) ?_
  rw [List.length_take]; omega
set_option maxHeartbeats 1000000 in
theorem refLookup (L : List Seg) (C : List KL) (f0 t0 : Int) (q : Nat) (a : Option Addr) (c : Nat) (H : AHeap) (h : LineR H q a c L) (hp : LinePure L C) :
    Sound Try.prog 21 [ptrV q, spanV f0 t0] H fun v H' => OwnP H.length H' v (lookC C f0 t0) ∧ H <+: H' := by
  refine Sound.of_body (rs := [.tmp 4]) mixed Try.func21 rfl (by kernel_rfl) rfl (by kernel_rfl) ?_
  have b0 := get_end H (AObj.row [.int .i64 f0, .int .i64 t0] 2 true) []
  have p0 := List.prefix_append H [AObj.row [.int .i64 f0, .int .i64 t0] 2 true]
  have h0 := h.pre p0
  have l0 : (H ++ [AObj.row [.int .i64 f0, .int .i64 t0] 2 true]).length = H.length + 1 := by simp
  have ht := told_strs hp.good.keys
  have hlen := fun x y => looks_len hp.good hp.clen hp.xlen x y
  have hcon := fun time e => @next_const _ _ hp.line hp.good time e
  have hat := fun time => atL_eq hp.line hp.good time
  simp -dsimp only [go_sem, ↓reduceIte, Nat.reduceEqDiff, Nat.reduceAdd, Nat.reduceMul, Nat.reduceSub, Nat.reduceLeDiff, Nat.reduceLT, b0]
  obtain ⟨ib, hib⟩ : ∃ ib, H.length = ib := ⟨_, rfl⟩
  rw [hib] at b0
  obtain ⟨H1, hH1⟩ : ∃ H1, H ++ [AObj.row [.int .i64 f0, .int .i64 t0] 2 true] = H1 := ⟨_, rfl⟩
  rw [hH1] at b0 p0 h0 l0
  refine aloopP_of (fun n T H' => ∃ (from_ : Int) (v5 : Value), n = (t0 - from_).toNat ∧ f0 ≤ from_ ∧ (from_ = f0 ∨ from_ = t0 ∨ CutAt (strsC C) from_) ∧ (from_ = f0 ∨ from_ ≤ t0) ∧
      T 0 = ptrV q ∧ T 3 = ptrV ib ∧ T 5 = v5 ∧ T 6 = .int .i64 from_ ∧ H1 <+: H' ∧ OwnP H1.length H' v5 (lookS (strsC C) f0 from_)) (n := (t0 - f0).toNat) ?_ ?_
  · refine ⟨f0, .slice none 0 0, ?_⟩
    simp -dsimp only [go_sem, ↓reduceIte, Nat.reduceEqDiff, Nat.reduceAdd, Nat.reduceMul, Nat.reduceSub, Nat.reduceLeDiff, Nat.reduceLT]
    subst hib
    refine ⟨Int.le_refl _, .inl trivial, .inl trivial, rfl, by rw [hH1]; exact List.prefix_refl _, ?_⟩
    rw [lookS_nil fun s hs => by have := ht.lt s hs; omega]
    exact Own.nil _ _ _ _
  rintro n T H2 ⟨from_, v5, rfl, hf0, hcut, hft, t0', t3, t5, t6, p2, o2⟩
  have b2 := pre_get p2 b0
  simp -dsimp only [go_sem, ↓reduceIte, Nat.reduceEqDiff, Nat.reduceAdd, Nat.reduceMul, Nat.reduceSub, Nat.reduceLeDiff, Nat.reduceLT, t0', t3, t5, t6, b2]
  refine acondP_of (fun hc => ?_) (fun hc => ?_)
  rotate_left
  · simp at hc
    simp -dsimp only [go_sem, ↓reduceIte, Nat.reduceEqDiff, Nat.reduceAdd, Nat.reduceMul, Nat.reduceSub, Nat.reduceLeDiff, Nat.reduceLT, t0', t3, t5, t6]
    refine ⟨?_, p0.trans p2⟩
    have e : lookS (strsC C) f0 from_ = lookC C f0 t0 := by
      rcases hft with q1 | q1
      · subst q1
        rw [lookC, lookS_nil fun s hs => by have := ht.lt s hs; omega, lookS_nil fun s hs => by have := ht.lt s hs; omega]
      · rw [show from_ = t0 by omega]; rfl
    rw [e] at o2
    exact o2.mono (by omega)
  have hc := of_decide_eq_true hc
  simp -dsimp only [go_sem, ↓reduceIte, Nat.reduceEqDiff, Nat.reduceAdd, Nat.reduceMul, Nat.reduceSub, Nat.reduceLeDiff, Nat.reduceLT, t0', t3, t5, t6]
  refine SoundP_of (refAt L from_ q a c H2 (h0.pre p2) (by have := hp.len; omega)) ?_
  rintro _ H3 ⟨rfl, p3⟩
  have hatf := hat from_
  have p13 := p2.trans p3
  have l13 := pre_len p13
  have o3 := o2.pre p3
  have h3 := h0.pre p13
  have b3 := pre_get p13 b0
  have h4 := h3.pre (List.prefix_append H3 [AObj.row ((atL L from_).getD seg0).cells 5 true])
  have r4 := get_end H3 (AObj.row ((atL L from_).getD seg0).cells 5 true) []
  have b4 := pre_get (List.prefix_append H3 [AObj.row ((atL L from_).getD seg0).cells 5 true]) b3
  have o4 := o3.pre (List.prefix_append H3 [AObj.row ((atL L from_).getD seg0).cells 5 true])
  have p14 := p13.trans (List.prefix_append H3 [AObj.row ((atL L from_).getD seg0).cells 5 true])
  have l4 : (H3 ++ [AObj.row ((atL L from_).getD seg0).cells 5 true]).length = H3.length + 1 := by simp
  have ne4 : owner v5 ≠ some H3.length := fun q => by have := (o3.owner_ge q).2; omega
  generalize atL L from_ = best at *
  dsimp only [Seg.cells] at h4 r4 b4 o4 p14 l4
  simp -dsimp only [go_sem, ↓reduceIte, Nat.reduceEqDiff, Nat.reduceAdd, Nat.reduceMul, Nat.reduceSub, Nat.reduceLeDiff, Nat.reduceLT, t0', t3, t5, t6, b3]
  generalize H3 ++ [AObj.row [.int .i64 (best.getD seg0).f, .int .i64 (best.getD seg0).t, .int .i64 (best.getD seg0).v, .int .i64 (best.getD seg0).p, .int .i64 (best.getD seg0).c] 5 true] = H4 at *
  simp -dsimp only [go_sem, ↓reduceIte, Nat.reduceEqDiff, Nat.reduceAdd, Nat.reduceMul, Nat.reduceSub, Nat.reduceLeDiff, Nat.reduceLT, t0', t3, t5, t6, b4]
  refine SoundP_of (refNext L from_ t0 q a c H4 h4 (by have := hp.len; omega)) ?_
  rintro _ H4 ⟨rfl, rfl⟩
  have hn := (next_spec (L := L) hc).1
  have hk := fun m => hcon from_ t0 hc (m := m)
  generalize nextL L from_ t0 = to1 at *
  simp -dsimp only [go_sem, ↓reduceIte, Nat.reduceEqDiff, Nat.reduceAdd, Nat.reduceMul, Nat.reduceSub, Nat.reduceLeDiff, Nat.reduceLT, t0', t3, t5, t6]
  generalize H3.length = i7 at *
  refine aloop_join (fun T H' => ∃ (to : Int), T 0 = ptrV q ∧ T 3 = ptrV ib ∧ T 5 = v5 ∧ T 6 = .int .i64 from_ ∧ T 7 = ptrV i7 ∧ T 8 = .bool best.isSome ∧ T 9 = .int .i64 to ∧ H4 <+: H' ∧ from_ < to ∧ to ≤ t0 ∧ (∀ m, from_ ≤ m → m < to → atC (wholes C) m = atC (wholes C) from_) ∧
      (best.isSome = true → to = t0 ∨ ∀ x y, atC (wholes C) from_ = some x → atC (wholes C) to = some y → y.1 ≠ x.1))
    (fun n T H' => ∃ (to : Int), n = (t0 - to).toNat ∧ T 0 = ptrV q ∧ T 3 = ptrV ib ∧ T 5 = v5 ∧ T 6 = .int .i64 from_ ∧ T 7 = ptrV i7 ∧ T 8 = .bool best.isSome ∧ T 9 = .int .i64 to ∧ H4 <+: H' ∧ from_ < to ∧ to ≤ t0 ∧ (∀ m, from_ ≤ m → m < to → atC (wholes C) m = atC (wholes C) from_)) (n := (t0 - to1).toNat) ?_ ?_ ?_
  · refine ⟨to1, ?_⟩
    simp -dsimp only [go_sem, ↓reduceIte, Nat.reduceEqDiff, Nat.reduceAdd, Nat.reduceMul, Nat.reduceSub, Nat.reduceLeDiff, Nat.reduceLT, t0', t3, t5, t6]
    exact ⟨List.prefix_refl _, hn.1, hn.2, fun m h1 h2 => hk m h1 h2⟩
  · rintro n T H5 ⟨to, rfl, t0', t3, t5, t6, t7, t8, t9, p5, hft, htt, hto⟩
    have b5 := pre_get p5 b4
    have r5 := pre_get p5 r4
    have h5 := h4.pre p5
    cases best with
    | none =>
      cases hd : decide (to < t0) with
      | false =>
        simp -dsimp only [go_sem, ↓reduceIte, Nat.reduceEqDiff, Nat.reduceAdd, Nat.reduceMul, Nat.reduceSub, Nat.reduceLeDiff, Nat.reduceLT, t0', t3, t5, t6, t7, t8, t9, b5, hd, Option.isSome_none]
        exact ⟨to, rfl, p5, hft, htt, hto, fun q => by cases q⟩
      | true =>
        simp -dsimp only [go_sem, ↓reduceIte, Nat.reduceEqDiff, Nat.reduceAdd, Nat.reduceMul, Nat.reduceSub, Nat.reduceLeDiff, Nat.reduceLT, t0', t3, t5, t6, t7, t8, t9, b5, hd, Option.isSome_none]
        exact ⟨to, rfl, p5, hft, htt, hto, fun q => by cases q⟩
    | some b =>
      cases hd : decide (to < t0) with
      | false =>
        have hd := of_decide_eq_false hd
        simp -dsimp only [go_sem, ↓reduceIte, Nat.reduceEqDiff, Nat.reduceAdd, Nat.reduceMul, Nat.reduceSub, Nat.reduceLeDiff, Nat.reduceLT, t0', t3, t5, t6, t7, t8, t9, b5, decide_eq_false hd]
        exact ⟨to, rfl, p5, hft, htt, hto, fun _ => .inl (by omega)⟩
      | true =>
        have hd' := of_decide_eq_true hd
        simp -dsimp only [go_sem, ↓reduceIte, Nat.reduceEqDiff, Nat.reduceAdd, Nat.reduceMul, Nat.reduceSub, Nat.reduceLeDiff, Nat.reduceLT, t0', t3, t5, t6, t7, t8, t9, b5, hd, Option.isSome_some]
        refine SoundP_of (refAt L to q a c H5 h5 (by have := hp.len; omega)) ?_
        rintro _ H6 ⟨rfl, p6⟩
        have hatt := hat to
        obtain ⟨xf, hxf, hbf⟩ := hatf
        have p7 := List.prefix_append H6 [AObj.row ((atL L to).getD seg0).cells 5 true]
        have r7 := get_end H6 (AObj.row ((atL L to).getD seg0).cells 5 true) []
        have r57 := pre_get (p6.trans p7) r5
        have b57 := pre_get (p6.trans p7) b5
        have h7 := h5.pre (p6.trans p7)
        have p57 := p5.trans (p6.trans p7)
        generalize atL L to = more at *
        dsimp only [Seg.cells, Option.getD_some] at p7 r7 r57 b57 h7 p57
        simp -dsimp only [go_sem, ↓reduceIte, Nat.reduceEqDiff, Nat.reduceAdd, Nat.reduceMul, Nat.reduceSub, Nat.reduceLeDiff, Nat.reduceLT, t0', t3, t5, t6, t7, t8, t9]
        generalize H6 ++ [AObj.row [.int .i64 (more.getD seg0).f, .int .i64 (more.getD seg0).t, .int .i64 (more.getD seg0).v, .int .i64 (more.getD seg0).p, .int .i64 (more.getD seg0).c] 5 true] = H7 at *
        generalize H6.length = i10 at *
        simp -dsimp only [go_sem, ↓reduceIte, Nat.reduceEqDiff, Nat.reduceAdd, Nat.reduceMul, Nat.reduceSub, Nat.reduceLeDiff, Nat.reduceLT, t0', t3, t5, t6, t7, t8, t9, r7, r57]
        refine SoundP_of (refOne (more.getD seg0) b H7) ?_
        rintro _ H8 ⟨rfl, p8⟩
        have b8 := pre_get p8 b57
        have h8 := h7.pre p8
        have p48 := p57.trans p8
        have hxC := (wholes_mem.1 (atC_some hxf).1).1
        cases more with
        | none =>
          simp only at hatt
          simp -dsimp only [go_sem, ↓reduceIte, Nat.reduceEqDiff, Nat.reduceAdd, Nat.reduceMul, Nat.reduceSub, Nat.reduceLeDiff, Nat.reduceLT, t0', t3, t5, t6, t7, t8, t9, Option.isSome_none]
          exact ⟨to, rfl, p48, hft, htt, hto, fun _ => .inr fun x y _ hy => by rw [hatt] at hy; cases hy⟩
        | some mo =>
          obtain ⟨xt, hxt, hmt⟩ := hatt
          have hxtC := (wholes_mem.1 (atC_some hxt).1).1
          have km := (hp.good.good xt hxtC).key mo hmt
          have kb := (hp.good.good xf hxC).key b hbf
          cases hk : decide (mo.key = b.key) with
          | false =>
            have hk' := of_decide_eq_false hk
            simp -dsimp only [go_sem, ↓reduceIte, Nat.reduceEqDiff, Nat.reduceAdd, Nat.reduceMul, Nat.reduceSub, Nat.reduceLeDiff, Nat.reduceLT, t0', t3, t5, t6, t7, t8, t9, Option.isSome_some, Option.getD_some, hk]
            refine ⟨to, rfl, p48, hft, htt, hto, fun _ => .inr fun x y hx hy => ?_⟩
            rw [hxf] at hx; rw [hxt] at hy
            cases hx; cases hy
            rw [← km, ← kb]; exact hk'
          | true =>
            have hk' := of_decide_eq_true hk
            simp -dsimp only [go_sem, ↓reduceIte, Nat.reduceEqDiff, Nat.reduceAdd, Nat.reduceMul, Nat.reduceSub, Nat.reduceLeDiff, Nat.reduceLT, t0', t3, t5, t6, t7, t8, t9, Option.isSome_some, Option.getD_some, hk, b8]
            refine SoundP_of (refNext L to t0 q a c H8 h8 (by have := hp.len; omega)) ?_
            rintro _ H8 ⟨rfl, rfl⟩
            have hn2 := (next_spec (L := L) hd').1
            have hk2 := fun m => hcon to t0 hd' (m := m)
            generalize nextL L to t0 = to2 at *
            simp -dsimp only [go_sem, ↓reduceIte, Nat.reduceEqDiff, Nat.reduceAdd, Nat.reduceMul, Nat.reduceSub, Nat.reduceLeDiff, Nat.reduceLT, t0', t3, t5, t6, t7, t8, t9]
            refine ⟨_, ?_, to2, rfl, rfl, p48, by omega, hn2.2, fun m h1 h2 => ?_⟩
            · omega
            · rcases Int.lt_or_le m to with q1 | q1
              · exact hto m h1 q1
              · rw [hk2 m q1 h2, hxt, hxf, hp.good.keys.uniq hxtC hxC (by rw [← km, ← kb, hk'])]
  rintro T H5 ⟨to, t0', t3, t5, t6, t7, t8, t9, p5, hft, htt, hto, hend⟩
  have p15 := p14.trans p5
  have o5 := o4.pre p5
  have r5 := pre_get p5 r4
  have h5 := h0.pre p15
  have l15 := pre_len p15
  have hL := hp.len
  cases best with
  | none =>
    have hno := look_none ht (a := f0) hft (fun m h1 h2 => by rw [hto m h1 h2]; exact hatf)
    simp -dsimp only [go_sem, ↓reduceIte, Nat.reduceEqDiff, Nat.reduceAdd, Nat.reduceMul, Nat.reduceSub, Nat.reduceLeDiff, Nat.reduceLT, t0', t3, t5, t6, t7, t8, t9, Option.isSome_none]
    refine aloopP_of (fun n T H' => H' = H5 ∧ T 0 = ptrV q ∧ T 3 = ptrV ib ∧ T 5 = v5 ∧ T 6 = .int .i64 from_ ∧ T 8 = .bool false ∧ T 9 = .int .i64 to ∧ T 13 = .int .i64 0) (n := 0) ?_ ?_
    · simp -dsimp only [go_sem, ↓reduceIte, Nat.reduceEqDiff, Nat.reduceAdd, Nat.reduceMul, Nat.reduceSub, Nat.reduceLeDiff, Nat.reduceLT, t0', t3, t5, t6, t7, t8, t9]
      trivial
    rintro n T H' ⟨rfl, t0', t3, t5, t6, t8, t9, t13⟩
    have fin : ∃ m, m < (t0 - from_).toNat ∧ ∃ from_1 v5_1, m = (t0 - from_1).toNat ∧ f0 ≤ from_1 ∧ (from_1 = f0 ∨ from_1 = t0 ∨ CutAt (strsC C) from_1) ∧ (from_1 = f0 ∨ from_1 ≤ t0) ∧ v5 = v5_1 ∧ Value.int IntKind.i64 to = Value.int IntKind.i64 from_1 ∧ OwnP H1.length H' v5_1 (lookS (strsC C) f0 from_1) :=
      ⟨(t0 - to).toNat, by omega, to, v5, rfl, by omega, .inr (.inr hno.2), .inr htt, rfl, rfl, by rw [hno.1]; exact o5⟩
    obtain ⟨m, hm, f1, v51, e1, e2, e3, e4, rfl, e6, e7⟩ := fin
    cases hd : decide ((0 : Int) < (L.length : Int)) with
    | false =>
      simp -dsimp only [go_sem, ↓reduceIte, Nat.reduceEqDiff, Nat.reduceAdd, Nat.reduceMul, Nat.reduceSub, Nat.reduceLeDiff, Nat.reduceLT, t0', t3, t5, t6, t8, t9, t13, h5.at_, hd]
      exact ⟨m, hm, f1, _, e1, e2, e3, e4, rfl, e6, p15, e7⟩
    | true =>
      simp -dsimp only [go_sem, ↓reduceIte, Nat.reduceEqDiff, Nat.reduceAdd, Nat.reduceMul, Nat.reduceSub, Nat.reduceLeDiff, Nat.reduceLT, t0', t3, t5, t6, t8, t9, t13, h5.at_, hd]
      exact ⟨m, hm, f1, _, e1, e2, e3, e4, rfl, e6, p15, e7⟩
  | some b =>
    obtain ⟨xf, hxf, hbf⟩ := hatf
    have hxC := (wholes_mem.1 (atC_some hxf).1).1
    have kb := (hp.good.good xf hxC).key b hbf
    have hrun := look_run ht hf0 hft htt (by rcases hcut with q1 | q1 | q1; exact .inl q1; omega; exact .inr q1) (x := xf) (fun m h1 h2 => by rw [hto m h1 h2]; exact hxf) ((hend rfl).imp (fun q => q) fun q y hy => q xf y hxf hy)
    have l7 := get_lt r4
    dsimp only [Option.getD_some] at r5
    simp -dsimp only [go_sem, ↓reduceIte, Nat.reduceEqDiff, Nat.reduceAdd, Nat.reduceMul, Nat.reduceSub, Nat.reduceLeDiff, Nat.reduceLT, t0', t3, t5, t6, t7, t8, t9, Option.isSome_some]
    refine aloopP_of (fun n T H' => ∃ (i : Nat) (v : Value), n = L.length - i ∧ i ≤ L.length ∧ T 0 = ptrV q ∧ T 3 = ptrV ib ∧ T 5 = v ∧ T 6 = .int .i64 from_ ∧ T 7 = ptrV i7 ∧ T 8 = .bool true ∧ T 9 = .int .i64 to ∧ T 13 = .int .i64 (i : Nat) ∧
        H1 <+: H' ∧ i7 < H'.length ∧ H'[i7]? = some (.row b.cells 5 true) ∧ owner v ≠ some i7 ∧ OwnP H1.length H' v (lookS (strsC C) f0 from_ ++ filt L xf.1 from_ to i)) (n := L.length) ?_ ?_
    · refine ⟨0, v5, ?_⟩
      simp -dsimp only [go_sem, ↓reduceIte, Nat.reduceEqDiff, Nat.reduceAdd, Nat.reduceMul, Nat.reduceSub, Nat.reduceLeDiff, Nat.reduceLT, t0', t3, t5, t6, t7, t8, t9]
      exact ⟨rfl, Nat.zero_le _, rfl, rfl, p15, get_lt r5, r5, ne4, by simpa [filt] using o5⟩
    rintro n T H6 ⟨i, v, rfl, hi, t0', t3, t5, t6, t7, t8, t9, t13, p6, l6, r6, ne6, o6⟩
    have h6 := h0.pre p6
    have g6 := h6.at_
    cases hd : decide ((i : Int) < (L.length : Int)) with
    | false =>
      have hd' := of_decide_eq_false hd
      obtain rfl : i = L.length := by omega
      have ef : filt L xf.1 from_ to L.length = xf.2.map (fun z => ⟨z, from_, to⟩) := by
        unfold filt; rw [List.take_length, line_set hp.line hp.good hxC]
      rw [ef, ← hrun.1] at o6
      simp -dsimp only [go_sem, ↓reduceIte, Nat.reduceEqDiff, Nat.reduceAdd, Nat.reduceMul, Nat.reduceSub, Nat.reduceLeDiff, Nat.reduceLT, t0', t3, t5, t6, t7, t8, t9, t13, g6, hd]
      exact ⟨_, by omega, to, _, rfl, by omega, .inr hrun.2, .inr htt, rfl, rfl, p6, o6⟩
    | true =>
      have hd' := of_decide_eq_true hd
      have hiL : i < L.length := by omega
      obtain ⟨z, hz⟩ := get_ex hiL
      obtain ⟨id, off, rfl, hatz⟩ := h6.sl.at (by omega)
      have hzz := rowLoad_whole (hatz i z hz)
      have w1 := wrS (show i < 4611686018427387904 by omega)
      have stp := filt_step (k := xf.1) (f := from_) (t := to) hz
      have lf := filt_len L xf.1 from_ to i
      have ll := hlen f0 from_
      simp -dsimp only [go_sem, ↓reduceIte, Nat.reduceEqDiff, Nat.reduceAdd, Nat.reduceMul, Nat.reduceSub, Nat.reduceLeDiff, Nat.reduceLT, t0', t3, t5, t6, t7, t8, t9, t13, g6, hd]
      refine adrawnP_of2 [(0, false), (1, false), (2, false), (3, false), (4, false), (5, false), (6, false), (7, false), (8, false), (9, false)] (by kernel_rfl) ?_
      dsimp only [Seg.cells] at r6
      simp -dsimp only [go_sem, ↓reduceIte, Nat.reduceEqDiff, Nat.reduceAdd, Nat.reduceMul, Nat.reduceSub, Nat.reduceLeDiff, Nat.reduceLT, t0', t3, t5, t6, t7, t8, t9, t13, g6, r6, inRange hiL, hzz]
      refine SoundP_of (refOne z b H6) ?_
      rintro _ H7 ⟨rfl, p7⟩
      have g7 := pre_get p7 g6
      have r7 := pre_get p7 r6
      have hz7 := rowLoad_whole (aload_pre p7 (hatz i z hz))
      have o7 := o6.pre p7
      have p17 := p6.trans p7
      have l17 := pre_len p17
      have n67 := pre_len p7
      rw [kb]
      cases hk : decide (z.key = xf.1) with
      | false =>
        have hk' := of_decide_eq_false hk
        simp -dsimp only [go_sem, ↓reduceIte, Nat.reduceEqDiff, Nat.reduceAdd, Nat.reduceMul, Nat.reduceSub, Nat.reduceLeDiff, Nat.reduceLT, t0', t3, t5, t6, t7, t8, t9, t13, hk, w1]
        rw [if_neg hk', List.append_nil] at stp
        exact ⟨_, by omega, i + 1, v, rfl, hiL, rfl, rfl, p17, by omega, r7, ne6, by rw [stp]; exact o7⟩
      | true =>
        have hk' := of_decide_eq_true hk
        rw [if_pos hk'] at stp
        obtain ⟨v9, H9, e9, o9, le9, fr9, ow9⟩ := Own.app1b (enc := Piece.cells) un29 el29 inf34 rfl (by decide) (by decide) (fun _ => rfl) (fun _ => rfl) (b := H1.length) (H := H7) (by omega) o7 ⟨z, from_, to⟩ (by rw [List.length_append]; omega)
        dsimp only [Piece.cells] at e9
        simp -dsimp only [go_sem, ↓reduceIte, Nat.reduceEqDiff, Nat.reduceAdd, Nat.reduceMul, Nat.reduceSub, Nat.reduceLeDiff, Nat.reduceLT, t0', t3, t5, t6, t7, t8, t9, t13, hk, g7, inRange hiL, hz7, e9, w1]
        refine ⟨_, by omega, i + 1, v9, rfl, hiL, rfl, rfl, ?_, by omega, ?_, ?_, ?_⟩
        · refine List.prefix_iff_getElem?.2 fun j hj => ?_
          rw [fr9 j (by omega) (fun q => by have := (o7.owner_ge q).1; omega)]
          exact pre_get p17 (by simp [hj])
        · rw [fr9 _ (by omega) ne6]; exact r7
        · intro q2
          rcases ow9 _ q2 with q3 | q3
          · exact ne6 q3
          · omega
        · rw [stp, ← List.append_assoc]; exact o9
theorem any_step {α : Type} {f : α → Bool} {l : List α} {i : Nat} {x : α} (hx : l[i]? = some x) : (l.take (i + 1)).any f = ((l.take i).any f || f x) := by
  rw [take_get hx, List.any_append]; simp
theorem fil_step {α : Type} {f : α → Bool} {l : List α} {i : Nat} {x : α} (hx : l[i]? = some x) : (l.take (i + 1)).filter f = (l.take i).filter f ++ if f x then [x] else [] := by
  rw [take_get hx, List.filter_append]
  cases h : f x <;> simp [List.filter_cons, h]
theorem fil_len {α : Type} (f : α → Bool) (l : List α) (i : Nat) : ((l.take i).filter f).length ≤ l.length := by
  refine Nat.le_trans (List.length_filter_le _ _) ?_
  rw [List.length_take]; omega
/-- one more to a slice that grows beside what is there -/
theorem app_seg {B : Nat} {H0 H : AHeap} {v : Value} {l : List Seg} (hB : H0.length = B) (p0 : H0 <+: H) (o : OwnS B H v l) (z : Seg) (hl : l.length < 100000) :
    ∃ v' H', aappend Try.prog (H ++ [.row z.cells 5 true]) 22 22 v (.slice (some ⟨H.length, 0, none⟩) 1 1) = some (v', H') ∧ OwnS B H' v' (l ++ [z]) ∧ H0 <+: H' ∧ H.length ≤ H'.length ∧
      (∀ j, j < H.length → owner v ≠ some j → H'[j]? = H[j]?) ∧ ∀ j, owner v' = some j → owner v = some j ∨ H.length ≤ j := by
  have n0 := pre_len p0
  obtain ⟨v9, H9, e9, o9, le9, fr9, ow9⟩ := Own.app1b (enc := Seg.cells) un22 el22 inf32 rfl (by decide) (by decide) (fun _ => rfl) (fun _ => rfl) (b := B) (H := H) (by omega) o z hl
  refine ⟨v9, H9, e9, o9, List.prefix_iff_getElem?.2 fun j hj => ?_, le9, fr9, ow9⟩
  rw [fr9 j (by omega) (fun q => by have := (o.owner_ge q).1; omega)]
  exact pre_get p0 (by simp [hj])
set_option maxHeartbeats 1000000 in
theorem refVisible (L : List Seg) (C : List KL) (q : Nat) (a : Option Addr) (c : Nat) (H : AHeap) (h : LineR H q a c L) (hp : LinePure L C) :
    Sound Try.prog 24 [ptrV q] H fun v H' => OwnS H.length H' v (visL C) ∧ H <+: H' := by
  refine Sound.of_body (rs := [.tmp 2]) mixed Try.func24 rfl (by kernel_rfl) rfl (by kernel_rfl) ?_
  have hlen := looks_len hp.good hp.clen hp.xlen 0 1099511627776
  have hL := hp.len
  simp -dsimp only [go_sem, ↓reduceIte, Nat.reduceEqDiff, Nat.reduceAdd, Nat.reduceMul, Nat.reduceSub, Nat.reduceLeDiff, Nat.reduceLT]
  refine SoundP_of (refLookup L C 0 1099511627776 q a c H h hp) ?_
  rintro v3 H1 ⟨o3, p1⟩
  rw [← vis_line hp.line hp.good]
  change (lookC C 0 1099511627776).length ≤ 20000 at hlen
  generalize lookC C 0 1099511627776 = P at *
  obtain ⟨a3, c3, rfl, s3⟩ := o3.sl (fun _ => rfl)
  have h1 := h.pre p1
  have n1 := pre_len p1
  simp -dsimp only [go_sem, ↓reduceIte, Nat.reduceEqDiff, Nat.reduceAdd, Nat.reduceMul, Nat.reduceSub, Nat.reduceLeDiff, Nat.reduceLT]
  refine aloopP_of (fun n T H' => ∃ (i : Nat) (v : Value), n = L.length - i ∧ i ≤ L.length ∧ T 0 = ptrV q ∧ T 3 = .slice a3 P.length c3 ∧ T 4 = v ∧ T 5 = .int .i64 (i : Nat) ∧
      H1 <+: H' ∧ OwnS H1.length H' v ((L.take i).filter fun z => P.any fun p => decide (p.seg = z))) (n := L.length) ?_ ?_
  · refine ⟨0, .slice none 0 0, ?_⟩
    simp -dsimp only [go_sem, ↓reduceIte, Nat.reduceEqDiff, Nat.reduceAdd, Nat.reduceMul, Nat.reduceSub, Nat.reduceLeDiff, Nat.reduceLT]
    exact ⟨rfl, Nat.zero_le _, rfl, List.prefix_refl _, Own.nil _ _ _ _⟩
  rintro n T H2 ⟨i, v, rfl, hi, t0, t3, t4, t5, p2, o2⟩
  have h2 := h1.pre p2
  have g2 := h2.at_
  simp -dsimp only [go_sem, ↓reduceIte, Nat.reduceEqDiff, Nat.reduceAdd, Nat.reduceMul, Nat.reduceSub, Nat.reduceLeDiff, Nat.reduceLT, t0, t3, t4, t5, g2]
  refine acondP_of (fun hc => ?_) (fun hc => ?_)
  rotate_left
  · simp at hc
    obtain rfl : i = L.length := by omega
    rw [List.take_length] at o2
    simp -dsimp only [go_sem, ↓reduceIte, Nat.reduceEqDiff, Nat.reduceAdd, Nat.reduceMul, Nat.reduceSub, Nat.reduceLeDiff, Nat.reduceLT, t0, t3, t4, t5]
    exact ⟨o2.mono n1, p1.trans p2⟩
  simp at hc
  obtain ⟨z, hz⟩ := get_ex hc
  obtain ⟨id, off, rfl, hatz⟩ := h2.sl.at (by omega)
  have hzz := rowLoad_whole (hatz i z hz)
  have w1 := wrS (show i < 4611686018427387904 by omega)
  have stp := fil_step (f := fun z => P.any fun p => decide (p.seg = z)) hz
  have lf := fil_len (fun z => P.any fun p => decide (p.seg = z)) L i
  simp -dsimp only [go_sem, ↓reduceIte, Nat.reduceEqDiff, Nat.reduceAdd, Nat.reduceMul, Nat.reduceSub, Nat.reduceLeDiff, Nat.reduceLT, t0, t3, t4, t5]
  refine aloopP_of (fun n T H' => ∃ (k : Nat), n = P.length - k ∧ k ≤ P.length ∧ H' = H2 ∧ T 0 = ptrV q ∧ T 3 = .slice a3 P.length c3 ∧ T 4 = v ∧ T 5 = .int .i64 (i : Nat) ∧ T 6 = .bool ((P.take k).any fun p => decide (p.seg = z)) ∧ T 7 = .int .i64 (k : Nat)) (n := P.length) ?_ ?_
  · refine ⟨0, ?_⟩
    simp -dsimp only [go_sem, ↓reduceIte, Nat.reduceEqDiff, Nat.reduceAdd, Nat.reduceMul, Nat.reduceSub, Nat.reduceLeDiff, Nat.reduceLT, t0, t3, t4, t5]
    exact ⟨rfl, Nat.zero_le _, rfl, rfl⟩
  rintro n T H3 ⟨k, rfl, hk, rfl, t0, t3, t4, t5, t6, t7⟩
  simp -dsimp only [go_sem, ↓reduceIte, Nat.reduceEqDiff, Nat.reduceAdd, Nat.reduceMul, Nat.reduceSub, Nat.reduceLeDiff, Nat.reduceLT, t0, t3, t4, t5, t6, t7]
  refine acondP_of (fun hc2 => ?_) (fun hc2 => ?_)
  · simp at hc2
    obtain ⟨x, hx⟩ := get_ex hc2
    obtain ⟨id3, off3, rfl, hat3⟩ := (s3.pre p2).at (by omega)
    have hxx := rowLoad_whole (aload_sub (hat3 k x hx) 0 5 (by decide))
    have w2 := wrS (show k < 4611686018427387904 by omega)
    have stp2 := any_step (f := fun p : Piece => decide (p.seg = z)) hx
    simp -dsimp only [go_sem, ↓reduceIte, Nat.reduceEqDiff, Nat.reduceAdd, Nat.reduceMul, Nat.reduceSub, Nat.reduceLeDiff, Nat.reduceLT, t0, t3, t4, t5, t6, t7]
    refine adrawnP_of2 [(0, false), (1, false), (2, false), (3, false), (4, false), (5, false), (6, false), (7, false), (8, false), (9, false), (10, false), (11, false), (12, false), (13, false), (14, false), (15, false), (16, false)] (by kernel_rfl) ?_
    cases hb : (P.take k).any fun p => decide (p.seg = z) with
    | true =>
      simp -dsimp only [go_sem, ↓reduceIte, Nat.reduceEqDiff, Nat.reduceAdd, Nat.reduceMul, Nat.reduceSub, Nat.reduceLeDiff, Nat.reduceLT, t0, t3, t4, t5, t6, t7, hb, w2]
      exact ⟨_, by omega, k + 1, rfl, hc2, by rw [stp2, hb]; rfl, rfl⟩
    | false =>
      simp -dsimp only [go_sem, ↓reduceIte, Nat.reduceEqDiff, Nat.reduceAdd, Nat.reduceMul, Nat.reduceSub, Nat.reduceLeDiff, Nat.reduceLT, t0, t3, t4, t5, t6, t7, hb, g2, inRange hc, inRange hc2, hzz, hxx, segEqB, w2]
      exact ⟨_, by omega, k + 1, rfl, hc2, by rw [stp2, hb]; rfl, rfl⟩
  simp at hc2
  obtain rfl : k = P.length := by omega
  rw [List.take_length] at t6
  cases hb : P.any fun p => decide (p.seg = z) with
  | false =>
    simp -dsimp only [go_sem, ↓reduceIte, Nat.reduceEqDiff, Nat.reduceAdd, Nat.reduceMul, Nat.reduceSub, Nat.reduceLeDiff, Nat.reduceLT, t0, t3, t4, t5, t6, t7, hb, w1]
    rw [hb] at stp
    simp only [Bool.false_eq_true, if_false, List.append_nil] at stp
    exact ⟨_, by omega, i + 1, v, rfl, hc, rfl, rfl, p2, by rw [stp]; exact o2⟩
  | true =>
    rw [hb] at stp
    simp only [if_true] at stp
    obtain ⟨v9, H9, e9, o9, p9, le9, fr9, ow9⟩ := app_seg rfl p2 o2 z (by omega)
    dsimp only [Seg.cells] at e9
    simp -dsimp only [go_sem, ↓reduceIte, Nat.reduceEqDiff, Nat.reduceAdd, Nat.reduceMul, Nat.reduceSub, Nat.reduceLeDiff, Nat.reduceLT, t0, t3, t4, t5, t6, t7, hb, g2, inRange hc, hzz, e9, w1]
    exact ⟨_, by omega, i + 1, v9, rfl, hc, rfl, rfl, p9, by rw [stp]; exact o9⟩
set_option maxHeartbeats 1000000 in
theorem refCovered (L : List Seg) (C : List KL) (q : Nat) (a : Option Addr) (c : Nat) (H : AHeap) (h : LineR H q a c L) (hp : LinePure L C) :
    Sound Try.prog 26 [ptrV q] H fun v H' => OwnS H.length H' v (coverL C) ∧ H <+: H' := by
  refine Sound.of_body (rs := [.tmp 2]) mixed Try.func26 rfl (by kernel_rfl) rfl (by kernel_rfl) ?_
  have hL := hp.len
  have ht := told_strs hp.good.keys
  have hcon := fun time e => @next_const _ _ hp.line hp.good time e
  have hat := fun time => atL_eq hp.line hp.good time
  rw [← cover_line hp.line hp.good]
  simp -dsimp only [go_sem, ↓reduceIte, Nat.reduceEqDiff, Nat.reduceAdd, Nat.reduceMul, Nat.reduceSub, Nat.reduceLeDiff, Nat.reduceLT]
  refine aloopP_of (fun n T H' => ∃ (i : Nat) (v : Value), n = L.length - i ∧ i ≤ L.length ∧ T 0 = ptrV q ∧ T 3 = v ∧ T 4 = .int .i64 (i : Nat) ∧
      H <+: H' ∧ OwnS H.length H' v ((L.take i).filter fun z => coveredC z.key (strsC C))) (n := L.length) ?_ ?_
  · refine ⟨0, .slice none 0 0, ?_⟩
    simp -dsimp only [go_sem, ↓reduceIte, Nat.reduceEqDiff, Nat.reduceAdd, Nat.reduceMul, Nat.reduceSub, Nat.reduceLeDiff, Nat.reduceLT]
    exact ⟨rfl, Nat.zero_le _, rfl, List.prefix_refl _, Own.nil _ _ _ _⟩
  rintro n T H2 ⟨i, v, rfl, hi, t0, t3, t4, p2, o2⟩
  have h2 := h.pre p2
  have g2 := h2.at_
  simp -dsimp only [go_sem, ↓reduceIte, Nat.reduceEqDiff, Nat.reduceAdd, Nat.reduceMul, Nat.reduceSub, Nat.reduceLeDiff, Nat.reduceLT, t0, t3, t4, g2]
  refine acondP_of (fun hc => ?_) (fun hc => ?_)
  rotate_left
  · simp at hc
    obtain rfl : i = L.length := by omega
    rw [List.take_length] at o2
    simp -dsimp only [go_sem, ↓reduceIte, Nat.reduceEqDiff, Nat.reduceAdd, Nat.reduceMul, Nat.reduceSub, Nat.reduceLeDiff, Nat.reduceLT, t0, t3, t4]
    exact ⟨o2, p2⟩
  simp at hc
  obtain ⟨z, hz⟩ := get_ex hc
  have hzm := List.mem_of_getElem? hz
  obtain ⟨xz, hxzC, hzx⟩ := (hp.line.mem z).1 hzm
  have hzmay := mayB_iff.1 ((hp.good.good xz hxzC).may z hzx)
  obtain ⟨id, off, rfl, hatz⟩ := h2.sl.at (by omega)
  have hzz := rowLoad_whole (hatz i z hz)
  have w1 := wrS (show i < 4611686018427387904 by omega)
  have stp := fil_step (f := fun z => coveredC z.key (strsC C)) hz
  have lf := fil_len (fun z => coveredC z.key (strsC C)) L i
  have hcov := cov_iff ht (k := z.key) hzmay.2.1
  have p23 := List.prefix_append H2 [AObj.row z.cells 5 true]
  have r3 := get_end H2 (AObj.row z.cells 5 true) []
  have h3 := h2.pre p23
  have o3 := o2.pre p23
  have p3 := p2.trans p23
  have n3 : owner v ≠ some H2.length := fun q => by have := (o2.owner_ge q).2; omega
  dsimp only [Seg.cells] at p23 r3 h3 o3 p3
  simp -dsimp only [go_sem, ↓reduceIte, Nat.reduceEqDiff, Nat.reduceAdd, Nat.reduceMul, Nat.reduceSub, Nat.reduceLeDiff, Nat.reduceLT, t0, t3, t4, g2, inRange hc, hzz, r3]
  generalize H2 ++ [AObj.row [.int .i64 z.f, .int .i64 z.t, .int .i64 z.v, .int .i64 z.p, .int .i64 z.c] 5 true] = H3 at *
  generalize H2.length = i5 at *
  refine aloop_join (fun T H' => ∃ (time : Int) (b : Bool), T 0 = ptrV q ∧ T 3 = v ∧ T 4 = .int .i64 (i : Nat) ∧ T 5 = ptrV i5 ∧ T 6 = .bool b ∧ H3 <+: H' ∧ b = coveredC z.key (strsC C))
    (fun n T H' => ∃ (time : Int) (b : Bool), n = (z.t - time).toNat ∧ T 0 = ptrV q ∧ T 3 = v ∧ T 4 = .int .i64 (i : Nat) ∧ T 5 = ptrV i5 ∧ T 6 = .bool b ∧ T 7 = .int .i64 time ∧ H3 <+: H' ∧ z.f ≤ time ∧
      (b = true → ∀ m, z.f ≤ m → m < time → m < z.t → ∃ y, atC (wholes C) m = some y ∧ aheadR y.1 z.key = true) ∧ (b = false → coveredC z.key (strsC C) = false)) (n := (z.t - z.f).toNat) ?_ ?_ ?_
  · refine ⟨z.f, true, ?_⟩
    simp -dsimp only [go_sem, ↓reduceIte, Nat.reduceEqDiff, Nat.reduceAdd, Nat.reduceMul, Nat.reduceSub, Nat.reduceLeDiff, Nat.reduceLT, t0, t3, t4]
    exact ⟨List.prefix_refl _, Int.le_refl _, fun _ m h1 h2 => by omega, fun q => by cases q⟩
  · rintro n T H4 ⟨time, b, rfl, t0, t3, t4, t5, t6, t7, p4, hzt, hb1, hb2⟩
    have r4 := pre_get p4 r3
    have h4 := h3.pre p4
    cases hd : decide (time < z.t) with
    | false =>
      have hd' := of_decide_eq_false hd
      simp -dsimp only [go_sem, ↓reduceIte, Nat.reduceEqDiff, Nat.reduceAdd, Nat.reduceMul, Nat.reduceSub, Nat.reduceLeDiff, Nat.reduceLT, t0, t3, t4, t5, t6, t7, r4, hd]
      refine ⟨time, b, rfl, p4, ?_⟩
      cases b with
      | true => exact (hcov.2 fun m h1 h2 => hb1 rfl m h1 (by have h2 : m < z.t := h2; omega) h2).symm
      | false => exact (hb2 rfl).symm
    | true =>
      have hd' := of_decide_eq_true hd
      cases b with
      | false =>
        simp -dsimp only [go_sem, ↓reduceIte, Nat.reduceEqDiff, Nat.reduceAdd, Nat.reduceMul, Nat.reduceSub, Nat.reduceLeDiff, Nat.reduceLT, t0, t3, t4, t5, t6, t7, r4, hd]
        exact ⟨time, false, rfl, p4, (hb2 rfl).symm⟩
      | true =>
        simp -dsimp only [go_sem, ↓reduceIte, Nat.reduceEqDiff, Nat.reduceAdd, Nat.reduceMul, Nat.reduceSub, Nat.reduceLeDiff, Nat.reduceLT, t0, t3, t4, t5, t6, t7, r4, hd]
        refine SoundP_of (refAt L time q _ _ H4 h4 (by omega)) ?_
        rintro _ H5 ⟨rfl, p5⟩
        have hatt := hat time
        have p6 := List.prefix_append H5 [AObj.row ((atL L time).getD seg0).cells 5 true]
        have r6 := get_end H5 (AObj.row ((atL L time).getD seg0).cells 5 true) []
        have r56 := pre_get (p5.trans p6) r4
        have h6 := h4.pre (p5.trans p6)
        have p36 := p4.trans (p5.trans p6)
        generalize atL L time = best at *
        dsimp only [Seg.cells] at p6 r6 r56 h6 p36
        simp -dsimp only [go_sem, ↓reduceIte, Nat.reduceEqDiff, Nat.reduceAdd, Nat.reduceMul, Nat.reduceSub, Nat.reduceLeDiff, Nat.reduceLT, t0, t3, t4, t5, t6, t7]
        generalize H5 ++ [AObj.row [.int .i64 (best.getD seg0).f, .int .i64 (best.getD seg0).t, .int .i64 (best.getD seg0).v, .int .i64 (best.getD seg0).p, .int .i64 (best.getD seg0).c] 5 true] = H6 at *
        generalize H5.length = i8 at *
        simp -dsimp only [go_sem, ↓reduceIte, Nat.reduceEqDiff, Nat.reduceAdd, Nat.reduceMul, Nat.reduceSub, Nat.reduceLeDiff, Nat.reduceLT, t0, t3, t4, t5, t6, t7, r6, r56]
        refine SoundP_of (refAhead (best.getD seg0) z H6) ?_
        rintro _ H7 ⟨rfl, p7⟩
        have r7 := pre_get p7 r56
        have h7 := h6.pre p7
        have p37 := p36.trans p7
        have hn := (next_spec (L := L) hd').1
        have hk := fun m => hcon time z.t hd' (m := m)
        cases best with
        | none =>
          simp -dsimp only [go_sem, ↓reduceIte, Nat.reduceEqDiff, Nat.reduceAdd, Nat.reduceMul, Nat.reduceSub, Nat.reduceLeDiff, Nat.reduceLT, t0, t3, t4, t5, t6, t7, Option.isSome_none, r7]
          refine SoundP_of (refNext L time z.t q _ _ H7 h7 (by omega)) ?_
          rintro _ H8 ⟨rfl, rfl⟩
          simp -dsimp only [go_sem, ↓reduceIte, Nat.reduceEqDiff, Nat.reduceAdd, Nat.reduceMul, Nat.reduceSub, Nat.reduceLeDiff, Nat.reduceLT, t0, t3, t4, t5, t6, t7]
          refine ⟨_, ?_, nextL L time z.t, false, rfl, rfl, rfl, p37, by omega, (fun q => by cases q), fun _ => ?_⟩
          · omega
          · cases hcc : coveredC z.key (strsC C) with
            | false => rfl
            | true =>
              obtain ⟨y, hy, _⟩ := hcov.1 hcc time hzt hd'
              simp only at hatt
              rw [hatt] at hy; cases hy
        | some b =>
          obtain ⟨y, hy, hby⟩ := hatt
          have hyC := (wholes_mem.1 (atC_some hy).1).1
          have kb := (hp.good.good y hyC).key b hby
          dsimp only [Option.getD_some]
          rw [kb]
          cases hah : aheadR y.1 z.key with
          | false =>
            simp -dsimp only [go_sem, ↓reduceIte, Nat.reduceEqDiff, Nat.reduceAdd, Nat.reduceMul, Nat.reduceSub, Nat.reduceLeDiff, Nat.reduceLT, t0, t3, t4, t5, t6, t7, Option.isSome_some, r7, hah]
            refine SoundP_of (refNext L time z.t q _ _ H7 h7 (by omega)) ?_
            rintro _ H8 ⟨rfl, rfl⟩
            simp -dsimp only [go_sem, ↓reduceIte, Nat.reduceEqDiff, Nat.reduceAdd, Nat.reduceMul, Nat.reduceSub, Nat.reduceLeDiff, Nat.reduceLT, t0, t3, t4, t5, t6, t7]
            refine ⟨_, ?_, nextL L time z.t, false, rfl, rfl, rfl, p37, by omega, (fun q => by cases q), fun _ => ?_⟩
            · omega
            · cases hcc : coveredC z.key (strsC C) with
              | false => rfl
              | true =>
                obtain ⟨y2, hy2, hah2⟩ := hcov.1 hcc time hzt hd'
                rw [hy] at hy2; cases hy2
                rw [hah] at hah2; cases hah2
          | true =>
            simp -dsimp only [go_sem, ↓reduceIte, Nat.reduceEqDiff, Nat.reduceAdd, Nat.reduceMul, Nat.reduceSub, Nat.reduceLeDiff, Nat.reduceLT, t0, t3, t4, t5, t6, t7, Option.isSome_some, r7, hah]
            refine SoundP_of (refNext L time z.t q _ _ H7 h7 (by omega)) ?_
            rintro _ H8 ⟨rfl, rfl⟩
            simp -dsimp only [go_sem, ↓reduceIte, Nat.reduceEqDiff, Nat.reduceAdd, Nat.reduceMul, Nat.reduceSub, Nat.reduceLeDiff, Nat.reduceLT, t0, t3, t4, t5, t6, t7]
            refine ⟨_, ?_, nextL L time z.t, true, rfl, rfl, rfl, p37, by omega, fun _ m h1 h2 h3 => ?_, fun q => by cases q⟩
            · omega
            · rcases Int.lt_or_le m time with q1 | q1
              · exact hb1 rfl m h1 q1 h3
              · exact ⟨y, by rw [hk m q1 h2]; exact hy, hah⟩
  rintro T H4 ⟨time, b, t0, t3, t4, t5, t6, p4, rfl⟩
  have r4 := pre_get p4 r3
  have o4 := o3.pre p4
  have p24 := p3.trans p4
  cases hb : coveredC z.key (strsC C) with
  | false =>
    simp -dsimp only [go_sem, ↓reduceIte, Nat.reduceEqDiff, Nat.reduceAdd, Nat.reduceMul, Nat.reduceSub, Nat.reduceLeDiff, Nat.reduceLT, t0, t3, t4, t5, t6, hb, w1]
    rw [hb] at stp
    simp only [Bool.false_eq_true, if_false, List.append_nil] at stp
    exact ⟨_, by omega, i + 1, v, rfl, hc, rfl, rfl, p24, by rw [stp]; exact o4⟩
  | true =>
    rw [hb] at stp
    simp only [if_true] at stp
    obtain ⟨v9, H9, e9, o9, p9, le9, fr9, ow9⟩ := app_seg rfl p24 o4 z (by omega)
    dsimp only [Seg.cells] at e9
    simp -dsimp only [go_sem, ↓reduceIte, Nat.reduceEqDiff, Nat.reduceAdd, Nat.reduceMul, Nat.reduceSub, Nat.reduceLeDiff, Nat.reduceLT, t0, t3, t4, t5, t6, hb, r4, e9, w1]
    exact ⟨_, by omega, i + 1, v9, rfl, hc, rfl, rfl, p9, by rw [stp]; exact o9⟩
end Go.Proofs.Ythbifkeadbmcnaa
