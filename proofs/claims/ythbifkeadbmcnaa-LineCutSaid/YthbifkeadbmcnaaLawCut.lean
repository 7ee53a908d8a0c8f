/-
  The walk of LineCut.
-/
import Derived.Test.YthbifkeadbmcnaaLawAll
set_option linter.unusedVariables false
set_option linter.unusedSimpArgs false
namespace Go.Proofs.Ythbifkeadbmcnaa
open Go Go.AW
set_option linter.unusedSimpArgs false
set_option maxRecDepth 20000

theorem filter_at {α : Type} {f : α → Bool} {l : List α} {i : Nat} {x : α} (h : l[i]? = some x) (hx : f x = true) : (l.filter f)[((l.take i).filter f).length]? = some x := by
  have e : l.filter f = (l.take i).filter f ++ x :: (l.drop (i + 1)).filter f := by
    conv => lhs; rw [← List.take_append_drop i l]
    rw [List.filter_append, drop_get h, List.filter_cons, if_pos hx]
  rw [e, List.getElem?_append_right (Nat.le_refl _)]; simp
theorem lineCut (raw : List Seg) (from_ long : Int) (a : Option Addr) (c : Nat) (H : AHeap) (hs : SegsAt H a raw) (ga : ArgSl a raw.length c) (hw : ∀ s ∈ raw, SegI s) (ht : (Lit.int .i64 from_).wf = true) (ht2 : (Lit.int .i64 long).wf = true) :
    Sound Try.prog 5 [.slice a raw.length c, .int .i64 from_, .int .i64 long] H fun v _ => v = .bool true := by
  refine Sound.of_body (rs := [.tmp 6]) mixed Try.func5 rfl (by kernel_rfl) rfl (by kernel_rfl) ?_
  simp -dsimp only [go_sem, ↓reduceIte, Nat.reduceEqDiff, Nat.reduceAdd, Nat.reduceMul, Nat.reduceSub, Nat.reduceLeDiff, Nat.reduceLT]
  refine SoundP_of (awake H) ?_
  rintro _ H1 ⟨rfl, p1⟩
  simp -dsimp only [go_sem, ↓reduceIte, Nat.reduceEqDiff, Nat.reduceAdd, Nat.reduceMul, Nat.reduceSub, Nat.reduceLeDiff, Nat.reduceLT]
  refine SoundP_of (made raw a c 40 H1 (hs.pre p1) hw (by omega)) ?_
  rintro _ H2 ⟨p, m, M, vl, l, rfl, p2, hT, ol, hMd, hl, -⟩
  simp -dsimp only [go_sem, ↓reduceIte, Nat.reduceEqDiff, Nat.reduceAdd, Nat.reduceMul, Nat.reduceSub, Nat.reduceLeDiff, Nat.reduceLT]
  refine SoundP_of (absLaw from_ _ (wfI ht)) ?_
  rintro _ _ ⟨rfl, rfl⟩
  have an := absL_nn from_
  have am := absL_nn long
  obtain ⟨A0, hA⟩ : ∃ n : Int, absL from_ % 24 - 1 = n := ⟨_, rfl⟩
  obtain ⟨d, hd⟩ : ∃ n : Int, absL long % 24 = n := ⟨_, rfl⟩
  have hA0 : -1 ≤ A0 ∧ A0 < 23 := by omega
  have hd0 : 0 ≤ d ∧ d < 24 := by omega
  simp -dsimp only [go_sem, ↓reduceIte, Nat.reduceEqDiff, Nat.reduceAdd, Nat.reduceMul, Nat.reduceSub, Nat.reduceLeDiff, Nat.reduceLT, show ((24 : Int) = 0) = False by simp, tm (b := 24) an, hA, wr64 (i := A0) (by omega) (by omega)]
  refine SoundP_of (absLaw long _ (wfI ht2)) ?_
  rintro _ _ ⟨rfl, rfl⟩
  simp -dsimp only [go_sem, ↓reduceIte, Nat.reduceEqDiff, Nat.reduceAdd, Nat.reduceMul, Nat.reduceSub, Nat.reduceLeDiff, Nat.reduceLT, show ((24 : Int) = 0) = False by simp, tm (b := 24) am, hd, wr64 (i := A0) (by omega) (by omega), wr64 (i := A0 + d) (by omega) (by omega)]
  have lM := hMd.len hT.good
  have hL1 : M.length < 100 := by omega
  have hL2 : ∀ x ∈ M, x.l.length < 100 := fun x hx => by have := lM.2 x hx; omega
  refine SoundP_of (tlLookup A0 (A0 + d) H1.length _ p m M hT hL1 hL2) ?_
  rintro v8 H3 ⟨o8, p3⟩
  have hT3 := hT.pre p3
  have hcut : ∀ n, A0 ≤ n → n < A0 + d → ((lookC (cont M) A0 (A0 + d)).filter fun p => decide (p.f ≤ n) && decide (n < p.t)).map Piece.seg = (lookC (cont M) n (n + 1)).map Piece.seg := fun n h1 h2 => look_cut (told_strs hT.keys) h1 h2
  have hPl := lookC_len hT.goodC (by rw [List.length_map]; omega) (fun x hx => by obtain ⟨y, hy, rfl⟩ := List.mem_map.1 hx; exact Nat.le_of_lt (hL2 y hy)) A0 (A0 + d)
  generalize lookC (cont M) A0 (A0 + d) = P at *
  obtain ⟨a8, c8, rfl, s8⟩ := o8.sl (fun _ => rfl)
  clear hs ga ol o8 hT
  simp -dsimp only [go_sem, ↓reduceIte, Nat.reduceEqDiff, Nat.reduceAdd, Nat.reduceMul, Nat.reduceSub, Nat.reduceLeDiff, Nat.reduceLT]
  refine aloopP_of (fun k T H' => ∃ t : Int, k = (A0 + d - t).toNat ∧ A0 ≤ t ∧ t ≤ A0 + d ∧ H3 <+: H' ∧ T 8 = ptrV p ∧ T 11 = .int .i64 (A0 + d) ∧ T 12 = .slice a8 P.length c8 ∧ T 13 = .int .i64 t) (n := d.toNat) ?_ ?_
  · refine ⟨A0, ?_⟩
    simp -dsimp only [go_sem, ↓reduceIte, Nat.reduceEqDiff, Nat.reduceAdd, Nat.reduceMul, Nat.reduceSub, Nat.reduceLeDiff, Nat.reduceLT]
    exact ⟨by omega, Int.le_refl _, by omega, List.prefix_refl _⟩
  rintro k T H4 ⟨n, rfl, hn1, hn2, p4, t8, t11, t12, t13⟩
  simp -dsimp only [go_sem, ↓reduceIte, Nat.reduceEqDiff, Nat.reduceAdd, Nat.reduceMul, Nat.reduceSub, Nat.reduceLeDiff, Nat.reduceLT, t8, t11, t12, t13]
  refine acondP_of (fun hc => ?_) (fun hc => ?_)
  rotate_left
  · simp -dsimp only [go_sem, ↓reduceIte, Nat.reduceEqDiff, Nat.reduceAdd, Nat.reduceMul, Nat.reduceSub, Nat.reduceLeDiff, Nat.reduceLT, t8, t11, t12, t13]
  simp at hc
  simp -dsimp only [go_sem, ↓reduceIte, Nat.reduceEqDiff, Nat.reduceAdd, Nat.reduceMul, Nat.reduceSub, Nat.reduceLeDiff, Nat.reduceLT, t8, t11, t12, t13, wr64 (i := n + 1) (by omega) (by omega)]
  refine SoundP_of (tlLookup n (n + 1) H1.length _ p m M (hT3.pre p4) hL1 hL2) ?_
  rintro v9 H5 ⟨o9, p5⟩
  have hq := hcut n hn1 hc
  generalize lookC (cont M) n (n + 1) = Q at *
  obtain ⟨a9, c9, rfl, s9⟩ := o9.sl (fun _ => rfl)
  have p35 := p4.trans p5
  simp -dsimp only [go_sem, ↓reduceIte, Nat.reduceEqDiff, Nat.reduceAdd, Nat.reduceMul, Nat.reduceSub, Nat.reduceLeDiff, Nat.reduceLT, t8, t11, t12, t13]
  refine aloopP_of (fun k T H' => ∃ i q : Nat, k = P.length - i ∧ i ≤ P.length ∧ H5 <+: H' ∧ T 8 = ptrV p ∧ T 11 = .int .i64 (A0 + d) ∧ T 12 = .slice a8 P.length c8 ∧ T 13 = .int .i64 n ∧ T 14 = .slice a9 Q.length c9 ∧ T 15 = .int .i64 (q : Nat) ∧ q = ((P.take i).filter fun p => decide (p.f ≤ n) && decide (n < p.t)).length ∧ T 16 = .int .i64 (i : Nat)) (n := P.length) ?_ ?_
  · refine ⟨0, 0, ?_⟩
    simp -dsimp only [go_sem, ↓reduceIte, Nat.reduceEqDiff, Nat.reduceAdd, Nat.reduceMul, Nat.reduceSub, Nat.reduceLeDiff, Nat.reduceLT, t8, t11, t12, t13]
    exact ⟨rfl, Nat.zero_le _, List.prefix_refl _, rfl, rfl, rfl⟩
  rintro k T H6 ⟨i, q, rfl, hi, p6, t8, t11, t12, t13, t14, t15, hqi, t16⟩
  simp -dsimp only [go_sem, ↓reduceIte, Nat.reduceEqDiff, Nat.reduceAdd, Nat.reduceMul, Nat.reduceSub, Nat.reduceLeDiff, Nat.reduceLT, t8, t11, t12, t13, t14, t15, t16]
  refine acondP_of (fun hc2 => ?_) (fun hc2 => ?_)
  · simp at hc2
    obtain ⟨x, hx⟩ := get_ex hc2
    have p36 := p35.trans p6
    obtain ⟨id, off, rfl, hat⟩ := (s8.pre p36).at (by omega)
    have hxx := hat i x hx
    have g2 := rowLoad_cell hxx
    have gF : ∀ mm, (H6[id]?).bind (rowLoad (some false) mm (off + i * 7 + 5 + 0)) = some (.int .i64 x.f) := fun mm => g2 mm 5 (by decide)
    have gT : ∀ mm, (H6[id]?).bind (rowLoad (some false) mm (off + i * 7 + 5 + 1)) = some (.int .i64 x.t) := fun mm => g2 mm 6 (by decide)
    have gS := rowLoad_whole (aload_sub hxx 0 5 (by decide))
    have w1 := wrS (show i < 4611686018427387904 by omega)
    have stp : (P.take (i + 1)).filter (fun p => decide (p.f ≤ n) && decide (n < p.t)) = (P.take i).filter (fun p => decide (p.f ≤ n) && decide (n < p.t)) ++ if decide (x.f ≤ n) && decide (n < x.t) then [x] else [] := by
      rw [take_get hx, List.filter_append, List.filter_cons, List.filter_nil]
    cases e1 : decide (n < x.f) with
    | true =>
      have hcv : (decide (x.f ≤ n) && decide (n < x.t)) = false := by simp at e1 ⊢; omega
      simp -dsimp only [go_sem, ↓reduceIte, Nat.reduceEqDiff, Nat.reduceAdd, Nat.reduceMul, Nat.reduceSub, Nat.reduceLeDiff, Nat.reduceLT, t8, t11, t12, t13, t14, t15, t16, inRange hc2, gF, gT, e1, w1]
      refine ⟨_, by omega, i + 1, q, rfl, hc2, p6, rfl, ?_, rfl⟩
      rw [stp, hcv, hqi]; simp
    | false =>
      cases e2 : decide (x.t ≤ n) with
      | true =>
        have hcv : (decide (x.f ≤ n) && decide (n < x.t)) = false := by simp at e1 e2 ⊢; omega
        simp -dsimp only [go_sem, ↓reduceIte, Nat.reduceEqDiff, Nat.reduceAdd, Nat.reduceMul, Nat.reduceSub, Nat.reduceLeDiff, Nat.reduceLT, t8, t11, t12, t13, t14, t15, t16, inRange hc2, gF, gT, e1, e2, w1]
        refine ⟨_, by omega, i + 1, q, rfl, hc2, p6, rfl, ?_, rfl⟩
        rw [stp, hcv, hqi]; simp
      | false =>
        have hcv : (decide (x.f ≤ n) && decide (n < x.t)) = true := by simp at e1 e2 ⊢; omega
        have hPx := filter_at hx (f := fun p : Piece => decide (p.f ≤ n) && decide (n < p.t)) hcv
        rw [← hqi] at hPx
        have hQx : (Q.map Piece.seg)[q]? = some x.seg := by rw [← hq, List.getElem?_map, hPx]; rfl
        rw [List.getElem?_map] at hQx
        obtain ⟨y, hy, hyx⟩ := Option.map_eq_some_iff.1 hQx
        have hqQ := (List.getElem?_eq_some_iff.1 hy).1
        obtain ⟨id9, off9, rfl, hat9⟩ := ((s9.pre p6)).at (by omega)
        have gY := rowLoad_whole (aload_sub (hat9 q y hy) 0 5 (by decide))
        have w2 := wrS (show q < 4611686018427387904 by have := List.length_filter_le (fun p : Piece => decide (p.f ≤ n) && decide (n < p.t)) (P.take i); have := List.length_take_le i P; omega)
        simp -dsimp only [go_sem, ↓reduceIte, Nat.reduceEqDiff, Nat.reduceAdd, Nat.reduceMul, Nat.reduceSub, Nat.reduceLeDiff, Nat.reduceLT, t8, t11, t12, t13, t14, t15, t16, inRange hc2, gF, gT, e1, e2, w1]
        refine adrawnP_of2 [(0, false), (1, false), (2, false), (3, false), (4, false), (5, false), (6, false), (7, false), (8, false), (9, false), (10, false), (11, false), (12, false), (13, false), (14, false), (15, false), (16, false)] (by kernel_rfl) ?_
        simp -dsimp only [go_sem, ↓reduceIte, Nat.reduceEqDiff, Nat.reduceAdd, Nat.reduceMul, Nat.reduceSub, Nat.reduceLeDiff, Nat.reduceLT, t8, t11, t12, t13, t14, t15, t16, show decide ((Q.length : Int) ≤ (q : Int)) = false by simp; omega, inRange hqQ, inRange hc2, gY, gS, segEqB, hyx, w1, w2]
        refine ⟨_, by omega, i + 1, q + 1, rfl, hc2, p6, rfl, ?_, rfl⟩
        rw [stp, hcv, List.length_append, ← hqi]; rfl
  simp at hc2
  rw [List.take_of_length_le hc2] at hqi
  have hlen : q = Q.length := by
    have := congrArg List.length hq
    simp only [List.length_map] at this
    omega
  subst hlen
  simp -dsimp only [go_sem, ↓reduceIte, Nat.reduceEqDiff, Nat.reduceAdd, Nat.reduceMul, Nat.reduceSub, Nat.reduceLeDiff, Nat.reduceLT, t8, t11, t12, t13, t14, t15, t16, wr64 (i := n + 1) (by omega) (by omega), show ((Q.length : Int) != (Q.length : Int)) = false by simp]
  exact ⟨_, by omega, n + 1, rfl, by omega, by omega, p35.trans p6, rfl⟩
end Go.Proofs.Ythbifkeadbmcnaa
