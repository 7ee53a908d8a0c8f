/-
  The document's SamePieces and Same; the law's made.
-/
import Derived.Test.YthbifkeadbmcnaaHelp
set_option linter.unusedVariables false
set_option linter.unusedSimpArgs false
namespace Go.Proofs.Ythbifkeadbmcnaa
open Go Go.AW
set_option linter.unusedSimpArgs false
set_option maxRecDepth 20000

theorem pieceEqB (x s : Piece) : (x.seg.f == s.seg.f && x.seg.t == s.seg.t && (x.seg.v == s.seg.v && (x.seg.p == s.seg.p && x.seg.c == s.seg.c)) && (x.f == s.f && x.t == s.t)) = decide (x = s) := by
  rw [Bool.eq_iff_iff]; simp [Piece.eq_iff, Seg.eq_iff, and_assoc]
theorem samePieces (l m : List Piece) (a b : Option Addr) (c d : Nat) (H : AHeap) (hs : PiecesAt H a l) (hm : PiecesAt H b m) (hl : l.length < 100000) :
    Sound Try.prog 18 [.slice a l.length c, .slice b m.length d] H fun v H' => v = .bool (decide (l = m)) ∧ H <+: H' := by
  refine Sound.of_body (rs := [.tmp 4]) mixed Try.func18 rfl (by kernel_rfl) rfl (by kernel_rfl) ?_
  simp -dsimp only [go_sem, ↓reduceIte, Nat.reduceEqDiff, Nat.reduceAdd, Nat.reduceMul, Nat.reduceSub, Nat.reduceLeDiff, Nat.reduceLT]
  refine acondP_of (fun h => ?_) (fun h => ?_)
  · simp -dsimp only [go_sem, ↓reduceIte, Nat.reduceEqDiff, Nat.reduceAdd, Nat.reduceMul, Nat.reduceSub, Nat.reduceLeDiff, Nat.reduceLT]
    simp at h
    have : l ≠ m := fun e => h (by rw [e])
    simp [this]
  simp at h
  have hlen : m.length = l.length := by omega
  simp -dsimp only [go_sem, ↓reduceIte, Nat.reduceEqDiff, Nat.reduceAdd, Nat.reduceMul, Nat.reduceSub, Nat.reduceLeDiff, Nat.reduceLT]
  refine aloopP_of (fun n T H' => ∃ i, n = l.length - i ∧ i ≤ l.length ∧ H' = H ∧ T 0 = .slice a l.length c ∧ T 1 = .slice b m.length d ∧ T 5 = .int .i64 i ∧ l.take i = m.take i) (n := l.length) ?_ ?_
  · refine ⟨0, ?_⟩
    simp -dsimp only [go_sem, ↓reduceIte, Nat.reduceEqDiff, Nat.reduceAdd, Nat.reduceMul, Nat.reduceSub, Nat.reduceLeDiff, Nat.reduceLT]
    simp
  · rintro n T H' ⟨i, rfl, hi, rfl, h0, h1, h5, ho⟩
    simp -dsimp only [go_sem, ↓reduceIte, Nat.reduceEqDiff, Nat.reduceAdd, Nat.reduceMul, Nat.reduceSub, Nat.reduceLeDiff, Nat.reduceLT, h0, h1, h5]
    refine acondP_of (fun h => ?_) (fun h => ?_)
    · simp at h
      obtain ⟨x, hx⟩ := get_ex h
      obtain ⟨y, hy⟩ := get_ex (show i < m.length by omega)
      obtain ⟨id, off, rfl, hat⟩ := hs.at (by omega)
      obtain ⟨id2, off2, rfl, hat2⟩ := hm.at (by omega)
      simp -dsimp only [go_sem, ↓reduceIte, Nat.reduceEqDiff, Nat.reduceAdd, Nat.reduceMul, Nat.reduceSub, Nat.reduceLeDiff, Nat.reduceLT, h0, h1, h5]
      refine adrawnP_of2 [(0, false), (1, false), (2, false), (3, false), (4, false), (5, false), (6, false), (7, false), (8, false)] (by kernel_rfl) ?_
      simp -dsimp only [go_sem, ↓reduceIte, Nat.reduceEqDiff, Nat.reduceAdd, Nat.reduceMul, Nat.reduceSub, Nat.reduceLeDiff, Nat.reduceLT, h0, h1, h5, inRange h, inRange (show i < m.length by omega), rowLoad_whole (hat i x hx), rowLoad_whole (hat2 i y hy), pieceEqB]
      refine acondP_of (fun h' => ?_) (fun h' => ?_)
      · simp -dsimp only [go_sem, ↓reduceIte, Nat.reduceEqDiff, Nat.reduceAdd, Nat.reduceMul, Nat.reduceSub, Nat.reduceLeDiff, Nat.reduceLT, h0, h1, h5]
        simp at h'
        have : l ≠ m := fun e => h' (by rw [e, hy] at hx; exact (Option.some.inj hx).symm)
        simp [this]
      · simp -dsimp only [go_sem, ↓reduceIte, Nat.reduceEqDiff, Nat.reduceAdd, Nat.reduceMul, Nat.reduceSub, Nat.reduceLeDiff, Nat.reduceLT, h0, h1, h5, wrS (show i < 4611686018427387904 by omega)]
        simp at h'
        refine ⟨_, ?_, i + 1, rfl, h, ?_⟩
        · omega
        · simp [take_get hx, take_get hy, ho, h']
    · simp at h
      obtain rfl : i = l.length := by omega
      simp -dsimp only [go_sem, ↓reduceIte, Nat.reduceEqDiff, Nat.reduceAdd, Nat.reduceMul, Nat.reduceSub, Nat.reduceLeDiff, Nat.reduceLT, h0, h1, h5]
      rw [← hlen] at ho
      simp [hlen] at ho
      rw [← hlen] at ho
      simp at ho
      simp [ho]

theorem sameSegs (l m : List Seg) (a b : Option Addr) (c d : Nat) (H : AHeap) (hs : SegsAt H a l) (hm : SegsAt H b m) (hl : l.length < 100000) :
    Sound Try.prog 22 [.slice a l.length c, .slice b m.length d] H fun v H' => v = .bool (decide (l = m)) ∧ H <+: H' := by
  refine Sound.of_body (rs := [.tmp 4]) mixed Try.func22 rfl (by kernel_rfl) rfl (by kernel_rfl) ?_
  simp -dsimp only [go_sem, ↓reduceIte, Nat.reduceEqDiff, Nat.reduceAdd, Nat.reduceMul, Nat.reduceSub, Nat.reduceLeDiff, Nat.reduceLT]
  refine acondP_of (fun h => ?_) (fun h => ?_)
  · simp -dsimp only [go_sem, ↓reduceIte, Nat.reduceEqDiff, Nat.reduceAdd, Nat.reduceMul, Nat.reduceSub, Nat.reduceLeDiff, Nat.reduceLT]
    simp at h
    have : l ≠ m := fun e => h (by rw [e])
    simp [this]
  simp at h
  have hlen : m.length = l.length := by omega
  simp -dsimp only [go_sem, ↓reduceIte, Nat.reduceEqDiff, Nat.reduceAdd, Nat.reduceMul, Nat.reduceSub, Nat.reduceLeDiff, Nat.reduceLT]
  refine aloopP_of (fun n T H' => ∃ i, n = l.length - i ∧ i ≤ l.length ∧ H' = H ∧ T 0 = .slice a l.length c ∧ T 1 = .slice b m.length d ∧ T 5 = .int .i64 i ∧ l.take i = m.take i) (n := l.length) ?_ ?_
  · refine ⟨0, ?_⟩
    simp -dsimp only [go_sem, ↓reduceIte, Nat.reduceEqDiff, Nat.reduceAdd, Nat.reduceMul, Nat.reduceSub, Nat.reduceLeDiff, Nat.reduceLT]
    simp
  · rintro n T H' ⟨i, rfl, hi, rfl, h0, h1, h5, ho⟩
    simp -dsimp only [go_sem, ↓reduceIte, Nat.reduceEqDiff, Nat.reduceAdd, Nat.reduceMul, Nat.reduceSub, Nat.reduceLeDiff, Nat.reduceLT, h0, h1, h5]
    refine acondP_of (fun h => ?_) (fun h => ?_)
    · simp at h
      obtain ⟨x, hx⟩ := get_ex h
      obtain ⟨y, hy⟩ := get_ex (show i < m.length by omega)
      obtain ⟨id, off, rfl, hat⟩ := hs.at (by omega)
      obtain ⟨id2, off2, rfl, hat2⟩ := hm.at (by omega)
      simp -dsimp only [go_sem, ↓reduceIte, Nat.reduceEqDiff, Nat.reduceAdd, Nat.reduceMul, Nat.reduceSub, Nat.reduceLeDiff, Nat.reduceLT, h0, h1, h5]
      refine adrawnP_of2 [(0, false), (1, false), (2, false), (3, false), (4, false), (5, false), (6, false), (7, false), (8, false)] (by kernel_rfl) ?_
      simp -dsimp only [go_sem, ↓reduceIte, Nat.reduceEqDiff, Nat.reduceAdd, Nat.reduceMul, Nat.reduceSub, Nat.reduceLeDiff, Nat.reduceLT, h0, h1, h5, inRange h, inRange (show i < m.length by omega), rowLoad_whole (hat i x hx), rowLoad_whole (hat2 i y hy), segEqB]
      refine acondP_of (fun h' => ?_) (fun h' => ?_)
      · simp -dsimp only [go_sem, ↓reduceIte, Nat.reduceEqDiff, Nat.reduceAdd, Nat.reduceMul, Nat.reduceSub, Nat.reduceLeDiff, Nat.reduceLT, h0, h1, h5]
        simp at h'
        have : l ≠ m := fun e => h' (by rw [e, hy] at hx; exact (Option.some.inj hx).symm)
        simp [this]
      · simp -dsimp only [go_sem, ↓reduceIte, Nat.reduceEqDiff, Nat.reduceAdd, Nat.reduceMul, Nat.reduceSub, Nat.reduceLeDiff, Nat.reduceLT, h0, h1, h5, wrS (show i < 4611686018427387904 by omega)]
        simp at h'
        refine ⟨_, ?_, i + 1, rfl, h, ?_⟩
        · omega
        · simp [take_get hx, take_get hy, ho, h']
    · simp at h
      obtain rfl : i = l.length := by omega
      simp -dsimp only [go_sem, ↓reduceIte, Nat.reduceEqDiff, Nat.reduceAdd, Nat.reduceMul, Nat.reduceSub, Nat.reduceLeDiff, Nat.reduceLT, h0, h1, h5]
      rw [← hlen] at ho
      simp [hlen] at ho
      rw [← hlen] at ho
      simp at ho
      simp [ho]

/-! ### made -/
theorem TimeAt.foot {b : Nat} {H : AHeap} {p m : Nat} {M : List SetS} (h : TimeAt b H p m M) {j : Nat} (hj : footT p m M j) : b ≤ j ∧ j < H.length := by
  rcases hj with rfl | rfl | ⟨x, hx, rfl | hj⟩
  · exact ⟨h.bp, h.lt⟩
  · exact ⟨h.bm, h.dict.lt⟩
  · exact ⟨(h.sets x hx).ge, get_lt (h.sets x hx).at_⟩
  · exact (h.sets x hx).own.owner_ge hj
theorem TimeAt.keep {b : Nat} {H H' : AHeap} {p m : Nat} {M : List SetS} (h : TimeAt b H p m M) (hk : ∀ j, footT p m M j → H'[j]? = H[j]?) : TimeAt b H' p m M :=
  ⟨h.bp, h.bm, by rw [hk p (.inl rfl)]; exact h.at_, h.dict.keep (hk m (.inr (.inl rfl))), fun x hx => (h.sets x hx).keep (hk _ (.inr (.inr ⟨x, hx, .inl rfl⟩))) fun j hj => hk j (.inr (.inr ⟨x, hx, .inr hj⟩)), h.apart, h.good, h.len⟩
/-- what was taken, and what is there -/
structure Made (l : List Seg) (C : List KL) : Prop where
  perm : l.Perm (C.flatMap fun x => x.2)
  raw : ∀ s ∈ l, RawS s
theorem addTo_zero {C C' : List KL} {s : Seg} {e : Int} (h : AddTo C s e C') (he : e = 0) : (C'.flatMap fun x => x.2).Perm ((C.flatMap fun x => x.2) ++ [s]) := by
  cases h with
  | bad h => cases he
  | first h hn => simp
  | twice h hc hz hp => cases he
  | form h hc hp hz hzc => cases he
  | @more A B l h hc hp hz i hi =>
    subst hc
    rw [List.flatMap_append, List.flatMap_append, List.flatMap_cons, List.flatMap_cons]
    simp only [List.append_assoc]
    refine List.Perm.append_left _ ?_
    have e : l = l.take i ++ l.drop i := (List.take_append_drop i l).symm
    rw [← List.append_assoc, ← List.append_assoc]
    have h1 : (l.take i ++ s :: l.drop i).Perm (s :: l) := by
      refine List.perm_middle.trans ?_
      rw [List.take_append_drop]
    have h2 := h1.append_right (B.flatMap fun x => x.2)
    refine List.Perm.trans (by simpa using h2) ?_
    show (s :: (l ++ B.flatMap fun x => x.2)).Perm _
    exact (List.perm_append_singleton _ _).symm
theorem addTo_ne {C C' : List KL} {s : Seg} {e : Int} (h : AddTo C s e C') (he : e ≠ 0) : C' = C := by
  cases h with
  | bad h => rfl
  | first h hn => exact absurd rfl he
  | twice h hc hz hp => rfl
  | form h hc hp hz hzc => rfl
  | more h hc hp hz hi => exact absurd rfl he
theorem Made.len {l : List Seg} {M : List SetS} (h : Made l (cont M)) (hg : ∀ x ∈ M, GoodS x.k x.l) : M.length ≤ l.length ∧ ∀ x ∈ M, x.l.length ≤ l.length := by
  have hl := h.perm.length_eq
  rw [show ((cont M).flatMap fun x => x.2) = M.flatMap fun x => x.l by rw [List.flatMap_map]] at hl
  rw [hl]
  clear hl h
  induction M with
  | nil => simp
  | cons x M ih =>
    have := ih fun y hy => hg y (by simp [hy])
    have h0 := (hg x (by simp)).ne
    rw [List.flatMap_cons, List.length_append, List.length_cons]
    refine ⟨by omega, fun y hy => ?_⟩
    rcases List.mem_cons.1 hy with rfl | hy
    · omega
    · have := this.2 y hy; omega
theorem made (raw : List Seg) (a : Option Addr) (c : Nat) (most : Nat) (H : AHeap) (hs : SegsAt H a raw) (hw : ∀ s ∈ raw, SegI s) (hm : most ≤ 40) :
    Sound Try.prog 11 [.slice a raw.length c, .int .i64 most] H fun v H' => ∃ p m M vl l, v = .tuple #[ptrV p, vl] ∧ H <+: H' ∧ TimeAt H.length H' p m M ∧ OwnS H.length H' vl l ∧ Made l (cont M) ∧ l.length ≤ most ∧ (∀ j, owner vl = some j → ¬ footT p m M j) := by
  refine Sound.of_body (rs := [.tmp 4, .tmp 5]) mixed Try.func11 rfl (by kernel_rfl) rfl (by kernel_rfl) ?_
  simp -dsimp only [go_sem, ↓reduceIte, Nat.reduceEqDiff, Nat.reduceAdd, Nat.reduceMul, Nat.reduceSub, Nat.reduceLeDiff, Nat.reduceLT]
  refine SoundP_of (tlNew H) ?_
  rintro _ H1 ⟨rfl, hH1, hT⟩
  have p1 : H <+: H1 := by rw [hH1]; exact List.prefix_append _ _
  clear hH1
  generalize hp : H.length + 1 = p at *
  simp -dsimp only [go_sem, ↓reduceIte, Nat.reduceEqDiff, Nat.reduceAdd, Nat.reduceMul, Nat.reduceSub, Nat.reduceLeDiff, Nat.reduceLT]
  refine aloopP_of (fun n T H' => ∃ i M vl l, n = most - i ∧ i ≤ most ∧ T 0 = .slice a raw.length c ∧ T 1 = .int .i64 most ∧ T 6 = ptrV p ∧ T 7 = vl ∧ T 8 = .int .i64 ((i : Nat) : Int) ∧ H <+: H' ∧ TimeAt H.length H' p H.length M ∧ OwnS H.length H' vl l ∧ (∀ j, owner vl = some j → ¬ footT p H.length M j) ∧ Made l (cont M) ∧ l.length ≤ i) (n := most) ?_ ?_
  · refine ⟨0, [], .slice none 0 0, [], rfl, Nat.zero_le _, ?_⟩
    simp -dsimp only [go_sem, ↓reduceIte, Nat.reduceEqDiff, Nat.reduceAdd, Nat.reduceMul, Nat.reduceSub, Nat.reduceLeDiff, Nat.reduceLT]
    exact ⟨rfl, p1, hT, Own.nil _ _ _ _, fun j hj => by simp [owner] at hj, by simp, by simp⟩
  rintro n T H2 ⟨i, M, vl, l, rfl, hi, h0, h1, h6, h7, h8, p2, hT2, ol, dis, hMd, li⟩
  cases hc1 : decide ((i : Int) < (raw.length : Int)) with
  | false =>
    simp -dsimp only [go_sem, ↓reduceIte, Nat.reduceEqDiff, Nat.reduceAdd, Nat.reduceMul, Nat.reduceSub, Nat.reduceLeDiff, Nat.reduceLT, h0, h1, h6, h7, h8, hc1]
    exact ⟨p, H.length, M, vl, l, rfl, p2, hT2, ol, hMd, by omega, dis⟩
  | true =>
    have hc1' : i < raw.length := by simpa using hc1
    simp -dsimp only [go_sem, ↓reduceIte, Nat.reduceEqDiff, Nat.reduceAdd, Nat.reduceMul, Nat.reduceSub, Nat.reduceLeDiff, Nat.reduceLT, h0, h1, h6, h7, h8, hc1]
    refine acondP_of (fun hc2 => ?_) (fun hc2 => ?_)
    rotate_left
    · simp -dsimp only [go_sem, ↓reduceIte, Nat.reduceEqDiff, Nat.reduceAdd, Nat.reduceMul, Nat.reduceSub, Nat.reduceLeDiff, Nat.reduceLT, h0, h1, h6, h7, h8]
      exact ⟨p, H.length, M, vl, l, rfl, p2, hT2, ol, hMd, by omega, dis⟩
    simp at hc2
    obtain ⟨s, hsi⟩ := get_ex hc1'
    obtain ⟨id, off, rfl, hat⟩ := (hs.pre p2).at (by omega)
    simp -dsimp only [go_sem, ↓reduceIte, Nat.reduceEqDiff, Nat.reduceAdd, Nat.reduceMul, Nat.reduceSub, Nat.reduceLeDiff, Nat.reduceLT, h0, h1, h6, h7, h8, inRange hc1', rowLoad_whole (hat _ s hsi)]
    refine SoundP_of (segLaw s _ (hw s (List.mem_of_getElem? hsi))) ?_
    rintro _ H3 ⟨rfl, p3⟩
    have hr := segL_raw s
    generalize segL s = z at *
    have rz := get_end H3 (AObj.row z.cells 5 true) []
    have p4 : H2 <+: H3 ++ [AObj.row z.cells 5 true] := p3.trans (List.prefix_append _ _)
    have l4 : (H3 ++ [AObj.row z.cells 5 true]).length = H3.length + 1 := by simp
    have hT4 := hT2.pre p4
    have ol4 := ol.pre p4
    have lM := hMd.len hT2.good
    have g : ∀ {j : Nat}, footT p H.length M j → H.length ≤ j ∧ j < H2.length := fun hj => hT2.foot hj
    have n3 := pre_len p3
    have nH := pre_len p2
    simp -dsimp only [go_sem, ↓reduceIte, Nat.reduceEqDiff, Nat.reduceAdd, Nat.reduceMul, Nat.reduceSub, Nat.reduceLeDiff, Nat.reduceLT, h0, h1, h6, h7, h8]
    generalize hH4 : H3 ++ [AObj.row z.cells 5 true] = H4 at *
    refine SoundP_of (tlAdd z H.length H4 p H.length M hT4 (by omega) (fun x hx => by have := lM.2 x hx; omega)) ?_
    rintro _ H5 ⟨M', e, rfl, hT5, hadd, n5, fr5, ft5⟩
    have rz5 : H5[H3.length]? = some (AObj.row z.cells 5 true) := by
      rw [fr5 _ (by omega) (fun q => by have := g q; omega)]; exact rz
    have ol5 : OwnS H.length H5 vl l := ol4.keep fun j hj => fr5 j (ol4.owner_ge hj).2 (dis j hj)
    have p5 : H <+: H5 := by
      refine List.prefix_iff_getElem?.2 fun j hj => ?_
      rw [fr5 j (by omega) (fun q => by have := g q; omega)]
      exact pre_get (p2.trans p4) (by simp [hj])
    have dis5 : ∀ j, owner vl = some j → ¬ footT p H.length M' j := fun j hj q => by
      rcases ft5 j q with q | q
      · exact dis j hj q
      · have := (ol4.owner_ge hj).2; omega
    simp -dsimp only [go_sem, ↓reduceIte, Nat.reduceEqDiff, Nat.reduceAdd, Nat.reduceMul, Nat.reduceSub, Nat.reduceLeDiff, Nat.reduceLT, h0, h1, h6, h7, h8]
    refine acondP_of (fun he => ?_) (fun he => ?_)
    · have he0 : e = 0 := by simpa using he
      obtain ⟨v9, H9, e9, o9, le9, fr9, ow9⟩ := Own.app1b (enc := Seg.cells) un22 el22 inf32 rfl (by decide) (by decide) (fun _ => rfl) (fun _ => rfl) (b := H.length) (H := H5) (by omega) ol5 z (by omega)
      dsimp only [Seg.cells] at e9
      simp -dsimp only [go_sem, ↓reduceIte, Nat.reduceEqDiff, Nat.reduceAdd, Nat.reduceMul, Nat.reduceSub, Nat.reduceLeDiff, Nat.reduceLT, h0, h1, h6, h7, h8, rz5, e9, wrS (show i < 4611686018427387904 by omega)]
      refine ⟨_, by omega, i + 1, M', v9, l ++ [z], rfl, hc2, rfl, rfl, ?_, ?_, o9, ?_, ⟨?_, ?_⟩, ?_⟩
      · refine List.prefix_iff_getElem?.2 fun j hj => ?_
        rw [fr9 j (by omega) (fun q => by have := (ol5.owner_ge q).1; omega)]
        exact pre_get p5 (by simp [hj])
      · refine hT5.keep fun j hj => fr9 j (hT5.foot hj).2 fun q => dis5 j q hj
      · intro j hj q
        rcases ow9 j hj with q2 | q2
        · exact dis5 j q2 q
        · have := (hT5.foot q).2; omega
      · exact (hMd.perm.append_right [z]).trans (addTo_zero hadd he0).symm
      · intro y hy
        rcases List.mem_append.1 hy with hy | hy
        · exact hMd.raw y hy
        · rw [List.mem_singleton] at hy; subst hy; exact hr
      · rw [List.length_append, List.length_singleton]; omega
    · have he0 : e ≠ 0 := by simpa using he
      simp -dsimp only [go_sem, ↓reduceIte, Nat.reduceEqDiff, Nat.reduceAdd, Nat.reduceMul, Nat.reduceSub, Nat.reduceLeDiff, Nat.reduceLT, h0, h1, h6, h7, h8, wrS (show i < 4611686018427387904 by omega)]
      refine ⟨_, by omega, i + 1, M', vl, l, rfl, hc2, rfl, rfl, p5, hT5, ol5, dis5, ?_, by omega⟩
      rw [addTo_ne hadd he0]; exact hMd
end Go.Proofs.Ythbifkeadbmcnaa
