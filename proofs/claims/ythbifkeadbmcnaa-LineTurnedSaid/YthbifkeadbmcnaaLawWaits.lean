/-
  LineWaits: plain, and the walk.
-/
import Derived.Test.YthbifkeadbmcnaaLawAll
set_option linter.unusedVariables false
set_option linter.unusedSimpArgs false
namespace Go.Proofs.Ythbifkeadbmcnaa
open Go Go.AW Go.Bub
set_option linter.unusedSimpArgs false
set_option maxRecDepth 20000

abbrev maxTime : Int := 1099511627776
/-- the segments that LineWaits hands in -/
abbrev sW (c p : Int) : Seg := ⟨0, maxTime, 9, p, c⟩
abbrev kW : Key := ⟨0, maxTime, 9⟩
attribute [go_sem] sW
theorem sW_may {c p : Int} (hc : 0 ≤ c) (hp : 0 ≤ p) : mayB (sW c p) = true := mayB_iff.2 ⟨Int.le_refl 0, show (0 : Int) < 1099511627776 by decide, Int.le_refl _, show (0 : Int) ≤ 9 by decide, hp, hc⟩
/-- what is there when some of them have come -/
structure WaitC (C0 : List KL) (core : Int) (R : List Int) (C : List KL) : Prop where
  good : GoodC C
  old : ∀ x, x.1 ≠ kW → (x ∈ C ↔ x ∈ C0)
  new : ∀ l, (kW, l) ∈ C → ∀ s, s ∈ l ↔ ∃ p ∈ R, s = sW core p
  some : R ≠ [] → ∃ l, (kW, l) ∈ C
  none : R = [] → ∀ l, ¬ (kW, l) ∈ C
theorem place_mem {l : List Seg} {i : Nat} {s z : Seg} : z ∈ l.take i ++ s :: l.drop i ↔ z = s ∨ z ∈ l := by
  rw [List.mem_append, List.mem_cons]
  constructor
  · rintro (q | rfl | q)
    · exact .inr (List.mem_of_mem_take q)
    · exact .inl rfl
    · exact .inr (List.mem_of_mem_drop q)
  · rintro (rfl | q)
    · exact .inr (.inl rfl)
    · rw [← List.take_append_drop i l, List.mem_append] at q
      exact q.imp (fun q => q) .inr
/-- one more comes -/
theorem wait_add {C0 C C' : List KL} {core e : Int} {R : List Int} {p : Int} (h : WaitC C0 core R C) (hg : GoodC C') (hc : 0 ≤ core) (hp : 0 ≤ p) (hR : p ∉ R) (ha : AddTo C (sW core p) e C') : e = 0 ∧ WaitC C0 core (R ++ [p]) C' := by
  cases ha with
  | bad hm => rw [sW_may hc hp] at hm; cases hm
  | first hm hn =>
    have hRn : R = [] := by
      rcases List.eq_nil_or_concat R with q | ⟨R', y, q⟩
      · exact q
      · obtain ⟨l, hl⟩ := h.some (by rw [q]; simp)
        exact absurd rfl (hn _ hl)
    subst hRn
    refine ⟨rfl, hg, fun x hx => ?_, fun l hl s => ?_, fun _ => ⟨[sW core p], by simp [Seg.key]⟩, fun q => by simp at q⟩
    · rw [List.mem_append, List.mem_singleton, ← h.old x hx]
      exact ⟨fun q => q.resolve_right (fun q => hx (by rw [q]; rfl)), .inl⟩
    · rw [List.mem_append, List.mem_singleton] at hl
      rcases hl with hl | hl
      · exact absurd hl (h.none rfl l)
      · simp only [Prod.mk.injEq] at hl
        rw [hl.2]; simp
  | @twice A B l hm hC z hz hzp =>
    exfalso
    subst hC
    obtain ⟨q, hq, rfl⟩ := (h.new l (by simp [Seg.key]) z).1 hz
    exact hR (by rw [← show q = p from hzp]; exact hq)
  | @form A B l hm hC hno z hz hzc =>
    exfalso
    subst hC
    obtain ⟨q, hq, rfl⟩ := (h.new l (by simp [Seg.key]) z).1 hz
    exact hzc rfl
  | @more A B l hm hC hno hzc i hi =>
    subst hC
    have hk : (sW core p).key = kW := rfl
    simp only [hk] at h hg ⊢
    have hRn : R ≠ [] := fun q => h.none q l (by simp)
    refine ⟨trivial, hg, fun x hx => ?_, fun l2 hl s => ?_, fun _ => ⟨l.take i ++ sW core p :: l.drop i, by simp⟩, fun q => by simp at q⟩
    · rw [← h.old x hx]
      simp only [List.mem_append, List.mem_cons]
      have n1 : ∀ l3, x ≠ (kW, l3) := fun l3 q => hx (by rw [q])
      simp [n1]
    · have hu : l2 = l.take i ++ sW core p :: l.drop i := by
        have := hg.keys.uniq hl (show (kW, l.take i ++ sW core p :: l.drop i) ∈ A ++ (kW, l.take i ++ sW core p :: l.drop i) :: B by simp) rfl
        simpa using this
      rw [hu, place_mem, h.new l (by simp) s]
      constructor
      · rintro (rfl | ⟨q, hq, rfl⟩)
        · exact ⟨p, by simp, rfl⟩
        · exact ⟨q, by simp [hq], rfl⟩
      · rintro ⟨q, hq, rfl⟩
        rcases List.mem_append.1 hq with hq | hq
        · exact .inr ⟨q, hq, rfl⟩
        · rw [List.mem_singleton] at hq; subst hq; exact .inl rfl
/-- as long as one of the first is missing, nothing of them is told -/
theorem wait_same {C0 C : List KL} {core : Int} {R : List Int} {last : Int} (h0 : GoodC C0) (hno : ∀ l, (kW, l) ∉ C0) (h : WaitC C0 core R C) (hl : 0 ≤ last ∧ last < core) (hR : last ∉ R) (a b : Int) : lookC C a b = lookC C0 a b := by
  have e : wholes C = wholes C0 := wholes_ext h.good.keys h0.keys fun x hx => by
    by_cases hk : x.1 = kW
    · obtain ⟨k, l⟩ := x
      simp only at hk; subst hk
      refine ⟨fun hx2 => ?_, fun hx2 => absurd hx2 (hno l)⟩
      exfalso
      have hg := h.good.good _ hx2
      obtain ⟨s, hs⟩ := get_ex hg.ne
      have hsm := List.mem_of_getElem? hs
      obtain ⟨p, hp, rfl⟩ := (h.new l hx2 s).1 hsm
      obtain ⟨z, hz, hzp⟩ := (whole_iff hg hsm).1 hx last hl.1 hl.2
      obtain ⟨q, hq, rfl⟩ := (h.new l hx2 z).1 hz
      exact hR (by rw [← show q = last from hzp]; exact hq)
    · exact h.old x hk
  rw [lookC, lookC, strsC, strsC, e]
/-- parts that rise, from 0 to core -/
theorem parts_eq {l : List Seg} {core : Nat} (hr : Rises l) (hm : ∀ s, s ∈ l ↔ ∃ p : Nat, p ≤ core ∧ s = sW core p) : l = (List.range (core + 1)).map fun p => sW core (p : Nat) := by
  refine sorted_ext (lt := fun a b : Seg => a.p < b.p) (fun x => by omega) (fun x y h => by omega) hr ?_ fun s => ?_
  · rw [List.pairwise_map]
    refine List.pairwise_lt_range.imp fun {a b} h => ?_
    show (a : Int) < (b : Int)
    omega
  · rw [hm, List.mem_map]
    constructor
    · rintro ⟨p, hp, rfl⟩; exact ⟨p, List.mem_range.2 (by omega), rfl⟩
    · rintro ⟨p, hp, rfl⟩; exact ⟨p, by have := List.mem_range.1 hp; omega, rfl⟩
/-- one set that goes ahead of all, wherever -/
theorem strs_one {C : List KL} (hg : GoodC C) {x : KL} (hx : x ∈ C) (hw : whole x.2 = true) (hf : x.1.f < x.1.t) (hin : ∀ y ∈ C, x.1.f ≤ y.1.f ∧ y.1.t ≤ x.1.t) (hah : ∀ y ∈ C, y.1 ≠ x.1 → aheadR x.1 y.1 = true) : strsC C = [⟨x.1, x.2, x.1.f, x.1.t⟩] := by
  have ht := told_strs hg.keys
  have hxW := wholes_mem.2 ⟨hx, hw⟩
  have hat : ∀ n, x.1.f ≤ n → n < x.1.t → atC (wholes C) n = some x := fun n h1 h2 => by
    obtain ⟨y, hy⟩ := atC_ex (n := n) hxW (by simp [covers]; omega)
    have hyW := (atC_some hy).1
    rw [hy]
    by_cases hk : y.1 = x.1
    · rw [hg.keys.uniq (wholes_mem.1 hyW).1 hx hk]
    · exact absurd (hah y (wholes_mem.1 hyW).1 hk) (atC_first (wholes_sorted hg.keys) hy hxW (by simp [covers]; omega))
  have hall : ∀ s ∈ strsC C, s.k = x.1 ∧ s.l = x.2 ∧ x.1.f ≤ s.f ∧ s.t ≤ x.1.t := fun s hs => by
    have lt := ht.lt s hs
    obtain ⟨h1, h2, h3⟩ := strs_mem hg hs
    have h4 := hin _ (wholes_mem.1 h1).1
    simp only at h4
    have h5 := ht.at_ s hs s.f (Int.le_refl _) lt
    rw [hat s.f (by omega) (by omega)] at h5
    cases h5
    exact ⟨rfl, rfl, by omega, by omega⟩
  obtain ⟨s, hs, hs1, hs2⟩ := ht.all x.1.f x (hat _ (Int.le_refl _) hf)
  obtain ⟨A, B, hAB⟩ := List.append_of_mem hs
  have hsep := ht.sep
  have hsf : s.f = x.1.f := by have := (hall s hs).2.2.1; omega
  rw [hAB] at hsep
  rw [List.pairwise_append, List.pairwise_cons] at hsep
  have hA : A = [] := by
    rw [List.eq_nil_iff_forall_not_mem]
    intro y hy
    have h1 := hsep.2.2 y hy s (by simp)
    have hyS : y ∈ strsC C := by rw [hAB]; simp [hy]
    have h2 := ht.lt y hyS
    have h3 := hall y hyS
    omega
  have hst : s.t = x.1.t := by
    rcases Int.lt_or_eq_of_le (hall s hs).2.2.2 with q | q
    · exfalso
      have hlt := ht.lt s hs
      obtain ⟨y, hy, h1, h2⟩ := ht.all s.t x (hat _ (by omega) q)
      rw [hAB, hA, List.nil_append] at hy
      rcases List.mem_cons.1 hy with rfl | hy
      · omega
      · have h3 := hsep.2.1.1 y hy
        have h4 := hall y (by rw [hAB]; simp [hy])
        rcases h3 with h3 | ⟨h3, h5⟩
        · omega
        · exact h5 (by rw [h4.1, (hall s hs).1])
    · exact q
  have hB : B = [] := by
    rw [List.eq_nil_iff_forall_not_mem]
    intro y hy
    have h1 := hsep.2.1.1 y hy
    have hyS : y ∈ strsC C := by rw [hAB]; simp [hy]
    have h2 := ht.lt y hyS
    have h3 := hall y hyS
    omega
  rw [hAB, hA, hB]
  have h1 := hall s hs
  obtain ⟨k, l, f, t⟩ := s
  simp only at h1 hsf hst
  rw [h1.1, h1.2.1, hsf, hst]
  rfl
/-- all have come -/
theorem wait_all {C0 C : List KL} {core : Nat} {R : List Int} (h0 : GoodC C0) (hv : ∀ x ∈ C0, x.1.v < 9) (h : WaitC C0 core R C) (hR : ∀ p : Int, p ∈ R ↔ 0 ≤ p ∧ p ≤ core) : lookC C 0 maxTime = (List.range (core + 1)).map fun p => ⟨sW core (p : Nat), 0, maxTime⟩ := by
  obtain ⟨l, hl⟩ := h.some (fun q => by have := (hR 0).2 ⟨Int.le_refl _, by omega⟩; rw [q] at this; cases this)
  have hg := h.good.good _ hl
  have hlE : l = (List.range (core + 1)).map fun p => sW core (p : Nat) := parts_eq hg.rise fun s => by
    rw [h.new l hl]
    constructor
    · rintro ⟨p, hp, rfl⟩
      have := (hR p).1 hp
      exact ⟨p.toNat, by omega, by rw [show ((p.toNat : Nat) : Int) = p by omega]⟩
    · rintro ⟨p, hp, rfl⟩; exact ⟨p, (hR p).2 ⟨by omega, by omega⟩, rfl⟩
  have hs0 : sW core 0 ∈ l := (h.new l hl _).2 ⟨0, (hR 0).2 ⟨Int.le_refl _, by omega⟩, rfl⟩
  have hw : whole l = true := (whole_iff hg hs0).2 fun p h1 h2 => ⟨sW core p, (h.new l hl _).2 ⟨p, (hR p).2 ⟨h1, by have : p < (core : Int) := h2; omega⟩, rfl⟩, rfl⟩
  have hin : ∀ y ∈ C, y.1 ≠ kW → 0 ≤ y.1.f ∧ y.1.t ≤ maxTime ∧ y.1.v < 9 := fun y hy hk => by
    have hy0 := (h.old y hk).1 hy
    have hgy := h0.good y hy0
    obtain ⟨s, hs⟩ := get_ex hgy.ne
    have hsm := List.mem_of_getElem? hs
    have hm := mayB_iff.1 (hgy.may s hsm)
    have hkey := hgy.key s hsm
    have kf : s.f = y.1.f := congrArg Key.f hkey
    have kt : s.t = y.1.t := congrArg Key.t hkey
    exact ⟨by omega, by show y.1.t ≤ 1099511627776; omega, hv y hy0⟩
  have hS : strsC C = [⟨kW, l, 0, maxTime⟩] := strs_one (x := (kW, l)) h.good hl hw (show (0 : Int) < 1099511627776 by decide) (fun y hy => by
      by_cases hk : y.1 = kW
      · rw [hk]; exact ⟨Int.le_refl _, Int.le_refl _⟩
      · have := hin y hy hk; exact ⟨this.1, this.2.1⟩) (fun y hy hk => by
      have := hin y hy hk
      rw [aheadR_iff]; left; exact this.2.2)
  rw [lookC, hS, lookS]
  simp only [List.flatMap_cons, List.flatMap_nil, List.append_nil]
  rw [if_pos (by decide), hlE, List.map_map]
  rfl
theorem addTo_len {C C' : List KL} {s : Seg} {e : Int} (h : AddTo C s e C') {n : Nat} (hn : ∀ x ∈ C, x.2.length ≤ n) : C'.length ≤ C.length + 1 ∧ ∀ x ∈ C', x.2.length ≤ n + 1 := by
  cases h with
  | bad h => exact ⟨by omega, fun x hx => by have := hn x hx; omega⟩
  | first h _ =>
    refine ⟨by simp, fun x hx => ?_⟩
    rcases List.mem_append.1 hx with hx | hx
    · have := hn x hx; omega
    · rw [List.mem_singleton] at hx; subst hx; simp
  | twice h hc hz hp => exact ⟨by omega, fun x hx => by have := hn x hx; omega⟩
  | form h hc hp hz hzc => exact ⟨by omega, fun x hx => by have := hn x hx; omega⟩
  | @more A B l h hc hp hz i hi =>
    subst hc
    refine ⟨by simp, fun x hx => ?_⟩
    have h1 := hn (s.key, l) (by simp)
    rcases List.mem_append.1 hx with hx | hx
    · have := hn x (by simp [hx]); omega
    · rcases List.mem_cons.1 hx with rfl | hx
      · simp only [List.length_append, List.length_take, List.length_cons, List.length_drop]; have := hi.le; simp only at h1; omega
      · have := hn x (by simp [hx]); omega
def Prot (H : AHeap) (p m : Nat) (M : List SetS) (Pr : Nat → Prop) : Prop := ∀ j, Pr j → j < H.length ∧ ¬ footT p m M j
theorem prot_add {H H' : AHeap} {p m : Nat} {M M' : List SetS} {Pr : Nat → Prop} (h : Prot H p m M Pr) (hn : H.length ≤ H'.length) (fr : ∀ j, j < H.length → ¬ footT p m M j → H'[j]? = H[j]?) (ft : ∀ j, footT p m M' j → footT p m M j ∨ H.length ≤ j) :
    Prot H' p m M' Pr ∧ ∀ j, Pr j → H'[j]? = H[j]? := by
  refine ⟨fun j hj => ?_, fun j hj => fr j (h j hj).1 (h j hj).2⟩
  have := h j hj
  refine ⟨by omega, fun q => ?_⟩
  rcases ft j q with q | q
  · exact this.2 q
  · omega
set_option maxHeartbeats 2000000 in
theorem lineWaits (raw : List Seg) (core0 last0 : Int) (a : Option Addr) (c : Nat) (H : AHeap) (hs : SegsAt H a raw) (ga : ArgSl a raw.length c) (hw : ∀ s ∈ raw, SegI s) (ht : (Lit.int .i64 core0).wf = true) (ht2 : (Lit.int .i64 last0).wf = true) :
    Sound Try.prog 6 [.slice a raw.length c, .int .i64 core0, .int .i64 last0] H fun v _ => v = .bool true := by
  refine Sound.of_body (rs := [.tmp 6]) mixed Try.func6 rfl (by kernel_rfl) rfl (by kernel_rfl) ?_
  simp -dsimp only [go_sem, ↓reduceIte, Nat.reduceEqDiff, Nat.reduceAdd, Nat.reduceMul, Nat.reduceSub, Nat.reduceLeDiff, Nat.reduceLT]
  refine SoundP_of (awake H) ?_
  rintro _ H1 ⟨rfl, p1⟩
  simp -dsimp only [go_sem, ↓reduceIte, Nat.reduceEqDiff, Nat.reduceAdd, Nat.reduceMul, Nat.reduceSub, Nat.reduceLeDiff, Nat.reduceLT]
  refine SoundP_of (made raw a c 30 H1 (hs.pre p1) hw (by omega)) ?_
  rintro _ H2 ⟨p, m, M, vl, l, rfl, p2, hT, ol, hMd, hl, -⟩
  simp -dsimp only [go_sem, ↓reduceIte, Nat.reduceEqDiff, Nat.reduceAdd, Nat.reduceMul, Nat.reduceSub, Nat.reduceLeDiff, Nat.reduceLT]
  refine SoundP_of (absLaw core0 _ (wfI ht)) ?_
  rintro _ H3 ⟨rfl, rfl⟩
  have an := absL_nn core0
  have am := absL_nn last0
  obtain ⟨core, hcore⟩ : ∃ n : Nat, (n : Int) = 1 + absL core0 % 6 := ⟨(1 + absL core0 % 6).toNat, by omega⟩
  have hc6 : 1 ≤ core ∧ core ≤ 6 := by omega
  obtain ⟨last, hlast⟩ : ∃ n : Nat, (n : Int) = absL last0 % core := ⟨(absL last0 % core).toNat, by have := Int.emod_nonneg (absL last0) (b := (core : Int)) (by omega); omega⟩
  have hl6 : last < core := by have := Int.emod_lt_of_pos (absL last0) (b := (core : Int)) (by omega); omega
  simp -dsimp only [go_sem, ↓reduceIte, Nat.reduceEqDiff, Nat.reduceAdd, Nat.reduceMul, Nat.reduceSub, Nat.reduceLeDiff, Nat.reduceLT, show ((6 : Int) = 0) = False by simp, tm (b := 6) an, ← hcore, wr64 (i := (core : Int)) (by omega) (by omega)]
  refine SoundP_of (absLaw last0 _ (wfI ht2)) ?_
  rintro _ H4 ⟨rfl, rfl⟩
  simp -dsimp only [go_sem, ↓reduceIte, Nat.reduceEqDiff, Nat.reduceAdd, Nat.reduceMul, Nat.reduceSub, Nat.reduceLeDiff, Nat.reduceLT, show ((core : Int) = 0) = False by simp; omega, tm (b := (core : Int)) am, ← hlast]
  have lM := hMd.len hT.good
  have hg0 := hT.goodC
  have p5 := List.prefix_append H4 [AObj.row [.int .i64 0, .int .i64 1099511627776] 2 true]
  have hT5 := hT.pre p5
  have r5 := get_end H4 (AObj.row [.int .i64 0, .int .i64 1099511627776] 2 true) []
  have f5 : ∀ j, footT p m M j → j < H4.length := fun j hj => (hT.foot hj).2
  have l5 : (H4 ++ [AObj.row [.int .i64 0, .int .i64 1099511627776] 2 true]).length = H4.length + 1 := by simp
  have n1 := pre_len p2
  have hno : ∀ x ∈ cont M, x.1.v < 4 := fun x hx => by
    have hg := hg0.good x hx
    obtain ⟨s, hs⟩ := get_ex hg.ne
    have hsm := List.mem_of_getElem? hs
    have := (hMd.raw s (hMd.mem.2 ⟨x, hx, hsm⟩)).v
    have hv : s.v = x.1.v := congrArg Key.v (hg.key s hsm)
    omega
  clear hT p5
  generalize hH5 : H4 ++ [AObj.row [.int .i64 0, .int .i64 1099511627776] 2 true] = H5 at *
  generalize hix : H4.length = ix at *
  refine SoundP_of (tlLookup 0 1099511627776 H1.length H5 p m M hT5 (by omega) (fun x hx => by have := lM.2 x hx; omega)) ?_
  rintro v8 H6 ⟨o8, p6⟩
  have r6 := pre_get p6 r5
  have n6 := pre_len p6
  have hT6 := hT5.pre p6
  have hPl := lookC_len hg0 (by rw [List.length_map]; omega) (fun x hx => by obtain ⟨y, hy, rfl⟩ := List.mem_map.1 hx; have := lM.2 y hy; show y.l.length ≤ 100; omega) 0 1099511627776
  simp -dsimp only [go_sem, ↓reduceIte, Nat.reduceEqDiff, Nat.reduceAdd, Nat.reduceMul, Nat.reduceSub, Nat.reduceLeDiff, Nat.reduceLT, r6]
  have hov := fun j (hj : owner v8 = some j) => o8.owner_ge hj
  have f6 : ∀ j, footT p m M j → j < ix := f5
  have p7 := List.prefix_append H6 [AObj.row [.int .i64 0, .int .i64 1099511627776, .int .i64 9, .int .i64 0, .int .i64 core] 5 true]
  have hT7 := hT6.pre p7
  have o7 := o8.pre p7
  have r7 := pre_get p7 r6
  have z7 := get_end H6 (AObj.row [.int .i64 0, .int .i64 1099511627776, .int .i64 9, .int .i64 0, .int .i64 core] 5 true) []
  have l7 : (H6 ++ [AObj.row [.int .i64 0, .int .i64 1099511627776, .int .i64 9, .int .i64 0, .int .i64 (core : Int)] 5 true]).length = H6.length + 1 := by simp
  clear hT5 hT6 hs ga ol p7 r6 r5 p6
  generalize hH7 : H6 ++ [AObj.row [.int .i64 0, .int .i64 1099511627776, .int .i64 9, .int .i64 0, .int .i64 (core : Int)] 5 true] = H7 at *
  generalize hiz : H6.length = iz at *
  generalize hP : lookC (cont M) 0 1099511627776 = P at *
  obtain ⟨Pr, hPr⟩ : ∃ Pr : Nat → Prop, Pr = fun j => j = ix ∨ j = iz ∨ owner v8 = some j := ⟨_, rfl⟩
  have prx : Pr ix := by rw [hPr]; exact .inl rfl
  have prz : Pr iz := by rw [hPr]; exact .inr (.inl rfl)
  have pro : ∀ j, owner v8 = some j → Pr j := fun j hj => by rw [hPr]; exact .inr (.inr hj)
  have prot7 : Prot H7 p m M Pr := fun j hj => by
    rw [hPr] at hj
    rcases hj with rfl | rfl | hj
    · exact ⟨by omega, fun q => by have := f6 _ q; omega⟩
    · exact ⟨by omega, fun q => by have := f6 _ q; omega⟩
    · have := hov j hj; exact ⟨by omega, fun q => by have := f6 _ q; omega⟩
  have hne : ∀ j, owner v8 = some j → j ≠ iz := fun j hj => by have := hov j hj; omega
  have hxz : ix ≠ iz := by omega
  have b7 : H1.length ≤ H7.length := by omega
  clear hPr hov f6 f5 hiz hix l7 l5 n6
  refine aloopP_of (fun n T H' => ∃ (i : Nat) (M' : List SetS) (R : List Int) (q : Int), n = core + 1 - i ∧ i ≤ core + 1 ∧ T 1 = .int .i64 core ∧ T 2 = .int .i64 last ∧ T 8 = ptrV p ∧ T 10 = ptrV ix ∧ T 11 = v8 ∧ T 12 = ptrV iz ∧ T 13 = .int .i64 (i : Nat) ∧ TimeAt H1.length H' p m M' ∧ Prot H' p m M' Pr ∧ H1.length ≤ H'.length ∧
      H'[ix]? = some (.row [.int .i64 0, .int .i64 1099511627776] 2 true) ∧ H'[iz]? = some (.row (sW core q).cells 5 true) ∧ OwnP H5.length H' v8 P ∧ WaitC (cont M) core R (cont M') ∧ (∀ p, p ∈ R ↔ 0 ≤ p ∧ p < i ∧ p ≠ last) ∧ M'.length ≤ 30 + i ∧ (∀ x ∈ M', x.l.length ≤ 30 + i)) (n := core + 1) ?_ ?_
  · refine ⟨0, M, [], 0, ?_⟩
    simp -dsimp only [go_sem, ↓reduceIte, Nat.reduceEqDiff, Nat.reduceAdd, Nat.reduceMul, Nat.reduceSub, Nat.reduceLeDiff, Nat.reduceLT]
    refine ⟨rfl, rfl, hT7, prot7, b7, r7, z7, o7, ⟨hg0, fun _ _ => Iff.rfl, fun l hl => absurd (hno _ hl) (show ¬ (9 : Int) < 4 by decide), fun q => absurd rfl q, fun _ l hl => absurd (hno _ hl) (show ¬ (9 : Int) < 4 by decide)⟩, ?_, by omega, fun x hx => by have := lM.2 x hx; omega⟩
    intro p; simp; omega
  rintro n T H8 ⟨i, M8, R, q, rfl, hi, t1, t2, t8, t10, t11, t12, t13, hT8, prot8, b8, rx8, rz8, o8', hW, hR, hM8, hL8⟩
  simp -dsimp only [go_sem, ↓reduceIte, Nat.reduceEqDiff, Nat.reduceAdd, Nat.reduceMul, Nat.reduceSub, Nat.reduceLeDiff, Nat.reduceLT, t1, t2, t8, t10, t11, t12, t13]
  dsimp only [Seg.cells, sW, maxTime] at rz8
  refine acondP_of (fun hc => ?_) (fun hc => ?_)
  · simp at hc
    have w1 := wrS (show i < 4611686018427387904 by omega)
    have hT9 : ∀ o, TimeAt H1.length (H8.set iz o) p m M8 := fun o => hT8.keep fun j hj => List.getElem?_set_ne (fun q => (prot8 iz prz).2 (by rw [q]; exact hj))
    have o9 : ∀ o, OwnP H5.length (H8.set iz o) v8 P := fun o => o8'.keep fun j hj => List.getElem?_set_ne (Ne.symm (hne j hj))
    have rx9 : ∀ o, (H8.set iz o)[ix]? = some (.row [.int .i64 0, .int .i64 1099511627776] 2 true) := fun o => by rw [List.getElem?_set_ne (Ne.symm hxz)]; exact rx8
    have rz9 : ∀ o, (H8.set iz o)[iz]? = some o := fun o => List.getElem?_set_self (get_lt rz8)
    have pr9 : ∀ o, Prot (H8.set iz o) p m M8 Pr := fun o j hj => by rw [List.length_set]; exact prot8 j hj
    have step : i ≠ last → R.filter (fun p => decide (p ≠ (i : Int))) = R := fun _ => by
      rw [List.filter_eq_self]
      intro p hp
      have := (hR p).1 hp
      simp; omega
    have b9 : ∀ o, H1.length ≤ (H8.set iz o).length := fun o => by rw [List.length_set]; exact b8
    by_cases hil : i = last
    · have e0 : ((i : Int) != (last : Int)) = false := by simp [hil]
      simp -dsimp only [go_sem, ↓reduceIte, Nat.reduceEqDiff, Nat.reduceAdd, Nat.reduceMul, Nat.reduceSub, Nat.reduceLeDiff, Nat.reduceLT, t1, t2, t8, t10, t11, t12, t13, rz8, e0, w1]
      refine ⟨_, by omega, i + 1, M8, R, i, rfl, by omega, rfl, hT9 _, pr9 _, b9 _, rx9 _, rz9 _, o9 _, hW, fun p => ?_, by omega, fun x hx => by have := hL8 x hx; omega⟩
      rw [hR]; subst hil; omega
    · have e0 : ((i : Int) != (last : Int)) = true := by simp; omega
      simp -dsimp only [go_sem, ↓reduceIte, Nat.reduceEqDiff, Nat.reduceAdd, Nat.reduceMul, Nat.reduceSub, Nat.reduceLeDiff, Nat.reduceLT, t1, t2, t8, t10, t11, t12, t13, rz8, e0]
      have hT9' := hT9 (.row [.int .i64 0, .int .i64 1099511627776, .int .i64 9, .int .i64 i, .int .i64 core] 5 true)
      have o9' := o9 (.row [.int .i64 0, .int .i64 1099511627776, .int .i64 9, .int .i64 i, .int .i64 core] 5 true)
      have rx9' := rx9 (.row [.int .i64 0, .int .i64 1099511627776, .int .i64 9, .int .i64 i, .int .i64 core] 5 true)
      have rz9' := rz9 (.row [.int .i64 0, .int .i64 1099511627776, .int .i64 9, .int .i64 i, .int .i64 core] 5 true)
      have pr9' := pr9 (.row [.int .i64 0, .int .i64 1099511627776, .int .i64 9, .int .i64 i, .int .i64 core] 5 true)
      have b9' := b9 (.row [.int .i64 0, .int .i64 1099511627776, .int .i64 9, .int .i64 i, .int .i64 core] 5 true)
      generalize H8.set iz (.row [.int .i64 0, .int .i64 1099511627776, .int .i64 9, .int .i64 i, .int .i64 core] 5 true) = H9 at *
      simp -dsimp only [go_sem, ↓reduceIte, Nat.reduceEqDiff, Nat.reduceAdd, Nat.reduceMul, Nat.reduceSub, Nat.reduceLeDiff, Nat.reduceLT, t1, t2, t8, t10, t11, t12, t13, rz9']
      refine SoundP_of (tlAdd (sW core i) H1.length H9 p m M8 hT9' b9' (fun x hx => by have := hL8 x hx; omega)) ?_
      rintro _ H10 ⟨M10, e, rfl, hT10, hadd, n10, fr10, ft10⟩
      obtain ⟨pr10, kp10⟩ := prot_add pr9' n10 fr10 ft10
      obtain ⟨rfl, hW10⟩ := wait_add hW hT10.goodC (by omega) (by omega) (fun q => by have := (hR i).1 q; omega) hadd
      have hlen := addTo_len hadd (n := 30 + i) (fun x hx => by obtain ⟨y, hy, rfl⟩ := List.mem_map.1 hx; exact hL8 y hy)
      rw [List.length_map, List.length_map] at hlen
      simp -dsimp only [go_sem, ↓reduceIte, Nat.reduceEqDiff, Nat.reduceAdd, Nat.reduceMul, Nat.reduceSub, Nat.reduceLeDiff, Nat.reduceLT, t1, t2, t8, t10, t11, t12, t13, e0, w1, show ((0 : Int) != 0) = false from rfl]
      refine ⟨_, by omega, i + 1, M10, R ++ [(i : Int)], i, rfl, by omega, rfl, hT10, pr10, by omega, by rw [kp10 _ prx]; exact rx9', by rw [kp10 _ prz]; exact rz9', o9'.keep fun j hj => kp10 j (pro j hj), hW10, fun p => ?_, by omega, fun x hx => by have := hlen.2 (x.k, x.l) (List.mem_map.2 ⟨x, hx, rfl⟩); simp only at this; omega⟩
      rw [List.mem_append, List.mem_singleton, hR]; omega
  simp at hc
  obtain rfl : i = core + 1 := by omega
  simp -dsimp only [go_sem, ↓reduceIte, Nat.reduceEqDiff, Nat.reduceAdd, Nat.reduceMul, Nat.reduceSub, Nat.reduceLeDiff, Nat.reduceLT, t1, t2, t8, t10, t11, t12, t13, rx8]
  refine SoundP_of (tlLookup 0 1099511627776 H1.length H8 p m M8 hT8 (by omega) (fun x hx => by have := hL8 x hx; omega)) ?_
  rintro v9 H9 ⟨o9, p9⟩
  rw [wait_same hg0 (fun l hl => absurd (hno _ hl) (show ¬ (9 : Int) < 4 by decide)) hW ⟨by omega, by omega⟩ (fun q => ((hR last).1 q).2.2 rfl) 0 1099511627776, hP] at o9
  obtain ⟨a9, c9, rfl, s9⟩ := o9.sl (fun _ => rfl)
  obtain ⟨a8, c8, rfl, s8⟩ := o8'.sl (fun _ => rfl)
  simp -dsimp only [go_sem, ↓reduceIte, Nat.reduceEqDiff, Nat.reduceAdd, Nat.reduceMul, Nat.reduceSub, Nat.reduceLeDiff, Nat.reduceLT, t1, t2, t8, t10, t11, t12, t13]
  refine SoundP_of (samePieces P P a9 a8 c9 c8 H9 s9 (s8.pre p9) (by omega)) ?_
  rintro _ H10 ⟨rfl, p10⟩
  have p810 := p9.trans p10
  have rx10 := pre_get p810 rx8
  have rz10 := pre_get p810 rz8
  have n10 := pre_len p810
  have hT10 := hT8.pre p810
  have pr10 : Prot H10 p m M8 Pr := fun j hj => ⟨by have := prot8 j hj; omega, (prot8 j hj).2⟩
  have w1 := wrS (show core < 4611686018427387904 by omega)
  clear prot8 hT8 rx8 rz8 b7 o8' o9 s9 s8 p9 p10 p810 hne pro
  simp -dsimp only [go_sem, ↓reduceIte, Nat.reduceEqDiff, Nat.reduceAdd, Nat.reduceMul, Nat.reduceSub, Nat.reduceLeDiff, Nat.reduceLT, t1, t2, t8, t10, t11, t12, t13, show decide (P = P) = true by simp, rz10]
  have hTb : ∀ o, TimeAt H1.length (H10.set iz o) p m M8 := fun o => hT10.keep fun j hj => List.getElem?_set_ne (fun q => (pr10 iz prz).2 (by rw [q]; exact hj))
  have rxb : ∀ o, (H10.set iz o)[ix]? = some (.row [.int .i64 0, .int .i64 1099511627776] 2 true) := fun o => by rw [List.getElem?_set_ne (Ne.symm hxz)]; exact rx10
  have rzb : ∀ o, (H10.set iz o)[iz]? = some o := fun o => List.getElem?_set_self (get_lt rz10)
  have prb : ∀ o, Prot (H10.set iz o) p m M8 Pr := fun o j hj => by rw [List.length_set]; exact pr10 j hj
  have bb : ∀ o, H1.length ≤ (H10.set iz o).length := fun o => by rw [List.length_set]; omega
  have hT11 := hTb (.row [.int .i64 0, .int .i64 1099511627776, .int .i64 9, .int .i64 last, .int .i64 core] 5 true)
  have rx11 := rxb (.row [.int .i64 0, .int .i64 1099511627776, .int .i64 9, .int .i64 last, .int .i64 core] 5 true)
  have rz11 := rzb (.row [.int .i64 0, .int .i64 1099511627776, .int .i64 9, .int .i64 last, .int .i64 core] 5 true)
  have pr11 := prb (.row [.int .i64 0, .int .i64 1099511627776, .int .i64 9, .int .i64 last, .int .i64 core] 5 true)
  have b11 := bb (.row [.int .i64 0, .int .i64 1099511627776, .int .i64 9, .int .i64 last, .int .i64 core] 5 true)
  generalize H10.set iz (.row [.int .i64 0, .int .i64 1099511627776, .int .i64 9, .int .i64 last, .int .i64 core] 5 true) = H11 at *
  simp -dsimp only [go_sem, ↓reduceIte, Nat.reduceEqDiff, Nat.reduceAdd, Nat.reduceMul, Nat.reduceSub, Nat.reduceLeDiff, Nat.reduceLT, t1, t2, t8, t10, t11, t12, t13, rz11]
  refine SoundP_of (tlAdd (sW core last) H1.length H11 p m M8 hT11 b11 (fun x hx => by have := hL8 x hx; omega)) ?_
  rintro _ H12 ⟨M12, e, rfl, hT12, hadd, n12, fr12, ft12⟩
  obtain ⟨pr12, kp12⟩ := prot_add pr11 n12 fr12 ft12
  obtain ⟨rfl, hW12⟩ := wait_add hW hT12.goodC (by omega) (by omega) (fun q => ((hR last).1 q).2.2 rfl) hadd
  have hlen := addTo_len hadd (n := 30 + (core + 1)) (fun x hx => by obtain ⟨y, hy, rfl⟩ := List.mem_map.1 hx; exact hL8 y hy)
  rw [List.length_map, List.length_map] at hlen
  have rx12 := (kp12 _ prx).trans rx11
  have rz12 := (kp12 _ prz).trans rz11
  simp -dsimp only [go_sem, ↓reduceIte, Nat.reduceEqDiff, Nat.reduceAdd, Nat.reduceMul, Nat.reduceSub, Nat.reduceLeDiff, Nat.reduceLT, t1, t2, t8, t10, t11, t12, t13, show ((0 : Int) != 0) = false from rfl, rx12]
  refine SoundP_of (tlLookup 0 1099511627776 H1.length H12 p m M12 hT12 (by omega) (fun x hx => by have := hlen.2 (x.k, x.l) (List.mem_map.2 ⟨x, hx, rfl⟩); simp only at this; omega)) ?_
  rintro v13 H13 ⟨o13, p13⟩
  have e13 := wait_all hg0 (fun x hx => by have := hno x hx; omega) hW12 (fun p => by rw [List.mem_append, List.mem_singleton, hR]; omega)
  rw [show lookC (cont M12) 0 1099511627776 = _ from e13] at o13
  have rx13 := pre_get p13 rx12
  have rz13 := pre_get p13 rz12
  have hQl : ((List.range (core + 1)).map fun p => (⟨sW core (p : Nat), 0, maxTime⟩ : Piece)).length = core + 1 := by simp
  have hQ : ∀ i, i < core + 1 → ((List.range (core + 1)).map fun p => (⟨sW core (p : Nat), 0, maxTime⟩ : Piece))[i]? = some ⟨sW core (i : Nat), 0, maxTime⟩ := fun i hi => by simp [hi]
  generalize (List.range (core + 1)).map (fun p => (⟨sW core (p : Nat), 0, maxTime⟩ : Piece)) = Q at *
  have hoz : ∀ j, owner v13 = some j → j ≠ iz := fun j hj => by have := o13.owner_ge hj; have := (pr12 iz prz).1; omega
  simp -dsimp only [go_sem, ↓reduceIte, Nat.reduceEqDiff, Nat.reduceAdd, Nat.reduceMul, Nat.reduceSub, Nat.reduceLeDiff, Nat.reduceLT, t1, t2, t8, t10, t11, t12, t13]
  refine aloopP_of (fun n T H' => ∃ (i : Nat) (q : Int), n = core + 1 - i ∧ i ≤ core + 1 ∧ T 1 = .int .i64 core ∧ T 10 = ptrV ix ∧ T 12 = ptrV iz ∧ T 14 = v13 ∧ T 15 = .int .i64 (i : Nat) ∧
      H'[ix]? = some (.row [.int .i64 0, .int .i64 1099511627776] 2 true) ∧ H'[iz]? = some (.row (sW core q).cells 5 true) ∧ OwnP H12.length H' v13 Q) (n := core + 1) ?_ ?_
  · refine ⟨0, last, ?_⟩
    simp -dsimp only [go_sem, ↓reduceIte, Nat.reduceEqDiff, Nat.reduceAdd, Nat.reduceMul, Nat.reduceSub, Nat.reduceLeDiff, Nat.reduceLT, t1, t2, t8, t10, t11, t12, t13]
    exact ⟨rfl, rfl, rx13, rz13, o13⟩
  rintro n T H14 ⟨i, q, rfl, hi, t1, t10, t12, t14, t15, rx14, rz14, o14⟩
  dsimp only [Seg.cells, sW, maxTime] at rz14
  obtain ⟨a14, c14, rfl, s14⟩ := o14.sl (fun _ => rfl)
  rw [hQl] at t14
  simp -dsimp only [go_sem, ↓reduceIte, Nat.reduceEqDiff, Nat.reduceAdd, Nat.reduceMul, Nat.reduceSub, Nat.reduceLeDiff, Nat.reduceLT, t1, t10, t12, t14, t15]
  refine acondP_of (fun hc => ?_) (fun hc => ?_)
  rotate_left
  · simp -dsimp only [go_sem, ↓reduceIte, Nat.reduceEqDiff, Nat.reduceAdd, Nat.reduceMul, Nat.reduceSub, Nat.reduceLeDiff, Nat.reduceLT, t1, t10, t12, t14, t15, hQl]
    rw [w1]; simp
  simp at hc
  have o15 := o14.keep (H' := H14.set iz (.row [.int .i64 0, .int .i64 1099511627776, .int .i64 9, .int .i64 i, .int .i64 core] 5 true)) fun j hj => List.getElem?_set_ne (Ne.symm (hoz j hj))
  have rx15 : (H14.set iz (.row [.int .i64 0, .int .i64 1099511627776, .int .i64 9, .int .i64 i, .int .i64 core] 5 true))[ix]? = some (.row [.int .i64 0, .int .i64 1099511627776] 2 true) := by rw [List.getElem?_set_ne (Ne.symm hxz)]; exact rx14
  have rz15 : (H14.set iz (.row [.int .i64 0, .int .i64 1099511627776, .int .i64 9, .int .i64 i, .int .i64 core] 5 true))[iz]? = some (.row [.int .i64 0, .int .i64 1099511627776, .int .i64 9, .int .i64 i, .int .i64 core] 5 true) := List.getElem?_set_self (get_lt rz14)
  simp -dsimp only [go_sem, ↓reduceIte, Nat.reduceEqDiff, Nat.reduceAdd, Nat.reduceMul, Nat.reduceSub, Nat.reduceLeDiff, Nat.reduceLT, t1, t10, t12, t14, t15, rz14]
  generalize H14.set iz (.row [.int .i64 0, .int .i64 1099511627776, .int .i64 9, .int .i64 i, .int .i64 core] 5 true) = H15 at *
  have s15 := (o15.slA (fun _ => rfl)).2
  obtain ⟨id, off, rfl, hat⟩ := s15.at (by omega)
  have hqi := hat i _ (hQ i (by omega))
  have g1 := rowLoad_whole (aload_sub hqi 0 5 (by decide))
  have g2 := rowLoad_whole (aload_sub hqi 5 2 (by decide))
  have w2 := wrS (show i < 4611686018427387904 by omega)
  refine adrawnP_of2 [(0, false), (1, false), (2, false), (3, false), (4, false), (5, false), (6, false), (7, false), (8, false), (9, false), (10, false), (11, false), (12, false), (13, false), (14, false), (15, false)] (by kernel_rfl) ?_
  have q1 : (true && ((9 : Int) == 9 && ((i : Int) == (i : Int) && (core : Int) == (core : Int)))) = true := by simp
  have q2 : ((0 : Int) == 0 && maxTime == (1099511627776 : Int)) = true := by simp
  simp -dsimp only [go_sem, ↓reduceIte, Nat.reduceEqDiff, Nat.reduceAdd, Nat.reduceMul, Nat.reduceSub, Nat.reduceLeDiff, Nat.reduceLT, t1, t10, t12, t14, t15, inRange (show i < core + 1 by omega), g1, g2, rz15, rx15, w2, q1, q2]
  exact ⟨_, by omega, i + 1, i, rfl, by omega, by rw [hQl], rfl, rfl, o15⟩
end Go.Proofs.Ythbifkeadbmcnaa
