/-
  Plain: LineTurned.
-/
import Derived.Test.YthbifkeadbmcnaaPureCov
set_option linter.unusedVariables false
set_option linter.unusedSimpArgs false
namespace Go.Proofs.Ythbifkeadbmcnaa
open Go Go.AW Go.Bub

theorem RawS.may {s : Seg} (h : RawS s) : mayB s = true := mayB_iff.2 (by
  have h1 := h.f; have h2 := h.t; have h3 := h.v; have h4 := h.p; have h5 := h.c
  omega)
theorem rem_perm {C C' : List KL} {s : Seg} {e : Int} (h : RemTo C s e C') (he : e = 0) : (C.flatMap fun x => x.2).Perm (s :: C'.flatMap fun x => x.2) := by
  cases h with
  | bad h => cases he
  | none h hn => cases he
  | @some A B l i h hc hi hl =>
    subst hc
    simp only [List.flatMap_append, List.flatMap_cons]
    have e : l = l.take i ++ s :: l.drop (i + 1) := by rw [← drop_get hi, List.take_append_drop]
    refine List.Perm.trans ?_ List.perm_middle
    refine List.Perm.append_left _ ?_
    conv => lhs; arg 1; rw [e]
    simp only [List.append_assoc, List.cons_append]
    exact List.perm_middle
  | @last A B h hc =>
    subst hc
    simp only [List.flatMap_append, List.flatMap_cons]
    exact List.perm_middle
theorem made_add {l : List Seg} {C C' : List KL} {s : Seg} {e : Int} (h : Made l C) (hr : RawS s) (ha : AddTo C s e C') (he : e = 0) : Made (l ++ [s]) C' :=
  ⟨(h.perm.append_right [s]).trans (addTo_zero ha he).symm, fun y hy => by
    rcases List.mem_append.1 hy with hy | hy
    · exact h.raw y hy
    · rw [List.mem_singleton] at hy; subst hy; exact hr⟩
theorem made_new {l : List Seg} {C C' : List KL} {s : Seg} {e : Int} (h : Made l C) (hg : GoodC C) (hr : RawS s) (hn : ∀ z ∈ l, z.key = s.key → z.p ≠ s.p) (ha : AddTo C s e C') : e = 0 := by
  cases ha with
  | bad q => rw [hr.may] at q; cases q
  | first _ _ => rfl
  | @twice A B l2 hm hc z hz hp =>
    subst hc
    have hk := (hg.good (s.key, l2) (by simp)).key z hz
    exact absurd hp (hn z (h.mem.2 ⟨(s.key, l2), by simp, hz⟩) hk)
  | @form A B l2 hm hc _ z hz hzc =>
    exfalso
    subst hc
    have hk := (hg.good (s.key, l2) (by simp)).key z hz
    have hzr := h.raw z (h.mem.2 ⟨(s.key, l2), by simp, hz⟩)
    have kf : z.f = s.f := congrArg Key.f hk
    have kv : z.v = s.v := congrArg Key.v hk
    have h1 := hzr.c; have h2 := hr.c
    rw [kf, kv] at h1
    exact hzc (by rw [h1, h2])
  | more _ _ _ _ _ => rfl
theorem made_rem {l : List Seg} {C C' : List KL} {s : Seg} {e : Int} (h : Made (s :: l) C) (hg : GoodC C) (ha : RemTo C s e C') : e = 0 ∧ Made l C' := by
  have he : e = 0 := by
    obtain ⟨x, hx, hs⟩ := h.mem.1 (show s ∈ s :: l by simp)
    cases ha with
    | bad q => rw [(h.raw s (by simp)).may] at q; cases q
    | none _ hn => exact absurd hs (hn x hx)
    | some _ _ _ _ => rfl
    | last _ _ => rfl
  exact ⟨he, (h.perm.trans (rem_perm ha he)).cons_inv, fun y hy => h.raw y (by simp [hy])⟩
theorem made_sub {l m : List Seg} {C D : List KL} (h : Made l C) (h2 : Made m D) (hg : GoodC C) (hg2 : GoodC D) (hm : ∀ s, s ∈ l ↔ s ∈ m) {x : KL} (hx : x ∈ C) : x ∈ D := by
  obtain ⟨s, hs⟩ := get_ex (hg.good x hx).ne
  have hsx := List.mem_of_getElem? hs
  obtain ⟨y, hy, hsy⟩ := h2.mem.1 ((hm s).1 (h.mem.2 ⟨x, hx, hsx⟩))
  have k1 := (hg.good x hx).key s hsx
  have k2 := (hg2.good y hy).key s hsy
  have hk : x.1 = y.1 := by rw [← k1, k2]
  have hl : x.2 = y.2 := sorted_ext (lt := fun a b : Seg => a.p < b.p) (fun x => by omega) (fun x y h => by omega) (hg.good x hx).rise (hg2.good y hy).rise fun z => by
    rw [← h.of_key hg hx, ← h2.of_key hg2 hy, hm z, hk]
  obtain ⟨k, a⟩ := x
  obtain ⟨k', b⟩ := y
  simp only at hk hl
  subst hk; subst hl
  exact hy
theorem made_same {l m : List Seg} {C D : List KL} (h : Made l C) (h2 : Made m D) (hg : GoodC C) (hg2 : GoodC D) (hm : ∀ s, s ∈ l ↔ s ∈ m) (x : KL) : x ∈ C ↔ x ∈ D :=
  ⟨made_sub h h2 hg hg2 hm, made_sub h2 h hg2 hg fun s => (hm s).symm⟩
theorem same_strs {C D : List KL} (hg : GoodC C) (hg2 : GoodC D) (h : ∀ x, x ∈ C ↔ x ∈ D) : strsC C = strsC D := by
  rw [strsC, strsC, wholes_ext hg.keys hg2.keys fun x _ => h x]
theorem same_look {C D : List KL} (hg : GoodC C) (hg2 : GoodC D) (h : ∀ x, x ∈ C ↔ x ∈ D) (a b : Int) : lookC C a b = lookC D a b := by
  rw [lookC, lookC, same_strs hg hg2 h]
theorem same_vis {C D : List KL} (hg : GoodC C) (hg2 : GoodC D) (h : ∀ x, x ∈ C ↔ x ∈ D) : visL C = visL D :=
  standL_ext (visL_sorted hg) (visL_sorted hg2) fun y => by
    rw [visL_mem, visL_mem, same_strs hg hg2 h]
    simp only [h]
theorem same_cover {C D : List KL} (hg : GoodC C) (hg2 : GoodC D) (h : ∀ x, x ∈ C ↔ x ∈ D) : coverL C = coverL D :=
  standL_ext (coverL_sorted hg) (coverL_sorted hg2) fun y => by
    rw [coverL_mem, coverL_mem, same_strs hg hg2 h]
    simp only [h]
/-! ### the order in which they come again -/
def tix (n r i : Nat) : Nat := if r ≤ i then n - 1 - i + r else r - 1 - i
theorem tix_lt {n r i : Nat} (hi : i < n) (hr : r < n) : tix n r i < n := by unfold tix; split <;> omega
theorem tix_tix {n r i : Nat} (hi : i < n) (hr : r < n) : tix n r (tix n r i) = i := by unfold tix; split <;> split <;> omega
theorem tix_mod {n r i : Nat} (hi : i < n) (hr : r < n) : ((n : Int) - 1 - i + r) % n = (tix n r i : Nat) := by
  unfold tix
  split
  · rw [Int.emod_eq_of_lt (by omega) (by omega)]; omega
  · have : (n : Int) - 1 - i + r = ((r : Int) - 1 - i) + n * 1 := by omega
    rw [this, Int.add_mul_emod_self_left, Int.emod_eq_of_lt (by omega) (by omega)]; omega
/-- those that have come again -/
structure TakenL (l : List Seg) (r i : Nat) (tk : List Seg) : Prop where
  mem : ∀ z, z ∈ tk ↔ ∃ k, k < i ∧ l[tix l.length r k]? = some z
theorem taken_all {l tk : List Seg} {r : Nat} (hr : r < l.length ∨ l.length = 0) (h : TakenL l r l.length tk) (z : Seg) : z ∈ l ↔ z ∈ tk := by
  rw [h.mem]
  constructor
  · intro hz
    obtain ⟨j, hj⟩ := List.mem_iff_getElem?.1 hz
    have hjl := (List.getElem?_eq_some_iff.1 hj).1
    rcases hr with hr | hr
    · exact ⟨tix l.length r j, tix_lt hjl hr, by rw [tix_tix hjl hr]; exact hj⟩
    · omega
  · rintro ⟨k, _, h⟩
    exact List.mem_of_getElem? h
theorem taken_step {l tk : List Seg} {r i : Nat} {s : Seg} (h : TakenL l r i tk) (hs : l[tix l.length r i]? = some s) : TakenL l r (i + 1) (tk ++ [s]) := ⟨fun z => by
  rw [List.mem_append, List.mem_singleton, h.mem]
  constructor
  · rintro (⟨k, hk, h⟩ | rfl)
    · exact ⟨k, by omega, h⟩
    · exact ⟨i, by omega, hs⟩
  · rintro ⟨k, hk, h3⟩
    by_cases q : k = i
    · rw [q, hs] at h3; exact .inr (Option.some.inj h3).symm
    · exact .inl ⟨k, by omega, h3⟩⟩
/-- of what is there, no two have one set and one part -/
theorem made_once {l : List Seg} {C : List KL} (h : Made l C) (hg : GoodC C) : OnceL l := (once_flat hg).perm h.perm.symm
theorem taken_new {l tk : List Seg} {r i : Nat} {s : Seg} (ho : OnceL l) (hi : i < l.length) (hr : r < l.length) (h : TakenL l r i tk) (hs : l[tix l.length r i]? = some s) : ∀ z ∈ tk, z.key = s.key → z.p ≠ s.p := fun z hz hk hp => by
  obtain ⟨k, hki, hzk⟩ := (h.mem z).1 hz
  have hne : tix l.length r k ≠ tix l.length r i := fun q => by
    have := congrArg (tix l.length r) q
    rw [tix_tix (by omega) hr, tix_tix hi hr] at this
    omega
  obtain ⟨h1, e1⟩ := List.getElem?_eq_some_iff.1 hzk
  obtain ⟨h2, e2⟩ := List.getElem?_eq_some_iff.1 hs
  have hop := List.pairwise_iff_getElem.1 ho
  rcases Nat.lt_or_gt_of_ne hne with q | q
  · have := hop _ _ h1 h2 q
    rw [e1, e2] at this
    exact this ⟨hk, hp⟩
  · have := hop _ _ h2 h1 q
    rw [e1, e2] at this
    exact this ⟨hk.symm, hp.symm⟩
end Go.Proofs.Ythbifkeadbmcnaa
