/-
  Plain: when a set is complete; what stands in a timeline.
-/
import Derived.Test.YthbifkeadbmcnaaMade
set_option linter.unusedVariables false
set_option linter.unusedSimpArgs false
namespace Go.Proofs.Ythbifkeadbmcnaa
open Go Go.AW

theorem mayB_iff {s : Seg} : mayB s = true ↔ 0 ≤ s.f ∧ s.f < s.t ∧ s.t ≤ 1099511627776 ∧ 0 ≤ s.v ∧ 0 ≤ s.p ∧ 0 ≤ s.c := by
  simp [mayB]
theorem rise_ge : ∀ {l : List Seg} {n : Int}, Rises l → (∀ z ∈ l, n ≤ z.p) → ∀ {i : Nat} {z : Seg}, l[i]? = some z → n + i ≤ z.p
  | [], n, hr, hn, i, z, h => by simp at h
  | y :: l, n, hr, hn, 0, z, h => by simp at h; subst h; have := hn y (by simp); simpa using this
  | y :: l, n, hr, hn, i + 1, z, h => by
    have hr := List.pairwise_cons.1 hr
    have h2 : l[i]? = some z := by simpa using h
    have := rise_ge (n := n + 1) hr.2 (fun x hx => by have := hr.1 x hx; have := hn y (by simp); omega) h2
    omega
theorem rise_lt {l : List Seg} (hr : Rises l) {i j : Nat} {y z : Seg} (hij : i < j) (hy : l[i]? = some y) (hz : l[j]? = some z) : y.p < z.p := by
  obtain ⟨h1, rfl⟩ := List.getElem?_eq_some_iff.1 hy
  obtain ⟨h2, rfl⟩ := List.getElem?_eq_some_iff.1 hz
  exact List.pairwise_iff_getElem.1 hr i j h1 h2 hij
theorem rise_gap {l : List Seg} (hr : Rises l) {i : Nat} {y : Seg} (hy : l[i]? = some y) : ∀ (d : Nat) {z : Seg}, l[i + d]? = some z → y.p + d ≤ z.p
  | 0, z, hz => by rw [Nat.add_zero, hy] at hz; cases hz; simp
  | d + 1, z, hz => by
    have hlt := (List.getElem?_eq_some_iff.1 hz).1
    obtain ⟨w, hw⟩ := get_ex (show i + d < l.length by omega)
    have h1 := rise_gap hr hy d hw
    have h2 := rise_lt hr (show i + d < i + (d + 1) by omega) hw hz
    omega
theorem whole_head {l : List Seg} {k : Key} (hg : GoodS k l) {s : Seg} (hs : s ∈ l) : whole l = (decide (s.c ≤ l.length) && (decide (s.c = 0) || decide (∃ y, l[(s.c - 1).toNat]? = some y ∧ y.p = s.c - 1))) := by
  unfold whole
  cases l with
  | nil => cases hs
  | cons z l =>
    simp only [List.head?_cons]
    rw [hg.core s hs z (by simp)]
/-- complete: all first parts are there -/
theorem whole_iff {l : List Seg} {k : Key} (hg : GoodS k l) {s : Seg} (hs : s ∈ l) : whole l = true ↔ ∀ p : Int, 0 ≤ p → p < s.c → ∃ z ∈ l, z.p = p := by
  rw [whole_head hg hs]
  have nn : ∀ z ∈ l, (0 : Int) ≤ z.p := fun z hz => (mayB_iff.1 (hg.may z hz)).2.2.2.2.1
  have hc := (mayB_iff.1 (hg.may s hs)).2.2.2.2.2
  simp only [Bool.and_eq_true, Bool.or_eq_true, decide_eq_true_eq]
  constructor
  · rintro ⟨h1, h2⟩ p hp0 hpc
    rcases h2 with h2 | ⟨y, hy, hyp⟩
    · omega
    · obtain ⟨i, rfl⟩ : ∃ i : Nat, p = i := ⟨p.toNat, by omega⟩
      obtain ⟨d, hd⟩ : ∃ d : Nat, (s.c - 1).toNat = i + d := ⟨(s.c - 1).toNat - i, by omega⟩
      obtain ⟨z, hz⟩ := get_ex (show i < l.length by omega)
      rw [hd] at hy
      have h3 := rise_gap hg.rise hz d hy
      have h4 := rise_ge (n := 0) hg.rise nn hz
      exact ⟨z, List.mem_of_getElem? hz, by omega⟩
  · intro h
    have key : ∀ n : Nat, (n : Int) < s.c → ∃ (i : Nat) (z : Seg), l[i]? = some z ∧ z.p = (n : Int) ∧ n ≤ i := by
      intro n
      induction n with
      | zero =>
        intro hn
        obtain ⟨z, hz, hp⟩ := h 0 (by omega) hn
        obtain ⟨i, hi⟩ := List.mem_iff_getElem?.1 hz
        exact ⟨i, z, hi, hp, by omega⟩
      | succ n ih =>
        intro hn
        obtain ⟨i, y, hy, hyp, hni⟩ := ih (by omega)
        obtain ⟨z, hz, hp⟩ := h (n + 1 : Nat) (by omega) hn
        obtain ⟨j, hj⟩ := List.mem_iff_getElem?.1 hz
        refine ⟨j, z, hj, hp, ?_⟩
        rcases Nat.lt_or_ge i j with q | q
        · omega
        · exfalso
          rcases Nat.eq_or_lt_of_le q with q | q
          · subst q; rw [hj] at hy; cases hy; omega
          · have := rise_lt hg.rise q hj hy; omega
    by_cases h0 : s.c = 0
    · refine ⟨by omega, .inl h0⟩
    · obtain ⟨i, z, hz, hp, hi⟩ := key (s.c - 1).toNat (by omega)
      have h4 := rise_ge (n := 0) hg.rise nn hz
      have e : (s.c - 1).toNat = i := by omega
      have := (List.getElem?_eq_some_iff.1 hz).1
      refine ⟨by omega, .inr ⟨z, by rw [e]; exact hz, by omega⟩⟩
/-- what is good of a timeline's contents -/
structure GoodC (C : List KL) : Prop where
  keys : KeysC C
  good : ∀ x ∈ C, GoodS x.1 x.2
theorem TimeAt.goodC {b : Nat} {H : AHeap} {p m : Nat} {M : List SetS} (h : TimeAt b H p m M) : GoodC (cont M) := ⟨h.keys, fun x hx => by
  obtain ⟨y, hy, rfl⟩ := List.mem_map.1 hx
  exact h.good y hy⟩
theorem Made.mem {l : List Seg} {C : List KL} (h : Made l C) {s : Seg} : s ∈ l ↔ ∃ x ∈ C, s ∈ x.2 := by
  rw [h.perm.mem_iff, List.mem_flatMap]
theorem Made.of_key {l : List Seg} {C : List KL} (h : Made l C) (hg : GoodC C) {x : KL} (hx : x ∈ C) {s : Seg} : s ∈ l ∧ s.key = x.1 ↔ s ∈ x.2 := by
  constructor
  · rintro ⟨hs, hk⟩
    obtain ⟨y, hy, hsy⟩ := h.mem.1 hs
    have := (hg.good y hy).key s hsy
    rw [hg.keys.uniq hx hy (by rw [← hk, this])]
    exact hsy
  · intro hs
    exact ⟨h.mem.2 ⟨x, hx, hs⟩, (hg.good x hx).key s hs⟩
theorem wholeB_eq {l : List Seg} {C : List KL} (h : Made l C) (hg : GoodC C) {x : KL} (hx : x ∈ C) {s : Seg} (hs : s ∈ x.2) : wholeB l s = whole x.2 := by
  rw [Bool.eq_iff_iff, whole_iff (hg.good x hx) hs]
  unfold wholeB hasP
  simp only [List.all_eq_true, List.mem_range, List.any_eq_true, Bool.and_eq_true, decide_eq_true_eq]
  have hk := (hg.good x hx).key s hs
  constructor
  · intro h1 p hp0 hpc
    obtain ⟨z, hz, hzk, hzp⟩ := h1 p.toNat (by omega)
    exact ⟨z, (h.of_key hg hx).1 ⟨hz, by rw [hzk, hk]⟩, by omega⟩
  · intro h1 p hp
    obtain ⟨z, hz, hzp⟩ := h1 p (by omega) (by omega)
    have := (h.of_key hg hx).2 hz
    exact ⟨z, this.1, by rw [this.2, hk], hzp⟩
theorem wholes_good {C : List KL} (hg : GoodC C) {x : KL} (hx : x ∈ wholes C) : GoodS x.1 x.2 := hg.good x (wholes_mem.1 hx).1
theorem strs_mem {C : List KL} (hg : GoodC C) {s : CStr} (hs : s ∈ strsC C) : (s.k, s.l) ∈ wholes C ∧ s.k.f ≤ s.f ∧ s.t ≤ s.k.t := by
  have ht := told_strs hg.keys
  have lt := ht.lt s hs
  have h1 := atC_some (ht.at_ s hs s.f (Int.le_refl _) lt)
  have h2 := atC_some (ht.at_ s hs (s.t - 1) (by omega) (by omega))
  exact ⟨h1.1, h1.2.1, by have := h2.2.2; simp at this; omega⟩
/-! ### how much is told -/
theorem pushC_len (out : List CStr) (x : KL) (f t : Int) : (pushC out x f t).length ≤ out.length + 1 := by
  unfold pushC
  split
  · split <;> simp
  · simp
theorem strFromC_len (W : List KL) : ∀ (T : List Int) (f : Int) (out : List CStr), (strFromC W f T out).length ≤ out.length + T.length
  | [], _, out => by simp [strFromC]
  | t :: T, f, out => by
    have h1 := strFromC_len W T t (stepC W out f t)
    have h2 : (stepC W out f t).length ≤ out.length + 1 := by
      unfold stepC
      split
      · omega
      · exact pushC_len _ _ _ _
    simp only [strFromC, List.length_cons]
    omega
theorem strC_len (W : List KL) (T : List Int) : (strC W T).length ≤ T.length := by
  cases T with
  | nil => simp [strC]
  | cons f T => have := strFromC_len W T f []; simp only [strC, List.length_cons, List.length_nil] at *; omega
theorem strsC_len (C : List KL) : (strsC C).length ≤ 2 * C.length := by
  have h1 := strC_len (wholes C) (timesC (wholes C))
  have h2 := comp_len (((wholes C).flatMap fun x => [x.1.f, x.1.t]).mergeSort fun a b => decide (a ≤ b))
  rw [List.length_mergeSort] at h2
  have h3 : ∀ W : List KL, (W.flatMap fun x => [x.1.f, x.1.t]).length = 2 * W.length := fun W => by
    induction W with
    | nil => rfl
    | cons x W ih => rw [List.flatMap_cons, List.length_append, ih, List.length_cons, List.length_cons, List.length_cons, List.length_nil]; omega
  rw [h3] at h2
  have h4 := (wholes_perm0 C).length_eq
  have h5 := List.length_filter_le (fun x : KL => whole x.2) C
  unfold strsC
  unfold timesC at *
  omega
theorem lookS_len {S : List CStr} {n : Nat} (h : ∀ s ∈ S, s.l.length ≤ n) (a b : Int) : (lookS S a b).length ≤ S.length * n := by
  induction S with
  | nil => simp [lookS]
  | cons s S ih =>
    have h1 := ih fun s hs => h s (by simp [hs])
    have h2 := h s (by simp)
    show (_ ++ lookS S a b).length ≤ _
    rw [List.length_append, List.length_cons, Nat.add_mul]
    dsimp only
    split
    · rw [List.length_map]; omega
    · simp; omega
theorem lookC_len {C : List KL} (hg : GoodC C) (hC : C.length ≤ 100) (hl : ∀ x ∈ C, x.2.length ≤ 100) (a b : Int) : (lookC C a b).length ≤ 20000 := by
  have h1 := lookS_len (S := strsC C) (n := 100) (fun s hs => hl _ (wholes_mem.1 (strs_mem hg hs).1).1) a b
  have h2 := strsC_len C
  have h3 : (strsC C).length * 100 ≤ 200 * 100 := Nat.mul_le_mul_right 100 (by omega)
  unfold lookC
  omega
end Go.Proofs.Ythbifkeadbmcnaa
