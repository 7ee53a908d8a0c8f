/-
  Plain: what is covered may go.
-/
import Derived.Test.YthbifkeadbmcnaaVis
import Derived.Test.YthbifkeadbmcnaaRem
set_option linter.unusedVariables false
set_option linter.unusedSimpArgs false
namespace Go.Proofs.Ythbifkeadbmcnaa
open Go Go.AW Go.Bub

/-- stretches of what counts from a time on -/
structure ToldF (g : Int → Option KL) (a : Int) (S : List CStr) : Prop where
  lt : ∀ s ∈ S, a ≤ s.f ∧ s.f < s.t
  at_ : ∀ s ∈ S, ∀ n, s.f ≤ n → n < s.t → g n = some (s.k, s.l)
  all : ∀ n x, a ≤ n → g n = some x → ∃ s ∈ S, s.f ≤ n ∧ n < s.t
  sep : S.Pairwise fun y x => y.t < x.f ∨ (y.t = x.f ∧ y.k ≠ x.k)
theorem ToldF.head {g : Int → Option KL} {a : Int} {s : CStr} {S : List CStr} (h : ToldF g a (s :: S)) : ∀ n x, a ≤ n → g n = some x → s.f ≤ n := fun n x h1 h2 => by
  obtain ⟨u, hu, h3, h4⟩ := h.all n x h1 h2
  rcases List.mem_cons.1 hu with rfl | hu
  · exact h3
  · have := (List.pairwise_cons.1 h.sep).1 u hu
    have := h.lt s (by simp)
    omega
theorem ToldF.tail {g : Int → Option KL} {a : Int} {s : CStr} {S : List CStr} (h : ToldF g a (s :: S)) : ToldF g s.t S := by
  have hsep := List.pairwise_cons.1 h.sep
  refine ⟨fun u hu => ?_, fun u hu => h.at_ u (by simp [hu]), fun n x h1 h2 => ?_, hsep.2⟩
  · have := hsep.1 u hu; have := h.lt u (by simp [hu]); omega
  · have := h.lt s (by simp)
    obtain ⟨u, hu, h3, h4⟩ := h.all n x (by omega) h2
    rcases List.mem_cons.1 hu with rfl | hu
    · omega
    · exact ⟨u, hu, h3, h4⟩
theorem told_end {g : Int → Option KL} {a : Int} {s u : CStr} {S U : List CStr} (h : ToldF g a (s :: S)) (h2 : ToldF g a (u :: U)) (hf : s.f = u.f) (hk : s.k = u.k) : ¬ s.t < u.t := fun q => by
  have l1 := h.lt s (by simp)
  have l2 := h2.lt u (by simp)
  have e := h2.at_ u (by simp) s.t (by omega) q
  obtain ⟨v, hv, h3, h4⟩ := h.all s.t _ (by omega) e
  rcases List.mem_cons.1 hv with rfl | hv'
  · omega
  · have := (List.pairwise_cons.1 h.sep).1 v hv'
    have e2 := h.at_ v hv s.t h3 h4
    rw [e] at e2
    have hkv : u.k = v.k := congrArg Prod.fst (Option.some.inj e2)
    rcases this with q2 | ⟨_, q2⟩
    · omega
    · exact q2 (by rw [hk, hkv])
theorem told_uniq {g : Int → Option KL} : ∀ {S U : List CStr} {a : Int}, ToldF g a S → ToldF g a U → S = U
  | [], [], _, _, _ => rfl
  | [], u :: U, a, h, h2 => by
    have l := h2.lt u (by simp)
    obtain ⟨v, hv, _⟩ := h.all u.f _ l.1 (h2.at_ u (by simp) u.f (Int.le_refl _) l.2)
    cases hv
  | s :: S, [], a, h, h2 => by
    have l := h.lt s (by simp)
    obtain ⟨v, hv, _⟩ := h2.all s.f _ l.1 (h.at_ s (by simp) s.f (Int.le_refl _) l.2)
    cases hv
  | s :: S, u :: U, a, h, h2 => by
    have l1 := h.lt s (by simp)
    have l2 := h2.lt u (by simp)
    have g1 := h.at_ s (by simp) s.f (Int.le_refl _) l1.2
    have g2 := h2.at_ u (by simp) u.f (Int.le_refl _) l2.2
    have hf : s.f = u.f := by
      have := h.head u.f _ l2.1 g2
      have := h2.head s.f _ l1.1 g1
      omega
    rw [hf, g2] at g1
    have e := Option.some.inj g1
    have hk : s.k = u.k := (congrArg Prod.fst e).symm
    have hl : s.l = u.l := (congrArg Prod.snd e).symm
    have ht : s.t = u.t := by
      have q1 := told_end h h2 hf hk
      have q2 := told_end h2 h hf.symm hk.symm
      omega
    have hsu : s = u := by
      obtain ⟨k, l, f, t⟩ := s
      obtain ⟨k', l', f', t'⟩ := u
      simp only at hf hk hl ht
      rw [hf, hk, hl, ht]
    subst hsu
    rw [told_uniq h.tail h2.tail]
theorem ToldA.from_ {W : List KL} {S : List CStr} (h : ToldA W S) : ∃ a, ∀ b, b ≤ a → ToldF (atC W) b S := by
  have lt := h.lt
  obtain ⟨a, ha⟩ : ∃ a : Int, ∀ s ∈ S, a ≤ s.f := by
    clear h
    induction S with
    | nil => exact ⟨0, by simp⟩
    | cons s S ih =>
      obtain ⟨a, ha⟩ := ih fun u hu => lt u (by simp [hu])
      refine ⟨min a s.f, fun u hu => ?_⟩
      rcases List.mem_cons.1 hu with rfl | hu
      · omega
      · have := ha u hu; omega
  exact ⟨a, fun b hb => ⟨fun s hs => ⟨by have := ha s hs; omega, lt s hs⟩, h.at_, fun n x _ hx => h.all n x hx, h.sep⟩⟩
/-- what counts at each time makes the stretches -/
theorem strs_same {C D : List KL} (h : KeysC C) (h2 : KeysC D) (he : ∀ n, atC (wholes C) n = atC (wholes D) n) : strsC C = strsC D := by
  obtain ⟨a, ha⟩ := (told_strs h).from_
  obtain ⟨b, hb⟩ := (told_strs h2).from_
  have h3 := ha (min a b) (by omega)
  have h4 := hb (min a b) (by omega)
  rw [show atC (wholes C) = atC (wholes D) from funext he] at h3
  exact told_uniq h3 h4
theorem atC_iff {W : List KL} (hs : AheadL W) (hk : KeysC W) {n : Int} {y : KL} : atC W n = some y ↔ y ∈ W ∧ covers y.1 n = true ∧ ∀ z ∈ W, covers z.1 n = true → z.1 ≠ y.1 → aheadR y.1 z.1 = true := by
  constructor
  · intro h
    have h1 := atC_some h
    refine ⟨h1.1, by simp [covers, h1.2], fun z hz hc hne => aheadR_tri (Ne.symm hne) (atC_first hs h hz hc)⟩
  · rintro ⟨h1, h2, h3⟩
    obtain ⟨x, hx⟩ := atC_ex h1 h2
    have hxW := (atC_some hx).1
    have hxc : covers x.1 n = true := by have := (atC_some hx).2; simp [covers, this]
    by_cases q : x.1 = y.1
    · rw [hx, hk.uniq hxW h1 q]
    · exact absurd (h3 x hxW hxc q) (atC_first hs hx h1 h2)
/-- covered: at each time one counts that goes ahead -/
theorem cov_of {W : List KL} {S : List CStr} (h : ToldA W S) {k : Key} (hc : coveredC k S = true) : ∀ n, k.f ≤ n → n < k.t → ∃ y, atC W n = some y ∧ aheadR y.1 k = true := by
  have key : ∀ (S0 : List CStr) (at0 : Int), (∀ s ∈ S0, s ∈ S) → (∀ n, k.f ≤ n → n < at0 → ∃ y, atC W n = some y ∧ aheadR y.1 k = true) → ∀ n, k.f ≤ n → n < S0.foldl (covStep k) at0 → ∃ y, atC W n = some y ∧ aheadR y.1 k = true := by
    intro S0
    induction S0 with
    | nil => intro at0 _ h1; exact h1
    | cons s S0 ih =>
      intro at0 hsub h1
      refine ih _ (fun u hu => hsub u (by simp [hu])) fun n h2 h3 => ?_
      unfold covStep at h3
      split at h3
      · rename_i q
        rcases Int.lt_or_le n at0 with q2 | q2
        · exact h1 n h2 q2
        · exact ⟨(s.k, s.l), h.at_ s (hsub s (by simp)) n (by omega) h3, q.2.2⟩
      · exact h1 n h2 h3
  intro n h1 h2
  exact key S k.f (fun s hs => hs) (fun n h1 h2 => by omega) n h1 (by have := of_decide_eq_true hc; omega)
/-- contents that differ in a covered set alone -/
theorem cov_same {C D : List KL} (h : KeysC C) (h2 : KeysC D) {k : Key} (hc : coveredC k (strsC C) = true) (ho : ∀ z : KL, z.1 ≠ k → (z ∈ D ↔ z ∈ C)) : strsC D = strsC C := by
  have hcov := cov_of (told_strs h) hc
  refine strs_same h2 h fun n => ?_
  cases ha : atC (wholes C) n with
  | some y =>
    rw [atC_iff (wholes_sorted h2) h2.wholes]
    obtain ⟨h3, h4, h5⟩ := (atC_iff (wholes_sorted h) h.wholes).1 ha
    have hyk : y.1 ≠ k := fun q => by
      simp only [covers, Bool.and_eq_true, decide_eq_true_eq] at h4
      rw [q] at h4
      obtain ⟨y', hy', hah⟩ := hcov n h4.1 h4.2
      rw [ha] at hy'; cases hy'
      rw [q] at hah; exact aheadR_irrefl _ hah
    obtain ⟨hyC, hyw⟩ := wholes_mem.1 h3
    refine ⟨wholes_mem.2 ⟨(ho y hyk).2 hyC, hyw⟩, h4, fun z hz hzc hne => ?_⟩
    obtain ⟨hzD, hzw⟩ := wholes_mem.1 hz
    by_cases q : z.1 = k
    · simp only [covers, Bool.and_eq_true, decide_eq_true_eq] at hzc
      rw [q] at hzc
      obtain ⟨y', hy', hah⟩ := hcov n hzc.1 hzc.2
      rw [ha] at hy'; cases hy'
      rw [q]; exact hah
    · exact h5 z (wholes_mem.2 ⟨(ho z q).1 hzD, hzw⟩) hzc hne
  | none =>
    cases hb : atC (wholes D) n with
    | none => rfl
    | some z =>
      exfalso
      obtain ⟨h3, h4, h5⟩ := (atC_iff (wholes_sorted h2) h2.wholes).1 hb
      obtain ⟨hzD, hzw⟩ := wholes_mem.1 h3
      by_cases q : z.1 = k
      · simp only [covers, Bool.and_eq_true, decide_eq_true_eq] at h4
        rw [q] at h4
        obtain ⟨y', hy', _⟩ := hcov n h4.1 h4.2
        rw [ha] at hy'; cases hy'
      · obtain ⟨y, hy⟩ := atC_ex (wholes_mem.2 ⟨(ho z q).1 hzD, hzw⟩) h4
        rw [ha] at hy; cases hy
/-- what counts somewhere isn't covered -/
theorem vis_not_cov {C : List KL} (h : KeysC C) {s : CStr} (hs : s ∈ strsC C) : coveredC s.k (strsC C) = false := by
  cases hc : coveredC s.k (strsC C) with
  | false => rfl
  | true =>
    exfalso
    have ht := told_strs h
    have lt := ht.lt s hs
    have h1 := ht.at_ s hs s.f (Int.le_refl _) lt
    have h2 := (atC_some h1).2
    obtain ⟨y, hy, hah⟩ := cov_of ht hc s.f h2.1 h2.2
    rw [h1] at hy; cases hy
    exact aheadR_irrefl _ hah
theorem visL_mem {C : List KL} {y : Seg} : y ∈ visL C ↔ ∃ x ∈ C, (∃ s ∈ strsC C, s.k = x.1) ∧ y ∈ x.2 := by
  unfold visL
  rw [(sortL_perm _).mem_iff, List.mem_flatMap]
  constructor
  · rintro ⟨x, hx, hy⟩
    obtain ⟨h1, h2⟩ := List.mem_filter.1 hx
    obtain ⟨s, hs, hk⟩ := List.any_eq_true.1 h2
    exact ⟨x, h1, ⟨s, hs, of_decide_eq_true hk⟩, hy⟩
  · rintro ⟨x, hx, ⟨s, hs, hk⟩, hy⟩
    exact ⟨x, List.mem_filter.2 ⟨hx, List.any_eq_true.2 ⟨s, hs, by simpa using hk⟩⟩, hy⟩
theorem coverL_mem {C : List KL} {y : Seg} : y ∈ coverL C ↔ ∃ x ∈ C, coveredC x.1 (strsC C) = true ∧ y ∈ x.2 := by
  unfold coverL
  rw [(sortL_perm _).mem_iff, List.mem_flatMap]
  constructor
  · rintro ⟨x, hx, hy⟩
    obtain ⟨h1, h2⟩ := List.mem_filter.1 hx
    exact ⟨x, h1, h2, hy⟩
  · rintro ⟨x, hx, hc, hy⟩
    exact ⟨x, List.mem_filter.2 ⟨hx, hc⟩, hy⟩
theorem visL_sorted {C : List KL} (h : GoodC C) : StandL (visL C) := sortL_sorted (once_flat (h.filter _))
theorem coverL_sorted {C : List KL} (h : GoodC C) : StandL (coverL C) := sortL_sorted (once_flat (h.filter _))
theorem GoodC.set_of {C : List KL} (h : GoodC C) {x z : KL} (hx : x ∈ C) (hz : z ∈ C) {y : Seg} (h1 : y ∈ x.2) (h2 : y ∈ z.2) : x = z :=
  h.keys.uniq hx hz (by rw [← (h.good x hx).key y h1, ← (h.good z hz).key y h2])
/-- what holds when some of what was covered has gone -/
structure GoneC (C0 : List KL) (gone : List Seg) (C : List KL) : Prop where
  good : GoodC C
  strs : strsC C = strsC C0
  off : ∀ z : KL, coveredC z.1 (strsC C0) = false → (z ∈ C ↔ z ∈ C0)
  segs : ∀ y : Seg, (∃ x ∈ C, y ∈ x.2) ↔ (∃ x ∈ C0, y ∈ x.2) ∧ ¬ y ∈ gone
theorem gone_start {C0 : List KL} (h : GoodC C0) : GoneC C0 [] C0 := ⟨h, rfl, fun _ _ => Iff.rfl, fun y => by simp⟩
theorem rem_mem {C C' : List KL} {s : Seg} {e : Int} (hg : GoodC C) (h : RemTo C s e C') {x : KL} (hx : x ∈ C) (hs : s ∈ x.2) :
    e = 0 ∧ (∀ z : KL, z.1 ≠ s.key → (z ∈ C' ↔ z ∈ C)) ∧ ∀ y, (∃ x ∈ C', y ∈ x.2) ↔ (∃ x ∈ C, y ∈ x.2) ∧ y ≠ s := by
  have hgx := hg.good x hx
  cases h with
  | bad h => rw [hgx.may s hs] at h; cases h
  | none h hn => exact absurd hs (hn x hx)
  | @some A B l i h hc hi hl =>
    subst hc
    have hxe : x = (s.key, l) := hg.keys.uniq hx (by simp) (hgx.key s hs).symm
    have hgl : GoodS s.key l := hg.good (s.key, l) (by simp)
    have hml : ∀ y, y ∈ l.take i ++ l.drop (i + 1) ↔ y ∈ l ∧ y ≠ s := fun y => by
      have hsplit : l = l.take i ++ s :: l.drop (i + 1) := by rw [← drop_get hi, List.take_append_drop]
      have hnd : (l.take i ++ s :: l.drop (i + 1)).Pairwise fun a b => a.p < b.p := by rw [← hsplit]; exact hgl.rise
      rw [List.pairwise_append, List.pairwise_cons] at hnd
      constructor
      · intro hy
        rcases List.mem_append.1 hy with q | q
        · exact ⟨List.mem_of_mem_take q, by rintro rfl; have := hnd.2.2 y q y (by simp); omega⟩
        · exact ⟨List.mem_of_mem_drop q, by rintro rfl; have := hnd.2.1.1 y q; omega⟩
      · rintro ⟨hy, hne⟩
        rw [hsplit] at hy
        rcases List.mem_append.1 hy with q | q
        · exact List.mem_append_left _ q
        · rcases List.mem_cons.1 q with q | q
          · exact absurd q hne
          · exact List.mem_append_right _ q
    have hother : ∀ z ∈ A ++ B, ∀ y ∈ z.2, y ≠ s := fun z hz y hy q => by
      subst q
      have hzC : z ∈ A ++ (y.key, l) :: B := by rcases List.mem_append.1 hz with q | q <;> simp [q]
      have hk := hg.keys
      rw [KeysC, List.pairwise_append, List.pairwise_cons] at hk
      have h1 := (hg.good z hzC).key y hy
      rcases List.mem_append.1 hz with q | q
      · exact hk.2.2 z q (y.key, l) (by simp) h1.symm
      · exact hk.2.1.1 z q h1
    refine ⟨rfl, fun z hz => ?_, fun y => ?_⟩
    · simp only [List.mem_append, List.mem_cons]
      have n1 : ∀ l2, z ≠ (s.key, l2) := fun l2 q => hz (by rw [q])
      simp [n1]
    · constructor
      · rintro ⟨z, hz, hy⟩
        rcases List.mem_append.1 hz with q | q
        · exact ⟨⟨z, by simp [q], hy⟩, hother z (by simp [q]) y hy⟩
        · rcases List.mem_cons.1 q with rfl | q
          · have := (hml y).1 hy; exact ⟨⟨(s.key, l), by simp, this.1⟩, this.2⟩
          · exact ⟨⟨z, by simp [q], hy⟩, hother z (by simp [q]) y hy⟩
      · rintro ⟨⟨z, hz, hy⟩, hne⟩
        rcases List.mem_append.1 hz with q | q
        · exact ⟨z, by simp [q], hy⟩
        · rcases List.mem_cons.1 q with rfl | q
          · exact ⟨(s.key, l.take i ++ l.drop (i + 1)), by simp, (hml y).2 ⟨hy, hne⟩⟩
          · exact ⟨z, by simp [q], hy⟩
  | @last A B h hc =>
    subst hc
    have hk := hg.keys
    rw [KeysC, List.pairwise_append, List.pairwise_cons] at hk
    have hother : ∀ z ∈ A ++ B, ∀ y ∈ z.2, y ≠ s := fun z hz y hy q => by
      subst q
      have hzC : z ∈ A ++ (y.key, [y]) :: B := by rcases List.mem_append.1 hz with q | q <;> simp [q]
      have h1 := (hg.good z hzC).key y hy
      rcases List.mem_append.1 hz with q | q
      · exact hk.2.2 z q (y.key, [y]) (by simp) h1.symm
      · exact hk.2.1.1 z q h1
    refine ⟨rfl, fun z hz => ?_, fun y => ?_⟩
    · simp only [List.mem_append, List.mem_cons]
      have n1 : ∀ l2, z ≠ (s.key, l2) := fun l2 q => hz (by rw [q])
      simp [n1]
    · constructor
      · rintro ⟨z, hz, hy⟩
        exact ⟨⟨z, by rcases List.mem_append.1 hz with q | q <;> simp [q], hy⟩, hother z hz y hy⟩
      · rintro ⟨⟨z, hz, hy⟩, hne⟩
        rcases List.mem_append.1 hz with q | q
        · exact ⟨z, by simp [q], hy⟩
        · rcases List.mem_cons.1 q with rfl | q
          · rw [List.mem_singleton] at hy; exact absurd hy hne
          · exact ⟨z, by simp [q], hy⟩
/-- one more goes -/
theorem gone_step {C0 C C' : List KL} {gone : List Seg} {s : Seg} {e : Int} (h0 : GoodC C0) (h : GoneC C0 gone C) (hs : s ∈ coverL C0) (hn : ¬ s ∈ gone) (hr : RemTo C s e C') (hg : GoodC C') : e = 0 ∧ GoneC C0 (gone ++ [s]) C' := by
  obtain ⟨x0, hx0, hc0, hsx0⟩ := coverL_mem.1 hs
  obtain ⟨x, hx, hsx⟩ := (h.segs s).2 ⟨⟨x0, hx0, hsx0⟩, hn⟩
  obtain ⟨he, hoff, hseg⟩ := rem_mem h.good hr hx hsx
  have hk : s.key = x0.1 := (h0.good x0 hx0).key s hsx0
  have hcs : coveredC s.key (strsC C) = true := by rw [h.strs, hk]; exact hc0
  have hstr := cov_same h.good.keys hg.keys hcs hoff
  refine ⟨he, hg, by rw [hstr, h.strs], fun z hz => ?_, fun y => ?_⟩
  · rw [hoff z (fun q => by rw [q, hk, hc0] at hz; cases hz), h.off z hz]
  · rw [hseg, h.segs]
    simp only [List.mem_append, List.mem_singleton, not_or, and_assoc]
theorem gone_look {C0 C : List KL} {gone : List Seg} (h : GoneC C0 gone C) (a b : Int) : lookC C a b = lookC C0 a b := by rw [lookC, lookC, h.strs]
theorem gone_vis {C0 C : List KL} {gone : List Seg} (h0 : GoodC C0) (h : GoneC C0 gone C) : visL C = visL C0 := by
  refine standL_ext (visL_sorted h.good) (visL_sorted h0) fun y => ?_
  rw [visL_mem, visL_mem, h.strs]
  constructor
  · rintro ⟨x, hx, ⟨s, hs, hk⟩, hy⟩
    exact ⟨x, (h.off x (by rw [← hk]; exact vis_not_cov h0.keys hs)).1 hx, ⟨s, hs, hk⟩, hy⟩
  · rintro ⟨x, hx, ⟨s, hs, hk⟩, hy⟩
    exact ⟨x, (h.off x (by rw [← hk]; exact vis_not_cov h0.keys hs)).2 hx, ⟨s, hs, hk⟩, hy⟩
theorem vis_cov {C : List KL} (h : GoodC C) {y : Seg} (h1 : y ∈ visL C) (h2 : y ∈ coverL C) : False := by
  obtain ⟨x, hx, ⟨s, hs, hk⟩, hy⟩ := visL_mem.1 h1
  obtain ⟨z, hz, hc, hyz⟩ := coverL_mem.1 h2
  have := h.set_of hx hz hy hyz
  subst this
  rw [← hk, vis_not_cov h.keys hs] at hc
  cases hc
theorem gone_all {C0 C : List KL} (h0 : GoodC C0) (h : GoneC C0 (coverL C0) C) : coverL C = [] := by
  rw [List.eq_nil_iff_forall_not_mem]
  intro y hy
  obtain ⟨x, hx, hc, hyx⟩ := coverL_mem.1 hy
  obtain ⟨⟨x0, hx0, hy0⟩, hn⟩ := (h.segs y).1 ⟨x, hx, hyx⟩
  refine hn (coverL_mem.2 ⟨x0, hx0, ?_, hy0⟩)
  rw [h.strs] at hc
  rw [← (h0.good x0 hx0).key y hy0, (h.good.good x hx).key y hyx]
  exact hc
theorem flat_filter_len (C : List KL) (f : KL → Bool) : ((C.filter f).flatMap fun x => x.2).length ≤ (C.flatMap fun x => x.2).length := by
  induction C with
  | nil => simp
  | cons x C ih =>
    rw [List.filter_cons]
    split
    · rw [List.flatMap_cons, List.flatMap_cons, List.length_append, List.length_append]; omega
    · rw [List.flatMap_cons, List.length_append]; omega
theorem visL_len (C : List KL) : (visL C).length ≤ (C.flatMap fun x => x.2).length := by
  unfold visL
  rw [(sortL_perm _).length_eq]
  exact flat_filter_len _ _
theorem coverL_len (C : List KL) : (coverL C).length ≤ (C.flatMap fun x => x.2).length := by
  unfold coverL
  rw [(sortL_perm _).length_eq]
  exact flat_filter_len _ _
end Go.Proofs.Ythbifkeadbmcnaa
