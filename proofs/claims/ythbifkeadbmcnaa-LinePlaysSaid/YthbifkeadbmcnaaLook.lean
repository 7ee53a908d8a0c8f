/-
  Plain: what is told of a span, by the contents of a timeline alone.
-/
import Derived.Test.YthbifkeadbmcnaaStr5
import Derived.Test.YthbifkeadbmcnaaBub
set_option linter.unusedVariables false
set_option linter.unusedSimpArgs false
namespace Go.Proofs.Ythbifkeadbmcnaa
open Go Go.AW Go.Bub

abbrev KL := Key × List Seg
theorem aheadR_irrefl (a : Key) : ¬ aheadR a a = true := by rw [aheadR_iff]; omega
theorem aheadR_asymm {a b : Key} (h : aheadR a b = true) : ¬ aheadR b a = true := by rw [aheadR_iff] at *; omega
theorem aheadR_trans {a b c : Key} (h : aheadR a b = true) (h2 : aheadR b c = true) : aheadR a c = true := by rw [aheadR_iff] at *; omega
theorem aheadR_tri {a b : Key} (h : a ≠ b) (h2 : ¬ aheadR b a = true) : aheadR a b = true := by
  rw [aheadR_iff] at *; rw [ne_eq, Key.eq_iff] at h; omega
abbrev KeysC (C : List KL) : Prop := C.Pairwise fun x y => x.1 ≠ y.1
theorem KeysC.perm {C D : List KL} (h : KeysC C) (hp : C.Perm D) : KeysC D := (hp.pairwise_iff fun h => Ne.symm h).1 h
theorem KeysC.uniq : ∀ {C : List KL}, KeysC C → ∀ {x y : KL}, x ∈ C → y ∈ C → x.1 = y.1 → x = y
  | [], _, _, _, h, _, _ => by cases h
  | z :: C, hk, x, y, hx, hy, he => by
    have hk := List.pairwise_cons.1 hk
    rcases List.mem_cons.1 hx with e1 | h1 <;> rcases List.mem_cons.1 hy with e2 | h2
    · rw [e1, e2]
    · exact absurd (e1 ▸ he) (hk.1 y h2)
    · exact absurd (e2 ▸ he.symm) (hk.1 x h1)
    · exact KeysC.uniq hk.2 h1 h2 he
abbrev AheadL (W : List KL) : Prop := W.Pairwise fun x y => aheadR x.1 y.1 = true
theorem aheadL_of {W : List KL} (hk : KeysC W) (h : W.Pairwise fun x y => ¬ aheadR y.1 x.1 = true) : AheadL W :=
  (List.Pairwise.and hk h).imp fun ⟨h1, h2⟩ => aheadR_tri h1 h2
/-- the complete sets, by which goes ahead -/
def wholes (C : List KL) : List KL := (C.filter fun x => whole x.2).mergeSort fun x y => !aheadR y.1 x.1
theorem wholes_perm0 (C : List KL) : (wholes C).Perm (C.filter fun x => whole x.2) := List.mergeSort_perm _ _
theorem wholes_mem {C : List KL} {x : KL} : x ∈ wholes C ↔ x ∈ C ∧ whole x.2 = true := by rw [wholes, List.mem_mergeSort, List.mem_filter]
theorem wholes_sorted {C : List KL} (h : KeysC C) : AheadL (wholes C) := by
  refine aheadL_of (KeysC.perm (h.filter _) (wholes_perm0 C).symm) ?_
  refine (List.pairwise_mergeSort (le := fun x y : KL => !aheadR y.1 x.1) (fun a b c h1 h2 => ?_) (fun a b => ?_) _).imp (fun {a b} h => by simpa using h)
  · simp only [Bool.not_eq_true', ← Bool.not_eq_true, aheadR_iff] at *; omega
  · simp only [Bool.or_eq_true, Bool.not_eq_true', ← Bool.not_eq_true, aheadR_iff]; omega
theorem aheadL_ext {W V : List KL} (h : AheadL W) (h2 : AheadL V) (hm : ∀ x, x ∈ W ↔ x ∈ V) : W = V :=
  sorted_ext (lt := fun x y : KL => aheadR x.1 y.1 = true) (fun x => aheadR_irrefl _) (fun x y => aheadR_asymm) h h2 hm
theorem wholes_uniq {C W : List KL} (h : KeysC C) (hp : W.Perm (C.filter fun x => whole x.2)) (hs : W.Pairwise fun x y => ¬ aheadR y.1 x.1 = true) : W = wholes C :=
  aheadL_ext (aheadL_of (KeysC.perm (h.filter _) hp.symm) hs) (wholes_sorted h) fun x => by rw [hp.mem_iff, (wholes_perm0 C).mem_iff]
theorem wholes_ext {C D : List KL} (h : KeysC C) (h2 : KeysC D) (hm : ∀ x, whole x.2 = true → (x ∈ C ↔ x ∈ D)) : wholes C = wholes D :=
  aheadL_ext (wholes_sorted h) (wholes_sorted h2) fun x => by
    rw [wholes_mem, wholes_mem]
    exact ⟨fun ⟨a, b⟩ => ⟨(hm x b).1 a, b⟩, fun ⟨a, b⟩ => ⟨(hm x b).2 a, b⟩⟩

/-! ### stretches -/
structure CStr where
  k : Key
  l : List Seg
  f : Int
  t : Int
  deriving DecidableEq
abbrev Stretch.toC (s : Stretch) : CStr := ⟨s.x.k, s.x.l, s.f, s.t⟩
def pushC (out : List CStr) (x : KL) (f t : Int) : List CStr :=
  match out.getLast? with
  | some y => if y.k = x.1 ∧ y.t = f then out.dropLast ++ [⟨y.k, y.l, y.f, t⟩] else out ++ [⟨x.1, x.2, f, t⟩]
  | none => [⟨x.1, x.2, f, t⟩]
def stepC (W : List KL) (out : List CStr) (f t : Int) : List CStr :=
  match W.find? fun x => reaches x.1 f t with
  | none => out
  | some x => pushC out x f t
def strFromC (W : List KL) : Int → List Int → List CStr → List CStr
  | _, [], out => out
  | f, t :: T, out => strFromC W t T (stepC W out f t)
def strC (W : List KL) : List Int → List CStr
  | [] => []
  | f :: T => strFromC W f T []
abbrev kl (x : SetS) : KL := (x.k, x.l)
theorem pushC_map {out : List Stretch} {x : SetS} {f t : Int} (h : ∀ s ∈ out, (s.x.id = x.id ↔ s.x.k = x.k)) : (pushS out x f t).map Stretch.toC = pushC (out.map Stretch.toC) (kl x) f t := by
  unfold pushS pushC
  rw [List.getLast?_map]
  cases hl : out.getLast? with
  | none => rfl
  | some y =>
    have hy := h y (List.mem_of_getLast? hl)
    simp only [Option.map_some]
    by_cases hc : y.x.id = x.id ∧ y.t = f
    · rw [if_pos hc, if_pos ⟨hy.1 hc.1, hc.2⟩]; simp
    · rw [if_neg hc, if_neg (fun q => hc ⟨hy.2 q.1, q.2⟩)]; simp
theorem pushS_mem {out : List Stretch} {x : SetS} {f t : Int} {W : List SetS} (h : ∀ s ∈ out, s.x ∈ W) (hx : x ∈ W) : ∀ s ∈ pushS out x f t, s.x ∈ W := by
  unfold pushS
  cases hl : out.getLast? with
  | none => intro s hs; simp at hs; subst hs; exact hx
  | some y =>
    have hy := h y (List.mem_of_getLast? hl)
    simp only
    split
    · intro s hs
      rcases List.mem_append.1 hs with hs | hs
      · exact h s (List.dropLast_subset _ hs)
      · rw [List.mem_singleton] at hs; subst hs; exact hy
    · intro s hs
      rcases List.mem_append.1 hs with hs | hs
      · exact h s hs
      · rw [List.mem_singleton] at hs; subst hs; exact hx
theorem find_cont (W : List SetS) (p : Key → Bool) : (W.map kl).find? (fun x => p x.1) = (W.find? fun x => p x.k).map kl := by
  rw [List.find?_map]; rfl
theorem strFromC_map {W : List SetS} (hI : ∀ x ∈ W, ∀ y ∈ W, (x.id = y.id ↔ x.k = y.k)) : ∀ (T : List Int) (f : Int) (out : List Stretch), (∀ s ∈ out, s.x ∈ W) → (strFrom W f T out).map Stretch.toC = strFromC (W.map kl) f T (out.map Stretch.toC)
  | [], f, out, _ => rfl
  | t :: T, f, out, h => by
    simp only [strFrom, strFromC]
    have e : (stepS W out f t).map Stretch.toC = stepC (W.map kl) (out.map Stretch.toC) f t ∧ ∀ s ∈ stepS W out f t, s.x ∈ W := by
      unfold stepS stepC
      rw [find_cont W fun k => reaches k f t]
      cases hf : W.find? fun x => reaches x.k f t with
      | none => exact ⟨rfl, h⟩
      | some x =>
        have hx := List.mem_of_find?_eq_some hf
        exact ⟨pushC_map fun s hs => hI _ (h s hs) _ hx, pushS_mem h hx⟩
    rw [strFromC_map hI T t _ e.2, e.1]
theorem strC_map {W : List SetS} (hI : ∀ x ∈ W, ∀ y ∈ W, (x.id = y.id ↔ x.k = y.k)) (T : List Int) : (strT W T).map Stretch.toC = strC (W.map kl) T := by
  cases T with
  | nil => rfl
  | cons f T => exact strFromC_map hI T f [] fun s hs => by cases hs
theorem strFrom_in {W : List SetS} : ∀ (T : List Int) (f : Int) (out : List Stretch), (∀ s ∈ out, s.x ∈ W) → ∀ s ∈ strFrom W f T out, s.x ∈ W
  | [], f, out, h => h
  | t :: T, f, out, h => by
    simp only [strFrom]
    refine strFrom_in T t _ ?_
    unfold stepS
    cases hf : W.find? fun x => reaches x.k f t with
    | none => exact h
    | some x => exact pushS_mem h (List.mem_of_find?_eq_some hf)
theorem strT_in {W : List SetS} {T : List Int} : ∀ s ∈ strT W T, s.x ∈ W := by
  cases T with
  | nil => intro s h; cases h
  | cons f T => exact strFrom_in T f [] (fun s h => by cases h)
/-- their times -/
def timesC (W : List KL) : List Int := comp ((W.flatMap fun x => [x.1.f, x.1.t]).mergeSort fun a b => decide (a ≤ b))
theorem timesC_mem {W : List KL} {n : Int} : n ∈ timesC W ↔ ∃ x ∈ W, n = x.1.f ∨ n = x.1.t := by
  rw [timesC, comp_mem, List.mem_mergeSort, List.mem_flatMap]; simp
theorem timesC_sorted (W : List KL) : (timesC W).Pairwise (· < ·) :=
  comp_sorted (le := (· ≤ ·)) (lt := (· < ·)) (fun x y h1 h2 => by omega) (fun x y z h1 h2 => by omega)
    ((List.pairwise_mergeSort (le := fun x y : Int => decide (x ≤ y)) (fun a b c h1 h2 => by simp at *; omega) (fun a b => by simp; omega) _).imp (by simp))
theorem timesC_uniq {W : List KL} {T : List Int} (h : T.Pairwise (· < ·)) (hm : ∀ n, n ∈ T ↔ n ∈ W.flatMap fun x => [x.1.f, x.1.t]) : T = timesC W :=
  sorted_ext (lt := fun a b : Int => a < b) (fun x => by omega) (fun x y h => by omega) h (timesC_sorted W) fun n => by rw [hm, timesC_mem]; simp
/-- the stretches of a timeline -/
def strsC (C : List KL) : List CStr := strC (wholes C) (timesC (wholes C))
def lookS (S : List CStr) (a b : Int) : List Piece := S.flatMap fun s => if max s.f a < min s.t b then s.l.map fun z => ⟨z, max s.f a, min s.t b⟩ else []
/-- what is told of a span -/
def lookC (C : List KL) (a b : Int) : List Piece := lookS (strsC C) a b

/-! ### what stretches tell -/
def covers (k : Key) (n : Int) : Bool := decide (k.f ≤ n) && decide (n < k.t)
def atC (W : List KL) (n : Int) : Option KL := W.find? fun x => covers x.1 n
structure Told (W : List KL) (a b : Int) (S : List CStr) : Prop where
  lt : ∀ s ∈ S, a ≤ s.f ∧ s.f < s.t ∧ s.t ≤ b
  at_ : ∀ s ∈ S, ∀ n, s.f ≤ n → n < s.t → atC W n = some (s.k, s.l)
  all : ∀ n x, a ≤ n → n < b → atC W n = some x → ∃ s ∈ S, s.f ≤ n ∧ n < s.t
  sep : S.Pairwise fun y x => y.t < x.f ∨ (y.t = x.f ∧ y.k ≠ x.k)
theorem told_push {W : List KL} {a f t : Int} {S : List CStr} {x : KL} (hk : KeysC W) (h : Told W a f S) (ha : a ≤ f) (hft : f < t) (hx : ∀ n, f ≤ n → n < t → atC W n = some x) : Told W a t (pushC S x f t) := by
  unfold pushC
  cases hl : S.getLast? with
  | none =>
    rw [List.getLast?_eq_none_iff] at hl; subst hl
    refine ⟨fun s hs => ?_, fun s hs n h1 h2 => ?_, fun n y h1 h2 h3 => ?_, by simp⟩
    · simp at hs; subst hs; exact ⟨ha, hft, Int.le_refl _⟩
    · simp at hs; subst hs; exact hx n h1 h2
    · rcases Int.lt_or_le n f with q | q
      · obtain ⟨s, hs, _⟩ := h.all n y h1 q h3; cases hs
      · exact ⟨_, List.mem_singleton.2 rfl, q, h2⟩
  | some y =>
    obtain ⟨R, rfl⟩ := List.getLast?_eq_some_iff.1 hl
    have hy := h.lt y (by simp)
    have hsep := h.sep
    rw [List.pairwise_append] at hsep
    simp only
    split
    · rename_i hc
      obtain ⟨hc1, hc2⟩ := hc
      have hxy : (y.k, y.l) = x := by
        have h1 := h.at_ y (by simp) y.f (Int.le_refl _) hy.2.1
        have h2 := hx f (Int.le_refl _) hft
        exact KeysC.uniq hk (List.mem_of_find?_eq_some h1) (List.mem_of_find?_eq_some h2) hc1
      rw [List.dropLast_concat]
      refine ⟨fun s hs => ?_, fun s hs n h1 h2 => ?_, fun n z h1 h2 h3 => ?_, ?_⟩
      · rcases List.mem_append.1 hs with hs | hs
        · have := h.lt s (by simp [hs]); omega
        · rw [List.mem_singleton] at hs; subst hs; exact ⟨hy.1, show y.f < t by omega, Int.le_refl _⟩
      · rcases List.mem_append.1 hs with hs | hs
        · exact h.at_ s (by simp [hs]) n h1 h2
        · rw [List.mem_singleton] at hs; subst hs
          rcases Int.lt_or_le n f with q | q
          · exact h.at_ y (by simp) n h1 (by omega)
          · show atC W n = some (y.k, y.l); rw [hxy]; exact hx n q h2
      · rcases Int.lt_or_le n f with q | q
        · obtain ⟨s, hs, h4, h5⟩ := h.all n z h1 q h3
          rcases List.mem_append.1 hs with hs | hs
          · exact ⟨s, by simp [hs], h4, h5⟩
          · rw [List.mem_singleton] at hs; subst hs
            exact ⟨⟨s.k, s.l, s.f, t⟩, by simp, h4, h2⟩
        · exact ⟨⟨y.k, y.l, y.f, t⟩, by simp, show y.f ≤ n by omega, h2⟩
      · rw [List.pairwise_append]
        refine ⟨hsep.1, by simp, fun s hs z hz => ?_⟩
        rw [List.mem_singleton] at hz; subst hz
        exact hsep.2.2 s hs y (by simp)
    · rename_i hc
      refine ⟨fun s hs => ?_, fun s hs n h1 h2 => ?_, fun n z h1 h2 h3 => ?_, ?_⟩
      · rcases List.mem_append.1 hs with hs | hs
        · have := h.lt s hs; omega
        · rw [List.mem_singleton] at hs; subst hs; exact ⟨ha, hft, Int.le_refl _⟩
      · rcases List.mem_append.1 hs with hs | hs
        · exact h.at_ s hs n h1 h2
        · rw [List.mem_singleton] at hs; subst hs; exact hx n h1 h2
      · rcases Int.lt_or_le n f with q | q
        · obtain ⟨s, hs, h4⟩ := h.all n z h1 q h3
          exact ⟨s, List.mem_append_left _ hs, h4⟩
        · exact ⟨_, List.mem_append_right _ (List.mem_singleton.2 rfl), q, h2⟩
      · rw [List.pairwise_append]
        refine ⟨h.sep, by simp, fun s hs z hz => ?_⟩
        rw [List.mem_singleton] at hz; subst hz
        rcases List.mem_append.1 hs with hs | hs
        · have h1 := hsep.2.2 s hs y (by simp)
          left
          show s.t < f
          omega
        · rw [List.mem_singleton] at hs; subst hs
          show s.t < f ∨ (s.t = f ∧ s.k ≠ x.1)
          rcases Int.lt_or_eq_of_le hy.2.2 with q | q
          · exact .inl q
          · exact .inr ⟨q, fun q2 => hc ⟨q2, q⟩⟩
theorem at_gap {W : List KL} {f t n : Int} (h1 : f ≤ n) (h2 : n < t) (hg : ∀ x ∈ W, ∀ e, e = x.1.f ∨ e = x.1.t → e ≤ f ∨ t ≤ e) : atC W n = W.find? fun x => reaches x.1 f t := by
  unfold atC
  induction W with
  | nil => rfl
  | cons x W ih =>
    have a1 := hg x (by simp) x.1.f (.inl rfl)
    have a2 := hg x (by simp) x.1.t (.inr rfl)
    have e : covers x.1 n = reaches x.1 f t := by
      unfold covers reaches; rw [Bool.eq_iff_iff]; simp only [Bool.and_eq_true, decide_eq_true_eq]; omega
    rw [List.find?_cons, List.find?_cons, e, ih fun y hy => hg y (by simp [hy])]
theorem told_step {W : List KL} {a f t : Int} {S : List CStr} (hk : KeysC W) (h : Told W a f S) (ha : a ≤ f) (hft : f < t) (hg : ∀ x ∈ W, ∀ e, e = x.1.f ∨ e = x.1.t → e ≤ f ∨ t ≤ e) : Told W a t (stepC W S f t) := by
  unfold stepC
  cases hf : W.find? fun x => reaches x.1 f t with
  | none =>
    refine ⟨fun s hs => by have := h.lt s hs; omega, h.at_, fun n x h1 h2 h3 => ?_, h.sep⟩
    rcases Int.lt_or_le n f with q | q
    · exact h.all n x h1 q h3
    · rw [at_gap q h2 hg, hf] at h3; cases h3
  | some x => exact told_push hk h ha hft fun n h1 h2 => by rw [at_gap h1 h2 hg, hf]
theorem told_from {W : List KL} {a : Int} (hk : KeysC W) : ∀ (T : List Int) (f : Int) (S : List CStr), Told W a f S → a ≤ f → (f :: T).Pairwise (· < ·) → (∀ x ∈ W, ∀ e, e = x.1.f ∨ e = x.1.t → e ≤ f ∨ e ∈ T) →
    ∃ b, Told W a b (strFromC W f T S) ∧ ∀ x ∈ W, ∀ e, e = x.1.f ∨ e = x.1.t → e ≤ b
  | [], f, S, h, _, _, hg => ⟨f, h, fun x hx e he => by rcases hg x hx e he with q | q; exact q; cases q⟩
  | t :: T, f, S, h, ha, hp, hg => by
    rw [List.pairwise_cons] at hp
    have hp2 := List.pairwise_cons.1 hp.2
    have hft := hp.1 t (by simp)
    refine told_from hk T t _ (told_step hk h ha hft fun x hx e he => ?_) (by omega) hp.2 fun x hx e he => ?_
    · rcases hg x hx e he with q | q
      · exact .inl q
      · rcases List.mem_cons.1 q with rfl | q
        · exact .inr (Int.le_refl _)
        · have := hp2.1 e q; right; omega
    · rcases hg x hx e he with q | q
      · left; omega
      · rcases List.mem_cons.1 q with rfl | q
        · exact .inl (Int.le_refl _)
        · exact .inr q
structure ToldA (W : List KL) (S : List CStr) : Prop where
  lt : ∀ s ∈ S, s.f < s.t
  at_ : ∀ s ∈ S, ∀ n, s.f ≤ n → n < s.t → atC W n = some (s.k, s.l)
  all : ∀ n x, atC W n = some x → ∃ s ∈ S, s.f ≤ n ∧ n < s.t
  sep : S.Pairwise fun y x => y.t < x.f ∨ (y.t = x.f ∧ y.k ≠ x.k)
theorem atC_some {W : List KL} {n : Int} {x : KL} (h : atC W n = some x) : x ∈ W ∧ x.1.f ≤ n ∧ n < x.1.t := by
  have h1 := List.find?_some h
  simp only [covers, Bool.and_eq_true, decide_eq_true_eq] at h1
  exact ⟨List.mem_of_find?_eq_some h, h1⟩
theorem toldA {W : List KL} (hk : KeysC W) : ToldA W (strC W (timesC W)) := by
  have hm := @timesC_mem W
  have hs := timesC_sorted W
  generalize timesC W = T at *
  cases T with
  | nil =>
    refine ⟨fun s hs => (by cases hs), fun s hs => (by cases hs), fun n x h => ?_, .nil⟩
    have := (hm (n := x.1.f)).2 ⟨x, (atC_some h).1, .inl rfl⟩
    cases this
  | cons f T =>
    have hp := List.pairwise_cons.1 hs
    obtain ⟨b, hT, hb⟩ := told_from (W := W) (a := f) hk T f [] ⟨by simp, by simp, fun n x h1 h2 => by omega, .nil⟩ (Int.le_refl _) hs fun x hx e he => by
      rcases List.mem_cons.1 ((hm (n := e)).2 ⟨x, hx, he⟩) with rfl | q
      · exact .inl (Int.le_refl _)
      · exact .inr q
    refine ⟨fun s hs => (hT.lt s hs).2.1, hT.at_, fun n x h => ?_, hT.sep⟩
    obtain ⟨hx, h1, h2⟩ := atC_some h
    have h3 := hb x hx x.1.t (.inr rfl)
    refine hT.all n x ?_ (by omega) h
    rcases List.mem_cons.1 ((hm (n := x.1.f)).2 ⟨x, hx, .inl rfl⟩) with q | q
    · omega
    · have := hp.1 _ q; omega
/-- the set that counts at a time -/
theorem atC_first {W : List KL} (hs : AheadL W) {n : Int} {x y : KL} (h : atC W n = some x) (hy : y ∈ W) (hc : covers y.1 n = true) : ¬ aheadR y.1 x.1 = true := by
  unfold atC at h
  obtain ⟨A, B, rfl, hA⟩ := List.find?_eq_some_iff_append.1 h |>.2
  rw [AheadL, List.pairwise_append, List.pairwise_cons] at hs
  rcases List.mem_append.1 hy with q | q
  · have := hA y q; simp [hc] at this
  · rcases List.mem_cons.1 q with rfl | q
    · exact aheadR_irrefl _
    · exact aheadR_asymm (hs.2.1.1 y q)
theorem atC_ex {W : List KL} {n : Int} {y : KL} (hy : y ∈ W) (hc : covers y.1 n = true) : ∃ x, atC W n = some x := by
  cases h : atC W n with
  | some x => exact ⟨x, rfl⟩
  | none => rw [atC, List.find?_eq_none] at h; exact absurd hc (h y hy)
theorem KeysC.wholes {C : List KL} (h : KeysC C) : KeysC (wholes C) := KeysC.perm (h.filter _) (wholes_perm0 C).symm
theorem told_strs {C : List KL} (h : KeysC C) : ToldA (wholes C) (strsC C) := toldA h.wholes

/-! ### pieces -/
theorem lookS_mem {S : List CStr} {a b : Int} {p : Piece} : p ∈ lookS S a b ↔ ∃ s ∈ S, max s.f a < min s.t b ∧ p.seg ∈ s.l ∧ p.f = max s.f a ∧ p.t = min s.t b := by
  rw [lookS, List.mem_flatMap]
  constructor
  · rintro ⟨s, hs, hp⟩
    refine ⟨s, hs, ?_⟩
    split at hp
    · rename_i h
      obtain ⟨z, hz, rfl⟩ := List.mem_map.1 hp
      exact ⟨h, hz, rfl, rfl⟩
    · cases hp
  · rintro ⟨s, hs, h, h1, h2, h3⟩
    refine ⟨s, hs, ?_⟩
    rw [if_pos h]
    exact List.mem_map.2 ⟨p.seg, h1, by rw [← h2, ← h3]⟩
/-- at one time -/
theorem look_one {W : List KL} {S : List CStr} (h : ToldA W S) (n : Int) : lookS S n (n + 1) = match atC W n with | none => [] | some x => x.2.map fun z => ⟨z, n, n + 1⟩ := by
  cases ha : atC W n with
  | none =>
    rw [List.eq_nil_iff_forall_not_mem]
    intro p hp
    obtain ⟨s, hs, h1, _⟩ := lookS_mem.1 hp
    have := h.at_ s hs n (by omega) (by omega)
    rw [ha] at this; cases this
  | some x =>
    obtain ⟨s, hs, h1, h2⟩ := h.all n x ha
    have hx := h.at_ s hs n h1 h2
    rw [ha] at hx
    obtain rfl : x = (s.k, s.l) := Option.some.inj hx
    obtain ⟨A, B, rfl⟩ := List.append_of_mem hs
    have hsep := h.sep
    rw [List.pairwise_append, List.pairwise_cons] at hsep
    have lt := h.lt
    have eA : lookS A n (n + 1) = [] := by
      rw [List.eq_nil_iff_forall_not_mem]
      intro p hp
      obtain ⟨y, hy, h3, _⟩ := lookS_mem.1 hp
      have := hsep.2.2 y hy s (by simp)
      omega
    have eB : lookS B n (n + 1) = [] := by
      rw [List.eq_nil_iff_forall_not_mem]
      intro p hp
      obtain ⟨y, hy, h3, _⟩ := lookS_mem.1 hp
      have := hsep.2.1.1 y hy
      omega
    simp only [lookS] at eA eB
    simp only [lookS, List.flatMap_append, List.flatMap_cons, eA, eB, List.nil_append, List.append_nil]
    rw [if_pos (by omega), show max s.f n = n by omega, show min s.t (n + 1) = n + 1 by omega]
/-- one is cut out of the other -/
theorem look_cut {W : List KL} {S : List CStr} (h : ToldA W S) {a b n : Int} (h1 : a ≤ n) (h2 : n < b) :
    ((lookS S a b).filter fun p => decide (p.f ≤ n) && decide (n < p.t)).map Piece.seg = (lookS S n (n + 1)).map Piece.seg := by
  simp only [lookS, List.filter_flatMap, List.map_flatMap]
  have lt := h.lt
  clear h
  induction S with
  | nil => rfl
  | cons s S ih =>
    rw [List.flatMap_cons, List.flatMap_cons, ih fun y hy => lt y (by simp [hy])]
    congr 1
    have := lt s (by simp)
    by_cases q : s.f ≤ n ∧ n < s.t
    · rw [if_pos (by omega), if_pos (by omega), List.filter_map, List.map_map, List.map_map]
      have e : s.l.filter ((fun p : Piece => decide (p.f ≤ n) && decide (n < p.t)) ∘ fun z => ⟨z, max s.f a, min s.t b⟩) = s.l := by
        rw [List.filter_eq_self]
        intro z _
        simp; omega
      rw [e]; rfl
    · rw [if_neg (show ¬ max s.f n < min s.t (n + 1) by omega)]
      split
      · rw [List.filter_map, List.map_map]
        have e : s.l.filter ((fun p : Piece => decide (p.f ≤ n) && decide (n < p.t)) ∘ fun z => ⟨z, max s.f a, min s.t b⟩) = [] := by
          rw [List.filter_eq_nil_iff]
          intro z _
          simp; omega
        rw [e]; rfl
      · rfl
/-- pieces, as they stand -/
theorem look_pair {W : List KL} {S : List CStr} (h : ToldA W S) (hr : ∀ s ∈ S, Rises s.l ∧ ∀ z ∈ s.l, z.key = s.k) (a b : Int) :
    (lookS S a b).Pairwise fun y x => (y.f = x.f ∧ y.t = x.t ∧ y.seg.key = x.seg.key ∧ y.seg.p < x.seg.p) ∨ y.t ≤ x.f := by
  have lt := h.lt
  have sep := h.sep
  clear h
  induction S with
  | nil => exact .nil
  | cons s S ih =>
    rw [List.pairwise_cons] at sep
    show (_ ++ lookS S a b).Pairwise _
    rw [List.pairwise_append]
    refine ⟨?_, ih (fun y hy => hr y (by simp [hy])) (fun y hy => lt y (by simp [hy])) sep.2, fun y hy x hx => ?_⟩
    · dsimp only
      split
      · rw [List.pairwise_map]
        have hs := hr s (by simp)
        refine List.Pairwise.imp_of_mem ?_ hs.1
        intro y x hy hx hp
        exact .inl ⟨rfl, rfl, by show y.key = x.key; rw [hs.2 y hy, hs.2 x hx], hp⟩
      · exact .nil
    · obtain ⟨s2, h2, h3, h4, h5, h6⟩ := lookS_mem.1 hx
      dsimp only at hy
      split at hy
      · obtain ⟨z, hz, rfl⟩ := List.mem_map.1 hy
        have := sep.1 s2 h2
        right
        show min s.t b ≤ x.f
        omega
      · cases hy
end Go.Proofs.Ythbifkeadbmcnaa
