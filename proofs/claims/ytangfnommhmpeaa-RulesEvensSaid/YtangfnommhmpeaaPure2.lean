/-
  Plain: moves come to an end, and then loads differ by no more than one.
-/
import Derived.Test.YtangfnommhmpeaaPure1
set_option linter.unusedVariables false
set_option linter.unusedSimpArgs false
namespace Go.Proofs.Ytangfnommhmpeaa
open Go Go.AW Go.Bub

theorem pickBy_least (f : Int → Nat) : ∀ (l : List Int) (m : Int), ∀ n ∈ m :: l, f (pickBy (fun y m => decide (f y < f m)) m l) ≤ f n
  | [], m, n, h => by rw [List.mem_singleton] at h; subst h; exact Nat.le_refl _
  | y :: l, m, n, h => by
    have i1 := pickBy_least f l y
    have i2 := pickBy_least f l m
    simp only [pickBy]
    rcases List.mem_cons.1 h with rfl | h
    · split
      · rename_i q; have := of_decide_eq_true q; have := i1 y (by simp); omega
      · exact i2 _ (by simp)
    · rcases List.mem_cons.1 h with rfl | h
      · split
        · exact i1 _ (by simp)
        · rename_i q; have := i2 m (by simp); simp at q; omega
      · split
        · exact i1 n (by simp [h])
        · exact i2 n (by simp [h])
theorem pickBy_most (f : Int → Nat) : ∀ (l : List Int) (m : Int), ∀ n ∈ m :: l, f n ≤ f (pickBy (fun y m => decide (f m < f y)) m l)
  | [], m, n, h => by rw [List.mem_singleton] at h; subst h; exact Nat.le_refl _
  | y :: l, m, n, h => by
    have i1 := pickBy_most f l y
    have i2 := pickBy_most f l m
    simp only [pickBy]
    rcases List.mem_cons.1 h with rfl | h
    · split
      · rename_i q; have := of_decide_eq_true q; have := i1 y (by simp); omega
      · exact i2 _ (by simp)
    · rcases List.mem_cons.1 h with rfl | h
      · split
        · exact i1 _ (by simp)
        · rename_i q; have := i2 m (by simp); simp at q; omega
      · split
        · exact i1 n (by simp [h])
        · exact i2 n (by simp [h])

/-! ### sums -/
def sumN (f : Int → Nat) (N : List Int) : Nat := (N.map f).sum
theorem sumN_cons (f : Int → Nat) (x : Int) (N : List Int) : sumN f (x :: N) = f x + sumN f N := by simp [sumN]
theorem sumN_congr {f g : Int → Nat} : ∀ {N : List Int}, (∀ n ∈ N, f n = g n) → sumN f N = sumN g N
  | [], _ => rfl
  | x :: N, h => by rw [sumN_cons, sumN_cons, h x (by simp), sumN_congr fun n hn => h n (by simp [hn])]
theorem sumN_le {f : Int → Nat} {c : Nat} : ∀ {N : List Int}, (∀ n ∈ N, f n ≤ c) → sumN f N ≤ c * N.length
  | [], _ => by simp [sumN]
  | x :: N, h => by
    rw [sumN_cons, List.length_cons, Nat.mul_succ]
    have := h x (by simp)
    have := sumN_le fun n hn => h n (List.mem_cons_of_mem x hn)
    omega
theorem sumN_ge {f : Int → Nat} {c : Nat} : ∀ {N : List Int}, (∀ n ∈ N, c ≤ f n) → c * N.length ≤ sumN f N
  | [], _ => by simp [sumN]
  | x :: N, h => by
    rw [sumN_cons, List.length_cons, Nat.mul_succ]
    have := h x (by simp)
    have := sumN_ge fun n hn => h n (List.mem_cons_of_mem x hn)
    omega
theorem sumN_one {f g : Int → Nat} {a : Int} : ∀ {N : List Int}, N.Nodup → a ∈ N → (∀ n ∈ N, n ≠ a → g n = f n) → sumN g N + f a = sumN f N + g a
  | [], _, h, _ => by cases h
  | x :: N, hn, h, he => by
    rw [List.nodup_cons] at hn
    rw [sumN_cons, sumN_cons]
    by_cases q : x = a
    · subst q
      rw [sumN_congr (f := g) (g := f) fun n hm => he n (List.mem_cons_of_mem _ hm) fun e => hn.1 (e ▸ hm)]
      omega
    · rcases List.mem_cons.1 h with e | h
      · exact absurd e.symm q
      · have := sumN_one hn.2 h fun n hm => he n (List.mem_cons_of_mem _ hm)
        rw [he x (by simp) q]
        omega
theorem sumN_two {f g : Int → Nat} {a b : Int} {N : List Int} (hn : N.Nodup) (ha : a ∈ N) (hb : b ∈ N) (hab : a ≠ b) (he : ∀ n ∈ N, n ≠ a → n ≠ b → g n = f n) : sumN g N + f a + f b = sumN f N + g a + g b := by
  have h1 := sumN_one (f := f) (g := fun n => if n = a then g a else f n) hn ha fun n _ h => if_neg h
  have h2 := sumN_one (f := fun n => if n = a then g a else f n) (g := g) hn hb fun n hm h => by
    by_cases q : n = a
    · subst q; rw [if_pos rfl]
    · rw [if_neg q]; exact he n hm q h
  simp only [if_true, if_neg (Ne.symm hab)] at h1 h2
  omega

/-! ### a move -/
def pot (q x : Nat) : Nat := (q - x) + (x - (q + 1))
structure Move (N : List Int) (W : List Seg) (S : Who) (s : Seg) (a b : Int) : Prop where
  ha : a ∈ N
  hb : b ∈ N
  hs : s ∈ W
  was : S s a = true
  not : S s b = false
  gap : loadW W S b + 2 ≤ loadW W S a
  least : ∀ n ∈ N, loadW W S b ≤ loadW W S n
  most : ∀ n ∈ N, loadW W S n ≤ loadW W S a
def Even (N : List Int) (W : List Seg) (S : Who) : Prop := ∀ n ∈ N, ∀ m ∈ N, loadW W S n ≤ loadW W S m + 1
theorem balance_says (segs : List Seg) (h : List Order) (nodes : List Int) :
    (balanceL segs h nodes = [] ∧ Even (livingL nodes) (wantedL segs) (hasW h)) ∨ ∃ s a b, balanceL segs h nodes = [⟨false, s, b⟩, ⟨true, s, a⟩] ∧ Move (livingL nodes) (wantedL segs) (hasW h) s a b := by
  unfold balanceL
  generalize livingL nodes = N
  generalize wantedL segs = W
  cases N with
  | nil => exact .inl ⟨rfl, fun n hn => by cases hn⟩
  | cons x l =>
    simp only
    have hl := pickBy_least (loadW W (hasW h)) l x
    have hm := pickBy_most (loadW W (hasW h)) l x
    have ml := pickBy_mem (fun y m => decide (loadW W (hasW h) y < loadW W (hasW h) m)) l x
    have mm := pickBy_mem (fun y m => decide (loadW W (hasW h) m < loadW W (hasW h) y)) l x
    generalize pickBy (fun y m => decide (loadW W (hasW h) y < loadW W (hasW h) m)) x l = b at *
    generalize pickBy (fun y m => decide (loadW W (hasW h) m < loadW W (hasW h) y)) x l = a at *
    by_cases q : loadW W (hasW h) a < loadW W (hasW h) b + 2
    · rw [if_pos q]
      exact .inl ⟨rfl, fun n hn m hm' => by have := hm n hn; have := hl m hm'; omega⟩
    · rw [if_neg q]
      cases e : W.find? fun s => h.any (holdsP s a) && !h.any (holdsP s b) with
      | none =>
        rw [List.find?_eq_none] at e
        have : loadW W (hasW h) a ≤ loadW W (hasW h) b := List.countP_mono_left fun s hs hp => by
          have := e s hs
          simp only [hasW] at hp ⊢
          rw [hp] at this
          simpa using this
        omega
      | some s =>
        have hs := List.find?_some e
        simp only [Bool.and_eq_true, Bool.not_eq_true'] at hs
        exact .inr ⟨s, a, b, rfl, mm, ml, List.mem_of_find?_eq_some e, hs.1, hs.2, by omega, hl, hm⟩

def moved (S : Who) (s : Seg) (a b : Int) : Who := updL S [⟨false, s, b⟩, ⟨true, s, a⟩]
theorem Move.loads {N : List Int} {W : List Seg} {S : Who} {s : Seg} {a b : Int} (h : Move N W S s a b) (hW : StandL W) : a ≠ b ∧ loadW W (moved S s a b) b = loadW W S b + 1 ∧ loadW W (moved S s a b) a + 1 = loadW W S a ∧ ∀ n, n ≠ a → n ≠ b → loadW W (moved S s a b) n = loadW W S n := by
  have hab : a ≠ b := fun q => by have := h.gap; rw [q] at this; omega
  have k1 : StepOk N W S s false ⟨false, s, b⟩ := ⟨rfl, rfl, h.hb, h.not⟩
  have k2 : StepOk N W (upd S ⟨false, s, b⟩) s true ⟨true, s, a⟩ := ⟨rfl, rfl, h.ha, by simp only [upd]; rw [if_neg (fun q => hab q.2)]; exact h.was⟩
  have u1 := upd_load hW h.hs k1
  have u2 := upd_load hW h.hs k2
  have e : moved S s a b = upd (upd S ⟨false, s, b⟩) ⟨true, s, a⟩ := rfl
  rw [e]
  refine ⟨hab, ?_, ?_, fun n na nb => ?_⟩
  · have := u2 b; rw [if_neg (Ne.symm hab)] at this; have h1 := u1 b; rw [if_pos rfl] at h1; simp at h1; omega
  · have := u2 a; rw [if_pos rfl] at this; have h1 := u1 a; rw [if_neg hab] at h1; simp at this; omega
  · have := u2 n; rw [if_neg na] at this; have h1 := u1 n; rw [if_neg nb] at h1; omega
theorem Move.counts {N : List Int} {W : List Seg} {S : Who} {s : Seg} {a b : Int} (h : Move N W S s a b) (hN : N.Pairwise (· < ·)) (t : Seg) : N.countP (moved S s a b t) = N.countP (S t) := by
  have hab : a ≠ b := fun q => by have := h.gap; rw [q] at this; omega
  have k1 : StepOk N W S s false ⟨false, s, b⟩ := ⟨rfl, rfl, h.hb, h.not⟩
  have k2 : StepOk N W (upd S ⟨false, s, b⟩) s true ⟨true, s, a⟩ := ⟨rfl, rfl, h.ha, by simp only [upd]; rw [if_neg (fun q => hab q.2)]; exact h.was⟩
  have e : moved S s a b = upd (upd S ⟨false, s, b⟩) ⟨true, s, a⟩ := rfl
  rw [e]
  by_cases q : t = s
  · subst q
    have c1 := upd_count hN k1
    have c2 := upd_count hN k2
    simp at c1 c2
    omega
  · exact List.countP_congr fun n _ => by rw [upd_other k2 q, upd_other k1 q]

/-- how far from even -/
def far (N : List Int) (W : List Seg) (S : Who) (q : Nat) : Nat := sumN (fun n => pot q (loadW W S n)) N
structure Mean (N : List Int) (W : List Seg) (S : Who) (q : Nat) : Prop where
  lo : q * N.length ≤ sumN (loadW W S) N
  hi : sumN (loadW W S) N < (q + 1) * N.length
theorem Move.total {N : List Int} {W : List Seg} {S : Who} {s : Seg} {a b : Int} (h : Move N W S s a b) (hW : StandL W) (hN : N.Pairwise (· < ·)) : sumN (loadW W (moved S s a b)) N = sumN (loadW W S) N := by
  obtain ⟨hab, l1, l2, l3⟩ := h.loads hW
  have := sumN_two (f := loadW W S) (g := loadW W (moved S s a b)) (living_nodup hN) h.ha h.hb hab fun n _ => l3 n
  omega
theorem Move.nearer {N : List Int} {W : List Seg} {S : Who} {s : Seg} {a b : Int} {q : Nat} (h : Move N W S s a b) (hW : StandL W) (hN : N.Pairwise (· < ·)) (hm : Mean N W S q) : far N W (moved S s a b) q + 1 ≤ far N W S q := by
  obtain ⟨hab, l1, l2, l3⟩ := h.loads hW
  have nd := living_nodup hN
  have b1 : loadW W S b ≤ q := Nat.le_of_not_lt fun hq => by
    have := sumN_ge (f := loadW W S) (c := q + 1) (N := N) fun n hn => by have := h.least n hn; omega
    have := hm.hi
    omega
  have a1 : q + 1 ≤ loadW W S a := Nat.le_of_not_lt fun hq => by
    have e := sumN_one (f := loadW W S) (g := fun n => if n = b then q else loadW W S n) nd h.hb fun n _ h => if_neg h
    have := sumN_le (f := fun n => if n = b then q else loadW W S n) (c := q) (N := N) fun n hn => by
      have := h.most n hn
      split <;> omega
    simp only [if_true] at e
    have := h.gap
    have := hm.lo
    omega
  have := sumN_two (f := fun n => pot q (loadW W S n)) (g := fun n => pot q (loadW W (moved S s a b) n)) nd h.ha h.hb hab fun n _ ha hb => by rw [l3 n ha hb]
  have g := h.gap
  unfold far
  simp only [pot] at this ⊢
  omega
theorem far_even {N : List Int} {W : List Seg} {S : Who} {q : Nat} (h : far N W S q = 0) : Even N W S := by
  have key : ∀ {N : List Int}, sumN (fun n => pot q (loadW W S n)) N = 0 → ∀ n ∈ N, q ≤ loadW W S n ∧ loadW W S n ≤ q + 1 := by
    intro N
    induction N with
    | nil => intro _ n hn; cases hn
    | cons x N ih =>
      intro h n hn
      rw [sumN_cons] at h
      rcases List.mem_cons.1 hn with rfl | hn
      · simp only [pot] at h; omega
      · exact ih (by omega) n hn
  intro n hn m hm
  have := key h n hn
  have := key h m hm
  omega
theorem mean_ex (N : List Int) (W : List Seg) (S : Who) (h : N ≠ []) : ∃ q, Mean N W S q ∧ q ≤ W.length := by
  have hp : 0 < N.length := List.length_pos_iff.2 h
  have h1 := Nat.div_add_mod (sumN (loadW W S) N) N.length
  have h2 := Nat.mod_lt (sumN (loadW W S) N) hp
  have h3 := sumN_le (f := loadW W S) (c := W.length) (N := N) fun n _ => List.countP_le_length
  refine ⟨sumN (loadW W S) N / N.length, ⟨?_, ?_⟩, ?_⟩
  · rw [Nat.mul_comm]; omega
  · rw [Nat.add_mul, Nat.mul_comm (_ / _)]; omega
  · exact Nat.div_le_of_le_mul (by rw [Nat.mul_comm]; exact h3)
theorem far_le (N : List Int) (W : List Seg) (S : Who) {q : Nat} (hq : q ≤ W.length) : far N W S q ≤ W.length * N.length := by
  refine sumN_le fun n _ => ?_
  have : loadW W S n ≤ W.length := List.countP_le_length
  simp only [pot]
  omega
end Go.Proofs.Ytangfnommhmpeaa
