/-
  Sets, sorted by which goes ahead.
-/
import Derived.Test.YthbifkeadbmcnaaStr3
set_option linter.unusedVariables false
set_option linter.unusedSimpArgs false
namespace Go.Proofs.Ythbifkeadbmcnaa
open Go Go.AW
set_option linter.unusedSimpArgs false
set_option maxRecDepth 20000

theorem orZ_cons (x : Int) (l : List Int) : orZ (x :: l) = if x ≠ 0 then x else orZ l := rfl
theorem cmpAhead_lt {a b : Key} : cmpAhead a b < 0 ↔ aheadR a b = true := by
  unfold cmpAhead aheadR
  simp only [orZ_cons, orZ, cmpZ]
  by_cases h1 : a.v = b.v
  · by_cases h2 : a.f = b.f
    · by_cases h3 : a.t = b.t
      · simp [h1, h2, h3]
      · simp only [h1, h2, ne_eq, not_true_eq_false, if_false, Int.lt_irrefl, decide_eq_true_eq]
        split <;> (try split) <;> simp_all <;> omega
    · simp only [h1, ne_eq, not_true_eq_false, if_false, Int.lt_irrefl, h2, not_false_eq_true, if_true, decide_eq_true_eq]
      split <;> (try split) <;> simp_all <;> omega
  · simp only [ne_eq, h1, not_false_eq_true, if_true, decide_eq_true_eq]
    split <;> (try split) <;> simp_all <;> omega
theorem aheadR_iff {a b : Key} : aheadR a b = true ↔ b.v < a.v ∨ (a.v = b.v ∧ (b.f < a.f ∨ (a.f = b.f ∧ a.t < b.t))) := by
  unfold aheadR
  by_cases h1 : a.v = b.v
  · by_cases h2 : a.f = b.f
    · simp [h1, h2]
    · simp [h1, h2]
  · simp [h1]
theorem ahead_on (l : List SetS) : CmpOn (fun x y : SetS => cmpAhead x.k y.k) l where
  irrefl x _ := by rw [cmpAhead_lt, aheadR_iff]; omega
  trans x _ y _ z _ h1 h2 := by rw [cmpAhead_lt, aheadR_iff] at *; omega
  ntrans x _ y _ z _ h1 h2 := by rw [cmpAhead_lt, aheadR_iff] at *; omega
/-- the sets' pointers, sorted -/
theorem sortSets (l : List SetS) (b0 b : Nat) (H : AHeap) (v : Value) (hown : Own b H encP 1 v l) (hx : ∀ x ∈ l, SetAt b0 H x) (hl : l.length < 100000) :
    Sound Try.prog 43 [v, .func (.func 44) #[] #[]] H fun r H' => r = .tuple #[] ∧ ∃ l', l'.Perm l ∧ l'.Pairwise (fun x y => ¬ aheadR y.k x.k = true) ∧ Own b H' encP 1 v l' ∧ H'.length = H.length ∧ ∀ j, owner v ≠ some j → H'[j]? = H[j]? := by
  have ne : ∀ x ∈ l, owner v ≠ some x.id := fun x hx' q => by
    rcases hown with ⟨_, e | e⟩ | ⟨id, rest, c, _, e, h3, _⟩
    · rw [e] at q; simp [owner] at q
    · rw [e] at q; simp [owner, AW.emp] at q
    · rw [e] at q
      simp only [owner, Option.some.injEq] at q
      subst q
      rw [(hx x hx').at_] at h3
      simp at h3
  refine (sortFunc_one Try.laysSF_f43 { Try.laysSF_f43 with } (enc := fun x : SetS => ptrV x.id) (fun x _ => rfl) (fun x y : SetS => cmpAhead x.k y.k) (ahead_on l) 44 #[] hown (by omega) ?_).mono ?_
  · intro H' x y hx' hy' hseen hlen
    obtain ⟨o1, e1⟩ := hseen _ _ _ _ (ne x hx') (hx x hx').at_
    obtain ⟨o2, e2⟩ := hseen _ _ _ _ (ne y hy') (hx y hy').at_
    exact (setsCmp x.id y.id x.k y.k x.sv y.sv o1 o2 H' e1 e2).mono fun _ _ h => h.1
  · rintro r H' ⟨rfl, l', h1, h2, h3⟩
    exact ⟨rfl, l', h1, h2.imp (fun h => by rwa [cmpAhead_lt] at h), h3⟩
end Go.Proofs.Ythbifkeadbmcnaa
