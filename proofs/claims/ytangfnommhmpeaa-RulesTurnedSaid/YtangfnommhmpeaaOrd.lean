/-
  Plain laws of the orders of segments and of orders about them.
-/
import Derived.Test.YtangfnommhmpeaaRef1
set_option linter.unusedVariables false
set_option linter.unusedSimpArgs false
namespace Go.Proofs.Ytangfnommhmpeaa
open Go Go.AW

theorem cmpZ_lt {a b : Int} : cmpZ a b < 0 ↔ a < b := by unfold cmpZ; split <;> (try split) <;> omega
theorem cmpZ_eq {a b : Int} : cmpZ a b = 0 ↔ a = b := by unfold cmpZ; split <;> (try split) <;> omega
theorem cmpZ_self (a : Int) : cmpZ a a = 0 := cmpZ_eq.2 rfl
theorem orZ_cons (x : Int) (l : List Int) : orZ (x :: l) = if x ≠ 0 then x else orZ l := rfl

theorem cmpSeg_eq {a b : Seg} : cmpSeg a b = 0 ↔ a = b := by
  rw [Seg.eq_iff]
  unfold cmpSeg
  simp only [orZ, ne_eq]
  have h1 := @cmpZ_eq a.f b.f
  have h2 := @cmpZ_eq a.t b.t
  have h3 := @cmpZ_eq a.v b.v
  have h4 := @cmpZ_eq a.p b.p
  have h5 := @cmpZ_eq a.c b.c
  constructor
  · intro h
    by_cases q1 : cmpZ a.f b.f = 0
    · by_cases q2 : cmpZ a.t b.t = 0
      · by_cases q3 : cmpZ a.v b.v = 0
        · by_cases q4 : cmpZ a.p b.p = 0
          · by_cases q5 : cmpZ a.c b.c = 0
            · exact ⟨h1.1 q1, h2.1 q2, h3.1 q3, h4.1 q4, h5.1 q5⟩
            · simp [q1, q2, q3, q4, q5] at h
          · simp [q1, q2, q3, q4] at h
        · simp [q1, q2, q3] at h
      · simp [q1, q2] at h
    · simp [q1] at h
  · rintro ⟨e1, e2, e3, e4, e5⟩
    simp [h1.2 e1, h2.2 e2, h3.2 e3, h4.2 e4, h5.2 e5]

theorem cmpSeg_lt {a b : Seg} : cmpSeg a b < 0 ↔ standsR a b = true := by
  unfold cmpSeg standsR
  simp only [orZ, ne_eq]
  by_cases q1 : a.f = b.f
  · by_cases q2 : a.t = b.t
    · by_cases q3 : a.v = b.v
      · by_cases q4 : a.p = b.p
        · by_cases q5 : a.c = b.c
          · simp [q1, q2, q3, q4, q5, cmpZ_self]
          · simp [q1, q2, q3, q4, cmpZ_self, mt cmpZ_eq.1 q5, cmpZ_lt]
        · simp [q1, q2, q3, q4, cmpZ_self, mt cmpZ_eq.1 q4, cmpZ_lt]
      · simp [q1, q2, q3, cmpZ_self, mt cmpZ_eq.1 q3, cmpZ_lt]
    · simp [q1, q2, cmpZ_self, mt cmpZ_eq.1 q2, cmpZ_lt]
  · simp [q1, mt cmpZ_eq.1 q1, cmpZ_lt]

theorem standsR_iff {a b : Seg} : standsR a b = true ↔ a.f < b.f ∨ (a.f = b.f ∧ (a.t < b.t ∨ (a.t = b.t ∧ (a.v < b.v ∨ (a.v = b.v ∧ (a.p < b.p ∨ (a.p = b.p ∧ a.c < b.c))))))) := by
  unfold standsR
  by_cases q1 : a.f = b.f
  · by_cases q2 : a.t = b.t
    · by_cases q3 : a.v = b.v
      · by_cases q4 : a.p = b.p
        · simp [q1, q2, q3, q4]
        · simp [q1, q2, q3, q4]
      · simp [q1, q2, q3]
    · simp [q1, q2]
  · simp [q1]
theorem standsR_irrefl (a : Seg) : ¬ standsR a a = true := by rw [standsR_iff]; omega
theorem standsR_trans {a b c : Seg} (h1 : standsR a b = true) (h2 : standsR b c = true) : standsR a c = true := by
  rw [standsR_iff] at *; omega
theorem standsR_asymm {a b : Seg} (h1 : standsR a b = true) : ¬ standsR b a = true := fun h2 => standsR_irrefl a (standsR_trans h1 h2)
theorem standsR_tri {a b : Seg} (h : ¬ standsR a b = true) (hn : a ≠ b) : standsR b a = true := by
  rw [ne_eq, Seg.eq_iff] at hn
  rw [standsR_iff] at *; omega
/-- one list of segments that rises -/
abbrev StandL (l : List Seg) : Prop := l.Pairwise fun a b => standsR a b = true

/-- the order of orders: by segment, then by node -/
def ordR (a b : Order) : Bool := standsR a.seg b.seg || (decide (a.seg = b.seg) && decide (a.node < b.node))
theorem ordR_iff {a b : Order} : ordR a b = true ↔ standsR a.seg b.seg = true ∨ (a.seg = b.seg ∧ a.node < b.node) := by simp [ordR]
theorem ordR_irrefl (a : Order) : ¬ ordR a a = true := by
  rw [ordR_iff]; rintro (h | h)
  · exact standsR_irrefl _ h
  · omega
theorem ordR_trans {a b c : Order} (h1 : ordR a b = true) (h2 : ordR b c = true) : ordR a c = true := by
  rw [ordR_iff] at *
  rcases h1 with h1 | ⟨e1, h1⟩ <;> rcases h2 with h2 | ⟨e2, h2⟩
  · exact .inl (standsR_trans h1 h2)
  · exact .inl (e2 ▸ h1)
  · exact .inl (e1 ▸ h2)
  · exact .inr ⟨e1.trans e2, by omega⟩
theorem ordR_asymm {a b : Order} (h1 : ordR a b = true) : ¬ ordR b a = true := fun h2 => ordR_irrefl a (ordR_trans h1 h2)
theorem ordR_tri {a b : Order} (h : ¬ ordR a b = true) (hn : ¬ (a.seg = b.seg ∧ a.node = b.node)) : ordR b a = true := by
  rw [ordR_iff] at *
  by_cases e : a.seg = b.seg
  · right
    have : ¬ a.node < b.node := fun q => h (.inr ⟨e, q⟩)
    have : a.node ≠ b.node := fun q => hn ⟨e, q⟩
    exact ⟨e.symm, by omega⟩
  · exact .inl (standsR_tri (fun q => h (.inl q)) e)
theorem cmpOrder_lt {a b : Order} : cmpOrder a b < 0 ↔ ordR a b = true := by
  rw [ordR_iff]
  unfold cmpOrder
  by_cases e : a.seg = b.seg
  · have h0 := cmpSeg_eq.2 e
    by_cases e2 : a.node = b.node
    · have : ¬ standsR a.seg b.seg = true := by rw [e]; exact standsR_irrefl _
      simp [orZ, h0, e2, cmpZ_self, this]
    · have h1 := standsR_irrefl b.seg
      have h2 := cmpSeg_eq.2 (rfl : b.seg = b.seg)
      simp [orZ, mt cmpZ_eq.1 e2, cmpZ_lt, h1, h2, e]
  · have h0 : cmpSeg a.seg b.seg ≠ 0 := fun q => e (cmpSeg_eq.1 q)
    simp [orZ, h0, cmpSeg_lt, e]
abbrev OrdL (l : List Order) : Prop := l.Pairwise fun a b => ordR a b = true
end Go.Proofs.Ytangfnommhmpeaa
