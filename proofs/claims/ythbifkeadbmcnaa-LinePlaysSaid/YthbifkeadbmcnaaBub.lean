set_option linter.unusedVariables false
set_option linter.unusedSimpArgs false
/-
  Plain law: one pass of exchanges from right to left puts a list's last element where it belongs.
-/
namespace Go.Bub
variable {α : Type} {lt : α → α → Prop}

def Bub (lt : α → α → Prop) (cur : List α) (k : Nat) : Prop := ∃ A m B, cur = A ++ m :: B ∧ A.length = k ∧ (A ++ B).Pairwise lt ∧ ∀ y ∈ B, lt m y

theorem bub_start {xs : List α} (h : xs.Pairwise lt) (x : α) : Bub lt (xs ++ [x]) xs.length := ⟨xs, x, [], rfl, rfl, by simpa using h, by simp⟩
theorem bub_end {cur : List α} (h : Bub lt cur 0) : cur.Pairwise lt := by
  obtain ⟨A, m, B, rfl, hA, h1, h2⟩ := h
  obtain rfl := List.eq_nil_of_length_eq_zero hA
  simp only [List.nil_append] at h1 ⊢
  exact List.pairwise_cons.2 ⟨h2, h1⟩

theorem open_last {A : List α} {k : Nat} (h : A.length = k + 1) : ∃ A' a, A = A' ++ [a] ∧ A'.length = k := by
  have hne : A ≠ [] := by rintro rfl; simp at h
  exact ⟨A.dropLast, A.getLast hne, (List.dropLast_concat_getLast hne).symm, by simp [h]⟩

theorem bub_at {cur : List α} {k : Nat} (h : Bub lt cur (k + 1)) : ∃ A a m B, cur = A ++ a :: m :: B ∧ A.length = k ∧ (A ++ a :: B).Pairwise lt ∧ (∀ y ∈ B, lt m y) ∧ cur[k]? = some a ∧ cur[k + 1]? = some m := by
  obtain ⟨A, m, B, rfl, hA, h1, h2⟩ := h
  obtain ⟨A', a, rfl, hA'⟩ := open_last hA
  subst hA'
  exact ⟨A', a, m, B, by simp, rfl, by simpa using h1, h2, by simp, by simp⟩

theorem bub_swap {cur : List α} {k : Nat} {a m : α} (h : Bub lt cur (k + 1)) (ha : cur[k]? = some a) (hm : cur[k + 1]? = some m) (hl : lt m a) : Bub lt ((cur.set (k + 1) a).set k m) k ∧ ((cur.set (k + 1) a).set k m).Perm cur := by
  obtain ⟨A, a', m', B, rfl, hA, h1, h2, h3, h4⟩ := bub_at h
  rw [h3] at ha; cases ha
  rw [h4] at hm; cases hm
  subst hA
  have e : ((A ++ a :: m :: B).set (A.length + 1) a).set A.length m = A ++ m :: a :: B := by simp
  rw [e]
  refine ⟨⟨A, m, a :: B, rfl, rfl, h1, fun y hy => ?_⟩, (List.Perm.swap a m B).append_left A⟩
  rcases List.mem_cons.1 hy with rfl | hy
  · exact hl
  · exact h2 y hy

theorem bub_keep (tr : ∀ x y z, lt x y → lt y z → lt x z) {cur : List α} {k : Nat} {a m : α} (h : Bub lt cur (k + 1)) (ha : cur[k]? = some a) (hm : cur[k + 1]? = some m) (hl : lt a m) : Bub lt cur k := by
  obtain ⟨A, a', m', B, rfl, hA, h1, h2, h3, h4⟩ := bub_at h
  rw [h3] at ha; cases ha
  rw [h4] at hm; cases hm
  refine ⟨A, a, m :: B, rfl, hA, ?_, ?_⟩
  · rw [List.pairwise_append] at h1 ⊢
    obtain ⟨p1, p2, p3⟩ := h1
    refine ⟨p1, ?_, fun x hx y hy => ?_⟩
    · rw [List.pairwise_cons] at p2 ⊢
      exact ⟨h2, p2.2⟩
    · rcases List.mem_cons.1 hy with rfl | hy
      · exact tr _ _ _ (p3 x hx a (List.mem_cons_self ..)) hl
      · exact p3 x hx y (List.mem_cons_of_mem _ hy)
  · intro y hy
    rcases List.mem_cons.1 hy with rfl | hy
    · exact hl
    · exact tr _ _ _ hl (h2 y hy)

theorem bub_stop (tr : ∀ x y z, lt x y → lt y z → lt x z) {cur : List α} {k : Nat} {a m : α} (h : Bub lt cur (k + 1)) (ha : cur[k]? = some a) (hm : cur[k + 1]? = some m) (hl : lt a m) : cur.Pairwise lt := by
  obtain ⟨A, a', m', B, rfl, hA, h1, h2, h3, h4⟩ := bub_at h
  rw [h3] at ha; cases ha
  rw [h4] at hm; cases hm
  rw [List.pairwise_append] at h1 ⊢
  obtain ⟨p1, p2, p3⟩ := h1
  rw [List.pairwise_cons] at p2
  refine ⟨p1, ?_, fun x hx y hy => ?_⟩
  · rw [List.pairwise_cons, List.pairwise_cons]
    refine ⟨fun y hy => ?_, h2, p2.2⟩
    rcases List.mem_cons.1 hy with rfl | hy
    · exact hl
    · exact p2.1 y hy
  · rcases List.mem_cons.1 hy with rfl | hy
    · exact p3 x hx y (List.mem_cons_self ..)
    rcases List.mem_cons.1 hy with rfl | hy
    · exact tr _ _ _ (p3 x hx a (List.mem_cons_self ..)) hl
    · exact p3 x hx y (List.mem_cons_of_mem _ hy)

theorem swap_perm {cur : List α} {m : Nat} {y z : α} (hy : cur[m]? = some y) (hz : cur[m + 1]? = some z) : ((cur.set (m + 1) y).set m z).Perm cur := by
  obtain ⟨h1, rfl⟩ := List.getElem?_eq_some_iff.1 hy
  obtain ⟨h2, rfl⟩ := List.getElem?_eq_some_iff.1 hz
  have e : cur = cur.take m ++ cur[m] :: cur[m + 1] :: cur.drop (m + 2) := by
    rw [← List.drop_eq_getElem_cons h2, ← List.drop_eq_getElem_cons h1, List.take_append_drop]
  generalize ha : cur[m] = a at *
  generalize hb : cur[m + 1] = b at *
  have hl : (cur.take m).length = m := by simp; omega
  generalize cur.take m = A at *
  generalize cur.drop (m + 2) = B at *
  subst e hl
  have e : ((A ++ a :: b :: B).set (A.length + 1) a).set A.length b = A ++ b :: a :: B := by simp
  rw [e]
  exact (List.Perm.swap a b B).append_left A

/-- two lists that rise, with the same elements, are one -/
theorem sorted_ext (ir : ∀ x, ¬ lt x x) (as : ∀ x y, lt x y → ¬ lt y x) : ∀ {l m : List α}, l.Pairwise lt → m.Pairwise lt → (∀ x, x ∈ l ↔ x ∈ m) → l = m
  | [], m, _, _, h => by
    cases m with
    | nil => rfl
    | cons y m => exact absurd ((h y).2 (List.mem_cons_self ..)) (by simp)
  | x :: l, [], _, _, h => absurd ((h x).1 (List.mem_cons_self ..)) (by simp)
  | x :: l, y :: m, hl, hm, h => by
    rw [List.pairwise_cons] at hl hm
    have hxy : x = y := by
      rcases List.mem_cons.1 ((h x).1 (List.mem_cons_self ..)) with e | e
      · exact e
      rcases List.mem_cons.1 ((h y).2 (List.mem_cons_self ..)) with e2 | e2
      · exact e2.symm
      · exact absurd (hm.1 x e) (as _ _ (hl.1 y e2))
    subst hxy
    congr 1
    refine sorted_ext ir as hl.2 hm.2 fun z => ⟨fun hz => ?_, fun hz => ?_⟩
    · rcases List.mem_cons.1 ((h z).1 (List.mem_cons_of_mem _ hz)) with rfl | e
      · exact absurd (hl.1 z hz) (ir z)
      · exact e
    · rcases List.mem_cons.1 ((h z).2 (List.mem_cons_of_mem _ hz)) with rfl | e
      · exact absurd (hm.1 z hz) (ir z)
      · exact e

end Go.Bub
