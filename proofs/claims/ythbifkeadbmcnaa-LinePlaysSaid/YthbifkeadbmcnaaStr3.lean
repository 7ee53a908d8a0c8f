/-
  Times: sorted, each once.
-/
import Derived.Test.YthbifkeadbmcnaaStr2
set_option linter.unusedVariables false
set_option linter.unusedSimpArgs false
namespace Go.Proofs.Ythbifkeadbmcnaa
open Go Go.AW
set_option linter.unusedSimpArgs false
set_option maxRecDepth 20000

/-! ### Compact -/
def comp {α : Type} [DecidableEq α] : List α → List α
  | [] => []
  | [x] => [x]
  | x :: y :: l => if x = y then comp (y :: l) else x :: comp (y :: l)
theorem comp_snoc {α : Type} [DecidableEq α] (y z : α) : ∀ (A : List α), comp (A ++ [y, z]) = comp (A ++ [y]) ++ if y = z then [] else [z]
  | [] => by by_cases h : y = z <;> simp [comp, h]
  | [x] => by
    by_cases h1 : x = y <;> by_cases h2 : y = z <;> simp [comp, h1, h2]
  | x :: x' :: A => by
    have := comp_snoc y z (x' :: A)
    simp only [List.cons_append, comp] at this ⊢
    by_cases h1 : x = x'
    · rw [if_pos h1, if_pos h1]; exact this
    · rw [if_neg h1, if_neg h1, this]; rfl
theorem comp_take {α : Type} [DecidableEq α] {l : List α} {i : Nat} {y z : α} (hy : l[i]? = some y) (hz : l[i + 1]? = some z) : comp (l.take (i + 2)) = comp (l.take (i + 1)) ++ if y = z then [] else [z] := by
  have e : l.take (i + 2) = l.take i ++ [y, z] := by rw [show i + 2 = (i + 1) + 1 from rfl, take_get hz, take_get hy]; simp
  rw [e, comp_snoc, take_get hy]
theorem comp_mem {α : Type} [DecidableEq α] (z : α) : ∀ (l : List α), z ∈ comp l ↔ z ∈ l
  | [] => by simp [comp]
  | [x] => by simp [comp]
  | x :: y :: l => by
    have := comp_mem z (y :: l)
    simp only [comp]
    split
    · rename_i h; subst h; rw [this]; simp
    · rw [List.mem_cons, this, List.mem_cons, List.mem_cons, List.mem_cons]
theorem comp_len {α : Type} [DecidableEq α] : ∀ (l : List α), (comp l).length ≤ l.length
  | [] => by simp [comp]
  | [x] => by simp [comp]
  | x :: y :: l => by
    have := comp_len (y :: l)
    simp only [comp]
    split <;> simp at this ⊢ <;> omega
/-- of a list that rises, the same without twins -/
theorem comp_sorted {α : Type} [DecidableEq α] {le lt : α → α → Prop} (h1 : ∀ x y, le x y → x ≠ y → lt x y) (h2 : ∀ x y z, lt x y → le y z → lt x z) : ∀ {l : List α}, l.Pairwise le → (comp l).Pairwise lt
  | [], _ => by simp [comp]
  | [x], _ => by simp [comp]
  | x :: y :: l, h => by
    rw [List.pairwise_cons] at h
    have ih := comp_sorted h1 h2 h.2
    simp only [comp]
    split
    · exact ih
    · rename_i hn
      rw [List.pairwise_cons]
      refine ⟨fun z hz => ?_, ih⟩
      rw [comp_mem] at hz
      have hxy := h1 x y (h.1 y (List.mem_cons_self ..)) hn
      rcases List.mem_cons.1 hz with rfl | hz
      · exact hxy
      · exact h2 x y z hxy ((List.pairwise_cons.1 h.2).1 z hz)

theorem compactI (l : List Int) (b : Nat) (H : AHeap) (v : Value) (hown : OwnI b H v l) (hl : l.length < 1000) :
    Sound Try.prog 47 [v] H fun v' H' => OwnI b H' v' (comp l) ∧ H'.length = H.length ∧ (∀ j, owner v ≠ some j → H'[j]? = H[j]?) ∧ (owner v' = owner v) := by
  refine Sound.of_body (rs := [.tmp 2]) mixed Try.func47 rfl (by kernel_rfl) rfl (by kernel_rfl) ?_
  obtain ⟨a, c, rfl, hsl⟩ := hown.sl (fun _ => rfl)
  simp -dsimp only [go_sem, ↓reduceIte, Nat.reduceEqDiff, Nat.reduceAdd, Nat.reduceMul, Nat.reduceSub, Nat.reduceLeDiff, Nat.reduceLT]
  refine acondP_of (fun h => ?_) (fun h => ?_)
  · simp at h
    have : comp l = l := by
      match l, h with
      | [], _ => rfl
      | [x], _ => rfl
      | x :: y :: l, h => simp at h; omega
    simp -dsimp only [go_sem, ↓reduceIte, Nat.reduceEqDiff, Nat.reduceAdd, Nat.reduceMul, Nat.reduceSub, Nat.reduceLeDiff, Nat.reduceLT]
    rw [this]
    exact ⟨hown, by simp⟩
  simp at h
  obtain ⟨id, rest, hb, rfl, -, hrow, hcap⟩ := own_open hown (by omega)
  have hat := own_at hown (fun _ => rfl)
  simp -dsimp only [go_sem, ↓reduceIte, Nat.reduceEqDiff, Nat.reduceAdd, Nat.reduceMul, Nat.reduceSub, Nat.reduceLeDiff, Nat.reduceLT]
  refine aloopP_of (fun n T H' => ∃ i, n = l.length - i ∧ 1 ≤ i ∧ i ≤ l.length ∧ H' = H ∧ T 0 = .slice (some ⟨id, 0, none⟩) l.length c ∧ T 3 = .int .i64 i ∧ comp (l.take i) = l.take i) (n := l.length - 1) ?_ ?_
  · refine ⟨1, ?_⟩
    simp -dsimp only [go_sem, ↓reduceIte, Nat.reduceEqDiff, Nat.reduceAdd, Nat.reduceMul, Nat.reduceSub, Nat.reduceLeDiff, Nat.reduceLT]
    refine ⟨by omega, by simp, ?_⟩
    cases l with
    | nil => rfl
    | cons x l => rfl
  · rintro n T H' ⟨i, rfl, hi1, hi, rfl, h0, h3, hc⟩
    simp -dsimp only [go_sem, ↓reduceIte, Nat.reduceEqDiff, Nat.reduceAdd, Nat.reduceMul, Nat.reduceSub, Nat.reduceLeDiff, Nat.reduceLT, h0, h3]
    refine acondP_of (fun h => ?_) (fun h => ?_)
    · simp at h
      obtain ⟨j, rfl⟩ : ∃ j, i = j + 1 := ⟨i - 1, by omega⟩
      obtain ⟨x, hx⟩ := get_ex h
      obtain ⟨y, hy⟩ := get_ex (show j < l.length by omega)
      simp -dsimp only [go_sem, ↓reduceIte, Nat.reduceEqDiff, Nat.reduceAdd, Nat.reduceMul, Nat.reduceSub, Nat.reduceLeDiff, Nat.reduceLT, h0, h3]
      refine adrawnP_of2 [(0, false), (1, false), (2, false), (3, false), (4, false), (5, false), (6, false), (7, false), (8, false), (9, false)] (by kernel_rfl) ?_
      simp -dsimp only [go_sem, ↓reduceIte, Nat.reduceEqDiff, Nat.reduceAdd, Nat.reduceMul, Nat.reduceSub, Nat.reduceLeDiff, Nat.reduceLT, h0, h3, wrPS (show j < 4611686018427387904 by omega), inRange h, inRange (show j < l.length by omega), rowLoad_one0 (hat _ x hx), rowLoad_one0 (hat _ y hy)]
      refine acondP_of (fun h' => ?_) (fun h' => ?_)
      · simp at h'
        subst h'
        obtain ⟨c2, hcut⟩ := own_cut hown (fun _ => rfl) (by decide) (by omega) (j + 1) h
        simp -dsimp only [go_sem, ↓reduceIte, Nat.reduceEqDiff, Nat.reduceAdd, Nat.reduceMul, Nat.reduceSub, Nat.reduceLeDiff, Nat.reduceLT, h0, h3, h, Nat.le_of_lt h, hcut]
        refine aloopP_of (fun n T2 H2 => ∃ r m cur, n = l.length - (j + 2 + r) ∧ j + 2 + r ≤ l.length ∧ m ≤ j + 1 + r ∧ T2 0 = .slice (some ⟨id, 0, none⟩) l.length c ∧ T2 3 = .int .i64 m ∧ T2 4 = .slice (some ⟨id, (j + 1) * 1, none⟩) (l.length - (j + 1)) c2 ∧ T2 5 = .int .i64 ((r + 1 : Nat) : Int) ∧
            OwnI b H2 (.slice (some ⟨id, 0, none⟩) l.length c) cur ∧ comp (l.take (j + 2 + r)) = cur.take m ∧ (∀ q, j + 1 + r ≤ q → cur[q]? = l[q]?) ∧ H2.length = H'.length ∧ ∀ j, j ≠ id → H2[j]? = H'[j]?) (n := l.length - (j + 2)) ?_ ?_
        · refine ⟨0, j + 1, l, ?_⟩
          simp -dsimp only [go_sem, ↓reduceIte, Nat.reduceEqDiff, Nat.reduceAdd, Nat.reduceMul, Nat.reduceSub, Nat.reduceLeDiff, Nat.reduceLT, h0, h3]
          refine ⟨by omega, rfl, hown, ?_, by simp⟩
          rw [show j + 2 + 0 = j + 2 from rfl, comp_take hy hx, if_pos rfl, hc]; simp
        · rintro n T2 H2 ⟨r, m, cur, rfl, hp, hm, f0, f3, f4, f5, hcur, hcomp, hsame, hlen, hkeep⟩
          have hcl : l.length = cur.length := (hcur.slA (fun _ => rfl)).1
          simp -dsimp only [go_sem, ↓reduceIte, Nat.reduceEqDiff, Nat.reduceAdd, Nat.reduceMul, Nat.reduceSub, Nat.reduceLeDiff, Nat.reduceLT, f0, f3, f4, f5]
          refine acondP_of (fun hlt => ?_) (fun hlt => ?_)
          · simp at hlt
            obtain ⟨u, hu⟩ := get_ex (show j + 1 + r + 1 < l.length by omega)
            obtain ⟨w, hw⟩ := get_ex (show j + 1 + r < l.length by omega)
            have hat2 := own_at hcur (fun _ => rfl)
            have a1 := hat2 (j + 1 + r + 1) u (by rw [hsame _ (by omega)]; exact hu)
            have a2 := hat2 (j + 1 + r) w (by rw [hsame _ (by omega)]; exact hw)
            rw [show (j + 1 + r + 1) * 1 = (j + 1) * 1 + (r + 1) * 1 by omega] at a1
            rw [show (j + 1 + r) * 1 = (j + 1) * 1 + r * 1 by omega] at a2
            have i1 := inRange (show r + 1 < l.length - (j + 1) by omega)
            have i2 := inRange (show r < l.length - (j + 1) by omega)
            simp -dsimp only [go_sem, ↓reduceIte, Nat.reduceEqDiff, Nat.reduceAdd, Nat.reduceMul, Nat.reduceSub, Nat.reduceLeDiff, Nat.reduceLT, f0, f3, f4, f5]
            refine adrawnP_of2 [(0, false), (1, false), (2, false), (3, false), (4, false), (5, false), (6, false), (7, false), (8, false), (9, false)] (by kernel_rfl) ?_
            simp -dsimp only [go_sem, ↓reduceIte, Nat.reduceEqDiff, Nat.reduceAdd, Nat.reduceMul, Nat.reduceSub, Nat.reduceLeDiff, Nat.reduceLT, f0, f3, f4, f5, wrPS (show r < 4611686018427387904 by omega), i1, i2, rowLoad_one0 a1, rowLoad_one0 a2]
            have step : comp (l.take (j + 2 + (r + 1))) = cur.take m ++ if w = u then [] else [u] := by
              rw [show j + 2 + (r + 1) = j + 1 + r + 2 by omega, comp_take hw hu, show j + 1 + r + 1 = j + 2 + r by omega, hcomp]
            refine acondP_of (fun hne => ?_) (fun hne => ?_)
            · simp at hne
              obtain ⟨o1, e1, hcur2⟩ := hcur.store (fun _ => rfl) m u (by omega)
              rw [Nat.zero_add] at e1
              simp -dsimp only [go_sem, ↓reduceIte, Nat.reduceEqDiff, Nat.reduceAdd, Nat.reduceMul, Nat.reduceSub, Nat.reduceLeDiff, Nat.reduceLT, f0, f3, f4, f5, i1, inRange (show m < l.length by omega), rowLoad_one0 a1, e1, wrS (show m < 4611686018427387904 by omega), wrS (show r + 1 < 4611686018427387904 by omega)]
              refine ⟨_, ?_, r + 1, m + 1, _, rfl, by omega, by omega, rfl, rfl, hcur2, ?_, fun q hq => ?_, ?_, fun j hj => ?_⟩
              · omega
              · rw [step, if_neg (fun q => hne q.symm), take_get (List.getElem?_set_self (by omega)), List.take_set_of_le (Nat.le_refl _)]
              · rw [List.getElem?_set_ne (by omega)]; exact hsame q (by omega)
              · simp [hlen]
              · rw [List.getElem?_set_ne (Ne.symm hj)]; exact hkeep j hj
            · simp at hne
              simp -dsimp only [go_sem, ↓reduceIte, Nat.reduceEqDiff, Nat.reduceAdd, Nat.reduceMul, Nat.reduceSub, Nat.reduceLeDiff, Nat.reduceLT, f0, f3, f4, f5, wrS (show r + 1 < 4611686018427387904 by omega)]
              refine ⟨_, ?_, r + 1, m, cur, rfl, by omega, by omega, rfl, rfl, hcur, ?_, fun q hq => hsame q (by omega), hlen, hkeep⟩
              · omega
              · rw [step, if_pos hne.symm]; simp
          · simp at hlt
            have hp2 : j + 2 + r = l.length := by omega
            rw [hp2, List.take_length] at hcomp
            obtain ⟨s3, H3, c1, c2', c3, ho3, hl3, hk3⟩ := own_clear un85 ze2 sz2 (by kernel_rfl) rfl rfl hcur (fun _ => rfl) (by decide) (m := m) (by omega)
            have hcap2 : m ≤ capOf l.length c := Nat.le_trans (by omega) (own_capOf hcur (fun _ => rfl) (by decide))
            simp -dsimp only [go_sem, ↓reduceIte, Nat.reduceEqDiff, Nat.reduceAdd, Nat.reduceMul, Nat.reduceSub, Nat.reduceLeDiff, Nat.reduceLT, f0, f3, f4, f5, show m ≤ l.length by omega, c1, c2', hcap2, c3]
            rw [hcomp]
            refine ⟨ho3, by omega, fun j hj => ?_, rfl⟩
            rw [hk3 j (fun q => hj (by rw [q]; rfl)), hkeep j (fun q => hj (by rw [q]; rfl))]
      · simp at h'
        simp -dsimp only [go_sem, ↓reduceIte, Nat.reduceEqDiff, Nat.reduceAdd, Nat.reduceMul, Nat.reduceSub, Nat.reduceLeDiff, Nat.reduceLT, h0, h3, wrS (show j + 1 < 4611686018427387904 by omega)]
        refine ⟨_, ?_, j + 1 + 1, rfl, by omega, h, rfl, ?_⟩
        · omega
        · rw [comp_take hy hx, if_neg (fun q => h' q.symm), hc, take_get hx]
    · simp at h
      obtain rfl : i = l.length := by omega
      simp -dsimp only [go_sem, ↓reduceIte, Nat.reduceEqDiff, Nat.reduceAdd, Nat.reduceMul, Nat.reduceSub, Nat.reduceLeDiff, Nat.reduceLT, h0, h3]
      rw [List.take_length] at hc
      rw [hc]
      exact ⟨hown, by simp⟩
theorem sortI (l : List Int) (b : Nat) (H : AHeap) (v : Value) (hown : OwnI b H v l) (hl : l.length < 1000) :
    Sound Try.prog 46 [v] H fun r H' => r = .tuple #[] ∧ ∃ l', l'.Perm l ∧ l'.Pairwise (· ≤ ·) ∧ OwnI b H' v l' ∧ H'.length = H.length ∧ ∀ j, owner v ≠ some j → H'[j]? = H[j]? :=
  sort_int Try.laysS_f46 hown (by omega)
end Go.Proofs.Ythbifkeadbmcnaa
