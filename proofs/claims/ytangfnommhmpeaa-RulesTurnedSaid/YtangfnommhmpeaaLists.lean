/-
  Plain: the lists that the document speaks of, as functions of what is handed in.
-/
import Derived.Test.YtangfnommhmpeaaBegin2
set_option linter.unusedVariables false
set_option linter.unusedSimpArgs false
namespace Go.Proofs.Ytangfnommhmpeaa
open Go Go.AW Go.Bub

/-- the numbers, each once, rising -/
def livingL (l : List Int) : List Int := comp (l.mergeSort fun x y => decide (x ≤ y))
theorem livingL_sorted (l : List Int) : (livingL l).Pairwise (· < ·) :=
  comp_sorted (le := (· ≤ ·)) (lt := (· < ·)) (fun x y h1 h2 => by omega) (fun x y z h1 h2 => by omega)
    ((List.pairwise_mergeSort (le := fun x y : Int => decide (x ≤ y)) (fun a b c h1 h2 => by simp at *; omega) (fun a b => by simp; omega) l).imp (by simp))
theorem livingL_mem (l : List Int) (n : Int) : n ∈ livingL l ↔ n ∈ l := by rw [livingL, comp_mem, List.mem_mergeSort]
theorem livingL_uniq {l m : List Int} (h : m.Pairwise (· < ·)) (hm : ∀ n, n ∈ m ↔ n ∈ l) : m = livingL l :=
  sorted_ext (lt := fun a b : Int => a < b) (fun x => by omega) (fun x y h => by omega) h (livingL_sorted l) fun n => by rw [hm, livingL_mem]
theorem livingL_len (l : List Int) : (livingL l).length ≤ l.length := by
  have := comp_len (l.mergeSort fun x y => decide (x ≤ y)); rwa [List.length_mergeSort] at this

/-- the segments, each once, as they stand -/
def wantedL (l : List Seg) : List Seg := comp (l.mergeSort fun x y => !standsR y x)
theorem wantedL_sorted (l : List Seg) : StandL (wantedL l) := by
  refine comp_sorted (le := leS) (lt := fun a b => standsR a b = true) (fun x y => leS_lt) (fun x y z => leS_trans) ?_
  refine (List.pairwise_mergeSort (le := fun x y : Seg => !standsR y x) (fun a b c h1 h2 => ?_) (fun a b => ?_) l).imp (fun {a b} h => by unfold leS; simpa using h)
  · simp only [Bool.not_eq_true', ← Bool.not_eq_true] at *
    intro q
    by_cases e : a = b
    · subst e; exact h2 q
    · exact h2 (standsR_trans q (standsR_tri h1 (Ne.symm e)))
  · cases h : standsR b a with
    | false => simp
    | true => simp [Bool.eq_false_iff.2 (standsR_asymm h)]
theorem wantedL_mem (l : List Seg) (s : Seg) : s ∈ wantedL l ↔ s ∈ l := by rw [wantedL, comp_mem, List.mem_mergeSort]
theorem wantedL_uniq {l m : List Seg} (h : StandL m) (hm : ∀ n, n ∈ m ↔ n ∈ l) : m = wantedL l :=
  sorted_ext (lt := fun a b : Seg => standsR a b = true) standsR_irrefl (fun _ _ => standsR_asymm) h (wantedL_sorted l) fun n => by rw [hm, wantedL_mem]
theorem wantedL_len (l : List Seg) : (wantedL l).length ≤ l.length := by
  have := comp_len (l.mergeSort fun x y => !standsR y x); rwa [List.length_mergeSort] at this

/-- what is there behind orders, as it stands -/
def leO (a b : Order) : Prop := ¬ ordR b a = true
def applyL (h l : List Order) : List Order := comp ((((h ++ l).map clr).filter (applyS h l)).mergeSort fun x y => !ordR y x)
theorem clr_drop (o : Order) : (clr o).drop = false := rfl
theorem applyS_mem {h l : List Order} {y : Order} (hy : applyS h l y = true) : y ∈ (h ++ l).map clr := by
  rcases setS_mem _ _ _ hy with q | ⟨s, h1, rfl⟩
  · cases q
  · unfold stepsOf at h1
    rw [List.map_append]
    rcases List.mem_append.1 h1 with h1 | h1 <;> obtain ⟨o, ho, rfl⟩ := List.mem_map.1 h1
    · exact List.mem_append_left _ (List.mem_map.2 ⟨o, ho, rfl⟩)
    · exact List.mem_append_right _ (List.mem_map.2 ⟨o, ho, rfl⟩)
theorem applyL_mem (h l : List Order) (y : Order) : y ∈ applyL h l ↔ applyS h l y = true := by
  rw [applyL, comp_mem, List.mem_mergeSort, List.mem_filter]
  exact ⟨fun q => q.2, fun q => ⟨applyS_mem q, q⟩⟩
theorem leO_lt {a b : Order} (ha : a.drop = false) (hb : b.drop = false) (h : leO a b) (hn : a ≠ b) : ordR a b = true := by
  refine ordR_tri h fun q => hn ((Order.eq_iff _ _).2 ⟨ha.trans hb.symm, q.1.symm, q.2.symm⟩)
theorem leO_trans {a b c : Order} (h1 : leO a b) (h2 : leO b c) : leO a c := by
  intro q
  unfold leO at *
  by_cases e : b.seg = a.seg ∧ b.node = a.node
  · refine h2 ?_
    rw [ordR_iff] at *; rw [e.1, e.2]; exact q
  · exact h2 (ordR_trans q (ordR_tri h1 e))
theorem comp_ord : ∀ {l : List Order}, (∀ o ∈ l, o.drop = false) → l.Pairwise leO → OrdL (comp l)
  | [], _, _ => by simp [comp]
  | [x], _, _ => by simp [comp]
  | x :: y :: l, hd, h => by
    rw [List.pairwise_cons] at h
    have ih := comp_ord (l := y :: l) (fun o ho => hd o (List.mem_cons_of_mem _ ho)) h.2
    simp only [comp]
    split
    · exact ih
    · rename_i hn
      have hxy := leO_lt (hd x (List.mem_cons_self ..)) (hd y (List.mem_cons_of_mem _ (List.mem_cons_self ..))) (h.1 y (List.mem_cons_self ..)) hn
      refine List.pairwise_cons.2 ⟨fun z hz => ?_, ih⟩
      rw [comp_mem] at hz
      rcases List.mem_cons.1 hz with rfl | hz
      · exact hxy
      · by_cases e : y = z
        · subst e; exact hxy
        · exact ordR_trans hxy (leO_lt (hd y (by simp)) (hd z (by simp [hz])) ((List.pairwise_cons.1 h.2).1 z hz) e)
theorem applyL_sorted (h l : List Order) : OrdL (applyL h l) := by
  refine comp_ord (fun o ho => ?_) ?_
  · rw [List.mem_mergeSort, List.mem_filter] at ho; exact setS_drop ho.2
  · refine (List.pairwise_mergeSort (le := fun x y : Order => !ordR y x) (fun a b c h1 h2 => ?_) (fun a b => ?_) _).imp (fun {a b} h => by unfold leO; simpa using h)
    · simp only [Bool.not_eq_true', ← Bool.not_eq_true] at *
      exact leO_trans h1 h2
    · cases h : ordR b a with
      | false => simp
      | true => simp [Bool.eq_false_iff.2 (ordR_asymm h)]
theorem applyL_uniq {h l m : List Order} (hs : OrdL m) (hm : ∀ y, y ∈ m ↔ applyS h l y = true) : m = applyL h l :=
  sorted_ext (lt := fun a b : Order => ordR a b = true) ordR_irrefl (fun _ _ => ordR_asymm) hs (applyL_sorted h l) fun n => by rw [hm, applyL_mem]
theorem applyL_len (h l : List Order) : (applyL h l).length ≤ h.length + l.length := by
  have h1 := comp_len ((((h ++ l).map clr).filter (applyS h l)).mergeSort fun x y => !ordR y x)
  rw [List.length_mergeSort] at h1
  have h2 := List.length_filter_le (applyS h l) ((h ++ l).map clr)
  rw [List.length_map, List.length_append] at h2
  exact Nat.le_trans h1 h2
theorem applyL_drop {h l : List Order} {y : Order} (hy : y ∈ applyL h l) : y.drop = false := setS_drop ((applyL_mem h l y).1 hy)

/-! the document's small functions, so -/
theorem refLiving' (l : List Int) (a : Option Addr) (c : Nat) (H : AHeap) (hs : IntsAt H a l) (hl : l.length < 1000) :
    Sound Try.prog 18 [.slice a l.length c] H fun v H' => OwnI H.length H' v (livingL l) ∧ H <+: H' :=
  (refLiving l a c H hs hl).mono fun _ _ ⟨out, h1, h2, h3, h4, _⟩ => by rw [← livingL_uniq h3 h4]; exact ⟨h1, h2⟩
theorem refWanted' (l : List Seg) (a : Option Addr) (c : Nat) (H : AHeap) (hs : SegsAt H a l) (hl : l.length < 1000) :
    Sound Try.prog 23 [.slice a l.length c] H fun v H' => OwnS H.length H' v (wantedL l) ∧ H <+: H' :=
  (refWanted l a c H hs hl).mono fun _ _ ⟨out, h1, h2, h3, h4, _⟩ => by rw [← wantedL_uniq h3 h4]; exact ⟨h1, h2⟩
theorem refApply' (h l : List Order) (a b : Option Addr) (c d : Nat) (H : AHeap) (hh : OrdersAt H a h) (hl : OrdersAt H b l) (hhl : h.length < 1000) (hll : l.length < 1000) :
    Sound Try.prog 17 [.slice a h.length c, .slice b l.length d] H fun v H' => OwnO H.length H' v (applyL h l) ∧ H <+: H' :=
  (refApply h l a b c d H hh hl hhl hll).mono fun _ _ ⟨out, h1, h2, h3, h4, _⟩ => by rw [← applyL_uniq h3 h4]; exact ⟨h1, h2⟩
end Go.Proofs.Ytangfnommhmpeaa
