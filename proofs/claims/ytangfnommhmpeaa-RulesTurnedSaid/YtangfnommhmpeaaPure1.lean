/-
  Plain: what orders bring about; each segment is brought to as many as it is to have, no more is told than that.
-/
import Derived.Test.YtangfnommhmpeaaRefAsg
set_option linter.unusedVariables false
set_option linter.unusedSimpArgs false
namespace Go.Proofs.Ytangfnommhmpeaa
open Go Go.AW Go.Bub

theorem snoc_ind {α : Type} {p : List α → Prop} (h0 : p []) (h1 : ∀ l o, p l → p (l ++ [o])) (l : List α) : p l := by
  have : ∀ m : List α, p m.reverse := fun m => by
    induction m with
    | nil => exact h0
    | cons o m ih => rw [List.reverse_cons]; exact h1 _ o ih
  have := this l.reverse
  rwa [List.reverse_reverse] at this
/-- who has what behind orders -/
def updL (S : Who) (l : List Order) : Who := l.foldl upd S
theorem updL_nil (S : Who) : updL S [] = S := rfl
theorem updL_cons (S : Who) (o : Order) (l : List Order) : updL S (o :: l) = updL (upd S o) l := rfl
theorem updL_app (S : Who) (l m : List Order) : updL S (l ++ m) = updL (updL S l) m := by unfold updL; rw [List.foldl_append]
abbrev hasW (h : List Order) : Who := fun s n => h.any (holdsP s n)
theorem hasW_nil (h : List Order) : hasW (applyL h []) = hasW h := by funext s n; exact applyL_any h s n
theorem hasW_one (h : List Order) (o : Order) : hasW (applyL h [o]) = upd (hasW h) o := by funext s n; exact applyL_upd h o s n
theorem any_of_applyS (h l : List Order) (s : Seg) (n : Int) : hasW (applyL h l) s n = applyS h l ⟨false, s, n⟩ := by
  rw [Bool.eq_iff_iff, List.any_eq_true]
  constructor
  · rintro ⟨y, hy, hp⟩
    have hd := applyL_drop hy
    rw [applyL_mem] at hy
    have hsn : y.seg = s ∧ y.node = n := by simpa [holdsP] using hp
    have : y = ⟨false, s, n⟩ := (Order.eq_iff _ _).2 ⟨hd, hsn.1, hsn.2⟩
    rw [← this]; exact hy
  · intro hy
    exact ⟨_, (applyL_mem _ _ _).2 hy, by simp [holdsP]⟩
theorem applyS_snoc (h l : List Order) (o : Order) (y : Order) : applyS h (l ++ [o]) y = if y = clr o then !o.drop else applyS h l y := by
  unfold applyS setS stepsOf
  rw [List.map_append, ← List.append_assoc, List.foldl_append]
  rfl
theorem hasW_apply (h : List Order) : ∀ l : List Order, hasW (applyL h l) = updL (hasW h) l := by
  refine snoc_ind (hasW_nil h) fun l o ih => ?_
  · rw [updL_app, ← ih]
    funext s n
    rw [any_of_applyS, applyS_snoc, updL_cons, updL_nil, upd, any_of_applyS]
    have e : ((⟨false, s, n⟩ : Order) = clr o) ↔ (s = o.seg ∧ n = o.node) := by
      rw [Order.eq_iff]; simp [clr]
    by_cases q : s = o.seg ∧ n = o.node
    · rw [if_pos (e.2 q), if_pos q]
    · rw [if_neg (fun h => q (e.1 h)), if_neg q]

/-- at one pair -/
theorem updL_congr {S S' : Who} {s : Seg} {n : Int} (h : S s n = S' s n) : ∀ l : List Order, updL S l s n = updL S' l s n := by
  refine snoc_ind h fun l o ih => ?_
  rw [updL_app, updL_app, updL_cons, updL_nil, updL_cons, updL_nil, upd, upd, ih]
theorem updL_skip {S : Who} {s : Seg} : ∀ l : List Order, (∀ o ∈ l, o.seg ≠ s) → ∀ n, updL S l s n = S s n := by
  refine snoc_ind (fun _ n => rfl) fun l o ih => ?_
  · intro h n
    rw [updL_app, updL_cons, updL_nil, upd, if_neg (fun q => h o (by simp) q.1.symm)]
    exact ih (fun o ho => h o (by simp [ho])) n
theorem updL_drops {S : Who} {s : Seg} {n : Int} : ∀ l : List Order, (∀ o ∈ l, o.drop = true) → ((∃ o ∈ l, o.seg = s ∧ o.node = n) ∨ S s n = false) → updL S l s n = false := by
  refine snoc_ind (fun _ q => by rcases q with ⟨o, ho, _⟩ | q; cases ho; exact q) fun l o ih => ?_
  · intro h q
    rw [updL_app, updL_cons, updL_nil, upd]
    by_cases e : s = o.seg ∧ n = o.node
    · rw [if_pos e, h o (by simp)]; rfl
    · rw [if_neg e]
      refine ih (fun o ho => h o (by simp [ho])) ?_
      rcases q with ⟨p, hp, hsn⟩ | q
      · rcases List.mem_append.1 hp with hp | hp
        · exact .inl ⟨p, hp, hsn⟩
        · rw [List.mem_singleton] at hp; subst hp; exact absurd ⟨hsn.1.symm, hsn.2.symm⟩ e
      · exact .inr q

/-! ### what a run of one segment brings about -/
/-- what an order must be -/
structure OkO (N : List Int) (W : List Seg) (r : Nat) (S : Who) (o : Order) : Prop where
  node : o.node ∈ N
  was : S o.seg o.node = o.drop
  want : o.seg ∈ W ∨ o.drop = true
  drop : o.seg ∈ W → o.drop = true → r < N.countP (S o.seg)
  load : o.seg ∈ W → o.drop = false → N.countP (S o.seg) < r
def OkL (N : List Int) (W : List Seg) (r : Nat) : List Order → Who → Prop
  | [], _ => True
  | o :: l, S => OkO N W r S o ∧ OkL N W r l (upd S o)
theorem OkL.app {N : List Int} {W : List Seg} {r : Nat} : ∀ {l m : List Order} {S : Who}, OkL N W r l S → OkL N W r m (updL S l) → OkL N W r (l ++ m) S
  | [], _, _, _, h => h
  | _ :: _, _, _, h1, h2 => ⟨h1.1, OkL.app h1.2 h2⟩
theorem OkO.of_step {N : List Int} {W : List Seg} {r : Nat} {S : Who} {s : Seg} (hs : s ∈ W) (hr : r ≤ N.length) (h : N.countP (S s) ≠ r) : OkO N W r S (stepO N W S s (decide (r < N.countP (S s)))) := by
  have k := stepO_ok (W := W) (ne_step hr h)
  refine ⟨k.mem, by rw [k.seg, k.dr]; exact k.was, .inl (by rw [k.seg]; exact hs), fun _ hd => ?_, fun _ hd => ?_⟩
  · rw [k.seg]; rw [k.dr] at hd; exact of_decide_eq_true hd
  · rw [k.seg]; rw [k.dr] at hd; have := of_decide_eq_false hd; omega
theorem segRun_all {N : List Int} {W : List Seg} {r : Nat} {s : Seg} (hN : N.Pairwise (· < ·)) (hs : s ∈ W) (hr : r ≤ N.length) : ∀ (k : Nat) (S : Who), N.countP (S s) ≤ r + k → r ≤ N.countP (S s) + k →
    (segRun N W r s k S).2 = updL S (segRun N W r s k S).1 ∧ N.countP ((segRun N W r s k S).2 s) = r ∧ (∀ o ∈ (segRun N W r s k S).1, o.seg = s) ∧ OkL N W r (segRun N W r s k S).1 S
  | 0, S, h1, h2 => ⟨rfl, by simp only [segRun]; omega, by simp [segRun], trivial⟩
  | k + 1, S, h1, h2 => by
    by_cases h : N.countP (S s) = r
    · rw [segRun_done h]; exact ⟨rfl, h, by simp, trivial⟩
    · rw [segRun_succ h]
      have ko := stepO_ok (W := W) (ne_step hr h)
      have kc := upd_count hN ko
      have oko := OkO.of_step (W := W) hs hr h
      have ih := segRun_all hN hs hr k (upd S (stepO N W S s (decide (r < N.countP (S s))))) (by split at kc <;> rename_i q <;> simp only [decide_eq_true_eq] at q <;> omega) (by split at kc <;> rename_i q <;> simp only [decide_eq_true_eq] at q <;> omega)
      refine ⟨ih.1, ih.2.1, fun o ho => ?_, oko, ih.2.2.2⟩
      rcases List.mem_cons.1 ho with rfl | ho
      · exact ko.seg
      · exact ih.2.2.1 o ho
theorem countP_le (N : List Int) (p : Int → Bool) : N.countP p ≤ N.length := List.countP_le_length
theorem allRun_all {N : List Int} {W : List Seg} {r : Nat} (hN : N.Pairwise (· < ·)) (hr : r ≤ N.length) : ∀ (ws : List Seg) (S : Who), ws.Nodup → (∀ s ∈ ws, s ∈ W) →
    (∀ s ∈ ws, N.countP (updL S (allRun N W r ws S) s) = r) ∧ (∀ o ∈ allRun N W r ws S, o.seg ∈ ws) ∧ OkL N W r (allRun N W r ws S) S
  | [], S, _, _ => ⟨by simp, by simp [allRun], trivial⟩
  | s :: ws, S, hn, hw => by
    rw [List.nodup_cons] at hn
    have c := countP_le N (S s)
    obtain ⟨e, h1, h2, h3⟩ := segRun_all (W := W) (r := r) hN (hw s (by simp)) hr N.length S (by omega) (by omega)
    obtain ⟨i1, i2, i3⟩ := allRun_all (W := W) (r := r) hN hr ws (segRun N W r s N.length S).2 hn.2 fun t ht => hw t (by simp [ht])
    rw [allRun]
    refine ⟨fun t ht => ?_, fun o ho => ?_, h3.app (by rw [← e]; exact i3)⟩
    · rw [updL_app, ← e]
      rcases List.mem_cons.1 ht with rfl | ht
      · have : ∀ n, updL (segRun N W r t N.length S).2 (allRun N W r ws (segRun N W r t N.length S).2) t n = (segRun N W r t N.length S).2 t n := updL_skip _ fun o ho q => hn.1 (q ▸ i2 o ho)
        rw [show updL (segRun N W r t N.length S).2 (allRun N W r ws (segRun N W r t N.length S).2) t = (segRun N W r t N.length S).2 t from funext this]
        exact h1
      · exact i1 t ht
    · rcases List.mem_append.1 ho with ho | ho
      · rw [h2 o ho]; simp
      · exact List.mem_cons_of_mem _ (i2 o ho)

/-! ### the orders of Assign -/
theorem who0_eq {N : List Int} {W : List Seg} (h : List Order) {s : Seg} {n : Int} (hs : s ∈ W) (hn : n ∈ N) : who0 N W h s n = hasW h s n := by simp [who0, hs, hn]
theorem OkO.congr {N : List Int} {W : List Seg} {r : Nat} {S S' : Who} {o : Order} (hs : o.seg ∈ W) (h : ∀ s ∈ W, ∀ n ∈ N, S s n = S' s n) (k : OkO N W r S o) : OkO N W r S' o := by
  have e : N.countP (S' o.seg) = N.countP (S o.seg) := List.countP_congr fun n hn => by rw [h _ hs n hn]
  exact ⟨k.node, by rw [← h _ hs _ k.node]; exact k.was, k.want, fun a b => by rw [e]; exact k.drop a b, fun a b => by rw [e]; exact k.load a b⟩
theorem OkL.congr {N : List Int} {W : List Seg} {r : Nat} : ∀ {l : List Order} {S S' : Who}, (∀ o ∈ l, o.seg ∈ W) → (∀ s ∈ W, ∀ n ∈ N, S s n = S' s n) → OkL N W r l S → OkL N W r l S'
  | [], _, _, _, _, _ => trivial
  | o :: l, S, S', hs, h, k => ⟨k.1.congr (hs o (by simp)) h, OkL.congr (fun o ho => hs o (List.mem_cons_of_mem _ ho)) (fun s hs' n hn => by simp only [upd]; rw [h s hs' n hn]) k.2⟩
theorem oddL_mem {N : List Int} {W : List Seg} {now : List Order} {o : Order} : o ∈ oddL N W now ↔ ∃ p ∈ now, p.node ∈ N ∧ p.seg ∉ W ∧ o = ⟨true, p.seg, p.node⟩ := by
  unfold oddL
  rw [List.mem_map]
  constructor
  · rintro ⟨p, hp, rfl⟩
    rw [List.mem_filter] at hp
    simp at hp
    exact ⟨p, hp.1, hp.2.1, hp.2.2, rfl⟩
  · rintro ⟨p, hp, h1, h2, rfl⟩
    exact ⟨p, List.mem_filter.2 ⟨hp, by simp [h1, h2]⟩, rfl⟩
theorem oddL_ok {N : List Int} {W : List Seg} {r : Nat} : ∀ (now : List Order) (S : Who), OrdL now → (∀ o ∈ now, S o.seg o.node = true) → OkL N W r (oddL N W now) S
  | [], _, _, _ => trivial
  | o :: now, S, hs, h => by
    have h0 := List.pairwise_cons.1 hs
    unfold oddL
    rw [List.filter_cons]
    by_cases q : (decide (o.node ∈ N) && !decide (o.seg ∈ W)) = true
    · rw [if_pos q, List.map_cons]
      simp at q
      refine ⟨⟨q.1, h o (by simp), .inr rfl, fun a => absurd a q.2, fun a => absurd a q.2⟩, ?_⟩
      refine oddL_ok now _ h0.2 fun p hp => ?_
      simp only [upd]
      rw [if_neg, h p (by simp [hp])]
      rintro ⟨e1, e2⟩
      have := h0.1 p hp
      rw [ordR_iff] at this
      rcases this with this | this
      · rw [e1] at this; exact standsR_irrefl _ this
      · omega
    · rw [if_neg q]
      exact oddL_ok now S h0.2 fun p hp => h p (by simp [hp])

section
variable (segs : List Seg) (h : List Order) (nodes : List Int) (r : Int)
theorem assign_parts :
    (∀ s ∈ segs, (livingL nodes).countP (updL (hasW h) (assignL segs h nodes r) s) = replN r (livingL nodes).length) ∧
    (∀ s n, s ∉ segs → n ∈ livingL nodes → updL (hasW h) (assignL segs h nodes r) s n = false) ∧
    OkL (livingL nodes) (wantedL segs) (replN r (livingL nodes).length) (assignL segs h nodes r) (hasW h) := by
  have hN := livingL_sorted nodes
  have hW := wantedL_sorted segs
  have hr := replN_le r (livingL nodes).length
  obtain ⟨a1, a2, a3⟩ := allRun_all (W := wantedL segs) hN hr (wantedL segs) (who0 (livingL nodes) (wantedL segs) h) (standL_nodup hW) fun s hs => hs
  have odd : ∀ o ∈ oddL (livingL nodes) (wantedL segs) (applyL h []), o.seg ∉ wantedL segs ∧ o.drop = true := fun o ho => by
    obtain ⟨p, _, _, q, rfl⟩ := oddL_mem.1 ho
    exact ⟨q, rfl⟩
  have same : ∀ s ∈ wantedL segs, ∀ n ∈ livingL nodes, who0 (livingL nodes) (wantedL segs) h s n = updL (hasW h) (oddL (livingL nodes) (wantedL segs) (applyL h [])) s n := fun s hs n hn => by
    rw [who0_eq h hs hn, updL_skip (s := s) _ fun o ho q => (odd o ho).1 (by rw [q]; exact hs)]
  refine ⟨fun s hs => ?_, fun s n hs hn => ?_, ?_⟩
  · have hs' := (wantedL_mem segs s).2 hs
    rw [← a1 s hs']
    refine List.countP_congr fun n hn => ?_
    rw [assignL, updL_app]
    rw [updL_congr (same s hs' n hn).symm _]
  · have hs' : s ∉ wantedL segs := fun q => hs ((wantedL_mem segs s).1 q)
    rw [assignL, updL_app, updL_skip (s := s) _ fun o ho q => hs' (q ▸ a2 o ho)]
    refine updL_drops _ (fun o ho => (odd o ho).2) ?_
    cases e : hasW h s n with
    | false => exact .inr rfl
    | true =>
      refine .inl ⟨⟨true, s, n⟩, oddL_mem.2 ?_, rfl, rfl⟩
      rw [← hasW_nil, List.any_eq_true] at e
      obtain ⟨p, hp, hsn⟩ := e
      have hsn : p.seg = s ∧ p.node = n := by simpa [holdsP] using hsn
      exact ⟨p, hp, by rw [hsn.2]; exact hn, by rw [hsn.1]; exact hs', by rw [hsn.1, hsn.2]⟩
  · refine OkL.app ?_ ?_
    · refine oddL_ok _ _ (applyL_sorted h []) fun o ho => ?_
      rw [← hasW_nil]
      exact List.any_eq_true.2 ⟨o, ho, by simp [holdsP]⟩
    · exact a3.congr a2 same
theorem allRun_nil {N : List Int} {W : List Seg} {r : Nat} {S : Who} : ∀ {ws : List Seg}, (∀ s ∈ ws, N.countP (S s) = r) → allRun N W r ws S = []
  | [], _ => rfl
  | s :: ws, hs => by
    rw [allRun, segRun_done (hs s (by simp))]
    exact allRun_nil fun t ht => hs t (by simp [ht])
theorem assign_again : assignL segs (applyL h (assignL segs h nodes r)) nodes r = [] := by
  obtain ⟨h1, h2, _⟩ := assign_parts segs h nodes r
  rw [← hasW_apply] at h1 h2
  unfold assignL at h1 h2 ⊢
  rw [List.append_eq_nil_iff]
  constructor
  · rw [List.eq_nil_iff_forall_not_mem]
    intro o ho
    obtain ⟨p, hp, hn, hs, -⟩ := oddL_mem.1 ho
    have e := h2 p.seg p.node (fun q => hs ((wantedL_mem segs _).2 q)) hn
    rw [← hasW_nil] at e
    rw [show hasW (applyL (applyL h _) []) p.seg p.node = true from List.any_eq_true.2 ⟨p, hp, by simp [holdsP]⟩] at e
    cases e
  · refine allRun_nil fun s hs => ?_
    refine Eq.trans ?_ (h1 s ((wantedL_mem segs s).1 hs))
    exact List.countP_congr fun n hn => by rw [who0_eq _ hs hn]
end
end Go.Proofs.Ytangfnommhmpeaa
