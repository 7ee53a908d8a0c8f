/-
  rules.Apply: who has what behind orders.
-/
import Derived.Test.YtangfnommhmpeaaLists
set_option linter.unusedVariables false
set_option linter.unusedSimpArgs false
namespace Go.Proofs.Ytangfnommhmpeaa
open Go Go.AW Go.Bub
set_option linter.unusedSimpArgs false
set_option maxRecDepth 20000

theorem leO_total (l : List Order) : CmpOn cmpOrder l where
  irrefl x _ := by rw [cmpOrder_lt]; exact ordR_irrefl x
  trans x _ y _ z _ h1 h2 := by rw [cmpOrder_lt] at *; exact ordR_trans h1 h2
  ntrans x _ y _ z _ h1 h2 := by rw [cmpOrder_lt] at *; exact leO_trans h2 h1
theorem sortOrders {b : Nat} {H : AHeap} {v : Value} {l : List Order} (hown : OwnO b H v l) (hlen : l.length < 1000) :
    Sound Try.prog 35 [v, .func (.func 36) #[] #[]] H fun r H' => r = .tuple #[] ∧ ∃ l', l'.Perm l ∧ l'.Pairwise leO ∧ OwnO b H' v l' ∧ H'.length = H.length ∧ ∀ j, owner v ≠ some j → H'[j]? = H[j]? := by
  refine (sortFunc_struct Try.laysSF_f35 (k := 7) ag42 sz42 (by decide) (fun _ => rfl) (fun x _ => rfl) cmpOrder (leO_total l) 36 #[] hown (by omega) ?_).mono ?_
  · exact fun H' x y _ _ _ _ => (places x y H').mono fun _ _ h => h.1
  · rintro r H' ⟨rfl, l', h1, h2, h3⟩
    exact ⟨rfl, l', h1, h2.imp (fun h => by unfold leO; rwa [cmpOrder_lt] at h), h3⟩

/-- the order that tells a pair -/
def Pair.ord (p : Pair) : Order := ⟨false, p.seg, p.node⟩
theorem pair_step (S : Order → Bool) (o : Order) (d : Bool) (p : Pair) : stepS S (clr o, d) p.ord = if (⟨o.seg, o.node⟩ : Pair) = p then !d else S p.ord := by
  have : (p.ord = clr o) ↔ ((⟨o.seg, o.node⟩ : Pair) = p) := by
    cases p; simp [Pair.ord, clr, eq_comm]
  simp only [stepS, this]

theorem rApply2 (h l : List Order) (a b : Option Addr) (c d : Nat) (H : AHeap) (hh : OrdersAt H a h) (hl : OrdersAt H b l) (hsum : h.length + l.length < 900) :
    Sound Try.prog 16 [.slice a h.length c, .slice b l.length d] H fun v H' => OwnO H.length H' v (applyL h l) ∧ H <+: H' := by
  refine Sound.of_body (rs := [.tmp 4]) mixed Try.func16 rfl (by kernel_rfl) rfl (by kernel_rfl) ?_
  simp -dsimp only [go_sem, ↓reduceIte, Nat.reduceEqDiff, Nat.reduceAdd, Nat.reduceMul, Nat.reduceSub, Nat.reduceLeDiff, Nat.reduceLT]
  refine aloopP_of (fun n T H' => ∃ i m, n = h.length - i ∧ i ≤ h.length ∧ T 1 = .slice b l.length d ∧ T 5 = .map (some H.length) ∧ T 13 = .slice a h.length c ∧ T 14 = .int .i64 h.length ∧ T 15 = .int .i64 i ∧ H <+: H' ∧ DictAt H' H.length Pair.val intV m ∧ m.length ≤ i ∧ (∀ p : Pair, (mget m p).isSome = setS ((stepsOf h l).take i) p.ord)) (n := h.length) ?_ ?_
  · refine ⟨0, [], ?_⟩
    simp -dsimp only [go_sem, ↓reduceIte, Nat.reduceEqDiff, Nat.reduceAdd, Nat.reduceMul, Nat.reduceSub, Nat.reduceLeDiff, Nat.reduceLT]
    exact ⟨by omega, by omega, rfl, List.prefix_append _ _, DictAt.new _ _ _ _, fun p => rfl⟩
  rintro n T H' ⟨i, m, rfl, hi, h1, h5, h13, h14, h15, hp, hd, hml, hm⟩
  simp -dsimp only [go_sem, ↓reduceIte, Nat.reduceEqDiff, Nat.reduceAdd, Nat.reduceMul, Nat.reduceSub, Nat.reduceLeDiff, Nat.reduceLT, h1, h5, h13, h14, h15]
  refine acondP_of (fun hc => ?_) (fun hc => ?_)
  · simp at hc
    obtain ⟨o, ho⟩ := get_ex hc
    obtain ⟨id, off, rfl, hat⟩ := (hh.pre hp).at (by omega)
    have pE : H' <+: H' ++ [AObj.row o.cells 7 true] := List.prefix_append _ _
    obtain ⟨o1, e1, hd1⟩ := (hd.pre pE).put (t := 51) pairLaw mt51 ⟨o.seg, o.node⟩ 1
    simp -dsimp only [go_sem, ↓reduceIte, Nat.reduceEqDiff, Nat.reduceAdd, Nat.reduceMul, Nat.reduceSub, Nat.reduceLeDiff, Nat.reduceLT, h1, h5, h13, h14, h15, inRange hc, rowLoad_whole (hat i o ho), e1, wrS (show i < 4611686018427387904 by omega)]
    refine ⟨_, ?_, i + 1, mput m ⟨o.seg, o.node⟩ 1, rfl, hc, rfl, ?_, hd1, Nat.le_trans (mput_len _ _ _) (by omega), fun p => ?_⟩
    · omega
    · refine pre_of_keep hp (by simp) fun j hj => ?_
      rw [List.getElem?_set_ne (by omega), List.getElem?_append_left (Nat.lt_of_lt_of_le hj (pre_len hp))]
    · rw [setS_take (stepsOf_left ho), pair_step, mget_put]
      split <;> simp [hm]
  simp at hc
  obtain rfl : i = h.length := by omega
  simp -dsimp only [go_sem, ↓reduceIte, Nat.reduceEqDiff, Nat.reduceAdd, Nat.reduceMul, Nat.reduceSub, Nat.reduceLeDiff, Nat.reduceLT, h1, h5, h13, h14, h15]
  refine aloopP_of (fun n T H' => ∃ i m, n = l.length - i ∧ i ≤ l.length ∧ T 5 = .map (some H.length) ∧ T 26 = .slice b l.length d ∧ T 27 = .int .i64 l.length ∧ T 28 = .int .i64 i ∧ H <+: H' ∧ DictAt H' H.length Pair.val intV m ∧ m.length ≤ h.length + i ∧ (∀ p : Pair, (mget m p).isSome = setS ((stepsOf h l).take (h.length + i)) p.ord)) (n := l.length) ?_ ?_
  · refine ⟨0, m, ?_⟩
    simp -dsimp only [go_sem, ↓reduceIte, Nat.reduceEqDiff, Nat.reduceAdd, Nat.reduceMul, Nat.reduceSub, Nat.reduceLeDiff, Nat.reduceLT, h1, h5, h13, h14, h15]
    exact ⟨by omega, by omega, rfl, hp, hd, hml, hm⟩
  clear h1 h5 h13 h14 h15 hp hd hml hm hc
  rintro n T H' ⟨i, m, rfl, hi, h5, h26, h27, h28, hp, hd, hml, hm⟩
  simp -dsimp only [go_sem, ↓reduceIte, Nat.reduceEqDiff, Nat.reduceAdd, Nat.reduceMul, Nat.reduceSub, Nat.reduceLeDiff, Nat.reduceLT, h5, h26, h27, h28]
  refine acondP_of (fun hc => ?_) (fun hc => ?_)
  · simp at hc
    obtain ⟨o, ho⟩ := get_ex hc
    obtain ⟨id, off, rfl, hat⟩ := (hl.pre hp).at (by omega)
    have pE : H' <+: H' ++ [AObj.row o.cells 7 true] := List.prefix_append _ _
    obtain ⟨o1, e1, hd1⟩ := (hd.pre pE).put (t := 51) pairLaw mt51 ⟨o.seg, o.node⟩ 1
    have hidl := hd.lt
    have hbox : ((H' ++ [AObj.row o.cells 7 true]).set H.length o1)[H'.length]? = some (AObj.row o.cells 7 true) := by
      rw [List.getElem?_set_ne (by omega)]; simp
    have pK : H <+: (H' ++ [AObj.row o.cells 7 true]).set H.length o1 := by
      refine pre_of_keep hp (by simp) fun j hj => ?_
      rw [List.getElem?_set_ne (by omega), List.getElem?_append_left (Nat.lt_of_lt_of_le hj (pre_len hp))]
    have hst : (stepsOf h l)[h.length + i]? = some (clr o, o.drop) := stepsOf_right (by omega) (by rw [Nat.add_sub_cancel_left]; exact ho)
    have w1 := wrS (show i < 4611686018427387904 by omega)
    simp -dsimp only [go_sem, ↓reduceIte, Nat.reduceEqDiff, Nat.reduceAdd, Nat.reduceMul, Nat.reduceSub, Nat.reduceLeDiff, Nat.reduceLT, h5, h26, h27, h28, inRange hc, rowLoad_whole (hat i o ho), e1, hbox]
    refine acondP_of (fun hdr => ?_) (fun hdr => ?_)
    · obtain ⟨o2, e2, hd2⟩ := hd1.delete (t := 51) pairLaw mt51 ⟨o.seg, o.node⟩
      simp -dsimp only [go_sem, ↓reduceIte, Nat.reduceEqDiff, Nat.reduceAdd, Nat.reduceMul, Nat.reduceSub, Nat.reduceLeDiff, Nat.reduceLT, h5, h26, h27, h28, hbox, e2, w1]
      refine ⟨_, ?_, i + 1, mdel (mput m ⟨o.seg, o.node⟩ 1) ⟨o.seg, o.node⟩, rfl, hc, rfl, ?_, hd2, Nat.le_trans (Nat.le_trans (mdel_len _ _) (mput_len _ _ _)) (by omega), fun p => ?_⟩
      · omega
      · refine pre_of_keep pK (by simp) fun j hj => List.getElem?_set_ne (by omega)
      · obtain ⟨_, _, _, hh1⟩ := hd1
        rw [show h.length + (i + 1) = h.length + i + 1 by omega, setS_take hst, pair_step, mget_del hh1.keys, mget_put, hdr]
        split <;> simp [hm]
    · simp -dsimp only [go_sem, ↓reduceIte, Nat.reduceEqDiff, Nat.reduceAdd, Nat.reduceMul, Nat.reduceSub, Nat.reduceLeDiff, Nat.reduceLT, h5, h26, h27, h28, w1]
      refine ⟨_, ?_, i + 1, mput m ⟨o.seg, o.node⟩ 1, rfl, hc, rfl, pK, hd1, Nat.le_trans (mput_len _ _ _) (by omega), fun p => ?_⟩
      · omega
      · rw [show h.length + (i + 1) = h.length + i + 1 by omega, setS_take hst, pair_step, mget_put, hdr]
        split <;> simp [hm]
  simp at hc
  obtain rfl : i = l.length := by omega
  rw [List.take_of_length_le (by rw [stepsOf_len]; omega)] at hm
  obtain ⟨o3, e3, hr⟩ := hd.range (t := 51) un51
  have hmk := hr.map
  simp -dsimp only [go_sem, ↓reduceIte, Nat.reduceEqDiff, Nat.reduceAdd, Nat.reduceMul, Nat.reduceSub, Nat.reduceLeDiff, Nat.reduceLT, h5, h26, h27, h28, e3]
  have pR : H <+: H' ++ [o3] := hp.trans (List.prefix_append _ _)
  have hidl := hd.lt
  clear h5 h26 h27 h28
  refine aloopP_of (fun n T H2 => ∃ left v out, n = left.length ∧ T 10 = v ∧ T 48 = .pointer (some ⟨H'.length, 0, none⟩) ∧ RangeAt H2 H'.length H.length Pair.val intV m left ∧ H <+: H2 ∧ OwnO (H'.length + 1) H2 v out ∧ (out ++ left.map fun p => p.1.ord).Perm (m.map fun p => p.1.ord)) (n := m.length) ?_ ?_
  · refine ⟨m, .slice none 0 0, [], ?_⟩
    simp -dsimp only [go_sem, ↓reduceIte, Nat.reduceEqDiff, Nat.reduceAdd, Nat.reduceMul, Nat.reduceSub, Nat.reduceLeDiff, Nat.reduceLT]
    exact ⟨hr, pR, Own.nil _ _ _ _, by simp⟩
  rintro n T H2 ⟨left, v, out, rfl, h10, h48, hr, hp2, ho, hperm⟩
  have hr2 := hr
  simp -dsimp only [go_sem, ↓reduceIte, Nat.reduceEqDiff, Nat.reduceAdd, Nat.reduceMul, Nat.reduceSub, Nat.reduceLeDiff, Nat.reduceLT, h10, h48]
  refine hr.next2 ?_ ?_
  · rintro rfl
    simp at hperm
    obtain ⟨a', c', rfl, -⟩ := ho.sl (fun _ => rfl)
    simp -dsimp only [go_sem, ↓reduceIte, Nat.reduceEqDiff, Nat.reduceAdd, Nat.reduceMul, Nat.reduceSub, Nat.reduceLeDiff, Nat.reduceLT, h10, h48]
    have hol : out.length ≤ h.length + l.length := by have := hperm.length_eq; simp at this; omega
    refine SoundP_of (sortOrders ho (by omega)) ?_
    rintro _ H3 ⟨rfl, out2, perm2, sort2, own2, len2, keep2⟩
    simp -dsimp only [go_sem, ↓reduceIte, Nat.reduceEqDiff, Nat.reduceAdd, Nat.reduceMul, Nat.reduceSub, Nat.reduceLeDiff, Nat.reduceLT, h10, h48]
    have hp3 := perm2.trans hperm
    have hnd : out2.Nodup := by
      rw [hp3.nodup_iff]
      obtain ⟨_, _, _, hh1⟩ := hmk
      have := hh1.keys
      rw [show (m.map fun p => p.1.ord) = (mkeys m).map Pair.ord by simp [mkeys]]
      refine List.pairwise_map.2 (List.Pairwise.imp (fun {x y} hxy q => hxy ?_) this)
      cases x; cases y; simpa [Pair.ord] using q
    have hdrop : ∀ o ∈ out2, o.drop = false := fun o ho => by
      obtain ⟨p, _, rfl⟩ := List.mem_map.1 (hp3.mem_iff.1 ho); rfl
    have hsorted : OrdL out2 := by
      have : out2.Pairwise fun x y => leO x y ∧ x ≠ y := List.Pairwise.and sort2 hnd
      show List.Pairwise _ out2
      rw [List.pairwise_iff_forall_sublist] at this ⊢
      intro x y hxy
      have hx := hxy.subset (List.mem_cons_self ..)
      have hy := hxy.subset (List.mem_cons_of_mem _ (List.mem_cons_self ..))
      exact leO_lt (hdrop x hx) (hdrop y hy) (this hxy).1 (this hxy).2
    have hmem : ∀ y, y ∈ out2 ↔ applyS h l y = true := fun y => by
      rw [hp3.mem_iff, List.mem_map]
      constructor
      · rintro ⟨⟨p, n⟩, hpm, rfl⟩
        have : (mget m p).isSome = true := by
          obtain ⟨_, _, _, hh1⟩ := hmk
          rw [mget_of_mem hh1.keys hpm]; rfl
        rw [hm] at this; exact this
      · intro hy
        have hyd := setS_drop hy
        have e : y = (⟨y.seg, y.node⟩ : Pair).ord := by cases y; simp [Pair.ord]; exact hyd
        have : (mget m ⟨y.seg, y.node⟩).isSome = true := by rw [hm, ← e]; exact hy
        obtain ⟨n, hn⟩ := Option.isSome_iff_exists.1 this
        exact ⟨_, mget_mem hn, e.symm⟩
    rw [← applyL_uniq hsorted hmem]
    refine ⟨own2.mono (by have := pre_len hp; omega), ?_⟩
    exact pre_of_keep hp2 (by omega) fun j hj => keep2 j fun q => by have := (ho.owner_ge q).1; have := pre_len hp; omega
  · rintro L1 k v2 L2 o rfl hr3 hen
    have hlen := hperm.length_eq
    simp at hlen
    have hge : ∀ j, owner v = some j → H'.length + 1 ≤ j := fun j q => (ho.owner_ge q).1
    have ho1 : OwnO (H'.length + 1) (H2.set H'.length o) v out := ho.keep fun id hid => List.getElem?_set_ne (by have := hge id hid; omega)
    have hl2 : H'.length < (H2.set H'.length o).length := by
      obtain ⟨_, _, _, _, _, q, _⟩ := hr3; exact get_lt q
    have pE : H2.set H'.length o <+: (H2.set H'.length o) ++ [AObj.row [.int .i64 k.seg.f, .int .i64 k.seg.t, .int .i64 k.seg.v, .int .i64 k.seg.p, .int .i64 k.seg.c, .int .i64 k.node] 6 true] := List.prefix_append _ _
    obtain ⟨a2, c2, H3, e, ho3, hle, hk, hmine⟩ := appOb (b := H'.length + 1) (by simp only [List.length_append]; simp at hl2 ⊢; omega) (ho1.pre pE) k.ord (by omega)
    simp only [List.append_assoc, List.cons_append, List.nil_append, List.length_append, List.length_cons, List.length_nil, Pair.ord, Order.cells] at e
    simp -dsimp only [go_sem, ↓reduceIte, Nat.reduceEqDiff, Nat.reduceAdd, Nat.reduceMul, Nat.reduceSub, Nat.reduceLeDiff, Nat.reduceLT, h10, h48, hen.get, e]
    refine ⟨L1.length + L2.length, by simp, L1 ++ L2, _, out ++ [k.ord], by simp, rfl, ?_, ?_, ho3, ?_⟩
    · refine (hr3.pre pE).keep ?_ ?_
      · exact hk _ (by simp at hl2 ⊢; omega) fun q => by have := hge _ q; omega
      · exact hk _ (by simp at hl2 ⊢; omega) fun q => by have := hge _ q; omega
    · refine pre_of_keep hp2 (by simp at hle ⊢; omega) fun j hj => ?_
      have := pre_len hp
      rw [hk j (by simp at hl2 ⊢; have := pre_len hp2; omega) (fun q => by have := hge j q; omega), List.getElem?_append_left (by simp; have := pre_len hp2; omega), List.getElem?_set_ne (by omega)]
    · refine List.Perm.trans ?_ hperm
      simp only [List.map_append, List.map_cons, List.append_assoc]
      refine List.Perm.append_left _ ?_
      simp only [List.cons_append, List.nil_append]
      exact List.perm_middle.symm
theorem rApply (h l : List Order) (a b : Option Addr) (c d : Nat) (H : AHeap) (hh : OrdersAt H a h) (hl : OrdersAt H b l) (hhl : h.length < 450) (hll : l.length < 450) :
    Sound Try.prog 16 [.slice a h.length c, .slice b l.length d] H fun v H' => OwnO H.length H' v (applyL h l) ∧ H <+: H' := rApply2 h l a b c d H hh hl (by omega)
end Go.Proofs.Ytangfnommhmpeaa
