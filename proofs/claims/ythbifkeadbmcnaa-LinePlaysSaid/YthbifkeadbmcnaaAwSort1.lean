/-
  AW: slices.SortFunc of elements of one cell (pointers, numbers), by the shelf's contract.
-/
import Derived.Test.YthbifkeadbmcnaaAwSort
import Derived.Shelf.SlSortCmp.Whole1
set_option linter.unusedVariables false
set_option linter.unusedSimpArgs false
namespace Go.AW
open Go Go.Proofs
variable {P : Program}

/-- slices.SortFunc of elements of one cell -/
theorem sortFunc_one {R : Shelf.Ren} (L : SlLaysF.n6 P R) (L0 : SlLaysF0.n6 P R) {α : Type} {enc : α → Value} {l : List α} (h1 : ∀ x ∈ l, simple (enc x) = true) (cf : α → α → Int) (hO : CmpOn cf l) (g : FuncId) (cb : Array Value) {b : Nat} {H : AHeap} {v : Value}
    (hown : Own b H (fun x => [enc x]) 1 v l) (hlen : l.length < 4611686018427387904)
    (hcf : ∀ H' x y, x ∈ l → y ∈ l → Seen (owner v) H H' → H'.length = H.length → Sound P g ([enc x, enc y] ++ cb.toList) H' fun r _ => r = .int .i64 (cf x y)) :
    Sound P (R.f 6) [v, .func (.func g) #[] cb] H fun r H' => r = .tuple #[] ∧ ∃ l', l'.Perm l ∧ l'.Pairwise (fun x y => ¬ cf y x < 0) ∧ Own b H' (fun x => [enc x]) 1 v l' ∧ H'.length = H.length ∧ ∀ j, owner v ≠ some j → H'[j]? = H[j]? := by
  refine ⟨L0.f6.enters rfl, fun ρ F w args' hR hv => ?_⟩
  obtain ⟨v', as2, rfl, hv1, hv⟩ := hv.inv
  obtain ⟨f', as3, rfl, hf1, hv⟩ := hv.inv
  obtain rfl : as3 = [] := List.eq_nil_of_length_eq_zero hv.1.symm
  obtain ⟨as', cb', rfl, hfa, hcb⟩ := hf1.func_inv
  obtain rfl : as' = #[] := by have := hfa.1; simp only [Array.length_toList, List.size_toArray, List.length_nil] at this; exact Array.eq_empty_of_size_eq_zero this.symm
  by_cases hl : l = []
  · subst hl
    have hz : ∃ p c, v' = .slice p 0 c := by
      rcases hown with ⟨_, rfl | rfl⟩ | ⟨id, rest, c, _, rfl, _, _⟩
      · cases hv1; exact ⟨_, _, rfl⟩
      · unfold AW.emp at hv1
        cases hv1 <;> exact ⟨_, _, rfl⟩
      · cases hv1 <;> exact ⟨_, _, rfl⟩
    obtain ⟨p, c, rfl⟩ := hz
    refine (AnyF.slices_SortFunc_none L0 p c _ w).mono ?_
    rintro e w' ⟨rfl, rfl⟩
    exact ⟨.tuple #[], .tuple #[], H, ρ, rfl, ⟨rfl, [], .refl _, .nil, hown, rfl, fun _ _ => rfl⟩, hR, Ext.refl _ _, Nat.le_refl _, VR.undef _⟩
  · obtain ⟨inh⟩ := attach_inhabited hl
    haveI : Inhabited {x // x ∈ l} := ⟨inh⟩
    rcases hown with ⟨rfl, _⟩ | ⟨id, rest, c, hb, rfl, hrow, hcap⟩
    · exact absurd rfl hl
    have hpos : 0 < l.length := by cases l with | nil => exact absurd rfl hl | cons => simp
    obtain ⟨lc, c', hid, rfl, _⟩ := slice_inv hv1 rfl hpos
    simp only at hid
    obtain ⟨r1, r2, r3, r4, r5⟩ := sort_row (k := 1) (enc := fun x => [enc x]) (fun _ => rfl) (fun x hx => by simp [h1 x hx]) hR hid hrow
    have ow : owner (.slice (some ⟨id, 0, none⟩) l.length c) = some id := rfl
    rw [ow] at hcf
    have fl : ∀ m : List α, (m.flatMap fun x => [enc x]).map (conc ρ) = m.map fun x => conc ρ (enc x) := fun m => by
      induction m with
      | nil => rfl
      | cons x m ih => rw [List.flatMap_cons, List.map_append, ih]; rfl
    have hvr : ∀ x ∈ l, VR ρ (enc x) (conc ρ (enc x)) := fun x hx => r1 _ (List.mem_flatMap.2 ⟨x, hx, by simp⟩)
    have pr : ∀ (W : World) (m : Array {x // x ∈ l}) (o : Nat), Sort.putRow (fun x : {x // x ∈ l} => conc ρ (enc x.1)) W lc.blk o m = Sort.putRow (_root_.id : Value → Value) W lc.blk o (m.map fun x : {x // x ∈ l} => conc ρ (enc x.1)) := fun W m o => by
      unfold Sort.putRow
      refine Sort.mapBlock_congr _ _ _ _ fun cs _ _ _ => ?_
      unfold Sort.putCells
      apply Array.ext_getElem?
      intro i
      simp only [Array.getElem?_mapIdx, Array.size_map]
      congr 1
      funext u
      split
      · rename_i q
        have : i - o < m.size := by omega
        simp [this]
      · rfl
    have main := Any.slices_SortFunc L (fun x : {x // x ∈ l} => conc ρ (enc x.1))
      (fun x => simple_one (h1 x.1 x.2))
      (fun x y => cf x.1 y.1)
      ⟨fun x => by simpa [ltOf] using hO.irrefl x.1 x.2, fun x y z a b => by
          simp only [ltOf, decide_eq_true_eq] at *; exact hO.trans _ x.2 _ y.2 _ z.2 a b, fun x y z a b => by
          simp only [ltOf, decide_eq_false_iff_not] at *; exact hO.ntrans _ x.2 _ y.2 _ z.2 a b⟩
      g cb' lc.blk (lc.base + 0) c' l.attach.toArray w
      (hcf _ inh.1 inh.1 inh.2 inh.2 (seen_dem _ H) (dem_len _ _)).1
      (fun m os dk hdk x y => by
        have hW := Rel.dem (W := sortWorld (fun x : {x // x ∈ l} => conc ρ (enc x.1)) w lc.blk (lc.base + 0) m dk os) hR (some id) (fun i l2 cs k2 own hi hl2 hHi => by
          have hne := r4 i l2 cs k2 own (fun q => hi (by rw [q])) hl2 hHi
          obtain ⟨arr, e, fz, a1, _⟩ := hR.obj i l2 _ hl2 hHi
          have hlt : l2.blk < w.heap.size := by
            rcases Nat.lt_or_ge l2.blk w.heap.size with h | h
            · exact h
            · simp [Array.getElem?_eq_none h] at a1
          simp only [sortWorld, Sort.putRow, Sort.mapBlock, Sort.grow, Sort.ahead]
          rw [Array.getElem?_append_left (by simpa using hlt), Array.getElem?_modify, if_neg (Ne.symm hne)])
        have hs := (hcf (dem (some id) H) x.1 y.1 x.2 y.2 (seen_dem _ H) (dem_len _ _)).2 ρ _ _ ([conc ρ (enc x.1), conc ρ (enc y.1)] ++ cb'.toList) hW
          (VRs.app (VRs.cons (hvr x.1 x.2) (VRs.cons (hvr y.1 y.2) VRs.nil)) hcb)
        have e1 : ([conc ρ (enc x.1), conc ρ (enc y.1)] ++ cb'.toList).toArray = #[conc ρ (enc x.1), conc ρ (enc y.1)] ++ cb' := by
          apply Array.toList_inj.1; simp
        rw [e1] at hs
        refine hs.mono ?_
        rintro e w' ⟨r, r', H', ρ', rfl, rfl, hR', _, _, hr⟩
        cases hr
        exact ⟨rfl, full_grow hR'.frm⟩)
      (fun j hj => by
        have h := r2 (l.map fun x => conc ρ (enc x)).toArray (by rw [fl]) j (by simpa using hj)
        have hj' : j < l.length := by simpa using hj
        simp [hj'] at h ⊢
        exact h)
      r3 (by simpa using hlen)
    have es : l.attach.toArray.size = l.length := by simp
    rw [es] at main
    refine main.mono ?_
    rintro e w' ⟨rfl, d', n, os, hp, hs, rfl⟩
    have hd : d'.toList.Perm l.attach := by
      obtain ⟨q1, q2, q3⟩ := hp
      rw [es] at q1
      have w1 := Array.extract_size (xs := d')
      have w2 := Array.extract_size (xs := l.attach.toArray)
      rw [q1] at w1
      rw [es] at w2
      rw [w1, w2] at q3
      simpa using q3
    have hds : d'.size = l.length := by have := hd.length_eq; simpa using this
    have hperm : (d'.toList.map Subtype.val).Perm l := by
      have := hd.map Subtype.val
      rwa [List.attach_map_subtype_val] at this
    have hw : sortWorld (fun x : {x // x ∈ l} => conc ρ (enc x.1)) w lc.blk (lc.base + 0) n d' os = Sort.grow (Sort.putRow (_root_.id : Value → Value) (Sort.ahead w n) lc.blk (lc.base + 0) (d'.map fun x : {x // x ∈ l} => conc ρ (enc x.1))) os := by
      unfold sortWorld
      rw [pr]
    rw [hw]
    refine ⟨.tuple #[], .tuple #[], _, ρ, rfl, ⟨rfl, d'.toList.map Subtype.val, hperm, ?_, .inr ⟨id, rest, c, hb, by rw [hperm.length_eq], List.getElem?_set_self (get_lt hrow), ?_⟩, by simp, fun j hj => ?_⟩, r5 _ hperm _ (by rw [fl, Array.toList_map, List.map_map]; rfl) n os, Ext.refl _ _, by simp, VR.undef _⟩
    · rw [List.pairwise_map, List.pairwise_iff_getElem]
      intro i j hi hj hij
      have hj' : j < d'.size := by simpa using hj
      have := hs i j (Nat.zero_le _) hij (by omega)
      rw [getElem!_pos d' j hj', getElem!_pos d' i (by omega)] at this
      simpa [ltOf] using this
    · rcases hcap with h | ⟨h, h2⟩
      · exact .inl h
      · refine .inr ⟨h, ?_⟩
        rw [h2]; simp only [List.length_append]
        rw [flat_len (k := 1) (fun _ => rfl), flat_len (k := 1) (fun _ => rfl), hperm.length_eq]
    · rw [List.getElem?_set_ne]; intro q; rw [q] at hj; exact hj rfl
end Go.AW
