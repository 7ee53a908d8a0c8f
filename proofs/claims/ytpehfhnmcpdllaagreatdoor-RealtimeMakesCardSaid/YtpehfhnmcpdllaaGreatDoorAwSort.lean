/-
  AW, part 30: slices.SortFunc and slices.Sort, by the shelf's contracts, as contracts of the calculus.
-/
import Derived.Test.YtpehfhnmcpdllaaGreatDoorAwMap
import Derived.Shelf.SlSortCmp.WholeK
import Derived.Shelf.SlSortCmp.NoneTotal
import Derived.Shelf.SortM.Plain
import Derived.Shelf.SortM.SortNone
set_option linter.unusedVariables false
set_option linter.unusedSimpArgs false
namespace Go.AW
open Go Go.Proofs
variable {P : Program}

/-! ### a frame that keeps all -/
def full (w : World) : Frm := ⟨fun b => w.heap[b]?, w.tape, w.os, w.output, w.drawn, w.heap.size⟩
theorem full_ok (w : World) : (full w).ok w := ⟨fun _ _ h => h, rfl, rfl, rfl, Nat.le_refl _, Nat.le_refl _⟩
theorem full_grow {w w' : World} (h : (full w).ok w') : ∃ q os, w' = Sort.grow (w.drewN q) os := by
  refine ⟨w'.drawn - w.drawn, w'.heap.extract w.heap.size w'.heap.size, ?_⟩
  have hs := h.size
  have hd := h.drawn
  have h1 := h.tape
  have h2 := h.os
  have h3 := h.output
  have h4 := h.heap
  simp only [full] at hs hd h1 h2 h3 h4
  have hh : w'.heap = w.heap ++ w'.heap.extract w.heap.size w'.heap.size := by
    apply Array.ext_getElem?
    intro i
    by_cases hi : i < w.heap.size
    · rw [Array.getElem?_append_left hi]
      exact h4 i _ (Array.getElem?_eq_getElem hi) |>.trans (Array.getElem?_eq_getElem hi).symm
    · rw [Array.getElem?_append_right (by omega), Array.getElem?_extract]
      by_cases hi2 : i < w'.heap.size
      · rw [if_pos (by omega)]; congr 1; omega
      · rw [if_neg (by omega), Array.getElem?_eq_none (by omega)]
  obtain ⟨heap, tape, drawn, os, output⟩ := w'
  obtain ⟨heap0, tape0, drawn0, os0, output0⟩ := w
  simp only at hs hd h1 h2 h3 hh
  simp only [Sort.grow, World.drewN, World.mk.injEq]
  exact ⟨hh, h1, by omega, h2, h3⟩

/-- what can be read of a heap that may not be written, but for one object -/
def dem (skip : Option Nat) (H : AHeap) : AHeap := H.mapIdx fun i o => if skip = some i then .gone else match o with | .row cs k _ => .row cs k false | _ => .gone
theorem dem_len (skip : Option Nat) (H : AHeap) : (dem skip H).length = H.length := by simp [dem]
def Seen (skip : Option Nat) (H H' : AHeap) : Prop := ∀ j cs k own, skip ≠ some j → H[j]? = some (.row cs k own) → ∃ own', H'[j]? = some (.row cs k own')
theorem seen_dem (skip : Option Nat) (H : AHeap) : Seen skip H (dem skip H) := fun j cs k own hs h => ⟨false, by simp [dem, h, hs]⟩

theorem Seen.aload {skip : Option Nat} {H H' : AHeap} (h : Seen skip H H') {a : Addr} {n : Nat} {cs : List Value} (hs : skip ≠ some a.block) (hl : aload H a n = some cs) : aload H' a n = some cs := by
  rw [aload_iff] at hl ⊢
  obtain ⟨h1, row, k, own, h2, h3⟩ := hl
  obtain ⟨own', h4⟩ := h _ _ _ _ hs h2
  exact ⟨h1, row, k, own', h4, h3⟩

theorem Rel.dem {ρ : Ren} {H : AHeap} {F : Frm} {w W : World} (h : Rel ρ H F w) (skip : Option Nat) (hW : ∀ i l cs k own, skip ≠ some i → ρ i = some l → H[i]? = some (.row cs k own) → W.heap[l.blk]? = w.heap[l.blk]?) :
    Rel ρ (dem skip H) (full W) W := by
  have key : ∀ (i : Nat) o, (AW.dem skip H)[i]? = some o → o = .gone ∨ ∃ cs k own, o = .row cs k false ∧ skip ≠ some i ∧ H[i]? = some (.row cs k own) := by
    intro i o ho
    simp only [AW.dem, List.getElem?_mapIdx, Option.map_eq_some_iff] at ho
    obtain ⟨p, hp, rfl⟩ := ho
    by_cases hs : skip = some i
    · rw [if_pos hs]; exact .inl rfl
    · rw [if_neg hs]
      cases p with
      | row cs k own => exact .inr ⟨cs, k, own, rfl, hs, hp⟩
      | _ => exact .inl rfl
  refine ⟨fun i l hl => by rw [dem_len]; exact h.dom i l hl, full_ok W, fun i l o hl ho => ?_, fun i j l m o p hl hm ho hp hij h1 h2 => ?_⟩
  · rcases key i o ho with rfl | ⟨cs, k, own, rfl, hs, hi⟩
    · trivial
    · obtain ⟨arr, e, fz, a1, a2, a3, _⟩ := h.obj i l _ hl hi
      have := hW i l cs k own hs hl hi
      exact ⟨arr, e, fz, by rw [this]; exact a1, a2, a3, fun q => Bool.noConfusion q, fun _ => by simp only [full]; rw [this, a1]; rfl⟩
  · rcases key i o ho with rfl | ⟨cs, k, own, rfl, _⟩ <;> simp [isOwn] at h1

abbrev encInt (n : Int) : List Value := [.int .i64 n]

/-! ### values that a renaming settles -/
def conc (ρ : Ren) (v : Value) : Value :=
  match v with
  | .pointer (some ⟨id, off, none⟩) => match ρ id with | some l => .pointer (some ⟨l.blk, l.base + off, none⟩) | none => v
  | v => v
def simple : Value → Bool
  | .bool _ | .int _ _ | .string _ | .float _ _ | .pointer none | .pointer (some ⟨_, _, none⟩) => true
  | _ => false
theorem conc_of {ρ : Ren} {v v' : Value} (h : VR ρ v v') (hs : simple v = true) : v' = conc ρ v := by
  cases h with
  | ptr hl => simp [conc, hl]
  | bool b => rfl
  | int k n => rfl
  | float k b => rfl
  | string s => rfl
  | ptrNil => rfl
  | _ => simp [simple, AW.emp] at hs
theorem simple_one {ρ : Ren} {v : Value} (hs : simple v = true) : (conc ρ v).oneCell' = true := by
  unfold conc
  split
  · split <;> rfl
  · cases v <;> first | rfl | simp [simple] at hs
theorem simple_agg {ρ : Ren} {l : List Value} (h : ∀ v ∈ l, VR ρ v (conc ρ v)) : VRs ρ l (l.map (conc ρ)) :=
  ⟨by simp, fun i u u' hu hu' => by
    rw [List.getElem?_map, hu] at hu'
    simp only [Option.map_some, Option.some.injEq] at hu'
    subst hu'
    exact h u (List.mem_of_getElem? hu)⟩

/-! ### a row's cells, one behind the other -/
theorem flat_get {β : Type} {f : β → List Value} {k : Nat} (hk : ∀ x, (f x).length = k) (h0 : 0 < k) : ∀ (l : List β) (t : Nat), (l.flatMap f)[t]? = (l[t / k]?).bind fun x => (f x)[t % k]?
  | [], t => by simp
  | x :: l, t => by
    rw [List.flatMap_cons]
    by_cases ht : t < k
    · rw [List.getElem?_append_left (by rw [hk]; exact ht), Nat.div_eq_of_lt ht, Nat.mod_eq_of_lt ht]; simp
    · rw [List.getElem?_append_right (by rw [hk]; omega), hk, flat_get hk h0 l (t - k)]
      have e1 : t / k = (t - k) / k + 1 := by rw [Nat.div_eq_sub_div h0 (by omega)]
      have e2 : t % k = (t - k) % k := Nat.mod_eq_sub_mod (by omega)
      rw [e1, e2]; simp
theorem flatK_list {β : Type} [Inhabited β] {f : β → List Value} {k : Nat} (hk : ∀ x, (f x).length = k) (h0 : 0 < k) (d : Array β) : (Sort.flatK f k d).toList = d.toList.flatMap f := by
  apply List.ext_getElem?
  intro t
  rw [flat_get hk h0]
  by_cases ht : t < d.size * k
  · have hd : t / k < d.size := Nat.div_lt_of_lt_mul (by rwa [Nat.mul_comm] at ht)
    have hm : t % k < (f d[t / k]).length := by rw [hk]; exact Nat.mod_lt _ h0
    have hg := Sort.get_flatK f k d t ht
    rw [getElem!_pos (Sort.flatK f k d) t (by simpa using ht), getElem!_pos d (t / k) hd, getElem!_pos (f d[t / k]) (t % k) hm] at hg
    rw [Array.getElem?_toList, Array.getElem?_eq_getElem (by simpa using ht), hg, Array.getElem?_toList, Array.getElem?_eq_getElem hd, Option.bind_some, List.getElem?_eq_getElem hm]
  · rw [Array.getElem?_toList, Array.getElem?_eq_none (by simp; omega), Array.getElem?_toList, Array.getElem?_eq_none]
    · rfl
    · exact Nat.le_div_iff_mul_le h0 |>.2 (by omega)
theorem attach_flat {β : Type} (l : List β) (f : β → List Value) : (l.attach.flatMap fun x => f x.1) = l.flatMap f := by
  have := List.flatMap_map Subtype.val f (l := l.attach)
  rw [List.attach_map_subtype_val] at this
  rw [this]

theorem Rel.grow {ρ : Ren} {H : AHeap} {F : Frm} {w : World} (h : Rel ρ H F w) (os : Array Obj) : Rel ρ H F (Sort.grow w os) := by
  have old : ∀ {b : Nat} {o : Obj}, w.heap[b]? = some o → (Sort.grow w os).heap[b]? = some o := fun {b o} hb => by
    have : b < w.heap.size := by
      rcases Nat.lt_or_ge b w.heap.size with h | h
      · exact h
      · simp [Array.getElem?_eq_none h] at hb
    simp only [Sort.grow]
    rw [Array.getElem?_append_left this]; exact hb
  refine ⟨h.dom, ⟨fun b o hb => old (h.frm.heap b o hb), h.frm.tape, h.frm.os, h.frm.output, h.frm.drawn, ?_⟩, fun i l o hl ho => ?_, h.sep⟩
  · have := h.frm.size; simp only [Sort.grow, Array.size_append]; omega
  · have hob := h.obj i l o hl ho
    cases o with
    | row cs k own => obtain ⟨arr, e, fz, a1, a2⟩ := hob; exact ⟨arr, e, fz, old a1, a2⟩
    | map es ck => obtain ⟨a1, a2, es', a3, a4⟩ := hob; exact ⟨a1, a2, es', old a3, a4⟩
    | mapIter m s sn la =>
      obtain ⟨a1, a2, a3⟩ := hob
      refine ⟨a1, a2, ?_⟩
      cases m with
      | none => exact old a3
      | some id => obtain ⟨lm, b1, b2⟩ := a3; exact ⟨lm, b1, old b2⟩
    | strIter s p => exact ⟨hob.1, hob.2.1, old hob.2.2⟩
    | gone => trivial
    | rowx cs k ext => obtain ⟨arr, e, fz, a1, a2⟩ := hob; exact ⟨arr, e, fz, old a1, a2⟩

/-- all that a sort wants to know of a row of our own, and what it leaves -/
theorem sort_row {α : Type} {enc : α → List Value} {k : Nat} (hk : ∀ x, (enc x).length = k) {l : List α} (h1 : ∀ x ∈ l, (enc x).all simple = true)
    {ρ : Ren} {H : AHeap} {F : Frm} {w : World} (hR : Rel ρ H F w) {id : Nat} {lc : Loc} {rest : List Value} (hid : ρ id = some lc) (hH : H[id]? = some (.row (l.flatMap enc ++ rest) k true)) :
    (∀ v ∈ l.flatMap enc, VR ρ v (conc ρ v)) ∧
    (∀ (F2 : Array Value), F2.toList = (l.flatMap enc).map (conc ρ) → Sort.Holds (_root_.id : Value → Value) w lc.blk (lc.base + 0) F2) ∧ lc.blk < w.heap.size ∧
    (∀ i l2 cs k2 own, i ≠ id → ρ i = some l2 → H[i]? = some (.row cs k2 own) → l2.blk ≠ lc.blk) ∧
    (∀ (l' : List α), l'.Perm l → ∀ (F2 : Array Value), F2.toList = (l'.flatMap enc).map (conc ρ) → ∀ n os, Rel ρ (H.set id (.row (l'.flatMap enc ++ rest) k true)) F (Sort.grow (Sort.putRow (_root_.id : Value → Value) (Sort.ahead w n) lc.blk (lc.base + 0) F2) os)) := by
  obtain ⟨arr, e, fz, a1, a2, a3, a4, -⟩ := hR.obj id lc _ hid hH
  obtain ⟨b1, b2, b3, b4, b5⟩ := a4 rfl
  have hsz : (l.flatMap enc).length + rest.length + lc.base ≤ arr.size := by simpa [Nat.add_comm, Nat.add_left_comm] using a2
  have hcell : ∀ i v, (l.flatMap enc)[i]? = some v → arr[lc.base + i]? = some (conc ρ v) ∧ VR ρ v (conc ρ v) := by
    intro i v hv
    have hi : i < (l.flatMap enc).length := by
      rcases Nat.lt_or_ge i (l.flatMap enc).length with h | h
      · exact h
      · simp [List.getElem?_eq_none h] at hv
    have hlt : lc.base + i < arr.size := by omega
    have hvr := a3 i v _ (by rw [List.getElem?_append_left hi]; exact hv) (Array.getElem?_eq_getElem hlt)
    have hs : simple v = true := by
      obtain ⟨x, hx, hxv⟩ := List.mem_flatMap.1 (List.mem_of_getElem? hv)
      exact List.all_eq_true.1 (h1 x hx) v hxv
    have := conc_of hvr hs
    rw [this] at hvr
    exact ⟨by rw [Array.getElem?_eq_getElem hlt, this], hvr⟩
  have hblk : lc.blk < w.heap.size := by
    rcases Nat.lt_or_ge lc.blk w.heap.size with h | h
    · exact h
    · simp [Array.getElem?_eq_none h] at a1
  refine ⟨fun v hv => ?_, fun F2 hF2 j hj => ?_, hblk, fun i l2 cs k2 own hi hl2 hHi => ?_, fun l' hp F2 hF2 n os => ?_⟩
  · obtain ⟨i, hi⟩ := List.getElem?_of_mem hv
    exact (hcell i v hi).2
  · have hj2 : j < (l.flatMap enc).length := by
      have := congrArg List.length hF2; simp only [Array.length_toList, List.length_map] at this; omega
    have hv := List.getElem?_eq_getElem hj2
    have := (hcell j _ hv).1
    refine ⟨?_, ?_⟩
    · rw [cell?_of a1, Nat.add_zero, this, getElem!_pos F2 j hj]
      have h2 : F2[j]? = some (conc ρ (l.flatMap enc)[j]) := by rw [← Array.getElem?_toList, hF2, List.getElem?_map, hv]; rfl
      rw [Array.getElem?_eq_getElem hj] at h2
      simpa using h2.symm
    · have := b3 (lc.base + j) (by omega)
      simp only [World.frozen?, a1, Nat.add_zero]
      simpa using this
  · cases own with
    | true => exact hR.sep i id l2 lc _ _ hl2 hid hHi hH hi rfl rfl
    | false =>
      obtain ⟨_, _, _, _, _, _, _, c5⟩ := hR.obj i l2 _ hl2 hHi
      intro q
      have := c5 rfl
      rw [q, b5] at this
      simp at this
  · have hl : (l'.flatMap enc).length = (l.flatMap enc).length := by rw [flat_len hk, flat_len hk, hp.length_eq]
    have hF : F2.size = (l.flatMap enc).length := by
      have := congrArg List.length hF2; simpa [hl] using this
    have hmem : ∀ v, v ∈ l'.flatMap enc → VR ρ v (conc ρ v) := fun v hv => by
      obtain ⟨x, hx, hxv⟩ := List.mem_flatMap.1 hv
      have : v ∈ l.flatMap enc := List.mem_flatMap.2 ⟨x, hp.mem_iff.1 hx, hxv⟩
      obtain ⟨i, hi⟩ := List.getElem?_of_mem this
      exact (hcell i v hi).2
    have hnew : ObjAt ρ F.heap lc (some (.cells (Sort.putCells (_root_.id : Value → Value) (lc.base + 0) F2 arr) e fz)) (.row (l'.flatMap enc ++ rest) k true) := by
      refine ⟨_, e, fz, rfl, by simp only [Sort.putCells, Array.size_mapIdx]; simp only [List.length_append, hl]; omega, fun i v v' hv hv' => ?_, fun _ => ⟨b1, by simpa [Sort.putCells] using b2, fun i hi => b3 i (by simpa [Sort.putCells] using hi), b4, b5⟩, by simp⟩
      simp only [Sort.putCells, Array.getElem?_mapIdx, Option.map_eq_some_iff] at hv'
      obtain ⟨u, hu, hu2⟩ := hv'
      by_cases hi : i < (l'.flatMap enc).length
      · rw [List.getElem?_append_left hi] at hv
        rw [if_pos (by omega)] at hu2
        have h2 : F2[i]? = some (conc ρ v) := by rw [← Array.getElem?_toList, hF2, List.getElem?_map, hv]; rfl
        have hi2 : i < F2.size := by omega
        rw [show lc.base + i - (lc.base + 0) = i by omega, getElem!_pos F2 i hi2] at hu2
        rw [Array.getElem?_eq_getElem hi2] at h2
        simp only [Option.some.injEq] at h2
        rw [h2] at hu2
        simp only [_root_.id] at hu2
        subst hu2
        exact hmem v (List.mem_of_getElem? hv)
      · rw [List.getElem?_append_right (by omega), hl] at hv
        rw [if_neg (by omega)] at hu2
        subst hu2
        refine a3 i v u ?_ hu
        rw [List.getElem?_append_right (by omega)]
        exact hv
    have ht := hR.turn hid hH rfl hnew
    have hg := (ht.drew n).grow os
    have e2 : Sort.putRow (_root_.id : Value → Value) (Sort.ahead w n) lc.blk (lc.base + 0) F2 = { w with heap := w.heap.setIfInBounds lc.blk (.cells (Sort.putCells (_root_.id : Value → Value) (lc.base + 0) F2 arr) e fz), drawn := w.drawn + n } := by
      simp only [Sort.putRow, Sort.mapBlock, Sort.ahead, World.mk.injEq, and_true]
      apply Array.ext_getElem?
      intro i
      rw [Array.getElem?_modify]
      by_cases hi : lc.blk = i
      · subst hi
        rw [if_pos rfl, a1, Array.getElem?_setIfInBounds_self_of_lt hblk]; rfl
      · rw [if_neg hi, Array.getElem?_setIfInBounds_ne hi]
    rw [e2]
    exact hg

theorem attach_inhabited {α : Type} {l : List α} (h : l ≠ []) : Nonempty {x // x ∈ l} := by
  cases l with
  | nil => exact absurd rfl h
  | cons x l => exact ⟨⟨x, List.mem_cons_self ..⟩⟩

/-- what a comparison is to be on a list's elements -/
structure CmpOn {α : Type} (cf : α → α → Int) (l : List α) : Prop where
  irrefl : ∀ x ∈ l, ¬ cf x x < 0
  trans : ∀ x ∈ l, ∀ y ∈ l, ∀ z ∈ l, cf x y < 0 → cf y z < 0 → cf x z < 0
  ntrans : ∀ x ∈ l, ∀ y ∈ l, ∀ z ∈ l, ¬ cf x y < 0 → ¬ cf y z < 0 → ¬ cf x z < 0

/-- slices.SortFunc of structs -/
theorem sortFunc_struct {R : Shelf.Ren} (L : SlLaysF0.n6 P R) {k : Nat} (aE : aggT P (R.t 24) = some true) (zE : szT P (R.t 24) = some k) (h0 : 0 < k) {α : Type} {enc : α → List Value} (hk : ∀ x, (enc x).length = k) {l : List α}
    (h1 : ∀ x ∈ l, (enc x).all simple = true) (cf : α → α → Int) (hO : CmpOn cf l) (g : FuncId) (cb : Array Value) {b : Nat} {H : AHeap} {v : Value} (hown : Own b H enc k v l) (hlen : l.length < 4611686018427387904)
    (hcf : ∀ H' x y, x ∈ l → y ∈ l → Seen (owner v) H H' → H'.length = H.length → Sound P g ([.agg (enc x).toArray, .agg (enc y).toArray] ++ cb.toList) H' fun r _ => r = .int .i64 (cf x y)) :
    Sound P (R.f 6) [v, .func (.func g) #[] cb] H fun r H' => r = .tuple #[] ∧ ∃ l', l'.Perm l ∧ l'.Pairwise (fun x y => ¬ cf y x < 0) ∧ Own b H' enc k v l' ∧ H'.length = H.length ∧ ∀ j, owner v ≠ some j → H'[j]? = H[j]? := by
  refine ⟨L.f6.enters rfl, fun ρ F w args' hR hv => ?_⟩
  obtain ⟨v', as2, rfl, hv1, hv⟩ := hv.inv
  obtain ⟨f', as3, rfl, hf1, hv⟩ := hv.inv
  obtain rfl : as3 = [] := List.eq_nil_of_length_eq_zero hv.1.symm
  obtain ⟨as', cb', rfl, hfa, hcb⟩ := hf1.func_inv
  obtain rfl : as' = #[] := by have := hfa.1; simp only [Array.length_toList, List.size_toArray, List.length_nil] at this; exact Array.eq_empty_of_size_eq_zero this.symm
  by_cases hl : l = []
  · subst hl
    have hz : ∃ p c, v' = .slice p 0 c := by
      rcases hown with ⟨_, rfl | rfl⟩ | ⟨id, rest, c, _, rfl, _, _⟩
      · cases hv1; exact ⟨_, _, rfl⟩
      · unfold AW.emp at hv1
        cases hv1 <;> exact ⟨_, _, rfl⟩
      · cases hv1 <;> exact ⟨_, _, rfl⟩
    obtain ⟨p, c, rfl⟩ := hz
    refine (AnyF.slices_SortFunc_none L p c _ w).mono ?_
    rintro e w' ⟨rfl, rfl⟩
    exact ⟨.tuple #[], .tuple #[], H, ρ, rfl, ⟨rfl, [], .refl _, .nil, hown, rfl, fun _ _ => rfl⟩, hR, Ext.refl _ _, Nat.le_refl _, VR.undef _⟩
  · obtain ⟨inh⟩ := attach_inhabited hl
    haveI : Inhabited {x // x ∈ l} := ⟨inh⟩
    rcases hown with ⟨rfl, _⟩ | ⟨id, rest, c, hb, rfl, hrow, hcap⟩
    · exact absurd rfl hl
    have hpos : 0 < l.length := by cases l with | nil => exact absurd rfl hl | cons => simp
    obtain ⟨lc, c', hid, rfl, _⟩ := slice_inv hv1 rfl hpos
    simp only at hid
    obtain ⟨r1, r2, r3, r4, r5⟩ := sort_row hk h1 hR hid hrow
    have ow : owner (.slice (some ⟨id, 0, none⟩) l.length c) = some id := rfl
    rw [ow] at hcf
    have hk2 : ∀ x : {x // x ∈ l}, ((enc x.1).map (conc ρ)).length = k := fun x => by rw [List.length_map]; exact hk x.1
    have flatEq : ∀ d : Array {x // x ∈ l}, (Sort.flatK (fun x : {x // x ∈ l} => (enc x.1).map (conc ρ)) k d).toList = ((d.toList.map Subtype.val).flatMap enc).map (conc ρ) := fun d => by
      rw [flatK_list hk2 h0, List.flatMap_map, List.map_flatMap]
    have hvr : ∀ x ∈ l, VRs ρ (enc x) ((enc x).map (conc ρ)) := fun x hx => simple_agg fun v hv => r1 v (List.mem_flatMap.2 ⟨x, hx, hv⟩)
    have main := AnyQ.slices_SortFunc L k (fun w => run_isAgg (w := w) aE) (fun w => run_sizeOf (w := w) zE) (fun x : {x // x ∈ l} => (enc x.1).map (conc ρ)) hk2
      (fun x v hv => by
        obtain ⟨u, hu, rfl⟩ := List.mem_map.1 hv
        exact simple_one (List.all_eq_true.1 (h1 x.1 x.2) u hu))
      (fun x y => cf x.1 y.1)
      ⟨fun x => by simpa [ltOf] using hO.irrefl x.1 x.2, fun x y z a b => by
          simp only [ltOf, decide_eq_true_eq] at *; exact hO.trans _ x.2 _ y.2 _ z.2 a b, fun x y z a b => by
          simp only [ltOf, decide_eq_false_iff_not] at *; exact hO.ntrans _ x.2 _ y.2 _ z.2 a b⟩
      g cb' lc.blk (lc.base + 0) c' l.attach.toArray w
      (hcf _ inh.1 inh.1 inh.2 inh.2 (seen_dem _ H) (dem_len _ _)).1
      (fun m os dk hdk x y => by
        have hW := Rel.dem (W := sortWorldK (fun x : {x // x ∈ l} => (enc x.1).map (conc ρ)) k w lc.blk (lc.base + 0) m dk os) hR (some id) (fun i l2 cs k2 own hi hl2 hHi => by
          have hne := r4 i l2 cs k2 own (fun q => hi (by rw [q])) hl2 hHi
          obtain ⟨arr, e, fz, a1, _⟩ := hR.obj i l2 _ hl2 hHi
          have hlt : l2.blk < w.heap.size := by
            rcases Nat.lt_or_ge l2.blk w.heap.size with h | h
            · exact h
            · simp [Array.getElem?_eq_none h] at a1
          simp only [sortWorldK, Sort.putRowK, Sort.putRow, Sort.mapBlock, Sort.grow, Sort.ahead]
          rw [Array.getElem?_append_left (by simpa using hlt), Array.getElem?_modify, if_neg (Ne.symm hne)])
        have hs := (hcf (dem (some id) H) x.1 y.1 x.2 y.2 (seen_dem _ H) (dem_len _ _)).2 ρ _ _ ([Value.agg ((enc x.1).map (conc ρ)).toArray, .agg ((enc y.1).map (conc ρ)).toArray] ++ cb'.toList) hW
          (VRs.app (VRs.cons (VR.agg' (hvr x.1 x.2)) (VRs.cons (VR.agg' (hvr y.1 y.2)) VRs.nil)) hcb)
        have e1 : ([Value.agg ((enc x.1).map (conc ρ)).toArray, .agg ((enc y.1).map (conc ρ)).toArray] ++ cb'.toList).toArray = #[.agg ((enc x.1).map (conc ρ)).toArray, .agg ((enc y.1).map (conc ρ)).toArray] ++ cb' := by
          apply Array.toList_inj.1; simp
        rw [e1] at hs
        refine hs.mono ?_
        rintro e w' ⟨r, r', H', ρ', rfl, rfl, hR', _, _, hr⟩
        cases hr
        exact ⟨rfl, full_grow hR'.frm⟩)
      (by
        unfold Sort.HoldsK
        exact r2 _ (by rw [flatEq]; simp))
      r3 (by simpa using hlen)
    have es : l.attach.toArray.size = l.length := by simp
    rw [es] at main
    refine main.mono ?_
    rintro e w' ⟨rfl, d', n, os, hp, hs, rfl⟩
    have hd : d'.toList.Perm l.attach := by
      obtain ⟨q1, q2, q3⟩ := hp
      rw [es] at q1
      have w1 := Array.extract_size (xs := d')
      have w2 := Array.extract_size (xs := l.attach.toArray)
      rw [q1] at w1
      rw [es] at w2
      rw [w1, w2] at q3
      simpa using q3
    have hds : d'.size = l.length := by have := hd.length_eq; simpa using this
    have hperm : (d'.toList.map Subtype.val).Perm l := by
      have := hd.map Subtype.val
      rwa [List.attach_map_subtype_val] at this
    refine ⟨.tuple #[], .tuple #[], _, ρ, rfl, ⟨rfl, d'.toList.map Subtype.val, hperm, ?_, .inr ⟨id, rest, c, hb, by rw [hperm.length_eq], List.getElem?_set_self (get_lt hrow), ?_⟩, by simp, fun j hj => ?_⟩, r5 _ hperm _ (flatEq d') n os, Ext.refl _ _, by simp, VR.undef _⟩
    · rw [List.pairwise_map, List.pairwise_iff_getElem]
      intro i j hi hj hij
      have hj' : j < d'.size := by simpa using hj
      have := hs i j (Nat.zero_le _) hij (by omega)
      rw [getElem!_pos d' j hj', getElem!_pos d' i (by omega)] at this
      simpa [ltOf] using this
    · rcases hcap with h | ⟨h, h2⟩
      · exact .inl h
      · refine .inr ⟨h, ?_⟩
        rw [h2]; simp only [List.length_append]
        rw [flat_len hk, flat_len hk, hperm.length_eq]
    · rw [List.getElem?_set_ne]; intro q; rw [q] at hj; exact hj rfl

/-- slices.Sort of ints -/
theorem sort_int {R : Shelf.Ren} (L : SlLaysM.n5 P R) {l : List Int} {b : Nat} {H : AHeap} {v : Value} (hown : Own b H encInt 1 v l) (hlen : l.length < 4611686018427387904) :
    Sound P (R.f 5) [v] H fun r H' => r = .tuple #[] ∧ ∃ l', l'.Perm l ∧ l'.Pairwise (· ≤ ·) ∧ Own b H' encInt 1 v l' ∧ H'.length = H.length ∧ ∀ j, owner v ≠ some j → H'[j]? = H[j]? := by
  refine ⟨L.f5.enters rfl, fun ρ F w args' hR hv => ?_⟩
  obtain ⟨v', as2, rfl, hv1, hv⟩ := hv.inv
  obtain rfl : as2 = [] := List.eq_nil_of_length_eq_zero hv.1.symm
  by_cases hl : l = []
  · subst hl
    have hz : ∃ p c, v' = .slice p 0 c := by
      rcases hown with ⟨_, rfl | rfl⟩ | ⟨id, rest, c, _, rfl, _, _⟩
      · cases hv1; exact ⟨_, _, rfl⟩
      · unfold AW.emp at hv1
        cases hv1 <;> exact ⟨_, _, rfl⟩
      · cases hv1 <;> exact ⟨_, _, rfl⟩
    obtain ⟨p, c, rfl⟩ := hz
    refine (AnyM.slices_Sort_int_none L p c w).mono ?_
    rintro e w' ⟨rfl, rfl⟩
    exact ⟨.tuple #[], .tuple #[], H, ρ, rfl, ⟨rfl, [], .refl _, .nil, hown, rfl, fun _ _ => rfl⟩, hR, Ext.refl _ _, Nat.le_refl _, VR.undef _⟩
  · rcases hown with ⟨rfl, _⟩ | ⟨id, rest, c, hb, rfl, hrow, hcap⟩
    · exact absurd rfl hl
    have hpos : 0 < l.length := by cases l with | nil => exact absurd rfl hl | cons => simp
    obtain ⟨lc, c', hid, rfl, _⟩ := slice_inv hv1 rfl hpos
    simp only at hid
    obtain ⟨r1, r2, r3, r4, r5⟩ := sort_row (k := 1) (enc := encInt) (fun _ => rfl) (fun x _ => rfl) hR hid hrow
    have fl : ∀ m : List Int, (m.flatMap encInt).map (conc ρ) = m.map (Value.int .i64) := fun m => by
      induction m with
      | nil => rfl
      | cons x m ih => rw [List.flatMap_cons, List.map_append, ih]; rfl
    have hH : Sort.Holds (Value.int .i64) w lc.blk (lc.base + 0) l.toArray := fun j hj => by
      have h := r2 (l.map (Value.int .i64)).toArray (by rw [fl]) j (by simpa using hj)
      have hj' : j < l.length := by simpa using hj
      simp [hj'] at h ⊢
      exact h
    have pr : ∀ (W : World) (m : List Int) (o : Nat), Sort.putRow (Value.int .i64) W lc.blk o m.toArray = Sort.putRow (_root_.id : Value → Value) W lc.blk o (m.map (Value.int .i64)).toArray := fun W m o => by
      unfold Sort.putRow
      refine Sort.mapBlock_congr _ _ _ _ fun cs _ _ _ => ?_
      unfold Sort.putCells
      apply Array.ext_getElem?
      intro i
      simp only [Array.getElem?_mapIdx, List.size_toArray, List.length_map]
      congr 1
      funext u
      split
      · rename_i q
        have : i - o < m.length := by omega
        simp [this]
      · rfl
    refine (AnyM.slices_Sort_int L lc.blk (lc.base + 0) c' l w hH r3 hlen).mono ?_
    rintro e w' ⟨rfl, n, os, rfl⟩
    have hperm : (l.mergeSort fun x y => decide (x ≤ y)).Perm l := List.mergeSort_perm _ _
    rw [pr]
    refine ⟨.tuple #[], .tuple #[], _, ρ, rfl, ⟨rfl, _, hperm, ?_, .inr ⟨id, rest, c, hb, by rw [hperm.length_eq], List.getElem?_set_self (get_lt hrow), ?_⟩, by simp, fun j hj => ?_⟩, r5 _ hperm _ (by rw [fl]) n os, Ext.refl _ _, by simp, VR.undef _⟩
    · have := List.pairwise_mergeSort (le := fun x y : Int => decide (x ≤ y)) (fun a b c h1 h2 => by simp at *; omega) (fun a b => by simp; omega) l
      exact this.imp (by simp)
    · rcases hcap with h | ⟨h, h2⟩
      · exact .inl h
      · refine .inr ⟨h, ?_⟩
        rw [h2]; simp only [List.length_append]
        rw [flat_len (k := 1) (fun _ => rfl), flat_len (k := 1) (fun _ => rfl), hperm.length_eq]
    · rw [List.getElem?_set_ne]; intro q; rw [q] at hj; exact hj rfl
end Go.AW
