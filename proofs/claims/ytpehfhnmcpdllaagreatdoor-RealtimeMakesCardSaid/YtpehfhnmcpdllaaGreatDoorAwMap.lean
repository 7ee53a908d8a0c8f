/-
  AW, part 29: maps as lists of pairs; ranges over maps.
-/
import Derived.Test.YtpehfhnmcpdllaaGreatDoorAwEq
set_option linter.unusedVariables false
set_option linter.unusedSimpArgs false
namespace Go.AW
open Go

section
variable {κ ν : Type} [DecidableEq κ]

/-! ### lists of pairs -/
def mget : List (κ × ν) → κ → Option ν
  | [], _ => none
  | (a, v) :: m, k => if a = k then some v else mget m k
def mput : List (κ × ν) → κ → ν → List (κ × ν)
  | [], k, v => [(k, v)]
  | (a, w) :: m, k, v => if a = k then (a, v) :: m else (a, w) :: mput m k v
def mdel : List (κ × ν) → κ → List (κ × ν)
  | [], _ => []
  | (a, w) :: m, k => if a = k then m else (a, w) :: mdel m k
abbrev mkeys (m : List (κ × ν)) : List κ := m.map Prod.fst

theorem mget_nil (k : κ) : mget ([] : List (κ × ν)) k = none := rfl
theorem mget_put (m : List (κ × ν)) (k : κ) (v : ν) (j : κ) : mget (mput m k v) j = if k = j then some v else mget m j := by
  induction m with
  | nil => simp [mput, mget]
  | cons p m ih =>
    obtain ⟨a, w⟩ := p
    simp only [mput]
    by_cases h : a = k
    · subst h
      simp only [if_true, mget]
      by_cases h2 : a = j <;> simp [h2]
    · rw [if_neg h]
      simp only [mget]
      by_cases h2 : a = j
      · subst h2; simp [Ne.symm h]
      · simp [h2, ih]
theorem mget_mem {m : List (κ × ν)} {k : κ} {v : ν} (h : mget m k = some v) : (k, v) ∈ m := by
  induction m with
  | nil => cases h
  | cons p m ih =>
    obtain ⟨a, w⟩ := p
    simp only [mget] at h
    split at h
    · rename_i q; cases h; subst q; exact List.mem_cons_self ..
    · exact List.mem_cons_of_mem _ (ih h)
theorem mget_none {m : List (κ × ν)} {k : κ} : mget m k = none ↔ k ∉ mkeys m := by
  induction m with
  | nil => simp [mget]
  | cons p m ih =>
    obtain ⟨a, w⟩ := p
    simp only [mget, mkeys, List.map_cons, List.mem_cons, not_or]
    by_cases h : a = k
    · subst h; simp
    · simp [h, Ne.symm h, ih]
theorem mget_of_mem {m : List (κ × ν)} (hn : (mkeys m).Nodup) {k : κ} {v : ν} (h : (k, v) ∈ m) : mget m k = some v := by
  induction m with
  | nil => cases h
  | cons p m ih =>
    obtain ⟨a, w⟩ := p
    simp only [mkeys, List.map_cons, List.nodup_cons] at hn
    simp only [mget]
    rcases List.mem_cons.1 h with h | h
    · cases h; simp
    · rw [if_neg (by rintro rfl; exact hn.1 (List.mem_map.2 ⟨_, h, rfl⟩)), ih hn.2 h]
theorem mget_iff {m : List (κ × ν)} (hn : (mkeys m).Nodup) {k : κ} {v : ν} : mget m k = some v ↔ (k, v) ∈ m := ⟨mget_mem, mget_of_mem hn⟩
theorem mput_keys_mem (m : List (κ × ν)) (k : κ) (v : ν) (j : κ) : j ∈ mkeys (mput m k v) ↔ j = k ∨ j ∈ mkeys m := by
  have h1 := @mget_none κ ν _ (mput m k v) j
  have h2 := @mget_none κ ν _ m j
  rw [mget_put] at h1
  by_cases h : k = j
  · subst h; simp at h1; simp [h1]
  · rw [if_neg h] at h1
    have : (j ∈ mkeys (mput m k v)) ↔ (j ∈ mkeys m) := by
      rw [← Decidable.not_iff_not]; exact (h1.symm.trans h2)
    simp [this, Ne.symm h]
theorem mput_nodup {m : List (κ × ν)} (hn : (mkeys m).Nodup) (k : κ) (v : ν) : (mkeys (mput m k v)).Nodup := by
  induction m with
  | nil => simp [mput]
  | cons p m ih =>
    obtain ⟨a, w⟩ := p
    simp only [mkeys, List.map_cons, List.nodup_cons] at hn
    simp only [mput]
    by_cases h : a = k
    · rw [if_pos h]; simp only [mkeys, List.map_cons, List.nodup_cons]; exact hn
    · rw [if_neg h]
      simp only [mkeys, List.map_cons, List.nodup_cons]
      refine ⟨fun q => ?_, ih hn.2⟩
      rcases (mput_keys_mem m k v a).1 q with q | q
      · exact h q
      · exact hn.1 q
theorem mget_del {m : List (κ × ν)} (hn : (mkeys m).Nodup) (k j : κ) : mget (mdel m k) j = if k = j then none else mget m j := by
  induction m with
  | nil => simp [mdel, mget]
  | cons p m ih =>
    obtain ⟨a, w⟩ := p
    simp only [mkeys, List.map_cons, List.nodup_cons] at hn
    simp only [mdel]
    by_cases h : a = k
    · subst h
      rw [if_pos rfl]
      by_cases h2 : a = j
      · subst h2; rw [if_pos rfl, mget_none.2 hn.1]
      · rw [if_neg h2]; simp [mget, h2]
    · rw [if_neg h]
      simp only [mget, ih hn.2]
      by_cases h2 : a = j
      · subst h2; simp [Ne.symm h]
      · simp [h2]
theorem mdel_sub (m : List (κ × ν)) (k : κ) : (mdel m k).Sublist m := by
  induction m with
  | nil => exact .slnil
  | cons p m ih =>
    obtain ⟨a, w⟩ := p
    simp only [mdel]
    split
    · exact List.sublist_cons_self ..
    · exact ih.cons_cons _
theorem mdel_nodup {m : List (κ × ν)} (hn : (mkeys m).Nodup) (k : κ) : (mkeys (mdel m k)).Nodup := hn.sublist ((mdel_sub m k).map _)
theorem mput_len (m : List (κ × ν)) (k : κ) (v : ν) : (mput m k v).length ≤ m.length + 1 := by
  induction m with
  | nil => simp [mput]
  | cons p m ih =>
    obtain ⟨a, w⟩ := p
    simp only [mput]
    split
    · simp
    · simp only [List.length_cons]; omega
theorem mdel_len (m : List (κ × ν)) (k : κ) : (mdel m k).length ≤ m.length := (mdel_sub m k).length_le

/-! ### an abstract map that holds them -/
structure KeyLaw (P : Program) (kt : TypeId) (ek : κ → Value) : Prop where
  ok : ∀ k, keyOk P kt (ek k) = true
  eq : ∀ k k', aeq P [] 10000 kt (ek k) (ek k') = some (decide (k = k'))
  bits : ∀ k, Instr.sameBits 10000 (ek k) (ek k) = true

structure Holds (es : List MapEntry) (ck : Nat) (ek : κ → Value) (ev : ν → Value) (m : List (κ × ν)) : Prop where
  cells : es.map (fun e => (e.key, e.val)) = m.map (fun p => (ek p.1, ev p.2))
  keys : (mkeys m).Nodup
  born : (es.map (·.born)).Nodup
  old : ∀ e ∈ es, e.born < ck

def DictAt (H : AHeap) (id : Nat) (ek : κ → Value) (ev : ν → Value) (m : List (κ × ν)) : Prop := ∃ es ck, H[id]? = some (.map es ck) ∧ Holds es.toList ck ek ev m

omit [DecidableEq κ] in
theorem DictAt.keep {H H' : AHeap} {id : Nat} {ek : κ → Value} {ev : ν → Value} {m : List (κ × ν)} (h : DictAt H id ek ev m) (hk : H'[id]? = H[id]?) : DictAt H' id ek ev m := by
  obtain ⟨es, ck, h1, h2⟩ := h
  exact ⟨es, ck, by rw [hk]; exact h1, h2⟩
omit [DecidableEq κ] in
theorem DictAt.pre {H H' : AHeap} {id : Nat} {ek : κ → Value} {ev : ν → Value} {m : List (κ × ν)} (h : DictAt H id ek ev m) (hp : H <+: H') : DictAt H' id ek ev m := by
  obtain ⟨es, ck, h1, h2⟩ := h
  exact ⟨es, ck, pre_get hp h1, h2⟩
omit [DecidableEq κ] in
theorem DictAt.lt {H : AHeap} {id : Nat} {ek : κ → Value} {ev : ν → Value} {m : List (κ × ν)} (h : DictAt H id ek ev m) : id < H.length := by
  obtain ⟨es, ck, h1, h2⟩ := h
  exact get_lt h1
omit [DecidableEq κ] in
theorem DictAt.new (H : AHeap) (L : AHeap) (ek : κ → Value) (ev : ν → Value) : DictAt (H ++ .map #[] 0 :: L) H.length ek ev [] :=
  ⟨#[], 0, get_end H _ L, by simp, by simp, by simp, by simp⟩
omit [DecidableEq κ] in
theorem DictAt.ofGet {H : AHeap} {id : Nat} (ek : κ → Value) (ev : ν → Value) (h : H[id]? = some (.map #[] 0)) : DictAt H id ek ev ([] : List (κ × ν)) :=
  ⟨#[], 0, h, by simp, by simp, by simp, by simp⟩

theorem Holds.find {P : Program} {kt : TypeId} {ek : κ → Value} {ev : ν → Value} (L : KeyLaw P kt ek) (k : κ) : ∀ (es : List MapEntry) (m : List (κ × ν)) (n : Nat), es.map (fun e => (e.key, e.val)) = m.map (fun p => (ek p.1, ev p.2)) →
    afind P kt (ek k) es n = some (match mget m k with | none => none | some v => some (n + (mkeys m).findIdx (· = k), ev v)) ∧ (∀ v, mget m k = some v → ∃ e, es[(mkeys m).findIdx (· = k)]? = some e ∧ e.key = ek k)
  | [], [], n, _ => by simp [afind, mget]
  | [], _ :: _, n, h => by simp at h
  | _ :: _, [], n, h => by simp at h
  | e :: es, (a, w) :: m, n, h => by
    simp only [List.map_cons, List.cons.injEq, Prod.mk.injEq] at h
    obtain ⟨⟨h1, h2⟩, h3⟩ := h
    simp only [afind, h1, L.eq, mget]
    by_cases q : k = a
    · subst q
      simp only [decide_true, if_true, mkeys, List.map_cons, List.findIdx_cons, h2]
      exact ⟨by simp, fun v hv => ⟨e, by simp, h1⟩⟩
    · obtain ⟨i1, i2⟩ := Holds.find L k es m (n + 1) h3
      rw [if_neg (Ne.symm q)]
      simp only [decide_eq_false q, i1, mkeys, List.map_cons, List.findIdx_cons, Ne.symm q, decide_false, cond_false]
      refine ⟨?_, fun v hv => ?_⟩
      · cases mget m k with
        | none => rfl
        | some v => simp; omega
      · obtain ⟨e', j1, j2⟩ := i2 v hv
        exact ⟨e', by simpa using j1, j2⟩

theorem DictAt.lookup {P : Program} {H : AHeap} {id t kt et : Nat} {ek : κ → Value} {ev : ν → Value} {m : List (κ × ν)} {z : Value} (h : DictAt H id ek ev m) (L : KeyLaw P kt ek) (ht : mapT P t = some (kt, et)) (hz : zeroT P et = some z) (hp : plainV 100 z = true) (k : κ) (ok : Bool) :
    alookup P H t (.map (some id)) (ek k) ok = some (if ok then .tuple [((mget m k).map ev).getD z, .bool (mget m k).isSome].toArray else ((mget m k).map ev).getD z) := by
  obtain ⟨es, ck, h1, h2⟩ := h
  obtain ⟨f1, f2⟩ := Holds.find (ev := ev) L k es.toList m 0 h2.cells
  simp only [alookup, ht, Option.bind_some, entriesOf, h1, L.ok, if_true, f1]
  cases hm : mget m k with
  | none => simp [hz, hp]
  | some v => simp

theorem look_nil {P : Program} {H : AHeap} {t kt et : Nat} {ek : κ → Value} {z : Value} (L : KeyLaw P kt ek) (ht : mapT P t = some (kt, et)) (hz : zeroT P et = some z) (hp : plainV 100 z = true) (k : κ) (ok : Bool) :
    alookup P H t (.map none) (ek k) ok = some (if ok then .tuple [z, .bool false].toArray else z) := by
  simp only [alookup, ht, Option.bind_some, entriesOf, L.ok, if_true]
  simp [afind, hz, hp]

theorem idx_lt {m : List (κ × ν)} {k : κ} {v : ν} (h : mget m k = some v) : (mkeys m).findIdx (· = k) < m.length := by
  have : k ∈ mkeys m := by
    have := mt (@mget_none κ ν _ m k).2 (by simp [h])
    simpa using this
  have := List.findIdx_lt_length_of_exists (p := fun x => decide (x = k)) ⟨k, this, by simp⟩
  simpa using this

theorem cells_modify {ek : κ → Value} {ev : ν → Value} {k : κ} {v : ν} (x : MapEntry → Value) (hx : ∀ e, x e = ev v) : ∀ (es : List MapEntry) (m : List (κ × ν)), es.map (fun e => (e.key, e.val)) = m.map (fun p => (ek p.1, ev p.2)) → (mget m k).isSome = true →
    (es.modify ((mkeys m).findIdx (· = k)) fun e => { e with key := ek k, val := x e }).map (fun e => (e.key, e.val)) = (mput m k v).map (fun p => (ek p.1, ev p.2))
  | [], [], _, h => by simp [mget] at h
  | [], _ :: _, h, _ => by simp at h
  | _ :: _, [], h, _ => by simp at h
  | e :: es, (a, w) :: m, h, hs => by
    simp only [List.map_cons, List.cons.injEq, Prod.mk.injEq] at h
    obtain ⟨⟨h1, h2⟩, h3⟩ := h
    simp only [mput, mkeys, List.map_cons, List.findIdx_cons]
    by_cases q : a = k
    · subst q; simp [h3, hx]
    · simp only [mget, if_neg q] at hs
      rw [if_neg q]
      simp only [decide_eq_false q, cond_false, List.modify_succ_cons, List.map_cons, h1, h2]
      rw [cells_modify x hx es m h3 hs]

theorem cells_push {ek : κ → Value} {ev : ν → Value} {k : κ} {v : ν} : ∀ (m : List (κ × ν)), mget m k = none → mput m k v = m ++ [(k, v)]
  | [], _ => rfl
  | (a, w) :: m, h => by
    simp only [mget] at h
    split at h
    · cases h
    · rename_i q; simp only [mput, if_neg q, cells_push (ek := ek) (ev := ev) m h, List.cons_append]

theorem born_modify (f : MapEntry → MapEntry) (hf : ∀ e, (f e).born = e.born) : ∀ (es : List MapEntry) (i : Nat), (es.modify i f).map (·.born) = es.map (·.born)
  | [], i => by simp
  | e :: es, 0 => by simp [hf]
  | e :: es, i + 1 => by simp [born_modify f hf es i]
theorem old_modify {ck : Nat} (f : MapEntry → MapEntry) (hf : ∀ e, (f e).born = e.born) (es : List MapEntry) (i : Nat) (h : ∀ e ∈ es, e.born < ck) : ∀ e ∈ es.modify i f, e.born < ck := fun e he => by
  have : e.born ∈ (es.modify i f).map (·.born) := List.mem_map.2 ⟨e, he, rfl⟩
  rw [born_modify f hf] at this
  obtain ⟨e', h1, h2⟩ := List.mem_map.1 this
  rw [← h2]; exact h e' h1

/-- m[k] = v -/
theorem DictAt.put {P : Program} {H : AHeap} {id t kt et : Nat} {ek : κ → Value} {ev : ν → Value} {m : List (κ × ν)} (h : DictAt H id ek ev m) (L : KeyLaw P kt ek) (ht : mapT P t = some (kt, et)) (k : κ) (v : ν) :
    ∃ o, amapPut P H t (.map (some id)) (ek k) (ev v) = some (H.set id o) ∧ DictAt (H.set id o) id ek ev (mput m k v) := by
  obtain ⟨es, ck, h1, h2⟩ := h
  obtain ⟨f1, f2⟩ := Holds.find (ev := ev) L k es.toList m 0 h2.cells
  simp only [amapPut, ht, Option.bind_some, h1, L.ok, if_true, f1]
  cases hm : mget m k with
  | none =>
    refine ⟨_, rfl, es.push { key := ek k, val := ev v, born := ck }, ck + 1, List.getElem?_set_self (get_lt h1), ?_, mput_nodup h2.keys k v, ?_, ?_⟩
    · rw [cells_push (ek := ek) (ev := ev) m hm]; simp [h2.cells]
    · simp only [Array.toList_push, List.map_append, List.map_cons, List.map_nil]
      rw [List.nodup_append]
      refine ⟨h2.born, by simp, fun a ha b hb => ?_⟩
      obtain ⟨e, he, rfl⟩ := List.mem_map.1 ha
      simp at hb; subst hb
      have := h2.old e he; omega
    · intro e he
      simp only [Array.toList_push, List.mem_append, List.mem_singleton] at he
      rcases he with he | rfl
      · have := h2.old e he; omega
      · simp
  | some w =>
    obtain ⟨e, he1, he2⟩ := f2 w hm
    have hlt := idx_lt hm
    have hes : es[0 + (mkeys m).findIdx (· = k)]? = some e := by rw [Nat.zero_add, ← Array.getElem?_toList]; exact he1
    simp only [hes, Option.map_some, Option.getD_some, he2, L.bits, if_true]
    refine ⟨_, rfl, _, ck, List.getElem?_set_self (get_lt h1), ?_, mput_nodup h2.keys k v, ?_, ?_⟩
    · rw [Array.toList_modify, Nat.zero_add]
      exact cells_modify (fun _ => ev v) (fun _ => rfl) _ _ h2.cells (by simp [hm])
    · rw [Array.toList_modify, born_modify (fun e => { e with key := ek k, val := ev v }) (fun _ => rfl)]; exact h2.born
    · rw [Array.toList_modify]; exact old_modify (fun e => { e with key := ek k, val := ev v }) (fun _ => rfl) _ _ h2.old

theorem erase_del {ek : κ → Value} {ev : ν → Value} {k : κ} : ∀ (es : List MapEntry) (m : List (κ × ν)), es.map (fun e => (e.key, e.val)) = m.map (fun p => (ek p.1, ev p.2)) → (mget m k).isSome = true →
    (es.eraseIdx ((mkeys m).findIdx (· = k))).map (fun e => (e.key, e.val)) = (mdel m k).map (fun p => (ek p.1, ev p.2))
  | [], [], _, h => by simp [mget] at h
  | [], _ :: _, h, _ => by simp at h
  | _ :: _, [], h, _ => by simp at h
  | e :: es, (a, w) :: m, h, hs => by
    simp only [List.map_cons, List.cons.injEq, Prod.mk.injEq] at h
    obtain ⟨⟨h1, h2⟩, h3⟩ := h
    simp only [mdel, mkeys, List.map_cons, List.findIdx_cons]
    by_cases q : a = k
    · subst q; simp [h3]
    · simp only [mget, if_neg q] at hs
      rw [if_neg q]
      simp only [decide_eq_false q, cond_false, List.eraseIdx_cons_succ, List.map_cons, h1, h2]
      rw [erase_del es m h3 hs]
theorem mdel_none {m : List (κ × ν)} {k : κ} (h : mget m k = none) : mdel m k = m := by
  induction m with
  | nil => rfl
  | cons p m ih =>
    obtain ⟨a, w⟩ := p
    simp only [mget] at h
    split at h
    · cases h
    · rename_i q; simp only [mdel, if_neg q, ih h]

omit [DecidableEq κ] in
theorem toList_erase (es : Array MapEntry) (i : Nat) : (es.eraseIdxIfInBounds i).toList = es.toList.eraseIdx i := by
  unfold Array.eraseIdxIfInBounds
  split
  · simp
  · rename_i h; rw [List.eraseIdx_of_length_le (by simpa using h)]

/-- delete(m, k) -/
theorem DictAt.delete {P : Program} {H : AHeap} {id t kt et : Nat} {ek : κ → Value} {ev : ν → Value} {m : List (κ × ν)} (h : DictAt H id ek ev m) (L : KeyLaw P kt ek) (ht : mapT P t = some (kt, et)) (k : κ) :
    ∃ o, adelete P H t (.map (some id)) (ek k) = some (H.set id o) ∧ DictAt (H.set id o) id ek ev (mdel m k) := by
  obtain ⟨es, ck, h1, h2⟩ := h
  obtain ⟨f1, f2⟩ := Holds.find (ev := ev) L k es.toList m 0 h2.cells
  simp only [adelete, ht, Option.bind_some, h1, L.ok, if_true, f1]
  cases hm : mget m k with
  | none =>
    refine ⟨_, rfl, es, ck, List.getElem?_set_self (get_lt h1), ?_⟩
    rw [mdel_none hm]; exact h2
  | some w =>
    have hlt := idx_lt hm
    refine ⟨_, rfl, _, ck, List.getElem?_set_self (get_lt h1), ?_, mdel_nodup h2.keys k, ?_, ?_⟩
    · rw [toList_erase, Nat.zero_add]
      exact erase_del _ _ h2.cells (by simp [hm])
    · rw [toList_erase]
      exact h2.born.sublist ((List.eraseIdx_sublist ..).map _)
    · rw [toList_erase]
      exact fun e he => h2.old e (List.mem_of_mem_eraseIdx he)

omit [DecidableEq κ] in
theorem DictAt.len {P : Program} {H : AHeap} {id t kt et : Nat} {ek : κ → Value} {ev : ν → Value} {m : List (κ × ν)} (h : DictAt H id ek ev m) (hu : P.underlying t = some (.map kt et)) : alen P H t (.map (some id)) = some (.int .i64 m.length) := by
  obtain ⟨es, ck, h1, h2⟩ := h
  have := congrArg List.length h2.cells
  simp only [List.length_map, Array.length_toList] at this
  simp [alen, hu, entriesOf, h1, this]

/-! ### a range over a map that is not turned meanwhile -/
/-- what is still to come of a map's range -/
def RangeAt (H : AHeap) (r id : Nat) (ek : κ → Value) (ev : ν → Value) (m left : List (κ × ν)) : Prop :=
  ∃ es ck seen, H[id]? = some (.map es ck) ∧ Holds es.toList ck ek ev m ∧ H[r]? = some (.mapIter (some id) ck seen ck) ∧ r ≠ id ∧
    (es.toList.filter fun e => !seen.contains e.born).map (fun e => (e.key, e.val)) = left.map (fun p => (ek p.1, ev p.2)) ∧ left.Sublist m

omit [DecidableEq κ] in
theorem DictAt.range {P : Program} {H : AHeap} {id t kt et : Nat} {ek : κ → Value} {ev : ν → Value} {m : List (κ × ν)} (h : DictAt H id ek ev m) (hu : P.underlying t = some (.map kt et)) :
    ∃ o, arange P H t (.map (some id)) = some (.pointer (some ⟨H.length, 0, none⟩), H ++ [o]) ∧ RangeAt (H ++ [o]) H.length id ek ev m m := by
  obtain ⟨es, ck, h1, h2⟩ := h
  refine ⟨.mapIter (some id) ck #[] ck, by simp [arange, hu, h1], es, ck, #[], by rw [List.getElem?_append_left (get_lt h1)]; exact h1, h2, by simp, ?_, ?_, .refl _⟩
  · have := get_lt h1; omega
  · rw [List.filter_eq_self.2 (by simp)]; exact h2.cells

omit [DecidableEq κ] in
theorem RangeAt.keep {H H' : AHeap} {r id : Nat} {ek : κ → Value} {ev : ν → Value} {m left : List (κ × ν)} (h : RangeAt H r id ek ev m left) (h1 : H'[id]? = H[id]?) (h2 : H'[r]? = H[r]?) : RangeAt H' r id ek ev m left := by
  obtain ⟨es, ck, seen, a, b, c, d⟩ := h
  exact ⟨es, ck, seen, by rw [h1]; exact a, b, by rw [h2]; exact c, d⟩
omit [DecidableEq κ] in
theorem RangeAt.pre {H H' : AHeap} {r id : Nat} {ek : κ → Value} {ev : ν → Value} {m left : List (κ × ν)} (h : RangeAt H r id ek ev m left) (hp : H <+: H') : RangeAt H' r id ek ev m left := by
  obtain ⟨es, ck, seen, a, b, c, d⟩ := h
  exact ⟨es, ck, seen, pre_get hp a, b, pre_get hp c, d⟩
omit [DecidableEq κ] in
theorem RangeAt.map {H : AHeap} {r id : Nat} {ek : κ → Value} {ev : ν → Value} {m left : List (κ × ν)} (h : RangeAt H r id ek ev m left) : DictAt H id ek ev m := by
  obtain ⟨es, ck, seen, a, b, c, d⟩ := h
  exact ⟨es, ck, a, b⟩

theorem map_split {α β γ : Type} {f : α → γ} {g : β → γ} : ∀ {A B : List α} {a : α} {L : List β}, (A ++ a :: B).map f = L.map g → ∃ L1 b L2, L = L1 ++ b :: L2 ∧ f a = g b ∧ A.map f = L1.map g ∧ B.map f = L2.map g := by
  intro A B a L h
  rw [List.map_append, List.map_cons] at h
  obtain ⟨L1, L2', rfl, h1, h2⟩ := List.map_eq_append_iff.1 h.symm
  obtain ⟨b, L2, rfl, h3, h4⟩ := List.map_eq_cons_iff.1 h2
  exact ⟨L1, b, L2, rfl, h3.symm, h1.symm, h4.symm⟩

omit [DecidableEq κ] in
/-- one step: the end, if nothing is left; else any that is left -/
theorem RangeAt.next {H : AHeap} {r id : Nat} {ek : κ → Value} {ev : ν → Value} {m left : List (κ × ν)} (h : RangeAt H r id ek ev m left) {K : Value → AHeap → Prop} {t1 : Tok K} {t2 : Tok H}
    (hend : left = [] → K (.tuple [.bool false].toArray) H)
    (hstep : ∀ L1 k v L2 o, left = L1 ++ (k, v) :: L2 → RangeAt (H.set r o) r id ek ev m (L1 ++ L2) → K (.tuple [.bool true, ek k, ev v].toArray) (H.set r o)) :
    anextP H (.pointer (some ⟨r, 0, none⟩)) K t1 t2 := by
  obtain ⟨es, ck, seen, h1, h2, h3, h4, h5, h6⟩ := h
  show anext _ _ _
  have hi : mapIterOf H (.pointer (some ⟨r, 0, none⟩)) = some (r, some id, ck, seen, ck) := by simp [mapIterOf, h3]
  simp only [anext, hi, h1]
  have hold : ∀ e ∈ es.toList, decide (e.born < ck) = true := fun e he => by simpa using h2.old e he
  have hall : (es.filter fun e => !seen.contains e.born).filter (fun e => decide (e.born < ck)) = es.filter fun e => !seen.contains e.born := by
    apply Array.toList_inj.1
    rw [Array.toList_filter, Array.toList_filter]
    refine List.filter_eq_self.2 fun e he => hold e ?_
    exact (List.mem_filter.1 he).1
  have hnew : (es.filter fun e => !seen.contains e.born).filter (fun e => decide (e.born ≥ ck)) = #[] := by
    apply Array.toList_inj.1
    rw [Array.toList_filter, Array.toList_filter]
    refine List.filter_eq_nil_iff.2 fun e he => ?_
    have := h2.old e (List.mem_filter.1 he).1
    simp; omega
  refine ⟨?_, ?_, ?_⟩
  · cases hne : es.isEmpty with
    | true => simp
    | false =>
      have : es.all (fun e => decide (e.born ≥ ck)) = false := by
        rw [← Array.all_toList]
        cases hl : es.toList with
        | nil => simp at hl; simp [hl] at hne
        | cons e l =>
          have := h2.old e (by rw [hl]; exact List.mem_cons_self ..)
          simp; intro; omega
      simp [this]
  · intro q
    rw [hall] at q
    have q' := congrArg Array.toList q
    rw [Array.toList_filter] at q'
    rw [q'] at h5
    exact hend (by simpa using h5.symm)
  · intro e he
    rw [hall, hnew, Array.append_empty] at he
    have he' : e ∈ es.toList.filter fun e => !seen.contains e.born := by rw [← Array.toList_filter]; simpa using he
    obtain ⟨A, B, hAB⟩ := List.append_of_mem he'
    rw [hAB] at h5
    obtain ⟨L1, p, L2, rfl, e1, e2, e3⟩ := map_split h5
    obtain ⟨k, v⟩ := p
    simp only [Prod.mk.injEq] at e1
    rw [e1.1, e1.2]
    refine hstep L1 k v L2 _ rfl ⟨es, ck, seen.push e.born, by rw [List.getElem?_set_ne h4]; exact h1, h2, List.getElem?_set_self (get_lt h3), h4, ?_, (List.Sublist.append (.refl _) (List.sublist_cons_self ..)).trans h6⟩
    have hnd : (A ++ e :: B).map (·.born) |>.Nodup := by rw [← hAB]; exact h2.born.sublist (List.filter_sublist.map _)
    have hsplit : (es.toList.filter fun x => !(seen.push e.born).contains x.born) = A ++ B := by
      have : (es.toList.filter fun x => !(seen.push e.born).contains x.born) = (es.toList.filter fun x => !seen.contains x.born).filter fun x => x.born != e.born := by
        rw [List.filter_filter]
        refine List.filter_congr fun x _ => ?_
        rw [Bool.eq_iff_iff]
        simp [and_comm]
      rw [this, hAB, List.filter_append, List.filter_cons]
      simp only [bne_self_eq_false, Bool.false_eq_true, if_false]
      rw [List.map_append, List.map_cons, List.nodup_append, List.nodup_cons] at hnd
      obtain ⟨n1, ⟨n2, n3⟩, n4⟩ := hnd
      rw [List.filter_eq_self.2, List.filter_eq_self.2]
      · intro x hx
        simp only [bne_iff_ne, ne_eq]
        exact fun q => n2 (q ▸ List.mem_map.2 ⟨x, hx, rfl⟩)
      · intro x hx
        simp only [bne_iff_ne, ne_eq]
        exact n4 _ (List.mem_map.2 ⟨x, hx, rfl⟩) _ (List.mem_cons_self ..)
    rw [hsplit, List.map_append, e2, e3, List.map_append]
end

end Go.AW
