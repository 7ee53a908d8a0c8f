/-
  Parts of the proof, joined: AwMap, AwMore, AwLoop.
-/
import Derived.Test.YtekpdopbiklkfaaGreatDoorPf06
section
set_option linter.unusedVariables false
set_option linter.unusedSimpArgs false
namespace Go.AW
open Go
section
variable {κ ν : Type} [DecidableEq κ]
def mget : List (κ × ν) → κ → Option ν
  | [], _ => none
  | (a, v) :: m, k => if a = k then some v else mget m k
def mput : List (κ × ν) → κ → ν → List (κ × ν)
  | [], k, v => [(k, v)]
  | (a, w) :: m, k, v => if a = k then (a, v) :: m else (a, w) :: mput m k v
def mdel : List (κ × ν) → κ → List (κ × ν)
  | [], _ => []
  | (a, w) :: m, k => if a = k then m else (a, w) :: mdel m k
abbrev mkeys (m : List (κ × ν)) : List κ := m.map Prod.fst
theorem mget_put (m : List (κ × ν)) (k : κ) (v : ν) (j : κ) : mget (mput m k v) j = if k = j then some v else mget m j := by
  induction m with
  | nil => simp [mput, mget]
  | cons p m ih =>
    obtain ⟨a, w⟩ := p
    simp only [mput]
    by_cases h : a = k
    · subst h
      simp only [if_true, mget]
      by_cases h2 : a = j <;> simp [h2]
    · rw [if_neg h]
      simp only [mget]
      by_cases h2 : a = j
      · subst h2; simp [Ne.symm h]
      · simp [h2, ih]
theorem mget_none {m : List (κ × ν)} {k : κ} : mget m k = none ↔ k ∉ mkeys m := by
  induction m with
  | nil => simp [mget]
  | cons p m ih =>
    obtain ⟨a, w⟩ := p
    simp only [mget, mkeys, List.map_cons, List.mem_cons, not_or]
    by_cases h : a = k
    · subst h; simp
    · simp [h, Ne.symm h, ih]
theorem mget_of_mem {m : List (κ × ν)} (hn : (mkeys m).Nodup) {k : κ} {v : ν} (h : (k, v) ∈ m) : mget m k = some v := by
  induction m with
  | nil => cases h
  | cons p m ih =>
    obtain ⟨a, w⟩ := p
    simp only [mkeys, List.map_cons, List.nodup_cons] at hn
    simp only [mget]
    rcases List.mem_cons.1 h with h | h
    · cases h; simp
    · rw [if_neg (by rintro rfl; exact hn.1 (List.mem_map.2 ⟨_, h, rfl⟩)), ih hn.2 h]
theorem mput_keys_mem (m : List (κ × ν)) (k : κ) (v : ν) (j : κ) : j ∈ mkeys (mput m k v) ↔ j = k ∨ j ∈ mkeys m := by
  have h1 := @mget_none κ ν _ (mput m k v) j
  have h2 := @mget_none κ ν _ m j
  rw [mget_put] at h1
  by_cases h : k = j
  · subst h; simp at h1; simp [h1]
  · rw [if_neg h] at h1
    have : (j ∈ mkeys (mput m k v)) ↔ (j ∈ mkeys m) := by
      rw [← Decidable.not_iff_not]; exact (h1.symm.trans h2)
    simp [this, Ne.symm h]
theorem mput_nodup {m : List (κ × ν)} (hn : (mkeys m).Nodup) (k : κ) (v : ν) : (mkeys (mput m k v)).Nodup := by
  induction m with
  | nil => simp [mput]
  | cons p m ih =>
    obtain ⟨a, w⟩ := p
    simp only [mkeys, List.map_cons, List.nodup_cons] at hn
    simp only [mput]
    by_cases h : a = k
    · rw [if_pos h]; simp only [mkeys, List.map_cons, List.nodup_cons]; exact hn
    · rw [if_neg h]
      simp only [mkeys, List.map_cons, List.nodup_cons]
      refine ⟨fun q => ?_, ih hn.2⟩
      rcases (mput_keys_mem m k v a).1 q with q | q
      · exact h q
      · exact hn.1 q
theorem mdel_sub (m : List (κ × ν)) (k : κ) : (mdel m k).Sublist m := by
  induction m with
  | nil => exact .slnil
  | cons p m ih =>
    obtain ⟨a, w⟩ := p
    simp only [mdel]
    split
    · exact List.sublist_cons_self ..
    · exact ih.cons_cons _
theorem mdel_nodup {m : List (κ × ν)} (hn : (mkeys m).Nodup) (k : κ) : (mkeys (mdel m k)).Nodup := hn.sublist ((mdel_sub m k).map _)
structure KeyLaw (P : Program) (kt : TypeId) (ek : κ → Value) : Prop where
  ok : ∀ k, keyOk P kt (ek k) = true
  eq : ∀ k k', aeq P [] 10000 kt (ek k) (ek k') = some (decide (k = k'))
  bits : ∀ k, Instr.sameBits 10000 (ek k) (ek k) = true
structure Holds (es : List MapEntry) (ck : Nat) (ek : κ → Value) (ev : ν → Value) (m : List (κ × ν)) : Prop where
  cells : es.map (fun e => (e.key, e.val)) = m.map (fun p => (ek p.1, ev p.2))
  keys : (mkeys m).Nodup
  born : (es.map (·.born)).Nodup
  old : ∀ e ∈ es, e.born < ck
def DictAt (H : AHeap) (id : Nat) (ek : κ → Value) (ev : ν → Value) (m : List (κ × ν)) : Prop := ∃ es ck, H[id]? = some (.map es ck) ∧ Holds es.toList ck ek ev m
omit [DecidableEq κ] in
theorem DictAt.keep {H H' : AHeap} {id : Nat} {ek : κ → Value} {ev : ν → Value} {m : List (κ × ν)} (h : DictAt H id ek ev m) (hk : H'[id]? = H[id]?) : DictAt H' id ek ev m := by
  obtain ⟨es, ck, h1, h2⟩ := h
  exact ⟨es, ck, by rw [hk]; exact h1, h2⟩
omit [DecidableEq κ] in
theorem DictAt.pre {H H' : AHeap} {id : Nat} {ek : κ → Value} {ev : ν → Value} {m : List (κ × ν)} (h : DictAt H id ek ev m) (hp : H <+: H') : DictAt H' id ek ev m := by
  obtain ⟨es, ck, h1, h2⟩ := h
  exact ⟨es, ck, pre_get hp h1, h2⟩
omit [DecidableEq κ] in
theorem DictAt.lt {H : AHeap} {id : Nat} {ek : κ → Value} {ev : ν → Value} {m : List (κ × ν)} (h : DictAt H id ek ev m) : id < H.length := by
  obtain ⟨es, ck, h1, h2⟩ := h
  exact get_lt h1
omit [DecidableEq κ] in
theorem DictAt.new (H : AHeap) (L : AHeap) (ek : κ → Value) (ev : ν → Value) : DictAt (H ++ .map #[] 0 :: L) H.length ek ev [] :=
  ⟨#[], 0, get_end H _ L, by simp, by simp, by simp, by simp⟩
theorem Holds.find {P : Program} {kt : TypeId} {ek : κ → Value} {ev : ν → Value} (L : KeyLaw P kt ek) (k : κ) : ∀ (es : List MapEntry) (m : List (κ × ν)) (n : Nat), es.map (fun e => (e.key, e.val)) = m.map (fun p => (ek p.1, ev p.2)) →
    afind P kt (ek k) es n = some (match mget m k with | none => none | some v => some (n + (mkeys m).findIdx (· = k), ev v)) ∧ (∀ v, mget m k = some v → ∃ e, es[(mkeys m).findIdx (· = k)]? = some e ∧ e.key = ek k)
  | [], [], n, _ => by simp [afind, mget]
  | [], _ :: _, n, h => by simp at h
  | _ :: _, [], n, h => by simp at h
  | e :: es, (a, w) :: m, n, h => by
    simp only [List.map_cons, List.cons.injEq, Prod.mk.injEq] at h
    obtain ⟨⟨h1, h2⟩, h3⟩ := h
    simp only [afind, h1, L.eq, mget]
    by_cases q : k = a
    · subst q
      simp only [decide_true, if_true, mkeys, List.map_cons, List.findIdx_cons, h2]
      exact ⟨by simp, fun v hv => ⟨e, by simp, h1⟩⟩
    · obtain ⟨i1, i2⟩ := Holds.find L k es m (n + 1) h3
      rw [if_neg (Ne.symm q)]
      simp only [decide_eq_false q, i1, mkeys, List.map_cons, List.findIdx_cons, Ne.symm q, decide_false, cond_false]
      refine ⟨?_, fun v hv => ?_⟩
      · cases mget m k with
        | none => rfl
        | some v => simp; omega
      · obtain ⟨e', j1, j2⟩ := i2 v hv
        exact ⟨e', by simpa using j1, j2⟩
theorem DictAt.lookup {P : Program} {H : AHeap} {id t kt et : Nat} {ek : κ → Value} {ev : ν → Value} {m : List (κ × ν)} {z : Value} (h : DictAt H id ek ev m) (L : KeyLaw P kt ek) (ht : mapT P t = some (kt, et)) (hz : zeroT P et = some z) (hp : plainV 100 z = true) (k : κ) (ok : Bool) :
    alookup P H t (.map (some id)) (ek k) ok = some (if ok then .tuple [((mget m k).map ev).getD z, .bool (mget m k).isSome].toArray else ((mget m k).map ev).getD z) := by
  obtain ⟨es, ck, h1, h2⟩ := h
  obtain ⟨f1, f2⟩ := Holds.find (ev := ev) L k es.toList m 0 h2.cells
  simp only [alookup, ht, Option.bind_some, entriesOf, h1, L.ok, if_true, f1]
  cases hm : mget m k with
  | none => simp [hz, hp]
  | some v => simp
theorem idx_lt {m : List (κ × ν)} {k : κ} {v : ν} (h : mget m k = some v) : (mkeys m).findIdx (· = k) < m.length := by
  have : k ∈ mkeys m := by
    have := mt (@mget_none κ ν _ m k).2 (by simp [h])
    simpa using this
  have := List.findIdx_lt_length_of_exists (p := fun x => decide (x = k)) ⟨k, this, by simp⟩
  simpa using this
theorem cells_modify {ek : κ → Value} {ev : ν → Value} {k : κ} {v : ν} (x : MapEntry → Value) (hx : ∀ e, x e = ev v) : ∀ (es : List MapEntry) (m : List (κ × ν)), es.map (fun e => (e.key, e.val)) = m.map (fun p => (ek p.1, ev p.2)) → (mget m k).isSome = true →
    (es.modify ((mkeys m).findIdx (· = k)) fun e => { e with key := ek k, val := x e }).map (fun e => (e.key, e.val)) = (mput m k v).map (fun p => (ek p.1, ev p.2))
  | [], [], _, h => by simp [mget] at h
  | [], _ :: _, h, _ => by simp at h
  | _ :: _, [], h, _ => by simp at h
  | e :: es, (a, w) :: m, h, hs => by
    simp only [List.map_cons, List.cons.injEq, Prod.mk.injEq] at h
    obtain ⟨⟨h1, h2⟩, h3⟩ := h
    simp only [mput, mkeys, List.map_cons, List.findIdx_cons]
    by_cases q : a = k
    · subst q; simp [h3, hx]
    · simp only [mget, if_neg q] at hs
      rw [if_neg q]
      simp only [decide_eq_false q, cond_false, List.modify_succ_cons, List.map_cons, h1, h2]
      rw [cells_modify x hx es m h3 hs]
theorem cells_push {ek : κ → Value} {ev : ν → Value} {k : κ} {v : ν} : ∀ (m : List (κ × ν)), mget m k = none → mput m k v = m ++ [(k, v)]
  | [], _ => rfl
  | (a, w) :: m, h => by
    simp only [mget] at h
    split at h
    · cases h
    · rename_i q; simp only [mput, if_neg q, cells_push (ek := ek) (ev := ev) m h, List.cons_append]
theorem born_modify (f : MapEntry → MapEntry) (hf : ∀ e, (f e).born = e.born) : ∀ (es : List MapEntry) (i : Nat), (es.modify i f).map (·.born) = es.map (·.born)
  | [], i => by simp
  | e :: es, 0 => by simp [hf]
  | e :: es, i + 1 => by simp [born_modify f hf es i]
theorem old_modify {ck : Nat} (f : MapEntry → MapEntry) (hf : ∀ e, (f e).born = e.born) (es : List MapEntry) (i : Nat) (h : ∀ e ∈ es, e.born < ck) : ∀ e ∈ es.modify i f, e.born < ck := fun e he => by
  have : e.born ∈ (es.modify i f).map (·.born) := List.mem_map.2 ⟨e, he, rfl⟩
  rw [born_modify f hf] at this
  obtain ⟨e', h1, h2⟩ := List.mem_map.1 this
  rw [← h2]; exact h e' h1
theorem DictAt.put {P : Program} {H : AHeap} {id t kt et : Nat} {ek : κ → Value} {ev : ν → Value} {m : List (κ × ν)} (h : DictAt H id ek ev m) (L : KeyLaw P kt ek) (ht : mapT P t = some (kt, et)) (k : κ) (v : ν) :
    ∃ o, amapPut P H t (.map (some id)) (ek k) (ev v) = some (H.set id o) ∧ DictAt (H.set id o) id ek ev (mput m k v) := by
  obtain ⟨es, ck, h1, h2⟩ := h
  obtain ⟨f1, f2⟩ := Holds.find (ev := ev) L k es.toList m 0 h2.cells
  simp only [amapPut, ht, Option.bind_some, h1, L.ok, if_true, f1]
  cases hm : mget m k with
  | none =>
    refine ⟨_, rfl, es.push { key := ek k, val := ev v, born := ck }, ck + 1, List.getElem?_set_self (get_lt h1), ?_, mput_nodup h2.keys k v, ?_, ?_⟩
    · rw [cells_push (ek := ek) (ev := ev) m hm]; simp [h2.cells]
    · simp only [Array.toList_push, List.map_append, List.map_cons, List.map_nil]
      rw [List.nodup_append]
      refine ⟨h2.born, by simp, fun a ha b hb => ?_⟩
      obtain ⟨e, he, rfl⟩ := List.mem_map.1 ha
      simp at hb; subst hb
      have := h2.old e he; omega
    · intro e he
      simp only [Array.toList_push, List.mem_append, List.mem_singleton] at he
      rcases he with he | rfl
      · have := h2.old e he; omega
      · simp
  | some w =>
    obtain ⟨e, he1, he2⟩ := f2 w hm
    have hlt := idx_lt hm
    have hes : es[0 + (mkeys m).findIdx (· = k)]? = some e := by rw [Nat.zero_add, ← Array.getElem?_toList]; exact he1
    simp only [hes, Option.map_some, Option.getD_some, he2, L.bits, if_true]
    refine ⟨_, rfl, _, ck, List.getElem?_set_self (get_lt h1), ?_, mput_nodup h2.keys k v, ?_, ?_⟩
    · rw [Array.toList_modify, Nat.zero_add]
      exact cells_modify (fun _ => ev v) (fun _ => rfl) _ _ h2.cells (by simp [hm])
    · rw [Array.toList_modify, born_modify (fun e => { e with key := ek k, val := ev v }) (fun _ => rfl)]; exact h2.born
    · rw [Array.toList_modify]; exact old_modify (fun e => { e with key := ek k, val := ev v }) (fun _ => rfl) _ _ h2.old
theorem erase_del {ek : κ → Value} {ev : ν → Value} {k : κ} : ∀ (es : List MapEntry) (m : List (κ × ν)), es.map (fun e => (e.key, e.val)) = m.map (fun p => (ek p.1, ev p.2)) → (mget m k).isSome = true →
    (es.eraseIdx ((mkeys m).findIdx (· = k))).map (fun e => (e.key, e.val)) = (mdel m k).map (fun p => (ek p.1, ev p.2))
  | [], [], _, h => by simp [mget] at h
  | [], _ :: _, h, _ => by simp at h
  | _ :: _, [], h, _ => by simp at h
  | e :: es, (a, w) :: m, h, hs => by
    simp only [List.map_cons, List.cons.injEq, Prod.mk.injEq] at h
    obtain ⟨⟨h1, h2⟩, h3⟩ := h
    simp only [mdel, mkeys, List.map_cons, List.findIdx_cons]
    by_cases q : a = k
    · subst q; simp [h3]
    · simp only [mget, if_neg q] at hs
      rw [if_neg q]
      simp only [decide_eq_false q, cond_false, List.eraseIdx_cons_succ, List.map_cons, h1, h2]
      rw [erase_del es m h3 hs]
theorem mdel_none {m : List (κ × ν)} {k : κ} (h : mget m k = none) : mdel m k = m := by
  induction m with
  | nil => rfl
  | cons p m ih =>
    obtain ⟨a, w⟩ := p
    simp only [mget] at h
    split at h
    · cases h
    · rename_i q; simp only [mdel, if_neg q, ih h]
omit [DecidableEq κ] in
theorem toList_erase (es : Array MapEntry) (i : Nat) : (es.eraseIdxIfInBounds i).toList = es.toList.eraseIdx i := by
  unfold Array.eraseIdxIfInBounds
  split
  · simp
  · rename_i h; rw [List.eraseIdx_of_length_le (by simpa using h)]
theorem DictAt.delete {P : Program} {H : AHeap} {id t kt et : Nat} {ek : κ → Value} {ev : ν → Value} {m : List (κ × ν)} (h : DictAt H id ek ev m) (L : KeyLaw P kt ek) (ht : mapT P t = some (kt, et)) (k : κ) :
    ∃ o, adelete P H t (.map (some id)) (ek k) = some (H.set id o) ∧ DictAt (H.set id o) id ek ev (mdel m k) := by
  obtain ⟨es, ck, h1, h2⟩ := h
  obtain ⟨f1, f2⟩ := Holds.find (ev := ev) L k es.toList m 0 h2.cells
  simp only [adelete, ht, Option.bind_some, h1, L.ok, if_true, f1]
  cases hm : mget m k with
  | none =>
    refine ⟨_, rfl, es, ck, List.getElem?_set_self (get_lt h1), ?_⟩
    rw [mdel_none hm]; exact h2
  | some w =>
    have hlt := idx_lt hm
    refine ⟨_, rfl, _, ck, List.getElem?_set_self (get_lt h1), ?_, mdel_nodup h2.keys k, ?_, ?_⟩
    · rw [toList_erase, Nat.zero_add]
      exact erase_del _ _ h2.cells (by simp [hm])
    · rw [toList_erase]
      exact h2.born.sublist ((List.eraseIdx_sublist ..).map _)
    · rw [toList_erase]
      exact fun e he => h2.old e (List.mem_of_mem_eraseIdx he)
omit [DecidableEq κ] in
theorem DictAt.len {P : Program} {H : AHeap} {id t kt et : Nat} {ek : κ → Value} {ev : ν → Value} {m : List (κ × ν)} (h : DictAt H id ek ev m) (hu : P.underlying t = some (.map kt et)) : alen P H t (.map (some id)) = some (.int .i64 m.length) := by
  obtain ⟨es, ck, h1, h2⟩ := h
  have := congrArg List.length h2.cells
  simp only [List.length_map, Array.length_toList] at this
  simp [alen, hu, entriesOf, h1, this]
def RangeAt (H : AHeap) (r id : Nat) (ek : κ → Value) (ev : ν → Value) (m left : List (κ × ν)) : Prop :=
  ∃ es ck seen, H[id]? = some (.map es ck) ∧ Holds es.toList ck ek ev m ∧ H[r]? = some (.mapIter (some id) ck seen ck) ∧ r ≠ id ∧
    (es.toList.filter fun e => !seen.contains e.born).map (fun e => (e.key, e.val)) = left.map (fun p => (ek p.1, ev p.2)) ∧ left.Sublist m
omit [DecidableEq κ] in
theorem DictAt.range {P : Program} {H : AHeap} {id t kt et : Nat} {ek : κ → Value} {ev : ν → Value} {m : List (κ × ν)} (h : DictAt H id ek ev m) (hu : P.underlying t = some (.map kt et)) :
    ∃ o, arange P H t (.map (some id)) = some (.pointer (some ⟨H.length, 0, none⟩), H ++ [o]) ∧ RangeAt (H ++ [o]) H.length id ek ev m m := by
  obtain ⟨es, ck, h1, h2⟩ := h
  refine ⟨.mapIter (some id) ck #[] ck, by simp [arange, hu, h1], es, ck, #[], by rw [List.getElem?_append_left (get_lt h1)]; exact h1, h2, by simp, ?_, ?_, .refl _⟩
  · have := get_lt h1; omega
  · rw [List.filter_eq_self.2 (by simp)]; exact h2.cells
omit [DecidableEq κ] in
theorem RangeAt.keep {H H' : AHeap} {r id : Nat} {ek : κ → Value} {ev : ν → Value} {m left : List (κ × ν)} (h : RangeAt H r id ek ev m left) (h1 : H'[id]? = H[id]?) (h2 : H'[r]? = H[r]?) : RangeAt H' r id ek ev m left := by
  obtain ⟨es, ck, seen, a, b, c, d⟩ := h
  exact ⟨es, ck, seen, by rw [h1]; exact a, b, by rw [h2]; exact c, d⟩
omit [DecidableEq κ] in
theorem RangeAt.pre {H H' : AHeap} {r id : Nat} {ek : κ → Value} {ev : ν → Value} {m left : List (κ × ν)} (h : RangeAt H r id ek ev m left) (hp : H <+: H') : RangeAt H' r id ek ev m left := by
  obtain ⟨es, ck, seen, a, b, c, d⟩ := h
  exact ⟨es, ck, seen, pre_get hp a, b, pre_get hp c, d⟩
omit [DecidableEq κ] in
theorem RangeAt.map {H : AHeap} {r id : Nat} {ek : κ → Value} {ev : ν → Value} {m left : List (κ × ν)} (h : RangeAt H r id ek ev m left) : DictAt H id ek ev m := by
  obtain ⟨es, ck, seen, a, b, c, d⟩ := h
  exact ⟨es, ck, a, b⟩
theorem map_split {α β γ : Type} {f : α → γ} {g : β → γ} : ∀ {A B : List α} {a : α} {L : List β}, (A ++ a :: B).map f = L.map g → ∃ L1 b L2, L = L1 ++ b :: L2 ∧ f a = g b ∧ A.map f = L1.map g ∧ B.map f = L2.map g := by
  intro A B a L h
  rw [List.map_append, List.map_cons] at h
  obtain ⟨L1, L2', rfl, h1, h2⟩ := List.map_eq_append_iff.1 h.symm
  obtain ⟨b, L2, rfl, h3, h4⟩ := List.map_eq_cons_iff.1 h2
  exact ⟨L1, b, L2, rfl, h3.symm, h1.symm, h4.symm⟩
omit [DecidableEq κ] in
theorem RangeAt.next {H : AHeap} {r id : Nat} {ek : κ → Value} {ev : ν → Value} {m left : List (κ × ν)} (h : RangeAt H r id ek ev m left) {K : Value → AHeap → Prop} {t1 : Tok K} {t2 : Tok H}
    (hend : left = [] → K (.tuple [.bool false].toArray) H)
    (hstep : ∀ L1 k v L2 o, left = L1 ++ (k, v) :: L2 → RangeAt (H.set r o) r id ek ev m (L1 ++ L2) → K (.tuple [.bool true, ek k, ev v].toArray) (H.set r o)) :
    anextP H (.pointer (some ⟨r, 0, none⟩)) K t1 t2 := by
  obtain ⟨es, ck, seen, h1, h2, h3, h4, h5, h6⟩ := h
  show anext _ _ _
  have hi : mapIterOf H (.pointer (some ⟨r, 0, none⟩)) = some (r, some id, ck, seen, ck) := by simp [mapIterOf, h3]
  simp only [anext, hi, h1]
  have hold : ∀ e ∈ es.toList, decide (e.born < ck) = true := fun e he => by simpa using h2.old e he
  have hall : (es.filter fun e => !seen.contains e.born).filter (fun e => decide (e.born < ck)) = es.filter fun e => !seen.contains e.born := by
    apply Array.toList_inj.1
    rw [Array.toList_filter, Array.toList_filter]
    refine List.filter_eq_self.2 fun e he => hold e ?_
    exact (List.mem_filter.1 he).1
  have hnew : (es.filter fun e => !seen.contains e.born).filter (fun e => decide (e.born ≥ ck)) = #[] := by
    apply Array.toList_inj.1
    rw [Array.toList_filter, Array.toList_filter]
    refine List.filter_eq_nil_iff.2 fun e he => ?_
    have := h2.old e (List.mem_filter.1 he).1
    simp; omega
  refine ⟨?_, ?_, ?_⟩
  · cases hne : es.isEmpty with
    | true => simp
    | false =>
      have : es.all (fun e => decide (e.born ≥ ck)) = false := by
        rw [← Array.all_toList]
        cases hl : es.toList with
        | nil => simp at hl; simp [hl] at hne
        | cons e l =>
          have := h2.old e (by rw [hl]; exact List.mem_cons_self ..)
          simp; intro; omega
      simp [this]
  · intro q
    rw [hall] at q
    have q' := congrArg Array.toList q
    rw [Array.toList_filter] at q'
    rw [q'] at h5
    exact hend (by simpa using h5.symm)
  · intro e he
    rw [hall, hnew, Array.append_empty] at he
    have he' : e ∈ es.toList.filter fun e => !seen.contains e.born := by rw [← Array.toList_filter]; simpa using he
    obtain ⟨A, B, hAB⟩ := List.append_of_mem he'
    rw [hAB] at h5
    obtain ⟨L1, p, L2, rfl, e1, e2, e3⟩ := map_split h5
    obtain ⟨k, v⟩ := p
    simp only [Prod.mk.injEq] at e1
    rw [e1.1, e1.2]
    refine hstep L1 k v L2 _ rfl ⟨es, ck, seen.push e.born, by rw [List.getElem?_set_ne h4]; exact h1, h2, List.getElem?_set_self (get_lt h3), h4, ?_, (List.Sublist.append (.refl _) (List.sublist_cons_self ..)).trans h6⟩
    have hnd : (A ++ e :: B).map (·.born) |>.Nodup := by rw [← hAB]; exact h2.born.sublist (List.filter_sublist.map _)
    have hsplit : (es.toList.filter fun x => !(seen.push e.born).contains x.born) = A ++ B := by
      have : (es.toList.filter fun x => !(seen.push e.born).contains x.born) = (es.toList.filter fun x => !seen.contains x.born).filter fun x => x.born != e.born := by
        rw [List.filter_filter]
        refine List.filter_congr fun x _ => ?_
        rw [Bool.eq_iff_iff]
        simp [and_comm]
      rw [this, hAB, List.filter_append, List.filter_cons]
      simp only [bne_self_eq_false, Bool.false_eq_true, if_false]
      rw [List.map_append, List.map_cons, List.nodup_append, List.nodup_cons] at hnd
      obtain ⟨n1, ⟨n2, n3⟩, n4⟩ := hnd
      rw [List.filter_eq_self.2, List.filter_eq_self.2]
      · intro x hx
        simp only [bne_iff_ne, ne_eq]
        exact fun q => n2 (q ▸ List.mem_map.2 ⟨x, hx, rfl⟩)
      · intro x hx
        simp only [bne_iff_ne, ne_eq]
        exact n4 _ (List.mem_map.2 ⟨x, hx, rfl⟩) _ (List.mem_cons_self ..)
    rw [hsplit, List.map_append, e2, e3, List.map_append]
end
end Go.AW
end
section
set_option linter.unusedVariables false
set_option linter.unusedSimpArgs false
namespace Go.AW
open Go
variable {P : Program}
inductive CK where
  | int (k : IntKind) | str | bytes | other
def kindT (P : Program) (t : TypeId) : CK :=
  match P.underlying t with
  | some (.int k) => .int k
  | some .string => .str
  | some (.slice e) => if P.underlying e matches some (.int .u8) then .bytes else .other
  | _ => .other
def aconvRaw (P : Program) (H : AHeap) (s t : TypeId) (v : Value) : Option (Value × AHeap) :=
  if strBytes P s t then aToBytes P H s t v
  else (match P.underlying s, P.underlying t with
    | some (.slice e), some .string => if P.underlying e matches some (.int .u8) then aToStr H v else none
    | _, _ => aconv P s t v).map (·, H)
def convK (P : Program) (H : AHeap) (s t : TypeId) (v : Value) : CK → CK → Option (Value × AHeap)
  | .int _, .int k => match v with | .int _ n => some (.int k (k.wrap n), H) | v => aconvRaw P H s t v
  | .str, .str => match v with | .string b => some (.string b, H) | v => aconvRaw P H s t v
  | .str, .bytes => match v with | .string b => some (.slice (some ⟨H.length, 0, none⟩) b.size 0, H ++ [.row (byteVals b) 1 true]) | v => aconvRaw P H s t v
  | .bytes, .str => (aToStr H v).map (·, H)
  | _, _ => aconvRaw P H s t v
theorem kindT_int {t : TypeId} {k : IntKind} (h : kindT P t = .int k) : P.underlying t = some (.int k) := by
  unfold kindT at h
  split at h <;> try cases h
  · assumption
  · split at h <;> cases h
theorem kindT_str {t : TypeId} (h : kindT P t = .str) : P.underlying t = some .string := by
  unfold kindT at h
  split at h <;> try cases h
  · assumption
  · split at h <;> cases h
theorem kindT_bytes {t : TypeId} (h : kindT P t = .bytes) : ∃ e, P.underlying t = some (.slice e) ∧ P.underlying e = some (.int .u8) := by
  unfold kindT at h
  split at h <;> try cases h
  rename_i e he
  split at h
  · rename_i q; exact ⟨e, he, by simpa using q⟩
  · cases h
theorem convK_eq (H : AHeap) (s t : TypeId) (v : Value) : aconvRaw P H s t v = convK P H s t v (kindT P s) (kindT P t) := by
  cases hs : kindT P s with
  | int ks =>
    have h1 := kindT_int hs
    cases ht : kindT P t with
    | int kt =>
      have h2 := kindT_int ht
      cases v <;> simp [convK, aconvRaw, strBytes, h1, h2, aconv]
    | _ => rfl
  | str =>
    have h1 := kindT_str hs
    cases ht : kindT P t with
    | str =>
      have h2 := kindT_str ht
      cases v <;> simp [convK, aconvRaw, strBytes, h1, h2, aconv]
    | bytes =>
      obtain ⟨e, h2, h3⟩ := kindT_bytes ht
      cases v <;> simp [convK, aconvRaw, strBytes, h1, h2, h3, aToBytes]
    | _ => rfl
  | bytes =>
    obtain ⟨e, h1, h3⟩ := kindT_bytes hs
    cases ht : kindT P t with
    | str =>
      have h2 := kindT_str ht
      simp [convK, aconvRaw, strBytes, h1, h2, h3]
    | _ => rfl
  | other => cases kindT P t <;> rfl
section
variable (P : Program) (T : Tm) (H : AHeap) (K : Value → AHeap → Prop) (d : Option Tmp) (ty : TypeId) (pos : String) (aft : Array Edge) (gd : Option (Nat × Bool))
theorem aop_convert (s t : TypeId) (x : Operand) : aop P T ⟨d, .convert s t x, ty, pos, aft, gd⟩ H K = abind (aev T x) (fun v => bindP (convK P H s t v (kindT P s) (kindT P t)) (fun p => K p.1 p.2) (tk _)) (tk _) := by
  rw [show abind (aev T x) (fun v => bindP (convK P H s t v (kindT P s) (kindT P t)) (fun p => K p.1 p.2) (tk _)) (tk _) = bindO (aconvRaw P H s t (aev T x)) (fun p => K p.1 p.2) by rw [convK_eq]; rfl]
  unfold aop
  simp only [cls, aconvRaw]
  cases strBytes P s t with
  | true => simp only [if_true]; rfl
  | false =>
    simp only [Bool.false_eq_true, if_false, aread]
    have gen : ∀ o : Option Value, bindO o (fun v => K v H) = bindO (o.map (·, H)) fun p => K p.1 p.2 := fun o => by cases o <;> rfl
    exact gen _
theorem convK_ii (s t : TypeId) (k k1 k2 : IntKind) (n : Int) : convK P H s t (.int k n) (.int k1) (.int k2) = some (.int k2 (k2.wrap n), H) := rfl
theorem convK_ss (s t : TypeId) (b : ByteArray) : convK P H s t (.string b) .str .str = some (.string b, H) := rfl
theorem convK_sb (s t : TypeId) (b : ByteArray) : convK P H s t (.string b) .str .bytes = some (.slice (some ⟨H.length, 0, none⟩) b.size 0, H ++ [.row (byteVals b) 1 true]) := rfl
theorem convK_bs (s t : TypeId) (v : Value) : convK P H s t v .bytes .str = (aToStr H v).map (·, H) := rfl
end
attribute [go_sem ↓] aop_convert
attribute [go_sem] convK_ii convK_ss convK_sb convK_bs
theorem abin_eq_slnil {t e : Nat} (hu : P.underlying t = some (.slice e)) (H : AHeap) (xo yo : Operand) (a : Option Addr) (n c m q : Nat) : abin P H .eql t xo yo (.slice a n c) (.slice none m q) = some (.bool a.isNone) := by
  cases a <;> simp [abin, aeqGuard, aeq, hu]
theorem abin_ne_slnil {t e : Nat} (hu : P.underlying t = some (.slice e)) (H : AHeap) (xo yo : Operand) (a : Option Addr) (n c m q : Nat) : abin P H .neq t xo yo (.slice a n c) (.slice none m q) = some (.bool !a.isNone) := by
  cases a <;> simp [abin, aeqGuard, aeq, hu]
theorem abin_eq_ptrnil {t e : Nat} (hu : P.underlying t = some (.pointer e)) (H : AHeap) (xo yo : Operand) (a : Option Addr) : abin P H .eql t xo yo (.pointer a) (.pointer none) = some (.bool a.isNone) := by
  cases a <;> simp [abin, aeqGuard, aeq, hu]
theorem abin_ne_ptrnil {t e : Nat} (hu : P.underlying t = some (.pointer e)) (H : AHeap) (xo yo : Operand) (a : Option Addr) : abin P H .neq t xo yo (.pointer a) (.pointer none) = some (.bool !a.isNone) := by
  cases a <;> simp [abin, aeqGuard, aeq, hu]
theorem abin_eq_mapnil {t k e : Nat} (hu : P.underlying t = some (.map k e)) (H : AHeap) (xo yo : Operand) (a : Option Nat) : abin P H .eql t xo yo (.map a) (.map none) = some (.bool a.isNone) := by
  cases a <;> simp [abin, aeqGuard, aeq, hu]
theorem abin_ne_mapnil {t k e : Nat} (hu : P.underlying t = some (.map k e)) (H : AHeap) (xo yo : Operand) (a : Option Nat) : abin P H .neq t xo yo (.map a) (.map none) = some (.bool !a.isNone) := by
  cases a <;> simp [abin, aeqGuard, aeq, hu]
theorem abin_eq_bool {t : Nat} (hu : P.underlying t = some .bool) (H : AHeap) (xo yo : Operand) (a b : Bool) : abin P H .eql t xo yo (.bool a) (.bool b) = some (.bool (a == b)) := by
  simp [abin, aeqGuard, aeq, hu]
theorem abin_ne_bool {t : Nat} (hu : P.underlying t = some .bool) (H : AHeap) (xo yo : Operand) (a b : Bool) : abin P H .neq t xo yo (.bool a) (.bool b) = some (.bool !(a == b)) := by
  simp [abin, aeqGuard, aeq, hu]
attribute [go_sem] decide_true decide_false
attribute [go_sem] Option.isNone_none Option.isNone_some
theorem abound_nat (n y : Nat) : abound (.int .i64 (n : Int)) y = if n ≤ y then some n else none := by
  simp only [abound]
  by_cases h : n ≤ y
  · rw [if_pos h, if_pos (by omega)]; simp
  · rw [if_neg h, if_neg (by omega)]
theorem optB_some (v : Value) (d : Option Nat) (y : Nat) : optB (some v) d y = abound v y := rfl
theorem optB_none (d : Option Nat) (y : Nat) : optB none d y = d := rfl
def capOf (n c : Nat) : Nat := if c = 0 then n else c
def cut (H : AHeap) (k : Nat) (a : Option Addr) (c l h : Nat) : Option Value :=
  match a with
  | none => some (.slice none 0 0)
  | some a =>
    if a.spot.isSome then some emp else
    if c = 0 then (if rowOf H a.block k then some (.slice (some (a.add (l * k))) (h - l) 0) else none) else
    if c = l then some emp else some (.slice (some (a.add (l * k))) (h - l) (c - l))
theorem aslice_sl {t e k : Nat} (hu : P.underlying t = some (.slice e)) (hk : szT P e = some k) (H : AHeap) (a : Option Addr) (n c : Nat) (lo hi : Option Value) :
    aslice P H t (.slice a n c) lo hi none = (optB hi (some n) (capOf n c)).bind fun h => (optB lo (some 0) h).bind fun l => cut H k a c l h := by
  simp only [aslice, hu, hk, Option.bind_some]; rfl
attribute [go_sem] abound_nat optB_some optB_none Option.map_none
theorem bytes_beq (a b : ByteArray) : (a == b) = decide (a = b) := by
  have h : (a == b) = (a.data == b.data) := rfl
  rw [h, Bool.eq_iff_iff]
  cases a; cases b; simp
theorem sameBits_one {v : Value} (h : plain1 v = true) (n : Nat) : Instr.sameBits n v v = true := by
  cases v <;> first | (simp [plain1] at h; done) | (cases n <;> simp [Instr.sameBits, bytes_beq])
theorem get_app {H : AHeap} {i : Nat} {o : AObj} (h : H[i]? = some o) (L : AHeap) : (H ++ L)[i]? = some o := pre_get (List.prefix_append _ _) h
theorem Own.appSl {α : Type} {H0 H : AHeap} {enc : α → List Value} {k : Nat} {v : Value} {l m : List α} {a : Option Addr} {c t e b : Nat} {z : Value} (hu : P.underlying t = some (.slice e)) (he : elemT P t = some e)
    (hi : ∃ i, P.info? e = some i ∧ i.zero = some z ∧ i.size = k ∧ i.bytes = b) (hz : z.cells.size = k) (hk0 : 0 < k) (hb : b ≤ 100000) (hk : ∀ x, (enc x).length = k) (h1 : ∀ x, (enc x).all oneCell = true)
    (hp : H0 <+: H) (h : Own H0.length H enc k v l) (hs : SlA H enc k a m) (hl : l.length < 100000) (hm : m.length < 100000) :
    ∃ v' H2, aappend P H t t v (.slice a m.length c) = some (v', H2) ∧ Own H0.length H2 enc k v' (l ++ m) ∧ H0 <+: H2 ∧ H.length ≤ H2.length ∧
      (∀ j, j < H.length → owner v ≠ some j → H2[j]? = H[j]?) ∧ (∀ j, owner v' = some j → owner v = some j ∨ H.length ≤ j) := by
  obtain ⟨inf, hi1, hi2, hi3, hi4⟩ := hi
  have hmul : (l.length + m.length) * b ≤ 200000 * 100000 := Nat.mul_le_mul (by omega) hb
  obtain ⟨v', H2, h3, h4, h5, h6, h7⟩ := Own.append h he hi1 hi2 hi3 hz hk0 hk h1 (asrc_sl (c := c) hu hs h1) (by rw [hi4]; omega) (by omega) (pre_len hp)
  refine ⟨v', H2, h3, h4, ?_, h5, h6, h7⟩
  refine List.prefix_iff_getElem?.2 fun i hi => ?_
  have hiH : i < H.length := Nat.lt_of_lt_of_le hi (pre_len hp)
  rw [h6 i hiH (fun ho => by have := (h.owner_ge ho).1; omega)]
  exact pre_get hp (by simp [hi])
theorem Own.app1b {α : Type} {H : AHeap} {enc : α → List Value} {k : Nat} {v : Value} {l : List α} {t e bt b : Nat} {z : Value} (hu : P.underlying t = some (.slice e)) (he : elemT P t = some e)
    (hi : ∃ i, P.info? e = some i ∧ i.zero = some z ∧ i.size = k ∧ i.bytes = bt) (hz : z.cells.size = k) (hk0 : 0 < k) (hbt : bt ≤ 100000) (hk : ∀ x, (enc x).length = k) (h1 : ∀ x, (enc x).all oneCell = true)
    (hb : b ≤ H.length) (h : Own b H enc k v l) (x : α) (hl : l.length < 100000) :
    ∃ v' H2, aappend P (H ++ [.row (enc x) k true]) t t v (.slice (some ⟨H.length, 0, none⟩) 1 1) = some (v', H2) ∧ Own b H2 enc k v' (l ++ [x]) ∧ H.length ≤ H2.length ∧
      (∀ j, j < H.length → owner v ≠ some j → H2[j]? = H[j]?) ∧ (∀ j, owner v' = some j → owner v = some j ∨ H.length ≤ j) := by
  obtain ⟨inf, hi1, hi2, hi3, hi4⟩ := hi
  have hs : asrc P (H ++ [.row (enc x) k true]) k t (.slice (some ⟨H.length, 0, none⟩) 1 1) = some ([x].length, [x].flatMap enc) :=
    asrc_sl (l := [x]) hu (SlA.ofRow (get_end H _ []) (by simp) hk) h1
  have hmul : (l.length + 1) * bt ≤ 100000 * 100000 := Nat.mul_le_mul (by omega) hbt
  obtain ⟨v', H2, h3, h4, h5, h6, h7⟩ := Own.append (news := [x]) (h.pre (pre_add H (.row (enc x) k true))) he hi1 hi2 hi3 hz hk0 hk h1 hs (by rw [hi4]; simp only [List.length_singleton]; omega) (by simp only [List.length_singleton]; omega) (by simp; omega)
  refine ⟨v', H2, h3, h4, by simp at h5; omega, fun j hj ho => ?_, fun j hj => ?_⟩
  · rw [h6 j (by simp; omega) ho, List.getElem?_append_left hj]
  · rcases h7 j hj with h | h
    · exact .inl h
    · right; simp at h; omega
theorem clear_own {t e k : Nat} {z : Value} (hu : P.underlying t = some (.slice e)) (hk : szT P e = some k) (hz : zeroT P e = some z) (hp : plainV 100 z = true) (hzs : z.cells.size = k) (hone : z.cells.toList.all oneCell = true)
    {H : AHeap} {id : Nat} {cs : List Value} (hr : H[id]? = some (.row cs k true)) (off n c : Nat) (hn : 0 < n) (hfit : off + n * k ≤ cs.length) :
    ∃ R, R.length = n * k ∧ aclear P H t (.slice (some ⟨id, off, none⟩) n c) = some (H.set id (.row (cs.take off ++ R ++ cs.drop (off + n * k)) k true)) := by
  have hsz : (Builtin.zeroCells z.cells n).toList.length = n * k := by simp [Builtin.zeroCells, hzs]
  refine ⟨(Builtin.zeroCells z.cells n).toList, hsz, ?_⟩
  have h1 : (Builtin.zeroCells z.cells n).toList.all oneCell = true := by
    rw [List.all_eq_true]
    intro v hv
    simp only [Builtin.zeroCells, Array.toList_map, List.mem_map] at hv
    obtain ⟨i, hi, rfl⟩ := hv
    have hi2 : i < n * z.cells.size := by simpa using hi
    have hpos : 0 < z.cells.size := by rcases Nat.eq_zero_or_pos z.cells.size with q | q; rw [q] at hi2; omega; exact q
    have hm : i % z.cells.size < z.cells.size := Nat.mod_lt _ hpos
    rw [getElem!_pos z.cells _ hm]
    exact List.all_eq_true.1 hone _ (by simp)
  simp only [aclear, hu, if_neg (show ¬ n = 0 by omega), hk, hz, Option.bind_some, hp, hzs, astore, hr, h1, Bool.and_true, decide_eq_true_eq]
  rw [if_pos ⟨trivial, trivial⟩, if_pos (by rw [hsz]; exact hfit), hsz]
theorem SlA.none_nil {α : Type} {H : AHeap} {enc : α → List Value} {k : Nat} {l : List α} (h : SlA H enc k none l) : l = [] := by
  cases l with
  | nil => rfl
  | cons x l => obtain ⟨_, _, q, _⟩ := h 0 x rfl; cases q
theorem own_open {α : Type} {b : Nat} {H : AHeap} {enc : α → List Value} {k : Nat} {a : Option Addr} {n c : Nat} {l : List α} (h : Own b H enc k (.slice a n c) l) (hne : 0 < l.length) :
    ∃ id rest, b ≤ id ∧ a = some ⟨id, 0, none⟩ ∧ n = l.length ∧ H[id]? = some (.row (l.flatMap enc ++ rest) k true) ∧ (c = 0 ∨ (0 < c ∧ c * k = (l.flatMap enc ++ rest).length)) := by
  rcases h with ⟨rfl, _⟩ | ⟨id, rest, c', h1, h2, h3, h4⟩
  · simp at hne
  · cases h2; exact ⟨id, rest, h1, rfl, rfl, h3, h4⟩
theorem own_cap {α : Type} {b : Nat} {H : AHeap} {enc : α → List Value} {k id n c : Nat} {l : List α} (h : Own b H enc k (.slice (some ⟨id, 0, none⟩) n c) l) (hk : ∀ x, (enc x).length = k) (hk0 : 0 < k) (hc : c ≠ 0) : l.length ≤ c := by
  rcases h with ⟨rfl, _⟩ | ⟨id', rest, c', h1, h2, h3, h4⟩
  · simp
  · cases h2
    rcases h4 with h4 | ⟨h5, h6⟩
    · exact absurd h4 hc
    · rw [List.length_append, flat_len hk] at h6
      exact Nat.le_of_mul_le_mul_right (show l.length * k ≤ c * k by omega) hk0
theorem own_at {α : Type} {b : Nat} {H : AHeap} {enc : α → List Value} {k id n c : Nat} {l : List α} (h : Own b H enc k (.slice (some ⟨id, 0, none⟩) n c) l) (hk : ∀ x, (enc x).length = k) (i : Nat) (x : α) (hx : l[i]? = some x) : aload H ⟨id, i * k, none⟩ k = some (enc x) := by
  obtain ⟨_, hsl⟩ := h.slA hk
  obtain ⟨id', off', q, h1⟩ := hsl i x hx
  cases q
  rwa [Nat.zero_add] at h1
theorem own_cut {α : Type} {b : Nat} {H : AHeap} {enc : α → List Value} {k id n c : Nat} {l : List α} (h : Own b H enc k (.slice (some ⟨id, 0, none⟩) n c) l) (hk : ∀ x, (enc x).length = k) (hk0 : 0 < k) (hne : 0 < l.length) (i : Nat) (hi : i < n) :
    ∃ c', cut H k (some ⟨id, 0, none⟩) c i n = some (.slice (some ⟨id, i * k, none⟩) (n - i) c') := by
  have hcap := own_cap h hk hk0
  obtain ⟨id', rest, _, q, rfl, h3, h4⟩ := own_open h hne
  cases q
  simp only [cut, Option.isSome_none, Bool.false_eq_true, if_false, add_none, Nat.zero_add]
  by_cases hc : c = 0
  · rw [if_pos hc, if_pos (by simp [rowOf, h3])]; exact ⟨_, rfl⟩
  · have := hcap hc
    rw [if_neg hc, if_neg (by omega)]; exact ⟨_, rfl⟩
theorem flat_take {α : Type} {enc : α → List Value} {k : Nat} (hk : ∀ x, (enc x).length = k) : ∀ (l : List α) (i : Nat), (l.flatMap enc).take (i * k) = (l.take i).flatMap enc
  | [], i => by simp
  | x :: l, 0 => by simp
  | x :: l, i + 1 => by
    rw [List.flatMap_cons, List.take_succ_cons, List.flatMap_cons, ← flat_take hk l i, show (i + 1) * k = (enc x).length + i * k by rw [hk x, Nat.add_mul]; omega, List.take_length_add_append]
theorem cut0_row {H : AHeap} {id k c : Nat} {cs : List Value} (h : H[id]? = some (.row cs k true)) (i : Nat) : cut H k (some ⟨id, 0, none⟩) c 0 i = some (.slice (some ⟨id, 0, none⟩) i c) := by
  simp only [cut, Option.isSome_none, Bool.false_eq_true, if_false, add_none, Nat.zero_add, Nat.zero_mul, Nat.sub_zero]
  by_cases hc : c = 0
  · rw [if_pos hc, if_pos (by simp [rowOf, h]), hc]
  · rw [if_neg hc, if_neg hc]
theorem own_capOf {α : Type} {b : Nat} {H : AHeap} {enc : α → List Value} {k id n c : Nat} {l : List α} (h : Own b H enc k (.slice (some ⟨id, 0, none⟩) n c) l) (hk : ∀ x, (enc x).length = k) (hk0 : 0 < k) : n ≤ capOf n c := by
  unfold capOf
  split
  · exact Nat.le_refl _
  · rename_i q; have := own_cap h hk hk0 q; have := (h.slA hk).1; omega
theorem own_clear {P : Program} {α : Type} {t e k : Nat} {z : Value} (hu : P.underlying t = some (.slice e)) (hz : zeroT P e = some z) (hsz : szT P e = some k) (hp : plainV 100 z = true) (hzs : z.cells.size = k) (hone : z.cells.toList.all oneCell = true)
    {b : Nat} {H : AHeap} {enc : α → List Value} {id n c m : Nat} {cur : List α} (h : Own b H enc k (.slice (some ⟨id, 0, none⟩) n c) cur) (hk : ∀ x, (enc x).length = k) (hk0 : 0 < k) (hm : m < n) :
    ∃ s H2, cut H k (some ⟨id, 0, none⟩) c m n = some s ∧ aclear P H t s = some H2 ∧ cut H2 k (some ⟨id, 0, none⟩) c 0 m = some (.slice (some ⟨id, 0, none⟩) m c) ∧ Own b H2 enc k (.slice (some ⟨id, 0, none⟩) m c) (cur.take m) ∧
      H2.length = H.length ∧ ∀ j, j ≠ id → H2[j]? = H[j]? := by
  have hne : 0 < cur.length := by have := (h.slA hk).1; omega
  obtain ⟨c', hcut⟩ := own_cut h hk hk0 hne m hm
  obtain ⟨id', rest, hb, q, rfl, hrow, hcap⟩ := own_open h hne
  cases q
  have hlen : (cur.flatMap enc ++ rest).length = cur.length * k + rest.length := by rw [List.length_append, flat_len hk]
  have e1 : m * k + (cur.length - m) * k = cur.length * k := by rw [← Nat.add_mul]; congr 1; omega
  obtain ⟨R, hR, hcl⟩ := clear_own hu hsz hz hp hzs hone hrow (m * k) (cur.length - m) c' (by omega) (by rw [hlen, e1]; omega)
  have hrow2 := List.getElem?_set_self (l := H) (a := AObj.row ((cur.flatMap enc ++ rest).take (m * k) ++ R ++ (cur.flatMap enc ++ rest).drop (m * k + (cur.length - m) * k)) k true) (get_lt hrow)
  have hfl : m * k ≤ (cur.flatMap enc).length := by rw [flat_len hk]; omega
  refine ⟨_, _, hcut, hcl, cut0_row hrow2 m, .inr ⟨id, R ++ (cur.flatMap enc ++ rest).drop (m * k + (cur.length - m) * k), c, hb, ?_, ?_, ?_⟩, by simp, fun j hj => List.getElem?_set_ne (Ne.symm hj)⟩
  · rw [List.length_take, Nat.min_eq_left (by omega)]
  · rw [hrow2, List.take_append_of_le_length hfl, flat_take hk, List.append_assoc]
  · rcases hcap with hcap | ⟨hc, hcap⟩
    · exact .inl hcap
    · refine .inr ⟨hc, ?_⟩
      rw [hcap, hlen]
      simp only [List.length_append, List.length_drop, hlen, hR]
      rw [← flat_take hk, List.length_take, Nat.min_eq_left hfl]
      omega
section
variable {κ ν : Type}
theorem find_born {es : List MapEntry} (hn : (es.map (·.born)).Nodup) {e : MapEntry} (he : e ∈ es) : es.find? (·.born == e.born) = some e := by
  induction es with
  | nil => cases he
  | cons x es ih =>
    simp only [List.map_cons, List.nodup_cons] at hn
    rcases List.mem_cons.1 he with rfl | he
    · simp
    · have : x.born ≠ e.born := fun q => hn.1 (q ▸ List.mem_map.2 ⟨e, he, rfl⟩)
      rw [List.find?_cons_of_neg (by simpa using this), ih hn.2 he]
def EntryAt (H : AHeap) (r id : Nat) (ek : κ → Value) (ev : ν → Value) (k : κ) (v : ν) : Prop :=
  ∃ es ck since seen e, H[id]? = some (.map es ck) ∧ H[r]? = some (.mapIter (some id) since seen ck) ∧ seen.back? = some e.born ∧ e ∈ es.toList ∧ (es.toList.map (·.born)).Nodup ∧ e.key = ek k ∧ e.val = ev v
theorem EntryAt.get {H : AHeap} {r id : Nat} {ek : κ → Value} {ev : ν → Value} {k : κ} {v : ν} (h : EntryAt H r id ek ev k v) : aentry H (.pointer (some ⟨r, 0, none⟩)) = some (.tuple [ek k, ev v].toArray) := by
  obtain ⟨es, ck, since, seen, e, h1, h2, h3, h4, h5, h6, h7⟩ := h
  have := find_born h5 h4
  have hf : es.find? (fun x => x.born == e.born) = some e := by rw [← Array.find?_toList]; exact this
  simp [aentry, mapIterOf, h1, h2, h3, hf, h6, h7]
theorem EntryAt.keep {H H' : AHeap} {r id : Nat} {ek : κ → Value} {ev : ν → Value} {k : κ} {v : ν} (h : EntryAt H r id ek ev k v) (h1 : H'[id]? = H[id]?) (h2 : H'[r]? = H[r]?) : EntryAt H' r id ek ev k v := by
  obtain ⟨es, ck, since, seen, e, a, b, c⟩ := h
  exact ⟨es, ck, since, seen, e, by rw [h1]; exact a, by rw [h2]; exact b, c⟩
theorem RangeAt.next2 {H : AHeap} {r id : Nat} {ek : κ → Value} {ev : ν → Value} {m left : List (κ × ν)} (h : RangeAt H r id ek ev m left) {K : Value → AHeap → Prop} {t1 : Tok K} {t2 : Tok H}
    (hend : left = [] → K (.tuple [.bool false].toArray) H)
    (hstep : ∀ L1 k v L2 o, left = L1 ++ (k, v) :: L2 → RangeAt (H.set r o) r id ek ev m (L1 ++ L2) → EntryAt (H.set r o) r id ek ev k v → K (.tuple [.bool true, ek k, ev v].toArray) (H.set r o)) :
    anextP H (.pointer (some ⟨r, 0, none⟩)) K t1 t2 := by
  have h0 := h
  obtain ⟨es, ck, seen, h1, h2, h3, h4, h5, h6⟩ := h
  -- the same steps with the entries in sight
  show anext _ _ _
  have hi : mapIterOf H (.pointer (some ⟨r, 0, none⟩)) = some (r, some id, ck, seen, ck) := by simp [mapIterOf, h3]
  have key := RangeAt.next (K := fun v H' => (v = .tuple [.bool false].toArray → H' = H → K v H') ∧ ((∃ e, e ∈ es.toList ∧ v = .tuple #[.bool true, e.key, e.val] ∧ H' = H.set r (.mapIter (some id) ck (seen.push e.born) ck)) → K v H')) (t1 := tk _) (t2 := tk _) h0
  simp only [anext, hi, h1]
  have hold : ∀ e ∈ es.toList, decide (e.born < ck) = true := fun e he => by simpa using h2.old e he
  have hall : (es.filter fun e => !seen.contains e.born).filter (fun e => decide (e.born < ck)) = es.filter fun e => !seen.contains e.born := by
    apply Array.toList_inj.1
    rw [Array.toList_filter, Array.toList_filter]
    refine List.filter_eq_self.2 fun e he => hold e ?_
    exact (List.mem_filter.1 he).1
  have hnew : (es.filter fun e => !seen.contains e.born).filter (fun e => decide (e.born ≥ ck)) = #[] := by
    apply Array.toList_inj.1
    rw [Array.toList_filter, Array.toList_filter]
    refine List.filter_eq_nil_iff.2 fun e he => ?_
    have := h2.old e (List.mem_filter.1 he).1
    simp; omega
  clear key
  refine ⟨?_, ?_, ?_⟩
  · cases hne : es.isEmpty with
    | true => simp
    | false =>
      have : es.all (fun e => decide (e.born ≥ ck)) = false := by
        rw [← Array.all_toList]
        cases hl : es.toList with
        | nil => simp at hl; simp [hl] at hne
        | cons e l =>
          have := h2.old e (by rw [hl]; exact List.mem_cons_self ..)
          simp; intro; omega
      simp [this]
  · intro q
    rw [hall] at q
    have q' := congrArg Array.toList q
    rw [Array.toList_filter] at q'
    rw [q'] at h5
    exact hend (by simpa using h5.symm)
  · intro e he
    rw [hall, hnew, Array.append_empty] at he
    have he' : e ∈ es.toList.filter fun e => !seen.contains e.born := by rw [← Array.toList_filter]; simpa using he
    have hemem : e ∈ es.toList := (List.mem_filter.1 he').1
    obtain ⟨A, B, hAB⟩ := List.append_of_mem he'
    rw [hAB] at h5
    obtain ⟨L1, p, L2, rfl, e1, e2, e3⟩ := map_split h5
    obtain ⟨k, v⟩ := p
    simp only [Prod.mk.injEq] at e1
    rw [e1.1, e1.2]
    refine hstep L1 k v L2 _ rfl ⟨es, ck, seen.push e.born, by rw [List.getElem?_set_ne h4]; exact h1, h2, List.getElem?_set_self (get_lt h3), h4, ?_, (List.Sublist.append (.refl _) (List.sublist_cons_self ..)).trans h6⟩
      ⟨es, ck, ck, seen.push e.born, e, by rw [List.getElem?_set_ne h4]; exact h1, List.getElem?_set_self (get_lt h3), by simp, hemem, h2.born, e1.1, e1.2⟩
    have hnd : (A ++ e :: B).map (·.born) |>.Nodup := by rw [← hAB]; exact h2.born.sublist (List.filter_sublist.map _)
    have hsplit : (es.toList.filter fun x => !(seen.push e.born).contains x.born) = A ++ B := by
      have : (es.toList.filter fun x => !(seen.push e.born).contains x.born) = (es.toList.filter fun x => !seen.contains x.born).filter fun x => x.born != e.born := by
        rw [List.filter_filter]
        refine List.filter_congr fun x _ => ?_
        rw [Bool.eq_iff_iff]
        simp [and_comm]
      rw [this, hAB, List.filter_append, List.filter_cons]
      simp only [bne_self_eq_false, Bool.false_eq_true, if_false]
      rw [List.map_append, List.map_cons, List.nodup_append, List.nodup_cons] at hnd
      obtain ⟨n1, ⟨n2, n3⟩, n4⟩ := hnd
      rw [List.filter_eq_self.2, List.filter_eq_self.2]
      · intro x hx
        simp only [bne_iff_ne, ne_eq]
        exact fun q => n2 (q ▸ List.mem_map.2 ⟨x, hx, rfl⟩)
      · intro x hx
        simp only [bne_iff_ne, ne_eq]
        exact n4 _ (List.mem_map.2 ⟨x, hx, rfl⟩) _ (List.mem_cons_self ..)
    rw [hsplit, List.map_append, e2, e3, List.map_append]
end
end Go.AW
end
section
set_option linter.unusedVariables false
set_option linter.unusedSimpArgs false
namespace Go.AW
open Go
variable {P : Program}
theorem aloop_join {c : Code} {id : Nat} {Q : Exit → Tm → AHeap → Prop} (M : Tm → AHeap → Prop) (I : Nat → Tm → AHeap → Prop) {n : Nat} {T : Tm} {H : AHeap} {t1 : Tok c} {t2 : Tok (Exit.inBlockA id Q)} {t3 : Tok T} {t4 : Tok H}
    (h : I n T H) (hstep : ∀ n T H, I n T H → awp P c (Exit.thenA (fun T' H' => ∃ m, m < n ∧ I m T' H') (Exit.inBlockA id (Exit.thenA M Q))) T H) (h3 : ∀ T H, M T H → Q .normal T H) : aloopP P c (Exit.inBlockA id Q) T H t1 t2 t3 t4 := by
  refine aloopP_of I h fun n T H hi => awp_mono c T H ?_ (hstep n T H hi)
  intro e T H he
  cases e with
  | normal => exact he
  | ret => exact he
  | «exit» k =>
    rw [thenA_exit, inBlockA_exit] at he ⊢
    by_cases q : k = id
    · rw [if_pos q] at he ⊢; exact h3 T H he
    · rw [if_neg q] at he ⊢; exact he
  | _ => exact he
theorem aloopP_once {P : Program} {c : Code} {Q : Exit → Tm → AHeap → Prop} {T : Tm} {H : AHeap} {t1 : Tok c} {t2 : Tok Q} {t3 : Tok T} {t4 : Tok H} (h : awp P c (Exit.thenA (fun _ _ => False) Q) T H) : aloopP P c Q T H t1 t2 t3 t4 := ⟨1, h⟩
def isIf (P : Program) (t : TypeId) : Bool := match P.underlying t with | some (.interface _) => true | _ => false
theorem isIf_eq {t : TypeId} (h : isIf P t = true) : ∃ ms, P.underlying t = some (.interface ms) := by
  unfold isIf at h
  split at h
  · rename_i ms e; exact ⟨ms, e⟩
  · cases h
theorem abin_eq_if0 {t : TypeId} (hi : isIf P t = true) (H : AHeap) (xo : Operand) (w : Value) : abin P H .eql t xo (.const w) .nilIface .nilIface = some (.bool true) := by
  obtain ⟨ms, hu⟩ := isIf_eq hi
  simp [abin, aeqGuard, isConst, aeq, hu]
theorem abin_eq_if1 {t : TypeId} (hi : isIf P t = true) (H : AHeap) (xo yo : Operand) (u : TypeId) (v : Value) : abin P H .eql t xo yo (.iface u v) .nilIface = some (.bool false) := by
  obtain ⟨ms, hu⟩ := isIf_eq hi
  simp [abin, aeqGuard, aeq, hu]
theorem abin_ne_if0 {t : TypeId} (hi : isIf P t = true) (H : AHeap) (xo : Operand) (w : Value) : abin P H .neq t xo (.const w) .nilIface .nilIface = some (.bool false) := by
  obtain ⟨ms, hu⟩ := isIf_eq hi
  simp [abin, aeqGuard, isConst, aeq, hu]
theorem abin_ne_if1 {t : TypeId} (hi : isIf P t = true) (H : AHeap) (xo yo : Operand) (u : TypeId) (v : Value) : abin P H .neq t xo yo (.iface u v) .nilIface = some (.bool true) := by
  obtain ⟨ms, hu⟩ := isIf_eq hi
  simp [abin, aeqGuard, aeq, hu]
end Go.AW
end
