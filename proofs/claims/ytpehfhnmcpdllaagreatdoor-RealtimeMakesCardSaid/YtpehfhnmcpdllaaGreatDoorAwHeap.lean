/-
  AW, part 25: laws of abstract heaps: what is kept when a heap grows; slices that are read; slices of our own.
-/
import Derived.Test.YtpehfhnmcpdllaaGreatDoorAwKit
set_option linter.unusedVariables false
set_option linter.unusedSimpArgs false
namespace Go.AW
open Go

/-! ### a heap that has grown -/
theorem pre_get {H H' : AHeap} (h : H <+: H') {i : Nat} {o : AObj} (hx : H[i]? = some o) : H'[i]? = some o := by
  obtain ⟨L, rfl⟩ := h
  rw [List.getElem?_append_left, hx]
  rcases Nat.lt_or_ge i H.length with h | h
  · exact h
  · rw [List.getElem?_eq_none h] at hx; cases hx

theorem get_lt {H : AHeap} {i : Nat} {o : AObj} (hx : H[i]? = some o) : i < H.length := by
  rcases Nat.lt_or_ge i H.length with h | h
  · exact h
  · rw [List.getElem?_eq_none h] at hx; cases hx

theorem pre_add (H : AHeap) (o : AObj) : H <+: H ++ [o] := ⟨[o], rfl⟩
theorem pre_set {H0 H : AHeap} (h : H0 <+: H) {id : Nat} (hid : H0.length ≤ id) (o : AObj) : H0 <+: H.set id o := by
  obtain ⟨L, rfl⟩ := h
  rw [List.set_append_right _ _ hid]
  exact ⟨_, rfl⟩
theorem pre_set_add {H0 H : AHeap} (h : H0 <+: H) {id : Nat} (hid : H0.length ≤ id) (o p : AObj) : H0 <+: H.set id o ++ [p] := (pre_set h hid o).trans (pre_add _ _)
theorem pre_len {H H' : AHeap} (h : H <+: H') : H.length ≤ H'.length := h.length_le
theorem get_end (H : AHeap) (o : AObj) (L : AHeap) : (H ++ o :: L)[H.length]? = some o := by simp
theorem get_end1 (H : AHeap) (o p : AObj) (L : AHeap) : (H ++ o :: p :: L)[H.length + 1]? = some p := by simp
theorem get_end2 (H : AHeap) (o p q : AObj) (L : AHeap) : (H ++ o :: p :: q :: L)[H.length + 2]? = some q := by simp
theorem set_end (H : AHeap) (o p : AObj) (L : AHeap) : (H ++ o :: L).set H.length p = H ++ p :: L := by simp
theorem set_end1 (H : AHeap) (o p q : AObj) (L : AHeap) : (H ++ o :: p :: L).set (H.length + 1) q = H ++ o :: q :: L := by simp
theorem get_end3 (H : AHeap) (o p q r : AObj) (L : AHeap) : (H ++ o :: p :: q :: r :: L)[H.length + 3]? = some r := by simp

/-! ### cells -/
theorem aload_iff {H : AHeap} {a : Addr} {n : Nat} {cs : List Value} :
    aload H a n = some cs ↔ a.spot = none ∧ ∃ row k own, H[a.block]? = some (.row row k own) ∧ a.off + n ≤ row.length ∧ cs = (row.drop a.off).take n := by
  unfold aload
  constructor
  · intro h
    split at h
    · rename_i row k own h1 h2
      split at h
      · rename_i h3
        cases h
        exact ⟨h1, row, k, own, h2, h3, rfl⟩
      · cases h
    · cases h
  · rintro ⟨h1, row, k, own, h2, h3, rfl⟩
    rw [h1, h2]
    simp [h3]

theorem aload_pre {H H' : AHeap} (h : H <+: H') {a : Addr} {n : Nat} {cs : List Value} (hl : aload H a n = some cs) : aload H' a n = some cs := by
  rw [aload_iff] at hl ⊢
  obtain ⟨h1, row, k, own, h2, h3, h4⟩ := hl
  exact ⟨h1, row, k, own, pre_get h h2, h3, h4⟩

theorem aload_len {H : AHeap} {a : Addr} {n : Nat} {cs : List Value} (hl : aload H a n = some cs) : cs.length = n := by
  obtain ⟨_, row, _, _, _, h3, rfl⟩ := aload_iff.1 hl
  simp; omega

theorem aload_sub {H : AHeap} {id off n : Nat} {cs : List Value} (hl : aload H ⟨id, off, none⟩ n = some cs) (j m : Nat) (h : j + m ≤ n) : aload H ⟨id, off + j, none⟩ m = some ((cs.drop j).take m) := by
  obtain ⟨h1, row, k, own, h2, h3, rfl⟩ := aload_iff.1 hl
  simp only at h2 h3
  refine aload_iff.2 ⟨rfl, row, k, own, h2, ?_, ?_⟩
  · simp only; omega
  · simp only
    rw [List.drop_take, List.take_take, List.drop_drop, Nat.min_eq_left (by omega)]

theorem aload_cat {H : AHeap} {id off n m : Nat} {cs ds : List Value} (h1 : aload H ⟨id, off, none⟩ n = some cs) (h2 : aload H ⟨id, off + n, none⟩ m = some ds) : aload H ⟨id, off, none⟩ (n + m) = some (cs ++ ds) := by
  obtain ⟨s, row, k, own, g, l, rfl⟩ := aload_iff.1 h1
  obtain ⟨_, row', k', own', g', l', rfl⟩ := aload_iff.1 h2
  simp only at g' l' g l
  rw [g] at g'
  cases g'
  refine aload_iff.2 ⟨rfl, row, k, own, g, by simp only; omega, ?_⟩
  simp only
  rw [List.take_add, List.drop_drop]

theorem flat_len {α : Type} {enc : α → List Value} {k : Nat} (hk : ∀ x, (enc x).length = k) (l : List α) : (l.flatMap enc).length = l.length * k := by
  induction l with
  | nil => simp
  | cons x l ih => rw [List.flatMap_cons, List.length_append, ih, hk, List.length_cons, Nat.add_mul]; omega
theorem flat_one {α : Type} {enc : α → List Value} (h1 : ∀ x, (enc x).all oneCell = true) (l : List α) : (l.flatMap enc).all oneCell = true := by
  rw [List.all_eq_true]
  intro v hv
  obtain ⟨y, _, hy⟩ := List.mem_flatMap.1 hv
  exact List.all_eq_true.1 (h1 y) v hy

/-- as the operations ask it: a whole value, one cell of it -/
theorem rowLoad_whole {H : AHeap} {id off n : Nat} {cs : List Value} (h : aload H ⟨id, off, none⟩ n = some cs) : (H[id]?).bind (rowLoad (some true) (some n) off) = some (.agg cs.toArray) := by
  obtain ⟨_, row, k, own, g, l, rfl⟩ := aload_iff.1 h
  simp only at g l
  simp [g, rowLoad, l]
theorem rowLoad_cell {H : AHeap} {id off n : Nat} {cs : List Value} (h : aload H ⟨id, off, none⟩ n = some cs) (m : Option Nat) (j : Nat) (hj : j < n) : (H[id]?).bind (rowLoad (some false) m (off + j)) = cs[j]? := by
  obtain ⟨_, row, k, own, g, l, rfl⟩ := aload_iff.1 h
  simp only at g l
  simp only [g, Option.bind_some, rowLoad]
  rw [List.getElem?_take, if_pos hj, List.getElem?_drop]
theorem rowLoad_one0 {H : AHeap} {id off : Nat} {v : Value} (h : aload H ⟨id, off, none⟩ 1 = some [v]) (m : Option Nat) : (H[id]?).bind (rowLoad (some false) m off) = some v := by
  have := rowLoad_cell h m 0 (by omega)
  simpa using this
theorem aload_row {H : AHeap} {id : Nat} {cs : List Value} {k : Nat} {own : Bool} (h : H[id]? = some (.row cs k own)) (off n : Nat) (hl : off + n ≤ cs.length) : aload H ⟨id, off, none⟩ n = some ((cs.drop off).take n) :=
  aload_iff.2 ⟨rfl, cs, k, own, h, hl, rfl⟩
theorem aload_row_all {H : AHeap} {id : Nat} {cs : List Value} {k : Nat} {own : Bool} (h : H[id]? = some (.row cs k own)) : aload H ⟨id, 0, none⟩ cs.length = some cs := by
  rw [aload_row h 0 _ (by omega)]; simp

/-! ### fields of a value -/
theorem afield_agg {P : Program} {t i o n : Nat} {f : Field} (h : fieldT P t i = some f) (ho : f.offset = o) (ha : aggT P f.type = some true) (hn : szT P f.type = some n) (cs : List Value) :
    afield P t (.agg cs.toArray) i = some (.agg ((cs.drop o).take n).toArray) := by
  subst ho
  simp [afield, h, apart, ha, hn]
theorem afield_one {P : Program} {t i o : Nat} {f : Field} (h : fieldT P t i = some f) (ho : f.offset = o) (ha : aggT P f.type = some false) (cs : List Value) :
    afield P t (.agg cs.toArray) i = cs[o]? := by
  subst ho
  simp [afield, h, apart, ha]

/-! ### slices that are read -/
section
variable {α : Type}
/-- the slice at 'a' holds these elements -/
def SlA (H : AHeap) (enc : α → List Value) (k : Nat) (a : Option Addr) (l : List α) : Prop :=
  ∀ (i : Nat) (x : α), l[i]? = some x → ∃ id off, a = some ⟨id, off, none⟩ ∧ aload H ⟨id, off + i * k, none⟩ k = some (enc x)

theorem SlA.nil (H : AHeap) (enc : α → List Value) (k : Nat) (a : Option Addr) : SlA H enc k a [] := fun i x h => by simp at h
theorem SlA.pre {H H' : AHeap} {enc : α → List Value} {k : Nat} {a : Option Addr} {l : List α} (h : SlA H enc k a l) (hp : H <+: H') : SlA H' enc k a l :=
  fun i x hx => by obtain ⟨id, off, h1, h2⟩ := h i x hx; exact ⟨id, off, h1, aload_pre hp h2⟩

theorem SlA.at {H : AHeap} {enc : α → List Value} {k : Nat} {a : Option Addr} {l : List α} (h : SlA H enc k a l) (hne : 0 < l.length) :
    ∃ id off, a = some ⟨id, off, none⟩ ∧ ∀ (i : Nat) (x : α), l[i]? = some x → aload H ⟨id, off + i * k, none⟩ k = some (enc x) := by
  obtain ⟨x, hx⟩ : ∃ x, l[0]? = some x := ⟨l[0], by simp [hne]⟩
  obtain ⟨id, off, h1, _⟩ := h 0 x hx
  refine ⟨id, off, h1, fun i y hy => ?_⟩
  obtain ⟨id', off', h3, h4⟩ := h i y hy
  rw [h1] at h3
  cases h3
  exact h4

theorem SlA.all {H : AHeap} {enc : α → List Value} {k id off : Nat} (l : List α) (h : ∀ (i : Nat) (x : α), l[i]? = some x → aload H ⟨id, off + i * k, none⟩ k = some (enc x)) (hne : 0 < l.length) :
    aload H ⟨id, off, none⟩ (l.length * k) = some (l.flatMap enc) := by
  induction l generalizing off with
  | nil => simp at hne
  | cons x l ih =>
    have h0 : aload H ⟨id, off, none⟩ k = some (enc x) := by simpa using h 0 x rfl
    cases l with
    | nil => simpa using h0
    | cons y l =>
      have := @ih (off + k) (fun i z hz => by
        have := h (i + 1) z (by simpa using hz)
        rwa [Nat.add_mul, Nat.one_mul, Nat.add_comm (i * k), ← Nat.add_assoc] at this) (by simp)
      have c := aload_cat h0 this
      rw [List.flatMap_cons, List.length_cons (a := x), Nat.add_mul, Nat.one_mul, Nat.add_comm]
      exact c

theorem SlA.cellsAll {H : AHeap} {enc : α → List Value} {k id off : Nat} (l : List α) (h : aload H ⟨id, off, none⟩ (l.length * k) = some (l.flatMap enc)) (hk : ∀ x, (enc x).length = k) : SlA H enc k (some ⟨id, off, none⟩) l := by
  induction l generalizing off with
  | nil => exact SlA.nil _ _ _ _
  | cons x l ih =>
    intro i y hy
    refine ⟨id, off, rfl, ?_⟩
    cases i with
    | zero =>
      simp at hy; subst hy
      have := aload_sub h 0 k (by simp [Nat.add_mul])
      simpa [List.flatMap_cons, ← hk x] using this
    | succ i =>
      have h2 := aload_sub h k (l.length * k) (by simp [Nat.add_mul]; omega)
      have e : ((List.flatMap enc (x :: l)).drop k).take (l.length * k) = l.flatMap enc := by
        rw [List.flatMap_cons, ← hk x, List.drop_left]
        apply List.take_of_length_le
        have := flat_len hk l; rw [this, hk]; exact Nat.le_refl _
      rw [e] at h2
      obtain ⟨_, _, q, h3⟩ := @ih (off + k) h2 i y (by simpa using hy)
      cases q
      rwa [Nat.add_mul, Nat.one_mul, Nat.add_comm (i * k), ← Nat.add_assoc]

theorem SlA.drop {H : AHeap} {enc : α → List Value} {k id off : Nat} {l : List α} (h : SlA H enc k (some ⟨id, off, none⟩) l) (j : Nat) : SlA H enc k (some ⟨id, off + j * k, none⟩) (l.drop j) := by
  intro i x hx
  rw [List.getElem?_drop] at hx
  obtain ⟨_, _, q, h1⟩ := h _ x hx
  cases q
  exact ⟨id, _, rfl, by rwa [Nat.add_mul, ← Nat.add_assoc] at h1⟩
theorem SlA.take {H : AHeap} {enc : α → List Value} {k : Nat} {a : Option Addr} {l : List α} (h : SlA H enc k a l) (j : Nat) : SlA H enc k a (l.take j) := by
  intro i x hx
  rw [List.getElem?_take] at hx
  split at hx
  · exact h i x hx
  · cases hx

theorem SlA.ofRow {H : AHeap} {enc : α → List Value} {k id kk : Nat} {own : Bool} {cs : List Value} {l : List α} (h : H[id]? = some (.row cs kk own)) (e : cs = l.flatMap enc) (hk : ∀ x, (enc x).length = k) : SlA H enc k (some ⟨id, 0, none⟩) l := by
  refine SlA.cellsAll l ?_ hk
  rw [aload_row h 0 _ (by rw [e, flat_len hk]; omega), e, List.drop_zero, ← flat_len hk, List.take_length]

theorem asrc_sl {P : Program} {H : AHeap} {enc : α → List Value} {k t e c : Nat} {a : Option Addr} {l : List α} (hu : P.underlying t = some (.slice e)) (h : SlA H enc k a l) (h1 : ∀ x, (enc x).all oneCell = true) :
    asrc P H k t (.slice a l.length c) = some (l.length, l.flatMap enc) := by
  cases l with
  | nil => cases a <;> simp [asrc, hu]
  | cons x l =>
    obtain ⟨id, off, rfl, h2⟩ := h.at (by simp)
    have := SlA.all (x :: l) h2 (by simp)
    simp only [asrc, hu, this, Option.bind_some]
    simp only [flat_one h1, if_true]
    simp

/-! ### slices of our own -/
/-- whose block -/
def owner (v : Value) : Option Nat := match v with | .slice (some ⟨id, _, none⟩) _ _ => some id | _ => none

/-- a slice of our own in a block from b on: it may be written, and appended to -/
def Own (b : Nat) (H : AHeap) (enc : α → List Value) (k : Nat) (v : Value) (l : List α) : Prop :=
  (l = [] ∧ (v = .slice none 0 0 ∨ v = emp)) ∨
  ∃ id rest c, b ≤ id ∧ v = .slice (some ⟨id, 0, none⟩) l.length c ∧ H[id]? = some (.row (l.flatMap enc ++ rest) k true) ∧ (c = 0 ∨ (0 < c ∧ c * k = (l.flatMap enc ++ rest).length))

theorem Own.nil (b : Nat) (H : AHeap) (enc : α → List Value) (k : Nat) : Own b H enc k (.slice none 0 0) [] := .inl ⟨rfl, .inl rfl⟩
theorem Own.emp (b : Nat) (H : AHeap) (enc : α → List Value) (k : Nat) : Own b H enc k emp [] := .inl ⟨rfl, .inr rfl⟩

theorem Own.keep {b : Nat} {H H' : AHeap} {enc : α → List Value} {k : Nat} {v : Value} {l : List α} (h : Own b H enc k v l) (hp : ∀ id, owner v = some id → H'[id]? = H[id]?) : Own b H' enc k v l := by
  rcases h with h | ⟨id, rest, c, h1, rfl, h3, h4⟩
  · exact .inl h
  · exact .inr ⟨id, rest, c, h1, rfl, by rw [hp id rfl]; exact h3, h4⟩
theorem Own.pre {b : Nat} {H H' : AHeap} {enc : α → List Value} {k : Nat} {v : Value} {l : List α} (h : Own b H enc k v l) (hp : H <+: H') : Own b H' enc k v l := by
  rcases h with h | ⟨id, rest, c, h1, rfl, h3, h4⟩
  · exact .inl h
  · exact .inr ⟨id, rest, c, h1, rfl, pre_get hp h3, h4⟩
theorem Own.mono {b b' : Nat} {H : AHeap} {enc : α → List Value} {k : Nat} {v : Value} {l : List α} (h : Own b H enc k v l) (hb : b' ≤ b) : Own b' H enc k v l := by
  rcases h with h | ⟨id, rest, c, h1, h2⟩
  · exact .inl h
  · exact .inr ⟨id, rest, c, by omega, h2⟩
theorem Own.owner_ge {b : Nat} {H : AHeap} {enc : α → List Value} {k : Nat} {v : Value} {l : List α} (h : Own b H enc k v l) {id : Nat} (ho : owner v = some id) : b ≤ id ∧ id < H.length := by
  rcases h with ⟨rfl, rfl | rfl⟩ | ⟨id', rest, c, h1, rfl, h3, h4⟩
  · simp [owner] at ho
  · simp [owner, Go.AW.emp] at ho
  · simp only [owner, Option.some.injEq] at ho
    subst ho
    exact ⟨h1, get_lt h3⟩

/-- as a slice that is read -/
theorem Own.sl {b : Nat} {H : AHeap} {enc : α → List Value} {k : Nat} {v : Value} {l : List α} (h : Own b H enc k v l) (hk : ∀ x, (enc x).length = k) : ∃ a c, v = .slice a l.length c ∧ SlA H enc k a l := by
  rcases h with ⟨rfl, rfl | rfl⟩ | ⟨id, rest, c, h1, rfl, h3, h4⟩
  · exact ⟨_, _, rfl, SlA.nil _ _ _ _⟩
  · exact ⟨_, _, rfl, SlA.nil _ _ _ _⟩
  · refine ⟨_, _, rfl, SlA.cellsAll l ?_ hk⟩
    have hl : (l.flatMap enc).length = l.length * k := flat_len hk l
    rw [aload_row h3 0 _ (by simp [hl])]
    rw [List.drop_zero, ← hl, List.take_left']
    rfl

theorem Own.slA {b : Nat} {H : AHeap} {enc : α → List Value} {k n c : Nat} {a : Option Addr} {l : List α} (h : Own b H enc k (.slice a n c) l) (hk : ∀ x, (enc x).length = k) : n = l.length ∧ SlA H enc k a l := by
  obtain ⟨a', c', q, h1⟩ := h.sl hk
  cases q
  exact ⟨rfl, h1⟩

/-- append -/
theorem Own.append {P : Program} {b : Nat} {H : AHeap} {enc : α → List Value} {k : Nat} {v x : Value} {l news : List α} {st xt e : Nat} {inf : TypeInfo} {z : Value} (h : Own b H enc k v l)
    (he : elemT P st = some e) (hi : P.info? e = some inf) (hz : inf.zero = some z) (hsz : inf.size = k) (hzs : z.cells.size = k) (hk0 : 0 < k) (hk : ∀ x, (enc x).length = k) (h1 : ∀ x, (enc x).all oneCell = true)
    (hs : asrc P H k xt x = some (news.length, news.flatMap enc)) (hb : (l.length + news.length) * inf.bytes ≤ 2 ^ 47) (hb2 : l.length + news.length < 2 ^ 62) (hbH : b ≤ H.length) :
    ∃ v' H', aappend P H st xt v x = some (v', H') ∧ Own b H' enc k v' (l ++ news) ∧ H.length ≤ H'.length ∧ (∀ j, j < H.length → owner v ≠ some j → H'[j]? = H[j]?) ∧
      (∀ j, owner v' = some j → owner v = some j ∨ H.length ≤ j) := by
  have hcond : ∀ n c : Nat, n = l.length → (0 < inf.size ∧ z.cells.size = inf.size ∧ (n + news.length) * inf.bytes ≤ 2 ^ 47 ∧ n + news.length < 2 ^ 62) := fun n c hn => by
    subst hn; exact ⟨by omega, by omega, hb, hb2⟩
  have hone : (news.flatMap enc).all oneCell = true := flat_one h1 news
  suffices h0 : ∃ v' H', aappend0 P H st xt v x = some (v', H') ∧ Own b H' enc k v' (l ++ news) ∧ H.length ≤ H'.length ∧ (∀ j, j < H.length → owner v ≠ some j → H'[j]? = H[j]?) ∧
      (∀ j, owner v' = some j → owner v = some j ∨ H.length ≤ j) by
    obtain ⟨v', H', e0, r⟩ := h0
    exact ⟨v', H', by simp only [aappend, e0], r⟩
  unfold aappend0
  simp only [he, hi, hz, Option.bind_some, hsz, hs]
  by_cases hn : news.length = 0
  · obtain rfl : news = [] := List.eq_nil_of_length_eq_zero hn
    refine ⟨v, H, ?_, by simpa using h, Nat.le_refl _, fun _ _ _ => rfl, fun j hj => .inl hj⟩
    rcases h with ⟨rfl, rfl | rfl⟩ | ⟨id, rest, c, h1, rfl, h3, h4⟩
    · have := hcond 0 0 rfl; rw [hsz] at this; simp only [if_pos this]; simp
    · have := hcond 0 0 rfl; rw [hsz] at this; simp only [Go.AW.emp, if_pos this]; simp
    · have := hcond _ c rfl; rw [hsz] at this; simp only [if_pos this]; simp
  · have fresh : ∀ (H1 : AHeap) (L : List α), H1.length = H.length → (∀ j, j < H.length → owner v ≠ some j → H1[j]? = H[j]?) →
        Own b (H1 ++ [.row (L.flatMap enc) k true]) enc k (.slice (some ⟨H.length, 0, none⟩) L.length 0) L ∧ H.length ≤ (H1 ++ [AObj.row (L.flatMap enc) k true]).length ∧
        (∀ j, j < H.length → owner v ≠ some j → (H1 ++ [AObj.row (L.flatMap enc) k true])[j]? = H[j]?) ∧ (∀ j, owner (.slice (some ⟨H.length, 0, none⟩) L.length 0) = some j → owner v = some j ∨ H.length ≤ j) := by
      intro H1 L hl hf
      refine ⟨.inr ⟨H.length, [], 0, hbH, rfl, ?_, .inl rfl⟩, by simp [hl], fun j hj ho => ?_, fun j hj => ?_⟩
      · rw [← hl]; simp
      · rw [List.getElem?_append_left (by omega)]; exact hf j hj ho
      · simp only [owner, Option.some.injEq] at hj; right; omega
    rcases h with ⟨rfl, rfl | rfl⟩ | ⟨id, rest, c, h1', rfl, h3, h4⟩
    · have hc := hcond 0 0 rfl; rw [hsz] at hc
      refine ⟨_, _, by simp only [if_pos hc, if_neg hn]; rfl, ?_⟩
      simpa using fresh H news rfl (fun _ _ _ => rfl)
    · have hc := hcond 0 0 rfl; rw [hsz] at hc
      refine ⟨_, _, by simp only [Go.AW.emp, if_pos hc, if_neg hn, Option.isSome_some, if_true]; rfl, ?_⟩
      simpa using fresh H news rfl (fun _ _ _ => rfl)
    · have hc := hcond _ c rfl; rw [hsz] at hc
      have hold : aload H ⟨id, 0, none⟩ (l.length * k) = some (l.flatMap enc) := by
        rw [aload_row h3 0 _ (by simp [flat_len hk]), List.drop_zero, ← flat_len hk, List.take_left']; rfl
      by_cases hc0 : c = 0
      · subst hc0
        have hrow : rowOf H id k = true := by simp [rowOf, h3]
        refine ⟨_, _, by simp only [if_pos hc, if_neg hn, Option.isSome_none, Bool.false_eq_true, if_false, if_true, hrow, hold, Option.bind_some]; rfl, ?_⟩
        have := fresh (H.set id .gone) (l ++ news) (by simp) (fun j hj ho => by rw [List.getElem?_set_ne]; rintro rfl; exact ho rfl)
        simpa using this
      · rcases h4 with h4 | ⟨_, h4⟩
        · exact absurd h4 hc0
        by_cases hroom : l.length + news.length ≤ c
        · -- in place
          have hlen : l.length * k + news.length * k ≤ (l.flatMap enc ++ rest).length := by
            rw [← h4, ← Nat.add_mul]; exact Nat.mul_le_mul_right _ hroom
          have hfit : l.length * k + (news.flatMap enc).length ≤ (l.flatMap enc ++ rest).length := by rw [flat_len hk]; exact hlen
          refine ⟨_, _, by
            simp only [if_pos hc, if_neg hn, Option.isSome_none, Bool.false_eq_true, if_false, if_neg hc0, if_pos hroom, add_none, astore, h3, hone, Bool.and_true, Nat.zero_add, decide_eq_true_eq, if_pos hfit, Option.map_some]
            rfl, ?_⟩
          refine ⟨.inr ⟨id, (l.flatMap enc ++ rest).drop (l.length * k + (news.flatMap enc).length), c, h1', by simp, ?_, .inr ⟨by omega, ?_⟩⟩, by simp, fun j hj ho => ?_, fun j hj => .inl hj⟩
          · rw [List.getElem?_set_self (get_lt h3)]
            rw [← flat_len hk, List.take_left' rfl]; simp
          · have e1 := flat_len hk l
            have e2 := flat_len hk news
            have e3 := flat_len hk (l ++ news)
            rw [List.length_append, Nat.add_mul] at e3
            rw [h4]; simp only [List.length_append, List.length_drop, e1, e2, e3] at hfit ⊢; omega
          · rw [List.getElem?_set_ne]; rintro rfl; exact ho rfl
        · refine ⟨_, _, by simp only [if_pos hc, if_neg hn, Option.isSome_none, Bool.false_eq_true, if_false, if_neg hc0, if_neg hroom, hold, Option.bind_some]; rfl, ?_⟩
          have := fresh H (l ++ news) rfl (fun _ _ _ => rfl)
          simpa using this

/-- a store of a whole element -/
theorem Own.store {b : Nat} {H : AHeap} {enc : α → List Value} {k id n c off : Nat} {l : List α} (h : Own b H enc k (.slice (some ⟨id, off, none⟩) n c) l) (hk : ∀ x, (enc x).length = k) (i : Nat) (x : α) (hi : i < l.length) :
    ∃ o, (H[id]?).bind (rowStore (off + i * k) (enc x)) = some o ∧ Own b (H.set id o) enc k (.slice (some ⟨id, off, none⟩) n c) (l.set i x) := by
  rcases h with ⟨rfl, _⟩ | ⟨id', rest, c', h1, h2, h3, h4⟩
  · simp at hi
  · simp only [Value.slice.injEq, Option.some.injEq, Addr.mk.injEq] at h2
    obtain ⟨⟨rfl, rfl, -⟩, rfl, rfl⟩ := h2
    have hik : i * k + k ≤ l.length * k := by
      have := Nat.mul_le_mul_right k (show i + 1 ≤ l.length from hi); rwa [Nat.add_mul, Nat.one_mul] at this
    have e : ((l.flatMap enc ++ rest).take (i * k) ++ enc x ++ (l.flatMap enc ++ rest).drop (i * k + (enc x).length)) = (l.set i x).flatMap enc ++ rest := by
      clear h3 h4 h1
      induction l generalizing i with
      | nil => simp at hi
      | cons y l ih =>
        cases i with
        | zero =>
          simp only [Nat.zero_mul, List.take_zero, List.nil_append, Nat.zero_add, List.flatMap_cons, List.set_cons_zero, List.append_assoc]
          rw [hk x, ← hk y, List.drop_left']; rfl
        | succ i =>
          have hi' : i < l.length := by simpa using hi
          have := ih i hi' (by
            have := Nat.mul_le_mul_right k (show i + 1 ≤ l.length from hi'); rwa [Nat.add_mul, Nat.one_mul] at this)
          simp only [List.flatMap_cons, List.set_cons_succ, List.append_assoc]
          rw [← this, show (i + 1) * k = (enc y).length + i * k by rw [hk y, Nat.add_mul]; omega, List.take_length_add_append, Nat.add_assoc, List.drop_length_add_append]
          simp only [List.append_assoc]
    refine ⟨_, by simp only [h3, Option.bind_some, rowStore, Nat.zero_add]; rw [if_pos (by simp [hk, flat_len hk]; omega), e], .inr ⟨id, rest, c, h1, by simp, by rw [List.getElem?_set_self (get_lt h3)], ?_⟩⟩
    rcases h4 with h4 | ⟨h5, h4⟩
    · exact .inl h4
    · exact .inr ⟨h5, by rw [h4]; simp [flat_len hk]⟩
end

/-- a store, as walks ask it -/
theorem astore_rule {P : Program} {t n : Nat} (hs : szT P t = some n) (H : AHeap) (id off : Nat) (x : Value) :
    astoreT P H t (.pointer (some ⟨id, off, none⟩)) x = if x.cells.size = n ∧ x.cells.toList.all oneCell = true then ((H[id]?).bind (rowStore off x.cells.toList)).map fun o => H.set id o else none := by
  by_cases h : x.cells.size = n ∧ x.cells.toList.all oneCell = true
  · rw [if_pos h, astoreT_ptr _ _ _ _ _ _ (by rw [h.1]; exact hs) h.2]
  · rw [if_neg h]
    simp only [astoreT, hs, Option.bind_some]
    by_cases h1 : x.cells.size = n
    · rw [if_pos h1]
      have h2 : ¬ x.cells.toList.all oneCell = true := fun q => h ⟨h1, q⟩
      unfold astore
      split
      · rw [if_neg (by simp only [Bool.and_eq_true]; exact fun q => h2 q.2)]
      · rfl
    · rw [if_neg h1]

/-- append of one, by a literal that lies at the heap's end -/
theorem Own.app1 {α : Type} {P : Program} {H0 H : AHeap} {enc : α → List Value} {k : Nat} {v : Value} {l : List α} {t e b : Nat} {z : Value} (hu : P.underlying t = some (.slice e)) (he : elemT P t = some e)
    (hi : ∃ i, P.info? e = some i ∧ i.zero = some z ∧ i.size = k ∧ i.bytes = b) (hz : z.cells.size = k) (hk0 : 0 < k) (hb : b ≤ 100000) (hk : ∀ x, (enc x).length = k) (h1 : ∀ x, (enc x).all oneCell = true)
    (hp : H0 <+: H) (h : Own H0.length H enc k v l) (x : α) (hl : l.length < 100000) :
    ∃ v' H2, aappend P (H ++ [.row (enc x) k true]) t t v (.slice (some ⟨H.length, 0, none⟩) 1 1) = some (v', H2) ∧ Own H0.length H2 enc k v' (l ++ [x]) ∧ H0 <+: H2 ∧ H.length ≤ H2.length ∧
      (∀ j, j < H.length → owner v ≠ some j → H2[j]? = H[j]?) ∧ (∀ j, owner v' = some j → owner v = some j ∨ H.length ≤ j) := by
  obtain ⟨inf, hi1, hi2, hi3, hi4⟩ := hi
  have hs : asrc P (H ++ [.row (enc x) k true]) k t (.slice (some ⟨H.length, 0, none⟩) 1 1) = some ([x].length, [x].flatMap enc) :=
    asrc_sl (l := [x]) hu (SlA.ofRow (get_end H _ []) (by simp) hk) h1
  have hmul : (l.length + 1) * b ≤ 100000 * 100000 := Nat.mul_le_mul (by omega) hb
  obtain ⟨v', H2, h3, h4, h5, h6, h7⟩ := Own.append (news := [x]) (h.pre (pre_add H (.row (enc x) k true))) he hi1 hi2 hi3 hz hk0 hk h1 hs (by rw [hi4]; simp only [List.length_singleton]; omega) (by simp only [List.length_singleton]; omega) (by simp; have := pre_len hp; omega)
  have keep : ∀ j, j < H.length → owner v ≠ some j → H2[j]? = H[j]? := fun j hj ho => by
    rw [h6 j (by simp; omega) ho, List.getElem?_append_left hj]
  refine ⟨v', H2, h3, h4, ?_, by simp at h5; omega, keep, fun j hj => ?_⟩
  · refine List.prefix_iff_getElem?.2 fun i hi => ?_
    have hiH : i < H.length := Nat.lt_of_lt_of_le hi (pre_len hp)
    rw [keep i hiH (fun ho => by have := (h.owner_ge ho).1; omega)]
    exact pre_get hp (by simp [hi])
  · rcases h7 j hj with h | h
    · exact .inl h
    · right; simp at h; omega

/-! ### numbers and places, as walks ask them -/
theorem wrP {i : Nat} (h : 0 < i) (h2 : i < 4611686018427387904) : IntKind.i64.wrap ((i : Int) - 1) = ((i - 1 : Nat) : Int) := by
  simp [IntKind.wrap, IntKind.bits, IntKind.signed]; omega
theorem inRange {i n : Nat} (h : i < n) : (0 ≤ (i : Int) ∧ (i : Int) < (n : Int)) = True := by simp; omega
theorem wrS {i : Nat} (h : i < 4611686018427387904) : IntKind.i64.wrap ((i : Int) + 1) = ((i + 1 : Nat) : Int) := by
  simp [IntKind.wrap, IntKind.bits, IntKind.signed]; omega
theorem wrPS {i : Nat} (h2 : i < 4611686018427387904) : IntKind.i64.wrap (((i + 1 : Nat) : Int) - 1) = (i : Int) := by
  simp [IntKind.wrap, IntKind.bits, IntKind.signed]; omega
theorem dec0 : decide ((0 : Int) < ((0 : Nat) : Int)) = false := rfl
theorem decS (m : Nat) : decide ((0 : Int) < ((m + 1 : Nat) : Int)) = true := by simp
theorem wr64 {i : Int} (h : -9223372036854775808 ≤ i) (h2 : i ≤ 9223372036854775807) : IntKind.i64.wrap i = i := by
  simp [IntKind.wrap, IntKind.bits, IntKind.signed]; omega
theorem get_ex {α : Type} {l : List α} {i : Nat} (h : i < l.length) : ∃ x, l[i]? = some x := ⟨l[i], by simp [h]⟩
theorem drop_get {α : Type} {l : List α} {i : Nat} {x : α} (h : l[i]? = some x) : l.drop i = x :: l.drop (i + 1) := by
  obtain ⟨h1, rfl⟩ := List.getElem?_eq_some_iff.1 h
  exact List.drop_eq_getElem_cons h1
theorem take_get {α : Type} {l : List α} {i : Nat} {x : α} (h : l[i]? = some x) : l.take (i + 1) = l.take i ++ [x] := by
  rw [List.take_add_one, h]; rfl
theorem cells_agg (cs : Array Value) : (Value.agg cs).cells = cs := rfl
theorem cells_int (k : IntKind) (n : Int) : (Value.int k n).cells = #[.int k n] := rfl
theorem cells_bool (b : Bool) : (Value.bool b).cells = #[.bool b] := rfl
theorem cells_string (b : ByteArray) : (Value.string b).cells = #[.string b] := rfl
theorem cells_pointer (b : Option Addr) : (Value.pointer b).cells = #[.pointer b] := rfl
theorem cells_slice (b : Option Addr) (n c : Nat) : (Value.slice b n c).cells = #[.slice b n c] := rfl
theorem cells_map (b : Option Nat) : (Value.map b).cells = #[.map b] := rfl
attribute [go_sem] cells_agg cells_int cells_bool cells_string cells_pointer cells_slice cells_map get_end get_end1 get_end2 get_end3 set_end set_end1 List.length_append List.length_cons List.length_nil List.append_assoc List.cons_append List.nil_append Nat.zero_add
  List.getElem?_cons_zero List.getElem?_cons_succ List.size_toArray
attribute [go_sem] Int.toNat_natCast Int.toNat_zero Nat.zero_mul Option.bind_none Bool.not_true Bool.not_false

end Go.AW
