/-
  A timeline: its sets, where they lie; New, part.
-/
import Derived.Test.YthbifkeadbmcnaaPart
set_option linter.unusedVariables false
set_option linter.unusedSimpArgs false
namespace Go.Proofs.Ythbifkeadbmcnaa
open Go Go.AW
set_option linter.unusedSimpArgs false
set_option maxRecDepth 20000

abbrev ptrV (id : Nat) : Value := .pointer (some ⟨id, 0, none⟩)
attribute [go_sem] ptrV
theorem keyLaw : KeyLaw Try.prog 64 Key.val where
  ok p := key64 _ _ _
  eq p q := by
    have h : aeq Try.prog [] 10000 64 (Key.val p) (Key.val q) = some _ := eq64 [] 9997 p.f p.t p.v q.f q.t q.v
    rw [h]
    congr 1
    rw [Bool.eq_iff_iff]
    simp [Key.eq_iff, and_assoc]
  bits p := sameBits_agg rfl _

/-- a set, and where it lies -/
structure SetS where
  id : Nat
  k : Key
  sv : Value
  l : List Seg
structure SetAt (b : Nat) (H : AHeap) (x : SetS) : Prop where
  ge : b ≤ x.id
  at_ : H[x.id]? = some (.row [.int .i64 x.k.f, .int .i64 x.k.t, .int .i64 x.k.v, x.sv] 4 true)
  own : OwnS b H x.sv x.l
theorem SetAt.keep {b : Nat} {H H' : AHeap} {x : SetS} (h : SetAt b H x) (h1 : H'[x.id]? = H[x.id]?) (h2 : ∀ j, owner x.sv = some j → H'[j]? = H[j]?) : SetAt b H' x :=
  ⟨h.ge, by rw [h1]; exact h.at_, h.own.keep h2⟩
theorem SetAt.pre {b : Nat} {H H' : AHeap} {x : SetS} (h : SetAt b H x) (hp : H <+: H') : SetAt b H' x := ⟨h.ge, pre_get hp h.at_, h.own.pre hp⟩
/-- what the segments of a set are -/
structure GoodS (k : Key) (l : List Seg) : Prop where
  ne : 0 < l.length
  rise : Rises l
  key : ∀ s ∈ l, s.key = k
  core : ∀ s ∈ l, ∀ z ∈ l, s.c = z.c
  may : ∀ s ∈ l, mayB s = true
abbrev idsOf (M : List SetS) : List (Key × Nat) := M.map fun x => (x.k, x.id)
structure TimeAt (b : Nat) (H : AHeap) (p m : Nat) (M : List SetS) : Prop where
  bp : b ≤ p
  bm : b ≤ m
  at_ : H[p]? = some (.row [.map (some m)] 1 true)
  dict : DictAt H m Key.val ptrV (idsOf M)
  sets : ∀ x ∈ M, SetAt b H x
  apart : M.Pairwise fun x y => x.id ≠ y.id ∧ ∀ j, owner x.sv = some j → owner y.sv ≠ some j
  good : ∀ x ∈ M, GoodS x.k x.l
  len : ∀ x ∈ M, x.l.length < 900
theorem TimeAt.pre {b : Nat} {H H' : AHeap} {p m : Nat} {M : List SetS} (h : TimeAt b H p m M) (hp : H <+: H') : TimeAt b H' p m M :=
  ⟨h.bp, h.bm, pre_get hp h.at_, h.dict.pre hp, fun x hx => (h.sets x hx).pre hp, h.apart, h.good, h.len⟩
theorem TimeAt.lt {b : Nat} {H : AHeap} {p m : Nat} {M : List SetS} (h : TimeAt b H p m M) : p < H.length := get_lt h.at_
/-- what a timeline is made of -/
def footT (p m : Nat) (M : List SetS) (j : Nat) : Prop := j = p ∨ j = m ∨ ∃ x ∈ M, j = x.id ∨ owner x.sv = some j

theorem tlNew (H : AHeap) : Sound Try.prog 19 [] H fun v H' => v = ptrV (H.length + 1) ∧ H' = H ++ [.map #[] 0, .row [.map (some H.length)] 1 true] ∧ TimeAt H.length H' (H.length + 1) H.length [] := by
  refine Sound.of_body (rs := [.tmp 0]) mixed Try.func19 rfl (by kernel_rfl) rfl (by kernel_rfl) ?_
  simp -dsimp only [go_sem, ↓reduceIte, Nat.reduceEqDiff, Nat.reduceAdd, Nat.reduceMul, Nat.reduceSub, Nat.reduceLeDiff, Nat.reduceLT]
  refine ⟨by omega, Nat.le_refl _, get_end1 _ _ _ _, DictAt.new _ _ _ _, ?_, .nil, ?_, ?_⟩ <;> (intro x hx; cases hx)

/-- where a part is, or would be -/
theorem tlPart (x : SetS) (n : Int) (b : Nat) (H : AHeap) (hx : SetAt b H x) (hl : x.l.length < 1000) (hr : Rises x.l) :
    Sound Try.prog 31 [ptrV x.id, .int .i64 n] H fun v H' => ∃ i : Nat, v = .tuple #[.int .i64 i, .bool (decide (∃ z, x.l[i]? = some z ∧ z.p = n))] ∧ PlaceOf x.l n i ∧ H <+: H' := by
  refine Sound.of_body (rs := [.tmp 4, .tmp 5]) mixed Try.func31 rfl (by kernel_rfl) rfl (by kernel_rfl) ?_
  obtain ⟨a, c, hv, hsl⟩ := hx.own.sl (fun _ => rfl)
  have hat := hx.at_
  rw [hv] at hat
  simp -dsimp only [go_sem, ↓reduceIte, Nat.reduceEqDiff, Nat.reduceAdd, Nat.reduceMul, Nat.reduceSub, Nat.reduceLeDiff, Nat.reduceLT, hat]
  refine SoundP_of (searchP x.l n a c H hsl hl hr) ?_
  rintro _ H1 ⟨i, rfl, hp, hq⟩
  simp -dsimp only [go_sem, ↓reduceIte, Nat.reduceEqDiff, Nat.reduceAdd, Nat.reduceMul, Nat.reduceSub, Nat.reduceLeDiff, Nat.reduceLT]
  exact ⟨i, rfl, hp, hq⟩

/-- looked up -/
theorem look_sets {b : Nat} {H : AHeap} {p m : Nat} {M : List SetS} (h : TimeAt b H p m M) (k : Key) :
    alookup Try.prog H 68 (.map (some m)) (Key.val k) false = some (((mget (idsOf M) k).map ptrV).getD (.pointer none)) := by
  rw [h.dict.lookup keyLaw mt68 ze60 rfl]
  rfl
theorem mget_ids {M : List SetS} {k : Key} {id : Nat} (h : mget (idsOf M) k = some id) : ∃ A x B, M = A ++ x :: B ∧ x.k = k ∧ x.id = id := by
  have := mget_mem h
  obtain ⟨x, hx, hxe⟩ := List.mem_map.1 this
  simp only [Prod.mk.injEq] at hxe
  obtain ⟨A, B, rfl⟩ := List.append_of_mem hx
  exact ⟨A, x, B, rfl, hxe.1, hxe.2⟩
/-! ### what lies apart -/
theorem dict_ne_row {κ ν : Type} {H : AHeap} {id : Nat} {ek : κ → Value} {ev : ν → Value} {m : List (κ × ν)} (hd : DictAt H id ek ev m) {p : Nat} {cs : List Value} {k : Nat} {o : Bool} (h : H[p]? = some (.row cs k o)) : p ≠ id := by
  rintro rfl
  obtain ⟨es, ck, h1, _⟩ := hd
  rw [h1] at h; cases h
theorem own_row {α : Type} {b : Nat} {H : AHeap} {enc : α → List Value} {k : Nat} {v : Value} {l : List α} (h : Own b H enc k v l) {j : Nat} (hj : owner v = some j) : ∃ cs, H[j]? = some (.row cs k true) := by
  rcases h with ⟨_, rfl | rfl⟩ | ⟨id', rest, c, _, rfl, h3, _⟩
  · simp [owner] at hj
  · simp [owner, AW.emp] at hj
  · simp only [owner, Option.some.injEq] at hj; subst hj; exact ⟨_, h3⟩
theorem TimeAt.ne_m {b : Nat} {H : AHeap} {p m : Nat} {M : List SetS} (h : TimeAt b H p m M) {x : SetS} (hx : x ∈ M) : x.id ≠ m ∧ ∀ j, owner x.sv = some j → j ≠ m :=
  ⟨dict_ne_row h.dict (h.sets x hx).at_, fun j hj => by obtain ⟨cs, hr⟩ := own_row (h.sets x hx).own hj; exact dict_ne_row h.dict hr⟩
/-- one set more -/
theorem TimeAt.put {b : Nat} {H : AHeap} {p m : Nat} {M : List SetS} (h : TimeAt b H p m M) (x : SetS) (hx : SetAt b H x) (hn : mget (idsOf M) x.k = none) (ha : ∀ y ∈ M, y.id ≠ x.id ∧ ∀ j, owner y.sv = some j → owner x.sv ≠ some j) (hg : GoodS x.k x.l) (hl : x.l.length < 900) :
    ∃ o, amapPut Try.prog H 68 (.map (some m)) (Key.val x.k) (ptrV x.id) = some (H.set m o) ∧ TimeAt b (H.set m o) p m (M ++ [x]) := by
  obtain ⟨o, h1, h2⟩ := h.dict.put (t := 68) keyLaw mt68 x.k x.id
  refine ⟨o, h1, h.bp, h.bm, ?_, ?_, fun y hy => ?_, ?_, fun y hy => ?_, fun y hy => ?_⟩
  · rw [List.getElem?_set_ne (Ne.symm (dict_ne_row h.dict h.at_))]; exact h.at_
  · rw [cells_push (ek := Key.val) (ev := ptrV) _ hn] at h2
    simpa [idsOf] using h2
  · rcases List.mem_append.1 hy with hy | hy
    · have := h.ne_m hy
      exact (h.sets y hy).keep (List.getElem?_set_ne (Ne.symm this.1)) fun j hj => List.getElem?_set_ne (Ne.symm (this.2 j hj))
    · rw [List.mem_singleton] at hy; subst hy
      exact hx.keep (List.getElem?_set_ne (Ne.symm (dict_ne_row h.dict hx.at_))) fun j hj => by
        obtain ⟨cs, hr⟩ := own_row hx.own hj
        exact List.getElem?_set_ne (Ne.symm (dict_ne_row h.dict hr))
  · rw [List.pairwise_append]
    refine ⟨h.apart, by simp, fun y hy z hz => ?_⟩
    rw [List.mem_singleton] at hz; subst hz
    exact ha y hy
  · rcases List.mem_append.1 hy with hy | hy
    · exact h.good y hy
    · rw [List.mem_singleton] at hy; subst hy; exact hg
  · rcases List.mem_append.1 hy with hy | hy
    · exact h.len y hy
    · rw [List.mem_singleton] at hy; subst hy; exact hl
theorem mget_ids_none {M : List SetS} {k : Key} (h : mget (idsOf M) k = none) : ∀ x ∈ M, x.k ≠ k := fun x hx q => by
  rw [mget_none] at h
  exact h (List.mem_map.2 ⟨(x.k, x.id), List.mem_map.2 ⟨x, hx, rfl⟩, q⟩)
theorem TimeAt.old {b : Nat} {H : AHeap} {p m : Nat} {M : List SetS} (h : TimeAt b H p m M) {x : SetS} (hx : x ∈ M) : x.id < H.length ∧ ∀ j, owner x.sv = some j → j < H.length ∧ j ≠ x.id :=
  ⟨get_lt (h.sets x hx).at_, fun j hj => by
    obtain ⟨cs, hr⟩ := own_row (h.sets x hx).own hj
    refine ⟨get_lt hr, ?_⟩
    rintro rfl
    obtain ⟨id', rest, c, _, hv, h3, _⟩ : ∃ id' rest c, b ≤ id' ∧ x.sv = .slice (some ⟨id', 0, none⟩) x.l.length c ∧ H[id']? = some (.row (x.l.flatMap Seg.cells ++ rest) 5 true) ∧ True := by
      rcases (h.sets x hx).own with ⟨_, q | q⟩ | ⟨id', rest, c, q1, q2, q3, _⟩
      · rw [q] at hj; simp [owner] at hj
      · rw [q] at hj; simp [owner, AW.emp] at hj
      · exact ⟨id', rest, c, q1, q2, q3, trivial⟩
    rw [hv] at hj
    simp only [owner, Option.some.injEq] at hj
    subst hj
    rw [(h.sets x hx).at_] at h3
    simp at h3⟩
/-- a set is not another -/
theorem TimeAt.other {b : Nat} {H : AHeap} {p m : Nat} {A B : List SetS} {x y : SetS} (h : TimeAt b H p m (A ++ x :: B)) (hy : y ∈ A ++ B) : y ∈ A ++ x :: B ∧ y.id ≠ x.id ∧ (∀ j, owner y.sv = some j → owner x.sv ≠ some j) := by
  have ha := h.apart
  rw [List.pairwise_append, List.pairwise_cons] at ha
  rcases List.mem_append.1 hy with hy | hy
  · have := ha.2.2 y hy x (by simp)
    exact ⟨by simp [hy], this.1, this.2⟩
  · have := ha.2.1.1 y hy
    exact ⟨by simp [hy], Ne.symm this.1, fun j hj q => this.2 j q hj⟩
/-- a row of four isn't a row of five -/
theorem TimeAt.cross {b : Nat} {H : AHeap} {p m : Nat} {M : List SetS} (h : TimeAt b H p m M) {x y : SetS} (hx : x ∈ M) (hy : y ∈ M) : owner x.sv ≠ some y.id ∧ owner x.sv ≠ some p := by
  have key : ∀ j cs k, H[j]? = some (.row cs k true) → k ≠ 5 → owner x.sv ≠ some j := fun j cs k hr hk hj => by
    rcases (h.sets x hx).own with ⟨_, q | q⟩ | ⟨id', rest, c, q1, q2, q3, _⟩
    · rw [q] at hj; simp [owner] at hj
    · rw [q] at hj; simp [owner, AW.emp] at hj
    · rw [q2] at hj
      simp only [owner, Option.some.injEq] at hj
      subst hj
      rw [hr] at q3
      simp only [Option.some.injEq, AObj.row.injEq] at q3
      exact hk q3.2.1
  exact ⟨key _ _ _ (h.sets y hy).at_ (by decide), key _ _ _ h.at_ (by decide)⟩
/-- one set turned -/
theorem TimeAt.swap {b : Nat} {H H' : AHeap} {p m : Nat} {A B : List SetS} {x x' : SetS} (h : TimeAt b H p m (A ++ x :: B)) (hid : x'.id = x.id) (hk : x'.k = x.k) (hp : x.id ≠ p)
    (hf : ∀ j, j < H.length → j ≠ x.id → owner x.sv ≠ some j → H'[j]? = H[j]?) (hx : SetAt b H' x') (ho : ∀ j, owner x'.sv = some j → owner x.sv = some j ∨ H.length ≤ j) (hg : GoodS x'.k x'.l) (hl : x'.l.length < 900) :
    TimeAt b H' p m (A ++ x' :: B) := by
  have hxM : x ∈ A ++ x :: B := by simp
  have kp : ∀ y ∈ A ++ B, SetAt b H' y := fun y hy => by
    obtain ⟨h1, h2, h3⟩ := h.other hy
    have o := h.old h1
    refine (h.sets y h1).keep (hf _ o.1 h2 (h.cross hxM h1).1) fun j hj => hf j (o.2 j hj).1 (fun q => (h.cross h1 hxM).1 (q ▸ hj)) (h3 j hj)
  have nm := h.ne_m hxM
  have ids : idsOf (A ++ x' :: B) = idsOf (A ++ x :: B) := by simp [idsOf, hid, hk]
  have far : ∀ y ∈ A ++ B, y.id ≠ x'.id ∧ ∀ j, owner y.sv = some j → owner x'.sv ≠ some j := fun y hy => by
    obtain ⟨h1, h2, h3⟩ := h.other hy
    refine ⟨by rw [hid]; exact h2, fun j hj q => ?_⟩
    rcases ho j q with q | q
    · exact h3 j hj q
    · have := ((h.old h1).2 j hj).1; omega
  refine ⟨h.bp, h.bm, by rw [hf p h.lt (Ne.symm hp) (h.cross hxM hxM).2]; exact h.at_, ?_, fun y hy => ?_, ?_, fun y hy => ?_, fun y hy => ?_⟩
  · rw [ids]
    exact h.dict.keep (hf m h.dict.lt (Ne.symm nm.1) fun q => nm.2 m q rfl)
  · rcases List.mem_append.1 hy with hy | hy
    · exact kp y (by simp [hy])
    · rcases List.mem_cons.1 hy with rfl | hy
      · exact hx
      · exact kp y (by simp [hy])
  · have ha := h.apart
    rw [List.pairwise_append, List.pairwise_cons] at ha ⊢
    refine ⟨ha.1, ⟨fun y hy => ?_, ha.2.1.2⟩, fun y hy z hz => ?_⟩
    · have := far y (by simp [hy]); exact ⟨Ne.symm this.1, fun j hj q => this.2 j q hj⟩
    · rcases List.mem_cons.1 hz with rfl | hz
      · exact far y (by simp [hy])
      · exact ha.2.2 y hy z (by simp [hz])
  · rcases List.mem_append.1 hy with hy | hy
    · exact h.good y (by simp [hy])
    · rcases List.mem_cons.1 hy with rfl | hy
      · exact hg
      · exact h.good y (by simp [hy])
  · rcases List.mem_append.1 hy with hy | hy
    · exact h.len y (by simp [hy])
    · rcases List.mem_cons.1 hy with rfl | hy
      · exact hl
      · exact h.len y (by simp [hy])
end Go.Proofs.Ythbifkeadbmcnaa
