/-
  The field of package rules: who lives, what is wanted, who holds what.
-/
import Derived.Test.YtangfnommhmpeaaSlB
import Derived.Test.YtangfnommhmpeaaAwSort
import Derived.Test.YtangfnommhmpeaaShelf
set_option linter.unusedVariables false
set_option linter.unusedSimpArgs false
namespace Go.Proofs.Ytangfnommhmpeaa
open Go Go.AW Go.Bub
set_option linter.unusedSimpArgs false
set_option maxRecDepth 20000

/-- a segment and a node -/
structure Pair where
  seg : Seg
  node : Int
  deriving DecidableEq
abbrev Pair.val (p : Pair) : Value := .agg #[.int .i64 p.seg.f, .int .i64 p.seg.t, .int .i64 p.seg.v, .int .i64 p.seg.p, .int .i64 p.seg.c, .int .i64 p.node]
attribute [go_sem] Pair.val
theorem Pair.eq_iff (a b : Pair) : a = b ↔ a.seg = b.seg ∧ a.node = b.node := by cases a; cases b; simp
abbrev intV (n : Int) : Value := .int .i64 n
attribute [go_sem] intV
theorem pairLaw : KeyLaw Try.prog 63 Pair.val where
  ok p := key63 _ _ _ _ _ _
  eq p q := by
    have h : aeq Try.prog [] 10000 63 (Pair.val p) (Pair.val q) = some _ := eq63 [] 9996 p.seg.f p.seg.t p.seg.v p.seg.p p.seg.c p.node q.seg.f q.seg.t q.seg.v q.seg.p q.seg.c q.node
    rw [h]
    congr 1
    rw [Bool.eq_iff_iff]
    simp [Pair.eq_iff, Seg.eq_iff, and_assoc]
  bits p := sameBits_agg rfl _
theorem intLaw : KeyLaw Try.prog 3 intV where
  ok n := key3 n
  eq n m := by
    have h : aeq Try.prog [] 10000 3 (intV n) (intV m) = some _ := eq3 [] 9999 n m
    rw [h]
    congr 1
  bits n := sameBits_one rfl _

structure FieldS where
  p : Nat
  vn : Value
  vw : Value
  ih : Nat
  il : Nat
  vo : Value
  nodes : List Int
  wanted : List Seg
  holds : List (Pair × Int)
  loads : List (Int × Int)
  out : List Order

/-- how often it is told, 0: not -/
def FieldS.hd (F : FieldS) (s : Seg) (n : Int) : Int := (mget F.holds ⟨s, n⟩).getD 0
def FieldS.ld (F : FieldS) (n : Int) : Int := (mget F.loads n).getD 0

structure FieldAt (b : Nat) (H : AHeap) (F : FieldS) : Prop where
  bp : b ≤ F.p
  bh : b ≤ F.ih
  bl : b ≤ F.il
  ne : F.ih ≠ F.il
  at_ : H[F.p]? = some (.row [F.vn, F.vw, .map (some F.ih), .map (some F.il), F.vo] 5 true)
  nodes : OwnI b H F.vn F.nodes
  wanted : OwnS b H F.vw F.wanted
  nep : owner F.vw ≠ some F.p
  holds : DictAt H F.ih Pair.val intV F.holds
  loads : DictAt H F.il intV intV F.loads
  out : OwnO b H F.vo F.out

theorem FieldAt.pre {b : Nat} {H H' : AHeap} {F : FieldS} (h : FieldAt b H F) (hp : H <+: H') : FieldAt b H' F :=
  ⟨h.bp, h.bh, h.bl, h.ne, pre_get hp h.at_, h.nodes.pre hp, h.wanted.pre hp, h.nep, h.holds.pre hp, h.loads.pre hp, h.out.pre hp⟩

/-! ### whom a row isn't -/
theorem own_not_map {α : Type} {b : Nat} {H : AHeap} {enc : α → List Value} {k : Nat} {v : Value} {l : List α} (h : Own b H enc k v l) {κ ν : Type} {id : Nat} {ek : κ → Value} {ev : ν → Value} {m : List (κ × ν)} (hd : DictAt H id ek ev m) : owner v ≠ some id := by
  rcases h with ⟨_, rfl | rfl⟩ | ⟨id', rest, c, _, rfl, h3, _⟩
  · simp [owner]
  · simp [owner, AW.emp]
  · intro q
    simp only [owner, Option.some.injEq] at q
    subst q
    obtain ⟨es, ck, h1, _⟩ := hd
    rw [h1] at h3; cases h3
theorem own_not_row {α : Type} {b : Nat} {H : AHeap} {enc : α → List Value} {k : Nat} {v : Value} {l : List α} (h : Own b H enc k v l) {id : Nat} {cs : List Value} {k' : Nat} {o : Bool} (hd : H[id]? = some (.row cs k' o)) (hk : k ≠ k') : owner v ≠ some id := by
  rcases h with ⟨_, rfl | rfl⟩ | ⟨id', rest, c, _, rfl, h3, _⟩
  · simp [owner]
  · simp [owner, AW.emp]
  · intro q
    simp only [owner, Option.some.injEq] at q
    subst q
    rw [hd] at h3
    simp only [Option.some.injEq, AObj.row.injEq] at h3
    exact hk h3.2.1.symm
theorem own_not_own {α β : Type} {b b' : Nat} {H : AHeap} {enc : α → List Value} {enc' : β → List Value} {k k' : Nat} {v v' : Value} {l : List α} {l' : List β} (h : Own b H enc k v l) (h' : Own b' H enc' k' v' l') (hk : k ≠ k') (j : Nat) (ho : owner v = some j) : owner v' ≠ some j := by
  rcases h with ⟨_, rfl | rfl⟩ | ⟨id', rest, c, _, rfl, h3, _⟩
  · simp [owner] at ho
  · simp [owner, AW.emp] at ho
  · simp only [owner, Option.some.injEq] at ho
    subst ho
    exact own_not_row h' h3 (Ne.symm hk)
theorem dict_not_row {κ ν : Type} {H : AHeap} {id : Nat} {ek : κ → Value} {ev : ν → Value} {m : List (κ × ν)} (hd : DictAt H id ek ev m) {p : Nat} {cs : List Value} {k' : Nat} {o : Bool} (h : H[p]? = some (.row cs k' o)) : id ≠ p := by
  rintro rfl
  obtain ⟨es, ck, h1, _⟩ := hd
  rw [h1] at h; cases h

theorem lives (F : FieldS) (n : Int) (b : Nat) (H : AHeap) (hf : FieldAt b H F) (hl : F.nodes.length < 1000) (hr : F.nodes.Pairwise (· < ·)) :
    Sound Try.prog 45 [.pointer (some ⟨F.p, 0, none⟩), .int .i64 n] H fun v H' => v = .bool (decide (n ∈ F.nodes)) ∧ H' = H := by
  refine Sound.of_body (rs := [.tmp 4]) mixed Try.func45 rfl (by kernel_rfl) rfl (by kernel_rfl) ?_
  obtain ⟨a, c, hv, hsl⟩ := hf.nodes.sl (fun _ => rfl)
  have hat := hf.at_
  rw [hv] at hat
  simp -dsimp only [go_sem, ↓reduceIte, Nat.reduceEqDiff, Nat.reduceAdd, Nat.reduceMul, Nat.reduceSub, Nat.reduceLeDiff, Nat.reduceLT, hat]
  refine SoundP_of (binarySearchI F.nodes n a c H hsl hl hr) ?_
  rintro _ _ ⟨i, rfl, rfl⟩
  simp -dsimp only [go_sem, ↓reduceIte, Nat.reduceEqDiff, Nat.reduceAdd, Nat.reduceMul, Nat.reduceSub, Nat.reduceLeDiff, Nat.reduceLT]

theorem wants (F : FieldS) (s : Seg) (b : Nat) (H : AHeap) (hf : FieldAt b H F) (hl : F.wanted.length < 1000) (hr : StandL F.wanted) :
    Sound Try.prog 46 [.pointer (some ⟨F.p, 0, none⟩), s.val] H fun v H' => v = .bool (decide (s ∈ F.wanted)) ∧ H <+: H' := by
  refine Sound.of_body (rs := [.tmp 4]) mixed Try.func46 rfl (by kernel_rfl) rfl (by kernel_rfl) ?_
  obtain ⟨a, c, hv, hsl⟩ := hf.wanted.sl (fun _ => rfl)
  have hp1 : H <+: H ++ [AObj.row s.cells 5 true] := List.prefix_append _ _
  have hat := pre_get hp1 hf.at_
  rw [hv] at hat
  simp -dsimp only [go_sem, ↓reduceIte, Nat.reduceEqDiff, Nat.reduceAdd, Nat.reduceMul, Nat.reduceSub, Nat.reduceLeDiff, Nat.reduceLT]
  refine adrawnP_of2 [(0, false), (1, false), (2, false), (3, false), (4, false), (5, false), (6, false), (7, false), (8, false), (9, false), (10, false)] (by kernel_rfl) ?_
  simp -dsimp only [go_sem, ↓reduceIte, Nat.reduceEqDiff, Nat.reduceAdd, Nat.reduceMul, Nat.reduceSub, Nat.reduceLeDiff, Nat.reduceLT, hat]
  refine SoundP_of (binarySearchS F.wanted s a c _ (hsl.pre hp1) hl hr) ?_
  rintro _ H1 ⟨i, rfl, hp2⟩
  simp -dsimp only [go_sem, ↓reduceIte, Nat.reduceEqDiff, Nat.reduceAdd, Nat.reduceMul, Nat.reduceSub, Nat.reduceLeDiff, Nat.reduceLT]
  exact hp1.trans hp2

theorem strange (F : FieldS) (o : Order) (b : Nat) (H : AHeap) (hf : FieldAt b H F) (hl : F.nodes.length < 1000) (hr : F.nodes.Pairwise (· < ·)) (hl2 : F.wanted.length < 1000) (hr2 : StandL F.wanted) :
    Sound Try.prog 26 [.pointer (some ⟨F.p, 0, none⟩), o.val] H fun v H' => v = .bool (decide (o.node ∈ F.nodes) && !decide (o.seg ∈ F.wanted)) ∧ H <+: H' := by
  refine Sound.of_body (rs := [.tmp 4]) mixed Try.func26 rfl (by kernel_rfl) rfl (by kernel_rfl) ?_
  have hp1 : H <+: H ++ [AObj.row o.cells 7 true] := List.prefix_append _ _
  simp -dsimp only [go_sem, ↓reduceIte, Nat.reduceEqDiff, Nat.reduceAdd, Nat.reduceMul, Nat.reduceSub, Nat.reduceLeDiff, Nat.reduceLT]
  refine SoundP_of (lives F o.node b _ (hf.pre hp1) hl hr) ?_
  rintro v H' ⟨rfl, rfl⟩
  simp -dsimp only [go_sem, ↓reduceIte, Nat.reduceEqDiff, Nat.reduceAdd, Nat.reduceMul, Nat.reduceSub, Nat.reduceLeDiff, Nat.reduceLT]
  cases hd : decide (o.node ∈ F.nodes) with
  | false =>
    simp -dsimp only [go_sem, ↓reduceIte, Nat.reduceEqDiff, Nat.reduceAdd, Nat.reduceMul, Nat.reduceSub, Nat.reduceLeDiff, Nat.reduceLT, hd]
    exact ⟨rfl, hp1⟩
  | true =>
    simp -dsimp only [go_sem, ↓reduceIte, Nat.reduceEqDiff, Nat.reduceAdd, Nat.reduceMul, Nat.reduceSub, Nat.reduceLeDiff, Nat.reduceLT, hd]
    refine SoundP_of (wants F o.seg b _ (hf.pre hp1) hl2 hr2) ?_
    rintro v H1 ⟨rfl, hp2⟩
    simp -dsimp only [go_sem, ↓reduceIte, Nat.reduceEqDiff, Nat.reduceAdd, Nat.reduceMul, Nat.reduceSub, Nat.reduceLeDiff, Nat.reduceLT]
    exact ⟨rfl, hp1.trans hp2⟩

/-- what a look into the maps gives -/
theorem look_holds {b : Nat} {H : AHeap} {F : FieldS} (hf : FieldAt b H F) (s : Seg) (n : Int) : alookup Try.prog H 51 (.map (some F.ih)) (Pair.val ⟨s, n⟩) false = some (.int .i64 (F.hd s n)) := by
  rw [hf.holds.lookup pairLaw mt51 ze3 rfl]
  simp only [Bool.false_eq_true, if_false, FieldS.hd]
  cases mget F.holds ⟨s, n⟩ <;> rfl
theorem look_loads {b : Nat} {H : AHeap} {F : FieldS} (hf : FieldAt b H F) (n : Int) : alookup Try.prog H 52 (.map (some F.il)) (intV n) false = some (.int .i64 (F.ld n)) := by
  rw [hf.loads.lookup intLaw mt52 ze3 rfl]
  simp only [Bool.false_eq_true, if_false, FieldS.ld]
  cases mget F.loads n <;> rfl

/-- the objects that a field's methods may turn -/
def foot (F : FieldS) (j : Nat) : Prop := j = F.p ∨ j = F.ih ∨ j = F.il ∨ owner F.vo = some j
/-- what another one has, if a field's methods were at work -/
structure Kept (H H' : AHeap) (F F' : FieldS) : Prop where
  len : H.length ≤ H'.length
  same : ∀ j, j < H.length → ¬ foot F j → H'[j]? = H[j]?
  mine : ∀ j, foot F' j → foot F j ∨ H.length ≤ j
theorem Kept.refl (H : AHeap) (F : FieldS) : Kept H H F F := ⟨Nat.le_refl _, fun _ _ _ => rfl, fun _ h => .inl h⟩
theorem Kept.trans {H H1 H2 : AHeap} {F F1 F2 : FieldS} (h : Kept H H1 F F1) (h' : Kept H1 H2 F1 F2) : Kept H H2 F F2 :=
  ⟨Nat.le_trans h.len h'.len, fun j hj hn => by
      rw [h'.same j (Nat.lt_of_lt_of_le hj h.len) (fun q => by rcases h.mine j q with q | q; exact hn q; omega), h.same j hj hn], fun j hj => by
      rcases h'.mine j hj with q | q
      · exact h.mine j q
      · exact .inr (Nat.le_trans h.len q)⟩
theorem Kept.of_pre {H H' : AHeap} (F : FieldS) (h : H <+: H') : Kept H H' F F := ⟨pre_len h, fun j hj _ => by
    obtain ⟨x, hx⟩ := get_ex hj
    rw [hx, pre_get h hx], fun _ h => .inl h⟩

theorem kept_holds (H : AHeap) (F : FieldS) (o : AObj) (m : List (Pair × Int)) : Kept H (H.set F.ih o) F { F with holds := m } :=
  ⟨by simp, fun j _ hn => List.getElem?_set_ne fun q => hn (.inr (.inl q.symm)), fun _ h => .inl h⟩
theorem kept_loads (H : AHeap) (F : FieldS) (o : AObj) (m : List (Int × Int)) : Kept H (H.set F.il o) F { F with loads := m } :=
  ⟨by simp, fun j _ hn => List.getElem?_set_ne fun q => hn (.inr (.inr (.inl q.symm))), fun _ h => .inl h⟩

theorem setHolds {b : Nat} {H : AHeap} {F : FieldS} (hf : FieldAt b H F) (s : Seg) (n v : Int) :
    ∃ o, amapPut Try.prog H 51 (.map (some F.ih)) (Pair.val ⟨s, n⟩) (intV v) = some (H.set F.ih o) ∧ FieldAt b (H.set F.ih o) { F with holds := mput F.holds ⟨s, n⟩ v } ∧ Kept H (H.set F.ih o) F { F with holds := mput F.holds ⟨s, n⟩ v } := by
  obtain ⟨o, h1, h2⟩ := hf.holds.put (t := 51) pairLaw mt51 ⟨s, n⟩ v
  refine ⟨o, h1, ⟨hf.bp, hf.bh, hf.bl, hf.ne, ?_, ?_, ?_, hf.nep, h2, ?_, ?_⟩, kept_holds H F o _⟩
  · rw [List.getElem?_set_ne (dict_not_row hf.holds hf.at_)]; exact hf.at_
  · exact hf.nodes.keep fun id hid => List.getElem?_set_ne (by rintro rfl; exact own_not_map hf.nodes hf.holds hid)
  · exact hf.wanted.keep fun id hid => List.getElem?_set_ne (by rintro rfl; exact own_not_map hf.wanted hf.holds hid)
  · exact hf.loads.keep (List.getElem?_set_ne hf.ne)
  · exact hf.out.keep fun id hid => List.getElem?_set_ne (by rintro rfl; exact own_not_map hf.out hf.holds hid)
theorem setLoads {b : Nat} {H : AHeap} {F : FieldS} (hf : FieldAt b H F) (n v : Int) :
    ∃ o, amapPut Try.prog H 52 (.map (some F.il)) (intV n) (intV v) = some (H.set F.il o) ∧ FieldAt b (H.set F.il o) { F with loads := mput F.loads n v } ∧ Kept H (H.set F.il o) F { F with loads := mput F.loads n v } := by
  obtain ⟨o, h1, h2⟩ := hf.loads.put (t := 52) intLaw mt52 n v
  refine ⟨o, h1, ⟨hf.bp, hf.bh, hf.bl, hf.ne, ?_, ?_, ?_, hf.nep, ?_, h2, ?_⟩, kept_loads H F o _⟩
  · rw [List.getElem?_set_ne (dict_not_row hf.loads hf.at_)]; exact hf.at_
  · exact hf.nodes.keep fun id hid => List.getElem?_set_ne (by rintro rfl; exact own_not_map hf.nodes hf.loads hid)
  · exact hf.wanted.keep fun id hid => List.getElem?_set_ne (by rintro rfl; exact own_not_map hf.wanted hf.loads hid)
  · exact hf.holds.keep (List.getElem?_set_ne (Ne.symm hf.ne))
  · exact hf.out.keep fun id hid => List.getElem?_set_ne (by rintro rfl; exact own_not_map hf.out hf.loads hid)
/-- an order more -/
theorem setOut {b : Nat} {H H2 : AHeap} {F : FieldS} (hf : FieldAt b H F) {vo : Value} {out : List Order} (hle : H.length ≤ H2.length) (hk : ∀ j, j < H.length → owner F.vo ≠ some j → H2[j]? = H[j]?) (ho : OwnO b H2 vo out) (hmine : ∀ j, owner vo = some j → owner F.vo = some j ∨ H.length ≤ j) :
    ∃ o, (H2[F.p]?).bind (rowStore 4 vo.cells.toList) = some o ∧ FieldAt b (H2.set F.p o) { F with vo := vo, out := out } ∧ Kept H (H2.set F.p o) F { F with vo := vo, out := out } := by
  have hv : vo.cells.toList = [vo] := by
    rcases ho with ⟨_, rfl | rfl⟩ | ⟨id, rest, c, _, rfl, _, _⟩ <;> rfl
  have hnp : owner F.vo ≠ some F.p := own_not_row hf.out hf.at_ (by decide)
  have hat : H2[F.p]? = some (.row [F.vn, F.vw, .map (some F.ih), .map (some F.il), F.vo] 5 true) := by rw [hk F.p (get_lt hf.at_) hnp]; exact hf.at_
  have old : ∀ j, j < H.length → owner F.vo ≠ some j → j ≠ F.p → (H2.set F.p (.row [F.vn, F.vw, .map (some F.ih), .map (some F.il), vo] 5 true))[j]? = H[j]? := fun j hj h1 h2 => by
    rw [List.getElem?_set_ne (Ne.symm h2)]; exact hk j hj h1
  refine ⟨.row [F.vn, F.vw, .map (some F.ih), .map (some F.il), vo] 5 true, ?_, ⟨hf.bp, hf.bh, hf.bl, hf.ne, List.getElem?_set_self (get_lt hat), ?_, ?_, hf.nep, ?_, ?_, ?_⟩, ⟨by simpa using hle, fun j hj hn => ?_, fun j hj => ?_⟩⟩
  · rw [hat, hv]; rfl
  · exact hf.nodes.keep fun id hid => old id ((hf.nodes.owner_ge hid).2) (own_not_own hf.nodes hf.out (by decide) id hid) (by rintro rfl; exact own_not_row hf.nodes hf.at_ (by decide) hid)
  · exact hf.wanted.keep fun id hid => old id ((hf.wanted.owner_ge hid).2) (own_not_own hf.wanted hf.out (by decide) id hid) (by rintro rfl; exact hf.nep hid)
  · exact hf.holds.keep (old _ hf.holds.lt (own_not_map hf.out hf.holds) (dict_not_row hf.holds hf.at_))
  · exact hf.loads.keep (old _ hf.loads.lt (own_not_map hf.out hf.loads) (dict_not_row hf.loads hf.at_))
  · exact ho.keep fun id hid => List.getElem?_set_ne (by rintro rfl; exact own_not_row ho hat (by decide) hid)
  · exact old j hj (fun q => hn (.inr (.inr (.inr q)))) (fun q => hn (.inl q))
  · rcases hj with rfl | rfl | rfl | q
    · exact .inl (.inl rfl)
    · exact .inl (.inr (.inl rfl))
    · exact .inl (.inr (.inr (.inl rfl)))
    · rcases hmine j q with h | h
      · exact .inl (.inr (.inr (.inr h)))
      · exact .inr h
theorem emptier (F : FieldS) (x y : Int) (b : Nat) (H : AHeap) (hf : FieldAt b H F) :
    Sound Try.prog 30 [.pointer (some ⟨F.p, 0, none⟩), .int .i64 x, .int .i64 y] H fun v H' => v = .int .i64 (orZ [cmpZ (F.ld x) (F.ld y), cmpZ x y]) ∧ H <+: H' := by
  refine Sound.of_body (rs := [.tmp 6]) mixed Try.func30 rfl (by kernel_rfl) rfl (by kernel_rfl) ?_
  have hat := hf.at_
  simp -dsimp only [go_sem, ↓reduceIte, Nat.reduceEqDiff, Nat.reduceAdd, Nat.reduceMul, Nat.reduceSub, Nat.reduceLeDiff, Nat.reduceLT]
  refine adrawnP_of2 [(0, false), (1, false), (2, false), (3, false), (4, false), (5, false), (6, false), (7, false), (8, false), (9, false), (10, false), (11, false), (13, false), (14, false), (12, false), (15, false), (16, false), (17, false), (18, false)] (by kernel_rfl) ?_
  simp -dsimp only [go_sem, ↓reduceIte, Nat.reduceEqDiff, Nat.reduceAdd, Nat.reduceMul, Nat.reduceSub, Nat.reduceLeDiff, Nat.reduceLT, hat, look_loads hf x, look_loads hf y]
  refine SoundP_of (compare_int (F.ld x) (F.ld y) H) ?_
  rintro v H' ⟨rfl, rfl⟩
  simp -dsimp only [go_sem, ↓reduceIte, Nat.reduceEqDiff, Nat.reduceAdd, Nat.reduceMul, Nat.reduceSub, Nat.reduceLeDiff, Nat.reduceLT]
  refine SoundP_of (compare_int x y H') ?_
  rintro v H' ⟨rfl, rfl⟩
  simp -dsimp only [go_sem, ↓reduceIte, Nat.reduceEqDiff, Nat.reduceAdd, Nat.reduceMul, Nat.reduceSub, Nat.reduceLeDiff, Nat.reduceLT]
  refine SoundP_of (or_int [cmpZ (F.ld x) (F.ld y), cmpZ x y] _ _ _ (SlA.ofRow (get_end _ _ _) rfl fun _ => rfl) (by simp)) ?_
  rintro v H' ⟨rfl, rfl⟩
  simp -dsimp only [go_sem, ↓reduceIte, Nat.reduceEqDiff, Nat.reduceAdd, Nat.reduceMul, Nat.reduceSub, Nat.reduceLeDiff, Nat.reduceLT]
  simp
end Go.Proofs.Ytangfnommhmpeaa
