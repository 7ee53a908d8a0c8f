/-
  Timeline.stretches.
-/
import Derived.Test.YthbifkeadbmcnaaLook
import Derived.Test.YthbifkeadbmcnaaAwLoop
import Derived.Test.YthbifkeadbmcnaaAwBase
set_option linter.unusedVariables false
set_option linter.unusedSimpArgs false
namespace Go.Proofs.Ythbifkeadbmcnaa
open Go Go.AW
set_option linter.unusedSimpArgs false
set_option maxRecDepth 20000

attribute [go_sem] Stretch.cells
abbrev OwnX (b : Nat) (H : AHeap) (v : Value) (l : List SetS) : Prop := Own b H encP 1 v l
abbrev OwnT (b : Nat) (H : AHeap) (v : Value) (l : List Stretch) : Prop := Own b H Stretch.cells 3 v l
/-- the times of sets -/
abbrev ends (W : List SetS) : List Int := W.flatMap fun x => [x.k.f, x.k.t]
theorem mapSplit {M : List SetS} {L1 L2 : List (Key × Nat)} {k : Key} {v : Nat} (h : idsOf M = L1 ++ (k, v) :: L2) : ∃ A x B, M = A ++ x :: B ∧ L1 = idsOf A ∧ L2 = idsOf B ∧ k = x.k ∧ v = x.id := by
  obtain ⟨A, R, rfl, h1, h2⟩ := List.map_eq_append_iff.1 h
  obtain ⟨x, B, rfl, h3, h4⟩ := List.map_eq_cons_iff.1 h2
  simp only [Prod.mk.injEq] at h3
  exact ⟨A, x, B, rfl, h1.symm, h4.symm, h3.1.symm, h3.2.symm⟩
theorem app2b {H : AHeap} {v : Value} {l : List Int} {b : Nat} (hb : b ≤ H.length) (h : OwnI b H v l) (x y : Int) (hl : l.length < 100000) :
    ∃ v' H2, aappend Try.prog (H ++ [AObj.row [.int .i64 x, .int .i64 y] 1 true]) 85 85 v (.slice (some ⟨H.length, 0, none⟩) 2 2) = some (v', H2) ∧ OwnI b H2 v' (l ++ [x, y]) ∧ H.length ≤ H2.length ∧
      (∀ j, j < H.length → owner v ≠ some j → H2[j]? = H[j]?) ∧ (∀ j, owner v' = some j → owner v = some j ∨ H.length ≤ j) := by
  obtain ⟨inf, hi1, hi2, hi3, hi4⟩ := inf2
  have hs : asrc Try.prog (H ++ [AObj.row [.int .i64 x, .int .i64 y] 1 true]) 1 85 (.slice (some ⟨H.length, 0, none⟩) 2 2) = some ([x, y].length, [x, y].flatMap encI) :=
    asrc_sl (l := [x, y]) un85 (SlA.ofRow (get_end H _ []) (by simp) fun _ => rfl) (fun _ => rfl)
  obtain ⟨v', H2, h3, h4, h5, h6, h7⟩ := Own.append (news := [x, y]) (h.pre (pre_add H (.row [.int .i64 x, .int .i64 y] 1 true))) el85 hi1 hi2 hi3 rfl (by decide) (fun _ => rfl) (fun _ => rfl) hs (by rw [hi4]; simp; omega) (by simp; omega) (by simp; omega)
  refine ⟨v', H2, h3, h4, by simp at h5; omega, fun j hj ho => ?_, fun j hj => ?_⟩
  · rw [h6 j (by simp; omega) ho, List.getElem?_append_left hj]
  · rcases h7 j hj with h | h
    · exact .inl h
    · right; simp at h; omega
theorem ends_len (W : List SetS) : (ends W).length = 2 * W.length := by
  induction W with
  | nil => rfl
  | cons y W ih => simp only [ends, List.flatMap_cons, List.length_append, List.length_cons, List.length_nil] at *; omega
theorem ends_perm {W V : List SetS} (h : W.Perm V) {n : Int} : n ∈ ends V ↔ n ∈ ends W := by
  simp only [ends, List.mem_flatMap]
  exact ⟨fun ⟨x, hx, hn⟩ => ⟨x, h.mem_iff.2 hx, hn⟩, fun ⟨x, hx, hn⟩ => ⟨x, h.mem_iff.1 hx, hn⟩⟩
theorem own_set {b : Nat} {H : AHeap} {x : SetS} (h : SetAt b H x) : ownRow H x.id = true := by unfold ownRow; rw [h.at_]; rfl
theorem set_eq {b : Nat} {H : AHeap} {x y : SetS} (hx : SetAt b H x) (hy : SetAt b H y) (xo yo : Operand) : abin Try.prog H .eql 60 xo yo (.pointer (some ⟨x.id, 0, none⟩)) (.pointer (some ⟨y.id, 0, none⟩)) = some (.bool (decide (x.id = y.id))) := by
  have e : aeq Try.prog H 10000 60 (.pointer (some ⟨x.id, 0, none⟩)) (.pointer (some ⟨y.id, 0, none⟩)) = some (decide (x.id = y.id)) := by
    unfold aeq
    rw [Try.underlying60]
    simp only [sz66, own_set hx, own_set hy]
    have : ((⟨x.id, 0, none⟩ : Addr) == ⟨y.id, 0, none⟩) = decide (x.id = y.id) := by rw [Bool.eq_iff_iff]; simp
    rw [this]; rfl
  simp only [abin, aeqGuard, if_true, e, Option.map_some]
theorem snoc_or {α : Type} (l : List α) : l = [] ∨ ∃ R y, l = R ++ [y] := by
  rcases List.eq_nil_or_concat l with h | ⟨R, y, h⟩
  · exact .inl h
  · exact .inr ⟨R, y, by rw [h, List.concat_eq_append]⟩
theorem set_len_add {α : Type} (A B : List α) (n : Nat) (w : α) : (A ++ B).set (A.length + n) w = A ++ B.set n w := by
  rw [List.set_append_right _ _ (by omega)]; simp
/-- a store of one cell -/
theorem flat_set {α : Type} {enc : α → List Value} {k : Nat} (hk : ∀ x, (enc x).length = k) {x y : α} {j : Nat} {w : Value} (hj : j < k) (he : enc y = (enc x).set j w) (rest : List Value) : ∀ (l : List α) (i : Nat), l[i]? = some x → (l.set i y).flatMap enc ++ rest = (l.flatMap enc ++ rest).set (i * k + j) w
  | [], i, h => by simp at h
  | z :: l, 0, h => by
    obtain rfl : z = x := by simpa using h
    simp only [List.set_cons_zero, List.flatMap_cons, List.append_assoc, Nat.zero_mul, Nat.zero_add]
    rw [he, List.set_append_left _ _ (by rw [hk]; exact hj)]
  | z :: l, i + 1, h => by
    have ih := flat_set hk hj he rest l i (by simpa using h)
    simp only [List.set_cons_succ, List.flatMap_cons, List.append_assoc]
    rw [ih, show (i + 1) * k + j = (enc z).length + (i * k + j) by rw [hk, Nat.add_mul]; omega, set_len_add]
theorem storeCell {b : Nat} {H : AHeap} {α : Type} {enc : α → List Value} {k id n c : Nat} {l : List α} (h : Own b H enc k (.slice (some ⟨id, 0, none⟩) n c) l) (hk : ∀ x, (enc x).length = k) {i j : Nat} {x y : α} {w : Value} (hx : l[i]? = some x) (hj : j < k) (he : enc y = (enc x).set j w) :
    ∃ o, (H[id]?).bind (rowStore (i * k + j) [w]) = some o ∧ Own b (H.set id o) enc k (.slice (some ⟨id, 0, none⟩) n c) (l.set i y) := by
  have hi := (List.getElem?_eq_some_iff.1 hx).1
  obtain ⟨id', rest, hb, q, rfl, hrow, hcap⟩ := own_open h (by omega)
  cases q
  have hik : i * k + k ≤ l.length * k := by
    have := Nat.mul_le_mul_right k (show i + 1 ≤ l.length from hi); rwa [Nat.add_mul, Nat.one_mul] at this
  have hlt : i * k + j < (l.flatMap enc ++ rest).length := by rw [List.length_append, flat_len hk]; omega
  have e := flat_set hk hj he rest l i hx
  refine ⟨.row ((l.set i y).flatMap enc ++ rest) k true, ?_, .inr ⟨id, rest, c, hb, by simp, List.getElem?_set_self (get_lt hrow), ?_⟩⟩
  · rw [hrow, Option.bind_some]
    unfold rowStore
    simp only [List.length_singleton]
    rw [if_pos (by omega), e, List.set_eq_take_append_cons_drop, if_pos hlt]
    simp
  · refine hcap.imp (fun q => q) fun ⟨h1, h2⟩ => ⟨h1, ?_⟩
    rw [h2, List.length_append, List.length_append, flat_len hk, flat_len hk, List.length_set]
theorem tlStretches (b : Nat) (H : AHeap) (p m : Nat) (M : List SetS) (h : TimeAt b H p m M) (hM : M.length < 400) :
    Sound Try.prog 29 [ptrV p] H fun v H' => ∃ W T, W.Perm (M.filter fun x => whole x.l) ∧ W.Pairwise (fun x y => ¬ aheadR y.k x.k = true) ∧ T.Pairwise (· < ·) ∧ (∀ n, n ∈ T ↔ n ∈ ends W) ∧ OwnT H.length H' v (strT W T) ∧ H <+: H' := by
  refine Sound.of_body (rs := [.tmp 2]) mixed Try.func29 rfl (by kernel_rfl) rfl (by kernel_rfl) ?_
  have hat := h.at_
  obtain ⟨o3, e3, hr⟩ := h.dict.range (t := 68) un68
  simp -dsimp only [go_sem, ↓reduceIte, Nat.reduceEqDiff, Nat.reduceAdd, Nat.reduceMul, Nat.reduceSub, Nat.reduceLeDiff, Nat.reduceLT, hat, e3]
  refine aloopP_of (fun n T H2 => ∃ L D v3 v4, (∀ j, owner v3 = some j → owner v4 ≠ some j) ∧ n = L.length ∧ T 3 = v3 ∧ T 4 = v4 ∧ T 17 = .pointer (some ⟨H.length, 0, none⟩) ∧ RangeAt H2 H.length m Key.val ptrV (idsOf M) (idsOf L) ∧ H <+: H2 ∧ (D ++ L).Perm M ∧
      OwnX (H.length + 1) H2 v3 (D.filter fun x => whole x.l) ∧ OwnI (H.length + 1) H2 v4 (ends (D.filter fun x => whole x.l))) (n := M.length) ?_ ?_
  · refine ⟨M, [], .slice none 0 0, .slice none 0 0, ?_⟩
    simp -dsimp only [go_sem, ↓reduceIte, Nat.reduceEqDiff, Nat.reduceAdd, Nat.reduceMul, Nat.reduceSub, Nat.reduceLeDiff, Nat.reduceLT]
    exact ⟨fun j hj => by simp [owner] at hj, hr, List.prefix_append _ _, List.Perm.refl _, Own.nil _ _ _ _, Own.nil _ _ _ _⟩
  rintro n T H2 ⟨L, D, v3, v4, hdis, rfl, h3, h4, h17, hr, hp, hperm, o3, o4⟩
  simp -dsimp only [go_sem, ↓reduceIte, Nat.reduceEqDiff, Nat.reduceAdd, Nat.reduceMul, Nat.reduceSub, Nat.reduceLeDiff, Nat.reduceLT, h3, h4, h17]
  refine hr.next2 ?_ ?_
  · intro hL
    obtain rfl : L = [] := List.map_eq_nil_iff.1 hL
    rw [List.append_nil] at hperm
    have hDM : ∀ x ∈ D, x ∈ M := fun x hx => hperm.mem_iff.1 hx
    have hlD := hperm.length_eq
    have lW := List.length_filter_le (fun x => whole x.l) D
    have permW : (D.filter fun x => whole x.l).Perm (M.filter fun x => whole x.l) := hperm.filter _
    have inW : ∀ x ∈ D.filter fun x => whole x.l, x ∈ M := fun x hx => hDM x (List.mem_filter.1 hx).1
    generalize D.filter (fun x => whole x.l) = W0 at *
    simp -dsimp only [go_sem, ↓reduceIte, Nat.reduceEqDiff, Nat.reduceAdd, Nat.reduceMul, Nat.reduceSub, Nat.reduceLeDiff, Nat.reduceLT, h3, h4, h17]
    refine SoundP_of (sortSets W0 b _ H2 v3 o3 (fun x hx => (h.sets x (inW x hx)).pre hp) (by omega)) ?_
    rintro _ H3 ⟨rfl, W, pW, sW', oW, len3, fr3⟩
    simp -dsimp only [go_sem, ↓reduceIte, Nat.reduceEqDiff, Nat.reduceAdd, Nat.reduceMul, Nat.reduceSub, Nat.reduceLeDiff, Nat.reduceLT, h3, h4, h17]
    have q4 := o4.keep fun j hj => fr3 j fun q => hdis j q hj
    have lW0 : W0.length < 400 := by omega
    have lE0 := ends_len W0
    refine SoundP_of (sortI (ends W0) _ H3 v4 q4 (by omega)) ?_
    rintro _ H4 ⟨rfl, TS, pT, sT, oT, len4, fr4⟩
    simp -dsimp only [go_sem, ↓reduceIte, Nat.reduceEqDiff, Nat.reduceAdd, Nat.reduceMul, Nat.reduceSub, Nat.reduceLeDiff, Nat.reduceLT, h3, h4, h17]
    have lTS := pT.length_eq
    refine SoundP_of (compactI TS _ H4 v4 oT (by omega)) ?_
    rintro v5 H5 ⟨oC, len5, fr5, ow5⟩
    simp -dsimp only [go_sem, ↓reduceIte, Nat.reduceEqDiff, Nat.reduceAdd, Nat.reduceMul, Nat.reduceSub, Nat.reduceLeDiff, Nat.reduceLT, h3, h4, h17]
    have cT : (comp TS).Pairwise (· < ·) := comp_sorted (le := (· ≤ ·)) (lt := (· < ·)) (fun x y h1 h2 => by omega) (fun x y z h1 h2 => by omega) sT
    have mT : ∀ n, n ∈ comp TS ↔ n ∈ ends W := fun n => by rw [comp_mem, pT.mem_iff, ends_perm pW]
    have lC := comp_len TS
    have pWM := pW.trans permW
    have lW := pW.length_eq
    have oW5 : OwnX (H.length + 1) H5 v3 W := oW.keep fun j hj => by rw [fr5 j (fun q => hdis j hj q), fr4 j (fun q => hdis j hj q)]
    have hp5 : H <+: H5 := by
      refine List.prefix_iff_getElem?.2 fun j hj => ?_
      have n4 : owner v4 ≠ some j := fun q => by have := (o4.owner_ge q).1; omega
      rw [fr5 j n4, fr4 j n4, fr3 j (fun q => by have := (o3.owner_ge q).1; omega)]
      exact pre_get hp (by simp [hj])
    have inW2 : ∀ x ∈ W, x ∈ M := fun x hx => (List.mem_filter.1 (pWM.mem_iff.1 hx)).1
    generalize comp TS = C at *
    obtain ⟨a3, c3, rfl, sW⟩ := oW5.sl (fun _ => rfl)
    obtain ⟨a5, c5, rfl, sC⟩ := oC.sl (fun _ => rfl)
    clear o3 o4 q4 oW oT fr3 fr4 fr5 hr e3 hat hdis ow5
    have lC1000 : C.length < 1000 := by omega
    have lW400 : W.length < 400 := by omega
    clear lC lTS lE0 lW lW0
    refine aloopP_of (fun n T H' => ∃ i v7, n = C.length - i ∧ 1 ≤ i ∧ T 3 = .slice a3 W.length c3 ∧ T 4 = .slice a5 C.length c5 ∧ T 7 = v7 ∧ T 8 = .int .i64 ((i : Nat) : Int) ∧ H5 <+: H' ∧ OwnT H5.length H' v7 (strT W (C.take i))) (n := C.length - 1) ?_ ?_
    · refine ⟨1, .slice none 0 0, rfl, Nat.le_refl _, ?_⟩
      simp -dsimp only [go_sem, ↓reduceIte, Nat.reduceEqDiff, Nat.reduceAdd, Nat.reduceMul, Nat.reduceSub, Nat.reduceLeDiff, Nat.reduceLT, h3, h4, h17]
      refine ⟨rfl, List.prefix_refl _, ?_⟩
      have e : strT W (C.take 1) = [] := by cases C <;> rfl
      rw [e]
      exact Own.nil _ _ _ _
    rintro n T H6 ⟨i, v7, rfl, hi, h3, h4, h7, h8, p6, oS⟩
    simp -dsimp only [go_sem, ↓reduceIte, Nat.reduceEqDiff, Nat.reduceAdd, Nat.reduceMul, Nat.reduceSub, Nat.reduceLeDiff, Nat.reduceLT, h3, h4, h7, h8]
    refine acondP_of (fun hc => ?_) (fun hc => ?_)
    rotate_left
    · simp at hc
      simp -dsimp only [go_sem, ↓reduceIte, Nat.reduceEqDiff, Nat.reduceAdd, Nat.reduceMul, Nat.reduceSub, Nat.reduceLeDiff, Nat.reduceLT, h3, h4, h7, h8]
      refine ⟨W, C, pWM, sW', cT, mT, ?_, hp5.trans p6⟩
      rw [List.take_of_length_le (by omega)] at oS
      exact oS.mono (pre_len hp5)
    simp at hc
    obtain ⟨j, rfl⟩ : ∃ j, i = j + 1 := ⟨i - 1, by omega⟩
    obtain ⟨t, ht⟩ := get_ex hc
    obtain ⟨f, hf⟩ := get_ex (show j < C.length by omega)
    obtain ⟨id5, of5, rfl, at5⟩ := (sC.pre p6).at (by omega)
    have step := strT_take W hf ht
    simp -dsimp only [go_sem, ↓reduceIte, Nat.reduceEqDiff, Nat.reduceAdd, Nat.reduceMul, Nat.reduceSub, Nat.reduceLeDiff, Nat.reduceLT, h3, h4, h7, h8]
    refine adrawnP_of3 [(0, false), (1, false), (2, false), (3, false), (4, false), (5, false), (6, false), (7, false), (8, false), (9, false), (10, false), (11, true), (12, false)] (by kernel_rfl) ?_
    simp -dsimp only [go_sem, ↓reduceIte, Nat.reduceEqDiff, Nat.reduceAdd, Nat.reduceMul, Nat.reduceSub, Nat.reduceLeDiff, Nat.reduceLT, h3, h4, h7, h8, wrPS (show j < 4611686018427387904 by omega), inRange hc, inRange (show j < C.length by omega), rowLoad_one0 (at5 _ t ht), rowLoad_one0 (at5 _ f hf)]
    have p7 : H5 <+: H6 ++ [AObj.row [Value.int IntKind.i64 f] 1 true, AObj.row [Value.int IntKind.i64 t] 1 true] := p6.trans (List.prefix_append _ _)
    refine SoundP_of (indexSet W a3 c3 H6.length (H6.length + 1) f t b _ (sW.pre p7) (fun x hx => (h.sets x (inW2 x hx)).pre (hp5.trans p7)) (by omega) (get_end _ _ _) (get_end1 _ _ _ _)) ?_
    rintro _ _ ⟨rfl, rfl⟩
    have oS7 := oS.pre (List.prefix_append H6 [AObj.row [Value.int IntKind.i64 f] 1 true, AObj.row [Value.int IntKind.i64 t] 1 true])
    have rF := get_end H6 (AObj.row [Value.int IntKind.i64 f] 1 true) [AObj.row [Value.int IntKind.i64 t] 1 true]
    have rT := get_end1 H6 (AObj.row [Value.int IntKind.i64 f] 1 true) (AObj.row [Value.int IntKind.i64 t] 1 true) []
    have l7 : (H6 ++ [AObj.row [Value.int IntKind.i64 f] 1 true, AObj.row [Value.int IntKind.i64 t] 1 true]).length = H6.length + 2 := by simp
    have n6 := pre_len p6
    generalize hH7 : H6 ++ [AObj.row [Value.int IntKind.i64 f] 1 true, AObj.row [Value.int IntKind.i64 t] 1 true] = H7 at *
    cases hq : W.findIdx? fun x => reaches x.k f t with
    | none =>
      have hfind : (W.find? fun x => reaches x.k f t) = none := by
        rw [List.find?_eq_none]; intro x hx; rw [List.findIdx?_eq_none_iff] at hq; simp [hq x hx]
      simp -dsimp only [go_sem, ↓reduceIte, Nat.reduceEqDiff, Nat.reduceAdd, Nat.reduceMul, Nat.reduceSub, Nat.reduceLeDiff, Nat.reduceLT, h3, h4, h7, h8, wrS (show j + 1 < 4611686018427387904 by omega), show decide ((-1 : Int) < 0) = true from rfl]
      refine ⟨_, ?_, j + 1 + 1, v7, rfl, by omega, rfl, rfl, p7, ?_⟩
      · omega
      · rw [show j + 1 + 1 = j + 2 from rfl, step, stepS, hfind]
        exact oS7
    | some q =>
      obtain ⟨hqW, hqr, hqm⟩ := List.findIdx?_eq_some_iff_getElem.1 hq
      obtain ⟨x, hx⟩ := get_ex hqW
      obtain rfl : W[q] = x := (List.getElem?_eq_some_iff.1 hx).2
      have hfind : (W.find? fun x => reaches x.k f t) = some W[q] := by
        rw [List.find?_eq_some_iff_append]
        refine ⟨hqr, W.take q, W.drop (q + 1), by rw [List.getElem_cons_drop, List.take_append_drop], fun y hy => ?_⟩
        obtain ⟨r, hr, rfl⟩ := List.mem_iff_getElem.1 hy
        rw [List.getElem_take]
        rw [List.length_take] at hr
        have := hqm r (by omega); simpa using this
      generalize W[q] = x at *
      obtain ⟨idW, ofW, rfl, atW⟩ := (sW.pre p7).at (by omega)
      have lS := strT_len W (C.take (j + 1))
      have lS2 : (C.take (j + 1)).length ≤ 1000 := Nat.le_trans (List.length_take_le' _ _) (by omega)
      have inS := strT_in (W := W) (T := C.take (j + 1))
      generalize strT W (C.take (j + 1)) = out at *
      obtain ⟨aO, cO, rfl, sO⟩ := oS7.sl (fun _ => rfl)
      simp -dsimp only [go_sem, ↓reduceIte, Nat.reduceEqDiff, Nat.reduceAdd, Nat.reduceMul, Nat.reduceSub, Nat.reduceLeDiff, Nat.reduceLT, h3, h4, h7, h8, show decide ((q : Int) < 0) = false by simp]
      refine adrawnP_of2 [(0, false), (1, false), (2, false), (3, false), (4, false), (5, false), (6, false), (7, false), (8, false), (9, false), (10, false), (11, false), (12, false), (13, false), (14, false), (15, false), (16, false), (17, false), (18, false), (19, false), (20, false), (21, false), (22, false), (23, false)] (by kernel_rfl) ?_
      obtain ⟨v9, H9, e9, o9, le9, fr9, ow9⟩ := Own.app1b (enc := Stretch.cells) un58 el58 inf62 rfl (by decide) (by decide) (fun _ => rfl) (fun _ => rfl) (b := H5.length) (by omega) oS7 ⟨x, f, t⟩ (by omega)
      have p9 : H5 <+: H9 := by
        refine List.prefix_iff_getElem?.2 fun i hi => ?_
        rw [fr9 i (by omega) (fun q => by have := (oS7.owner_ge q).1; omega)]
        exact pre_get p7 (by simp [hi])
      rcases snoc_or out with rfl | ⟨R, y, rfl⟩
      · simp -dsimp only [go_sem, ↓reduceIte, Nat.reduceEqDiff, Nat.reduceAdd, Nat.reduceMul, Nat.reduceSub, Nat.reduceLeDiff, Nat.reduceLT, h3, h4, h7, h8, show IntKind.i64.wrap (((0 : Nat) : Int) - 1) = -1 by decide, show decide ((0 : Int) ≤ -1) = false from rfl]
        refine adrawnP_of2 [(0, false), (1, false), (2, false), (3, false), (4, false), (5, false), (6, false), (7, false), (8, false), (9, false), (10, false), (11, false)] (by kernel_rfl) ?_
        dsimp only [Stretch.cells, List.length_nil] at e9
        simp -dsimp only [go_sem, ↓reduceIte, Nat.reduceEqDiff, Nat.reduceAdd, Nat.reduceMul, Nat.reduceSub, Nat.reduceLeDiff, Nat.reduceLT, h3, h4, h7, h8, inRange hqW, rowLoad_one0 (atW _ x hx), rF, rT, e9, wrS (show j + 1 < 4611686018427387904 by omega)]
        refine ⟨_, ?_, j + 1 + 1, v9, rfl, by omega, rfl, rfl, p9, ?_⟩
        · omega
        · rw [show j + 1 + 1 = j + 2 from rfl, step, stepS, hfind]
          exact o9
      · have lO : (R ++ [y]).length = R.length + 1 := by simp
        have hy : (R ++ [y])[R.length]? = some y := by simp
        obtain ⟨idO, restO, hbO, rfl, -⟩ := own_open oS7 (by omega)
        have cO0 := rowLoad_cell (own_at oS7 (fun _ => rfl) _ y hy)
        have hw := wrPS (show R.length < 4611686018427387904 by omega)
        have hge : decide ((0 : Int) ≤ (R.length : Int)) = true := by simp
        have hir := inRange (show R.length < R.length + 1 by omega)
        have hiq := inRange hqW
        have hxw := rowLoad_one0 (atW _ x hx)
        have hyx := set_eq (H := H7) ((h.sets y.x (inW2 _ (inS y (by simp)))).pre (hp5.trans p7)) ((h.sets x (inW2 x (List.mem_of_getElem? hx))).pre (hp5.trans p7))
        rw [lO] at e9
        dsimp only [Stretch.cells] at e9
        have cO2 : ∀ mm, (H7[idO]?).bind (rowLoad (some false) mm (R.length * 3 + 1 + 1)) = some (.int .i64 y.t) := fun mm => cO0 mm 2 (by decide)
        simp -dsimp only [go_sem, ↓reduceIte, Nat.reduceEqDiff, Nat.reduceAdd, Nat.reduceMul, Nat.reduceSub, Nat.reduceLeDiff, Nat.reduceLT, h3, h4, h7, h8, lO, hw, hge, hir, hiq, hxw, cO0, cO2, rF, rT, hyx]
        have push : ¬ (y.x.id = x.id ∧ y.t = f) → pushS (R ++ [y]) x f t = R ++ [y] ++ [⟨x, f, t⟩] := fun q => by
          unfold pushS
          rw [List.getLast?_concat]
          simp only
          rw [if_neg q]
        by_cases hid : y.x.id = x.id
        · by_cases hto : y.t = f
          · simp -dsimp only [go_sem, ↓reduceIte, Nat.reduceEqDiff, Nat.reduceAdd, Nat.reduceMul, Nat.reduceSub, Nat.reduceLeDiff, Nat.reduceLT, h3, h4, h7, h8, lO, hw, hge, hir, hiq, hxw, cO0, cO2, rF, rT, hyx, hid, hto, decide_true]
            obtain ⟨o8, e8, o10⟩ := storeCell (y := ⟨y.x, y.f, t⟩) (w := .int .i64 t) (j := 2) oS7 (fun _ => rfl) hy (show 2 < 3 by decide) rfl
            have e8' : (H7[idO]?).bind (rowStore (R.length * 3 + 1 + 1) [.int .i64 t]) = some o8 := e8
            simp -dsimp only [go_sem, ↓reduceIte, Nat.reduceEqDiff, Nat.reduceAdd, Nat.reduceMul, Nat.reduceSub, Nat.reduceLeDiff, Nat.reduceLT, h3, h4, h7, h8, lO, hw, hge, hir, hiq, hxw, cO0, cO2, rF, rT, hyx, show (f == f) = true by simp, e8', wrS (show j + 1 < 4611686018427387904 by omega)]
            refine ⟨_, ?_, j + 1 + 1, _, rfl, by omega, rfl, rfl, pre_set p7 hbO o8, ?_⟩
            · omega
            · rw [show j + 1 + 1 = j + 2 from rfl, step, stepS, hfind]
              simp only
              unfold pushS
              rw [List.getLast?_concat]
              simp only
              rw [if_pos ⟨hid, hto⟩, List.dropLast_concat]
              have e10 : (R ++ [y]).set R.length ⟨y.x, y.f, t⟩ = R ++ [⟨y.x, y.f, t⟩] := by simp
              rw [e10, lO] at o10
              exact o10
          · have hto' : (y.t == f) = false := by simpa using hto
            simp -dsimp only [go_sem, ↓reduceIte, Nat.reduceEqDiff, Nat.reduceAdd, Nat.reduceMul, Nat.reduceSub, Nat.reduceLeDiff, Nat.reduceLT, h3, h4, h7, h8, lO, hw, hge, hir, hiq, hxw, cO0, cO2, rF, rT, hyx, hid, hto', decide_true]
            refine adrawnP_of2 [(0, false), (1, false), (2, false), (3, false), (4, false), (5, false), (6, false), (7, false), (8, false), (9, false), (10, false), (11, false)] (by kernel_rfl) ?_
            simp -dsimp only [go_sem, ↓reduceIte, Nat.reduceEqDiff, Nat.reduceAdd, Nat.reduceMul, Nat.reduceSub, Nat.reduceLeDiff, Nat.reduceLT, h3, h4, h7, h8, lO, hw, hge, hir, hiq, hxw, cO0, cO2, rF, rT, hyx, e9, wrS (show j + 1 < 4611686018427387904 by omega)]
            refine ⟨_, ?_, j + 1 + 1, v9, rfl, by omega, rfl, rfl, p9, ?_⟩
            · omega
            · rw [show j + 1 + 1 = j + 2 from rfl, step, stepS, hfind]
              simp only
              rw [push fun q => hto q.2]
              exact o9
        · simp -dsimp only [go_sem, ↓reduceIte, Nat.reduceEqDiff, Nat.reduceAdd, Nat.reduceMul, Nat.reduceSub, Nat.reduceLeDiff, Nat.reduceLT, h3, h4, h7, h8, lO, hw, hge, hir, hiq, hxw, cO0, cO2, rF, rT, hyx, hid, decide_false]
          refine adrawnP_of2 [(0, false), (1, false), (2, false), (3, false), (4, false), (5, false), (6, false), (7, false), (8, false), (9, false), (10, false), (11, false)] (by kernel_rfl) ?_
          simp -dsimp only [go_sem, ↓reduceIte, Nat.reduceEqDiff, Nat.reduceAdd, Nat.reduceMul, Nat.reduceSub, Nat.reduceLeDiff, Nat.reduceLT, h3, h4, h7, h8, lO, hw, hge, hir, hiq, hxw, cO0, cO2, rF, rT, hyx, e9, wrS (show j + 1 < 4611686018427387904 by omega)]
          refine ⟨_, ?_, j + 1 + 1, v9, rfl, by omega, rfl, rfl, p9, ?_⟩
          · omega
          · rw [show j + 1 + 1 = j + 2 from rfl, step, stepS, hfind]
            simp only
            rw [push fun q => hid q.1]
            exact o9
  · intro L1 k v L2 o hL hr2 he
    obtain ⟨A, x, B, rfl, rfl, rfl, rfl, rfl⟩ := mapSplit hL
    have hxM : x ∈ M := hperm.mem_iff.1 (by simp)
    have hp2 : H <+: H2.set H.length o := pre_set hp (Nat.le_refl _) o
    have hxS := (h.sets x hxM).pre hp2
    simp -dsimp only [go_sem, ↓reduceIte, Nat.reduceEqDiff, Nat.reduceAdd, Nat.reduceMul, Nat.reduceSub, Nat.reduceLeDiff, Nat.reduceLT, h3, h4, h17, he.get]
    refine SoundP_of (tlComplete x b _ hxS (h.good x hxM) (h.len x hxM)) ?_
    rintro _ _ ⟨rfl, rfl⟩
    have hperm2 : ((D ++ [x]) ++ (A ++ B)).Perm M := by
      refine List.Perm.trans ?_ hperm
      rw [List.append_assoc]
      exact List.Perm.append_left D (show (x :: (A ++ B)).Perm (A ++ x :: B) from List.perm_middle.symm)
    have hr3 : RangeAt (H2.set H.length o) H.length m Key.val ptrV (idsOf M) (idsOf (A ++ B)) := by rw [show idsOf (A ++ B) = idsOf A ++ idsOf B from List.map_append]; exact hr2
    have k3 : ∀ j, owner v3 = some j → (H2.set H.length o)[j]? = H2[j]? := fun j hj => List.getElem?_set_ne (by have := (o3.owner_ge hj).1; omega)
    have k4 : ∀ j, owner v4 = some j → (H2.set H.length o)[j]? = H2[j]? := fun j hj => List.getElem?_set_ne (by have := (o4.owner_ge hj).1; omega)
    have q3 := o3.keep k3
    have q4 := o4.keep k4
    simp -dsimp only [go_sem, ↓reduceIte, Nat.reduceEqDiff, Nat.reduceAdd, Nat.reduceMul, Nat.reduceSub, Nat.reduceLeDiff, Nat.reduceLT, h3, h4, h17]
    refine acondP_of (fun hw => ?_) (fun hw => ?_)
    · have ef : (D ++ [x]).filter (fun x => whole x.l) = (D.filter fun x => whole x.l) ++ [x] := by rw [List.filter_append]; simp [hw]
      have lD : (D.filter fun x => whole x.l).length < 400 := by
        have h1 := List.length_filter_le (fun x => whole x.l) D
        have h2 := hperm.length_eq
        rw [List.length_append] at h2
        omega
      generalize hH3 : H2.set H.length o = H3 at *
      have l3 : H.length + 1 ≤ H3.length := by rw [← hH3, List.length_set]; obtain ⟨es, ck, seen, -, -, hit, -⟩ := hr; exact get_lt hit
      obtain ⟨v5, H5, e5, o5, le5, fr5, ow5⟩ := Own.app1b (enc := encP) un84 el84 inf60 rfl (by decide) (by decide) (fun _ => rfl) (fun _ => rfl) l3 q3 x (by omega)
      simp -dsimp only [go_sem, ↓reduceIte, Nat.reduceEqDiff, Nat.reduceAdd, Nat.reduceMul, Nat.reduceSub, Nat.reduceLeDiff, Nat.reduceLT, h3, h4, h17, e5]
      have own_ge : ∀ {u : Value} {K : AHeap} {β : Type} {e : β → List Value} {q : Nat} {L : List β}, Own (H.length + 1) K e q u L → ∀ j, owner u = some j → H.length + 1 ≤ j := fun hh j hj => (hh.owner_ge hj).1
      have p5 : H <+: H5 := by
        refine List.prefix_iff_getElem?.2 fun j hj => ?_
        rw [fr5 j (by omega) (fun q => by have := own_ge q3 j q; omega)]
        exact pre_get hp2 (by simp [hj])
      have hxS5 := (h.sets x hxM).pre p5
      have q4' : OwnI (H.length + 1) H5 v4 (ends (D.filter fun x => whole x.l)) := q4.keep fun j hj => fr5 j (q4.owner_ge hj).2 fun q => hdis j q hj
      have lE : (ends (D.filter fun x => whole x.l)).length < 1000 := by
        have : ∀ W : List SetS, (ends W).length = 2 * W.length := fun W => by induction W with
          | nil => rfl
          | cons y W ih => simp only [ends, List.flatMap_cons, List.length_append, List.length_cons, List.length_nil] at *; omega
        rw [this]; omega
      obtain ⟨v6, H6, e6, o6, le6, fr6, ow6⟩ := app2b (by omega) q4' x.k.f x.k.t (by omega)
      refine adrawnP_of2 [(0, false), (1, false), (2, false), (3, false), (4, false), (5, false), (6, false), (7, false), (8, false), (9, false), (10, false), (11, false), (12, false), (13, false), (14, false), (15, false)] (by kernel_rfl) ?_
      simp -dsimp only [go_sem, ↓reduceIte, Nat.reduceEqDiff, Nat.reduceAdd, Nat.reduceMul, Nat.reduceSub, Nat.reduceLeDiff, Nat.reduceLT, h3, h4, h17, hxS5.at_, e6]
      have st : ∀ j, j < H.length + 1 → H6[j]? = H3[j]? := fun j hj => by
        rw [fr6 j (by omega) (fun q => by have := own_ge q4' j q; omega), fr5 j (by omega) (fun q => by have := own_ge q3 j q; omega)]
      have p6 : H <+: H6 := by
        refine List.prefix_iff_getElem?.2 fun j hj => ?_
        rw [st j (by omega)]
        exact pre_get hp2 (by simp [hj])
      have dis : ∀ j, owner v5 = some j → owner v6 ≠ some j := fun j h5 h6 => by
        have b5 := (o5.owner_ge h5).2
        rcases ow6 j h6 with w | w
        · rcases ow5 j h5 with u | u
          · exact hdis j u w
          · have := (q4.owner_ge w).2; omega
        · omega
      have o5' : OwnX (H.length + 1) H6 v5 ((D.filter fun x => whole x.l) ++ [x]) := o5.keep fun j hj => fr6 j (o5.owner_ge hj).2 fun q => by
        rcases ow5 j hj with u | u
        · exact hdis j u q
        · have := (q4.owner_ge q).2; omega
      refine ⟨_, by simp, A ++ B, D ++ [x], v5, v6, dis, rfl, rfl, rfl, hr3.keep (st m (by have := h.dict.lt; omega)) (st _ (by omega)), p6, hperm2, by rw [ef]; exact o5', by rw [ef]; simpa [ends] using o6⟩
    · have ef : (D ++ [x]).filter (fun x => whole x.l) = D.filter fun x => whole x.l := by rw [List.filter_append]; simp [hw]
      simp -dsimp only [go_sem, ↓reduceIte, Nat.reduceEqDiff, Nat.reduceAdd, Nat.reduceMul, Nat.reduceSub, Nat.reduceLeDiff, Nat.reduceLT, h3, h4, h17]
      exact ⟨_, by simp, A ++ B, D ++ [x], v3, v4, hdis, rfl, rfl, rfl, hr3, hp2, hperm2, by rw [ef]; exact q3, by rw [ef]; exact q4⟩
end Go.Proofs.Ythbifkeadbmcnaa
