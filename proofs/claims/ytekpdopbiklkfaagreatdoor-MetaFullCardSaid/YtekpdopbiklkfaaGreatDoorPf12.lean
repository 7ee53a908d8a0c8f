/-
  Parts of the proof, joined: Done, AwAgain, Read4, Next, Next2.
-/
import Derived.Test.YtekpdopbiklkfaaGreatDoorPf11
section
set_option linter.unusedVariables false
set_option linter.unusedSimpArgs false
namespace Go.Proofs.YtekpdopbiklkfaaGreatDoor
open Go Go.AW
set_option linter.unusedSimpArgs false
set_option maxRecDepth 20000
theorem pre_of {H H' : AHeap} (h : ∀ j, j < H.length → H'[j]? = H[j]?) : H <+: H' :=
  List.prefix_iff_getElem?.2 fun i hi => by rw [h i hi]; exact List.getElem?_eq_getElem hi
theorem pre_set {H H' : AHeap} (h : H <+: H') {n : Nat} (hn : H.length ≤ n) (o : AObj) : H <+: H'.set n o :=
  pre_of fun j hj => by rw [List.getElem?_set_ne (by omega)]; obtain ⟨L, rfl⟩ := h; exact List.getElem?_append_left hj
theorem own_ne {α : Type} {b : Nat} {H : AHeap} {enc : α → List Value} {k : Nat} {v : Value} {l : List α} (h : Own b H enc k v l) {p k2 : Nat} {cs : List Value} {o : Bool} (hp : H[p]? = some (.row cs k2 o)) (hk : k ≠ k2) : ∀ id, owner v = some id → id ≠ p := by
  rintro id hid rfl
  obtain ⟨cs2, h2⟩ := own_rowK h hid
  rw [hp] at h2
  cases h2
  exact hk rfl
theorem own_one {α : Type} {b : Nat} {H : AHeap} {enc : α → List Value} {k : Nat} {v : Value} {l : List α} (h : Own b H enc k v l) : oneCell v = true := by
  rcases h with ⟨_, rfl | rfl⟩ | ⟨_, _, _, _, rfl, _, _⟩ <;> rfl
abbrev stV (e t l : Int) (vm vo : Value) : List Value := [.int .i64 e, .int .i64 t, .int .i64 l, vm, vo]
theorem copiedLaw (s : St) (am ao : Option Addr) (cm co : Nat) (H : AHeap) (h1 : SlA H Meta.cells 8 am s.metas) (h2 : SlA H encU 1 ao s.offs) (hl : s.metas.length ≤ 5000) (ho : s.offs.length ≤ 8) :
    Sound Tryz.prog 38 [.agg (stC s am ao cm co).toArray] H fun v H' => H <+: H' ∧ ∃ vm vo, v = .agg (stV s.epoch s.term s.leader vm vo).toArray ∧ Own H.length H' Meta.cells 8 vm s.metas ∧ Own H.length H' encU 1 vo s.offs := by
  refine Sound.of_body (rs := [.cell 2 41]) mixed Tryz.func38 rfl (by kernel_rfl) rfl (by kernel_rfl) ?_
  have p0 : H <+: H ++ [AObj.row (stC s am ao cm co) 5 true, AObj.row (stV 0 0 0 (.slice none 0 0) (.slice none 0 0)) 5 true] := List.prefix_append _ _
  have b0 := get_end H (AObj.row (stC s am ao cm co) 5 true) [AObj.row (stV 0 0 0 (.slice none 0 0) (.slice none 0 0)) 5 true]
  have c0 := get_end1 H (AObj.row (stC s am ao cm co) 5 true) (AObj.row (stV 0 0 0 (.slice none 0 0) (.slice none 0 0)) 5 true) []
  simp -dsimp only [go_sem, ↓reduceIte, Nat.reduceEqDiff, Nat.reduceAdd, Nat.reduceMul, Nat.reduceSub, Nat.reduceLeDiff, Nat.reduceLT]
  refine SoundP_of (cloneM s.metas am cm _ (h1.pre p0) (by omega)) ?_
  rintro v1 H1 ⟨p1, o1⟩
  have lH : (H ++ [AObj.row (stC s am ao cm co) 5 true, AObj.row (stV 0 0 0 (.slice none 0 0) (.slice none 0 0)) 5 true]).length = H.length + 2 := by simp
  have b1 := pre_get p1 b0
  have c1 := pre_get p1 c0
  have q1 := pre_len p1
  have r1 := p0.trans p1
  rw [lH] at q1 o1
  obtain ⟨a1, k1, rfl, -⟩ := o1.sl (fun _ => rfl)
  simp -dsimp only [go_sem, ↓reduceIte, Nat.reduceEqDiff, Nat.reduceAdd, Nat.reduceMul, Nat.reduceSub, Nat.reduceLeDiff, Nat.reduceLT, b1]
  have e1 := List.getElem?_set_self (a := AObj.row (stV s.epoch s.term s.leader (.slice a1 s.metas.length k1) (.slice ao s.offs.length co)) 5 true) (get_lt b1)
  have r2 := pre_set r1 (Nat.le_refl _) (AObj.row (stV s.epoch s.term s.leader (.slice a1 s.metas.length k1) (.slice ao s.offs.length co)) 5 true)
  have k2 : ∀ j, j ≠ H.length → (H1.set H.length (.row (stV s.epoch s.term s.leader (.slice a1 s.metas.length k1) (.slice ao s.offs.length co)) 5 true))[j]? = H1[j]? := fun j hj => List.getElem?_set_ne (Ne.symm hj)
  have l2 : (H1.set H.length (.row (stV s.epoch s.term s.leader (.slice a1 s.metas.length k1) (.slice ao s.offs.length co)) 5 true)).length = H1.length := List.length_set
  generalize H1.set H.length (.row (stV s.epoch s.term s.leader (.slice a1 s.metas.length k1) (.slice ao s.offs.length co)) 5 true) = H2 at *
  have o2 := o1.keep (H' := H2) fun id hid => k2 id (own_ne o1 b1 (by decide) id hid)
  have c2 := (k2 (H.length + 1) (by omega)).trans c1
  simp -dsimp only [go_sem, ↓reduceIte, Nat.reduceEqDiff, Nat.reduceAdd, Nat.reduceMul, Nat.reduceSub, Nat.reduceLeDiff, Nat.reduceLT, e1]
  refine SoundP_of (cloneU s.offs ao co H2 (h2.pre r2) (by omega)) ?_
  rintro v3 H3 ⟨p3, o3⟩
  have e3 := pre_get p3 e1
  have c3 := pre_get p3 c2
  have o3' := o2.pre p3
  have r3 := r2.trans p3
  obtain ⟨a3, k3, rfl, -⟩ := o3.sl (fun _ => rfl)
  simp -dsimp only [go_sem, ↓reduceIte, Nat.reduceEqDiff, Nat.reduceAdd, Nat.reduceMul, Nat.reduceSub, Nat.reduceLeDiff, Nat.reduceLT, e3]
  have e4 := List.getElem?_set_self (a := AObj.row (stV s.epoch s.term s.leader (.slice a1 s.metas.length k1) (.slice a3 s.offs.length k3)) 5 true) (get_lt e3)
  have r4 := pre_set r3 (Nat.le_refl _) (AObj.row (stV s.epoch s.term s.leader (.slice a1 s.metas.length k1) (.slice a3 s.offs.length k3)) 5 true)
  have k4 : ∀ j, j ≠ H.length → (H3.set H.length (.row (stV s.epoch s.term s.leader (.slice a1 s.metas.length k1) (.slice a3 s.offs.length k3)) 5 true))[j]? = H3[j]? := fun j hj => List.getElem?_set_ne (Ne.symm hj)
  have l4 : (H3.set H.length (.row (stV s.epoch s.term s.leader (.slice a1 s.metas.length k1) (.slice a3 s.offs.length k3)) 5 true)).length = H3.length := List.length_set
  generalize H3.set H.length (.row (stV s.epoch s.term s.leader (.slice a1 s.metas.length k1) (.slice a3 s.offs.length k3)) 5 true) = H4 at *
  have o4 := o3'.keep (H' := H4) fun id hid => k4 id (own_ne o3' e3 (by decide) id hid)
  have o5 := o3.keep (H' := H4) fun id hid => k4 id (own_ne o3 e3 (by decide) id hid)
  have c4 := (k4 (H.length + 1) (by omega)).trans c3
  have e5 := List.getElem?_set_self (a := AObj.row (stV s.epoch s.term s.leader (.slice a1 s.metas.length k1) (.slice a3 s.offs.length k3)) 5 true) (get_lt c4)
  simp -dsimp only [go_sem, ↓reduceIte, Nat.reduceEqDiff, Nat.reduceAdd, Nat.reduceMul, Nat.reduceSub, Nat.reduceLeDiff, Nat.reduceLT, e4, c4, e5]
  have r5 := pre_set r4 (Nat.le_succ _) (AObj.row (stV s.epoch s.term s.leader (.slice a1 s.metas.length k1) (.slice a3 s.offs.length k3)) 5 true)
  refine ⟨r5, _, _, rfl, (o4.keep fun id hid => List.getElem?_set_ne (Ne.symm (own_ne o4 c4 (by decide) id hid))).mono (by omega), (o5.keep fun id hid => List.getElem?_set_ne (Ne.symm (own_ne o5 c4 (by decide) id hid))).mono (pre_len r2)⟩
theorem own_apart {α β : Type} {b b2 : Nat} {H : AHeap} {enc : α → List Value} {enc2 : β → List Value} {k k2 : Nat} {v w : Value} {l : List α} {m : List β} (h : Own b H enc k v l) (h2 : Own b2 H enc2 k2 w m) (hk : k ≠ k2) : ∀ id, owner v = some id → owner w ≠ some id := by
  intro id hid hw
  obtain ⟨c1, e1⟩ := own_rowK h hid
  obtain ⟨c2, e2⟩ := own_rowK h2 hw
  rw [e1] at e2
  cases e2
  exact hk rfl
theorem insertE (x : Meta) (b vb : Nat) (v : Value) (H : AHeap) (hown : OwnM b H v []) (hvb : H[vb]? = some (.row x.cells 8 true)) (hb : b ≤ H.length) :
    Sound Tryz.prog 79 [v, .int .i64 0, .slice (some ⟨vb, 0, none⟩) 1 1] H fun v' H' =>
      OwnM b H' v' [x] ∧ H.length ≤ H'.length ∧ (∀ j, j < H.length → owner v ≠ some j → H'[j]? = H[j]?) ∧ (∀ j, owner v' = some j → owner v = some j ∨ H.length ≤ j) := by
  refine Sound.of_body (rs := [.tmp 6]) mixed Tryz.func79 rfl (by kernel_rfl) rfl (by kernel_rfl) ?_
  have q0 : (((1 : Nat) : Int) == 0) = false := rfl
  have q1 : ((0 : Int) == ((0 : Nat) : Int)) = true := rfl
  have a0 : ∀ n, abound (.int .i64 0) n = some 0 := fun n => by simp [abound]
  have sx : SlA H Meta.cells 8 (some ⟨vb, 0, none⟩) [x] := SlA.ofRow hvb (by simp) fun _ => rfl
  obtain ⟨v2, H2, e, ho, hp, hlen, hk, hm⟩ := Own.appSl (H0 := H.take b) (c := 1) un28 el28 inf51 rfl (by decide) (by decide) (fun _ => rfl) (fun _ => rfl) (List.take_prefix _ _) (by rw [List.length_take, Nat.min_eq_left hb]; exact hown) sx (by simp) (by simp)
  rw [List.length_take, Nat.min_eq_left hb] at ho
  rw [List.length_singleton] at e
  have fin : OwnM b H2 v2 [x] ∧ H.length ≤ H2.length ∧ (∀ j, j < H.length → owner v ≠ some j → H2[j]? = H[j]?) ∧ (∀ j, owner v2 = some j → owner v = some j ∨ H.length ≤ j) := ⟨ho, hlen, fun j hj hne2 => hk j hj hne2, fun j hj => hm j hj⟩
  rcases hown with ⟨-, rfl | rfl⟩ | ⟨id, rest, c, h1, rfl, h3, h4⟩
  · have c1 : AW.cut H 8 none 0 0 0 = some (.slice none 0 0) := rfl
    simp -dsimp only [go_sem, ↓reduceIte, Nat.reduceEqDiff, Nat.reduceAdd, Nat.reduceMul, Nat.reduceSub, Nat.reduceLeDiff, Nat.reduceLT, q0, q1, e, a0, c1, capOf_0, Nat.le_refl]
    exact fin
  · have c1 : AW.cut H 8 (some ⟨0, 0, some 0⟩) 0 0 0 = some (.slice (some ⟨0, 0, some 0⟩) 0 0) := rfl
    unfold AW.emp at *
    simp -dsimp only [go_sem, ↓reduceIte, Nat.reduceEqDiff, Nat.reduceAdd, Nat.reduceMul, Nat.reduceSub, Nat.reduceLeDiff, Nat.reduceLT, q0, q1, e, a0, c1]
    exact fin
  · rw [List.length_nil] at e
    rcases Nat.eq_zero_or_pos c with rfl | hc
    · simp -dsimp only [go_sem, ↓reduceIte, Nat.reduceEqDiff, Nat.reduceAdd, Nat.reduceMul, Nat.reduceSub, Nat.reduceLeDiff, Nat.reduceLT, q0, q1, e, a0, cut_0 h3]
      exact fin
    · simp -dsimp only [go_sem, ↓reduceIte, Nat.reduceEqDiff, Nat.reduceAdd, Nat.reduceMul, Nat.reduceSub, Nat.reduceLeDiff, Nat.reduceLT, q0, q1, e, a0, cut_c H id 8 hc 0]
      exact fin
theorem insertM' (l : List Meta) (x : Meta) (i : Nat) (hi : i ≤ l.length) (b vb : Nat) (v : Value) (H : AHeap) (hown : OwnM b H v l) (hvb : H[vb]? = some (.row x.cells 8 true)) (hne : owner v ≠ some vb) (hb : b ≤ H.length) (hl : l.length < 100000) :
    Sound Tryz.prog 79 [v, .int .i64 i, .slice (some ⟨vb, 0, none⟩) 1 1] H fun v' H' =>
      OwnM b H' v' (l.take i ++ x :: l.drop i) ∧ H.length ≤ H'.length ∧ (∀ j, j < H.length → owner v ≠ some j → H'[j]? = H[j]?) ∧ (∀ j, owner v' = some j → owner v = some j ∨ H.length ≤ j) := by
  cases l with
  | nil =>
    obtain rfl : i = 0 := by simpa using hi
    exact insertE x b vb v H hown hvb hb
  | cons y l => exact insertM (y :: l) x i hi b vb v H hown hvb hne hb (by simp) hl
structure Making (H H' : AHeap) (s : St) (tx : List Value) : Prop where
  pre : H <+: H'
  len : H.length + 3 ≤ H'.length
  st : ∃ vm vo, H'[H.length]? = some (.row (stV s.epoch s.term s.leader vm vo) 5 true) ∧ Own (H.length + 3) H' Meta.cells 8 vm s.metas ∧ Own (H.length + 3) H' encU 1 vo s.offs
  tx : H'[H.length + 1]? = some (.row tx 7 true)
  res : H'[H.length + 2]? = some (.row (stV 0 0 0 (.slice none 0 0) (.slice none 0 0)) 5 true)
theorem Making.grow {H H1 H2 : AHeap} {s : St} {tx : List Value} (h : Making H H1 s tx) (hp : H1 <+: H2) : Making H H2 s tx := by
  obtain ⟨vm, vo, h1, h2, h3⟩ := h.st
  exact ⟨h.pre.trans hp, Nat.le_trans h.len (pre_len hp), ⟨vm, vo, pre_get hp h1, h2.pre hp, h3.pre hp⟩, pre_get hp h.tx, pre_get hp h.res⟩
theorem Making.put {H H1 H2 : AHeap} {s s' : St} {tx : List Value} (h : Making H H1 s tx) (hl : H1.length ≤ H2.length) (hf : ∀ j, j < H.length + 3 → H2[j]? = H1[j]?) {vm vo : Value} (hm : Own (H.length + 3) H2 Meta.cells 8 vm s'.metas) (ho : Own (H.length + 3) H2 encU 1 vo s'.offs) :
    Making H (H2.set H.length (.row (stV s'.epoch s'.term s'.leader vm vo) 5 true)) s' tx := by
  have hlen := h.len
  have kp : ∀ j, j ≠ H.length → (H2.set H.length (.row (stV s'.epoch s'.term s'.leader vm vo) 5 true))[j]? = H2[j]? := fun j hj => List.getElem?_set_ne (Ne.symm hj)
  have old : ∀ j, j < H.length → H1[j]? = H[j]? := fun j hj => by obtain ⟨L, hL⟩ := h.pre; rw [← hL]; exact List.getElem?_append_left hj
  refine ⟨pre_of fun j hj => ?_, by rw [List.length_set]; omega, ⟨vm, vo, List.getElem?_set_self (by omega), hm.keep fun id hid => kp id ?_, ho.keep fun id hid => kp id ?_⟩, ?_, ?_⟩
  · rw [kp j (by omega), hf j (by omega), old j hj]
  · have := (hm.owner_ge hid).1; omega
  · have := (ho.owner_ge hid).1; omega
  · rw [kp _ (by omega), hf _ (by omega)]; exact h.tx
  · rw [kp _ (by omega), hf _ (by omega)]; exact h.res
set_option maxHeartbeats 1000000 in
theorem doneLaw (s : St) (t : Txn) (am ao aa ad av : Option Addr) (cm co ca cd cv : Nat) (H : AHeap) (h1 : SlA H Meta.cells 8 am s.metas) (h2 : SlA H encU 1 ao s.offs) (h3 : SlA H Meta.cells 8 aa t.add) (h4 : SlA H Seg.cells 5 ad t.drop) (h5 : SlA H Move.cells 3 av t.moves)
    (hr : Ranked s.metas) (hf : Fresh (t.drop.foldl dropL s.metas) t.add) (hm : ∀ m ∈ t.moves, 0 ≤ m.stream ∧ m.stream < s.offs.length) (hl : s.metas.length ≤ 3000) (ho : s.offs.length ≤ 8) (hlA : t.add.length ≤ 3000) (hlD : t.drop.length ≤ 3000) (hlM : t.moves.length ≤ 8) (hE : -1 ≤ s.epoch ∧ s.epoch < 4611686018427387904) :
    Sound Tryz.prog 44 [.agg (stC s am ao cm co).toArray, .agg (txC t aa ad av ca cd cv).toArray] H fun v H' => H <+: H' ∧ ∃ vm vo, v = .agg (stV (s.epoch + 1) s.term s.leader vm vo).toArray ∧ Own H.length H' Meta.cells 8 vm (doneS s t).metas ∧ Own H.length H' encU 1 vo (doneS s t).offs := by
  refine Sound.of_body (rs := [.cell 4 41]) mixed Tryz.func44 rfl (by kernel_rfl) rfl (by kernel_rfl) ?_
  have p0 : H <+: H ++ [AObj.row (stC s am ao cm co) 5 true, AObj.row (txC t aa ad av ca cd cv) 7 true, AObj.row (stV 0 0 0 (.slice none 0 0) (.slice none 0 0)) 5 true] := List.prefix_append _ _
  have b0 := get_end H (AObj.row (stC s am ao cm co) 5 true) [AObj.row (txC t aa ad av ca cd cv) 7 true, AObj.row (stV 0 0 0 (.slice none 0 0) (.slice none 0 0)) 5 true]
  have c0 := get_end1 H (AObj.row (stC s am ao cm co) 5 true) (AObj.row (txC t aa ad av ca cd cv) 7 true) [AObj.row (stV 0 0 0 (.slice none 0 0) (.slice none 0 0)) 5 true]
  have d0 := get_end2 H (AObj.row (stC s am ao cm co) 5 true) (AObj.row (txC t aa ad av ca cd cv) 7 true) (AObj.row (stV 0 0 0 (.slice none 0 0) (.slice none 0 0)) 5 true) []
  simp -dsimp only [go_sem, ↓reduceIte, Nat.reduceEqDiff, Nat.reduceAdd, Nat.reduceMul, Nat.reduceSub, Nat.reduceLeDiff, Nat.reduceLT]
  refine SoundP_of (copiedLaw s am ao cm co _ (h1.pre p0) (h2.pre p0) (by omega) ho) ?_
  rintro _ H1 ⟨p1, vm, vo, rfl, om, oo⟩
  have lH : (H ++ [AObj.row (stC s am ao cm co) 5 true, AObj.row (txC t aa ad av ca cd cv) 7 true, AObj.row (stV 0 0 0 (.slice none 0 0) (.slice none 0 0)) 5 true]).length = H.length + 3 := by simp
  rw [lH] at om oo
  have b1 := pre_get p1 b0
  have hl1 := pre_len p1
  rw [lH] at hl1
  have kp : ∀ j, j ≠ H.length → (H1.set H.length (.row (stV s.epoch s.term s.leader vm vo) 5 true))[j]? = H1[j]? := fun j hj => List.getElem?_set_ne (Ne.symm hj)
  have D0 : Making H (H1.set H.length (.row (stV s.epoch s.term s.leader vm vo) 5 true)) s (txC t aa ad av ca cd cv) :=
    ⟨pre_set (p0.trans p1) (Nat.le_refl _) _, by rw [List.length_set]; omega, ⟨vm, vo, List.getElem?_set_self (by omega), om.keep fun id hid => kp id (by have := (om.owner_ge hid).1; omega), oo.keep fun id hid => kp id (by have := (oo.owner_ge hid).1; omega)⟩,
      (kp _ (by omega)).trans (pre_get p1 c0), (kp _ (by omega)).trans (pre_get p1 d0)⟩
  clear kp
  simp -dsimp only [go_sem, ↓reduceIte, Nat.reduceEqDiff, Nat.reduceAdd, Nat.reduceMul, Nat.reduceSub, Nat.reduceLeDiff, Nat.reduceLT, b1, own_one om, own_one oo]
  generalize H1.set H.length (.row (stV s.epoch s.term s.leader vm vo) 5 true) = H2 at *
  have x0 := D0.tx
  simp -dsimp only [go_sem, ↓reduceIte, Nat.reduceEqDiff, Nat.reduceAdd, Nat.reduceMul, Nat.reduceSub, Nat.reduceLeDiff, Nat.reduceLT, x0]
  refine aloop_join (fun T H' => Making H H' { s with metas := t.drop.foldl dropL s.metas } (txC t aa ad av ca cd cv) ∧ T 2 = ptrV H.length ∧ T 3 = ptrV (H.length + 1) ∧ T 4 = ptrV (H.length + 2))
    (fun n T H' => ∃ i, n = t.drop.length - i ∧ i ≤ t.drop.length ∧ Making H H' { s with metas := (t.drop.take i).foldl dropL s.metas } (txC t aa ad av ca cd cv) ∧ T 2 = ptrV H.length ∧ T 3 = ptrV (H.length + 1) ∧ T 4 = ptrV (H.length + 2) ∧ T 18 = .slice ad t.drop.length cd ∧ T 19 = .int .i64 t.drop.length ∧ T 20 = .int .i64 (i : Nat)) (n := t.drop.length) ?_ ?_ ?_
  · refine ⟨0, ?_⟩
    simp -dsimp only [go_sem, ↓reduceIte, Nat.reduceEqDiff, Nat.reduceAdd, Nat.reduceMul, Nat.reduceSub, Nat.reduceLeDiff, Nat.reduceLT]
    exact ⟨rfl, Nat.zero_le _, D0, rfl⟩
  · rintro n T H' ⟨i, rfl, hi, hD, t2, t3, t4, t18, t19, t20⟩
    obtain ⟨vm', vo', g1, g2, g3⟩ := hD.st
    simp -dsimp only [go_sem, ↓reduceIte, Nat.reduceEqDiff, Nat.reduceAdd, Nat.reduceMul, Nat.reduceSub, Nat.reduceLeDiff, Nat.reduceLT, t2, t3, t4, t18, t19, t20]
    refine acondP_of (fun h => ?_) (fun h => ?_)
    · simp at h
      obtain ⟨x, hx⟩ := get_ex h
      obtain ⟨id, off, rfl, hat⟩ := (h4.pre hD.pre).at (by omega)
      have px := List.prefix_append H' [AObj.row x.cells 5 true]
      have g1x := pre_get px g1
      obtain ⟨a', c', rfl, sl'⟩ := g2.sl (fun _ => rfl)
      simp -dsimp only [go_sem, ↓reduceIte, Nat.reduceEqDiff, Nat.reduceAdd, Nat.reduceMul, Nat.reduceSub, Nat.reduceLeDiff, Nat.reduceLT, t2, t3, t4, t18, t19, t20, inRange h, rowLoad_whole (hat i x hx), g1x]
      have hrk := drops_ranked (t.drop.take i) s.metas hr
      have hln := drops_len (t.drop.take i) s.metas
      refine SoundP_of (findLaw _ x a' c' _ (sl'.pre px) (by omega) hrk) ?_
      rintro _ H3 ⟨k, rfl, hP, hp3⟩
      have q3 := px.trans hp3
      have hD3 := hD.grow q3
      have g1' := pre_get q3 g1
      have g2' := g2.pre q3
      have g3' := g3.pre q3
      have tk : (t.drop.take (i + 1)).foldl dropL s.metas = dropL ((t.drop.take i).foldl dropL s.metas) x := by rw [List.take_add_one, hx]; simp
      generalize hL : (t.drop.take i).foldl dropL s.metas = L at *
      cases hb : hasB L x with
      | false =>
        simp -dsimp only [go_sem, ↓reduceIte, Nat.reduceEqDiff, Nat.reduceAdd, Nat.reduceMul, Nat.reduceSub, Nat.reduceLeDiff, Nat.reduceLT, t2, t3, t4, t18, t19, t20, hb, wrS (show i < 4611686018427387904 by omega)]
        exact ⟨_, by omega, i + 1, rfl, h, by rw [tk, dropL_none hb]; exact hD3, rfl⟩
      | true =>
        obtain ⟨hk, hdl⟩ := dropL_at hrk hP hb
        simp -dsimp only [go_sem, ↓reduceIte, Nat.reduceEqDiff, Nat.reduceAdd, Nat.reduceMul, Nat.reduceSub, Nat.reduceLeDiff, Nat.reduceLT, t2, t3, t4, t18, t19, t20, hb, g1', wrS (show k < 4611686018427387904 by omega)]
        refine SoundP_of (deleteM L k hk _ _ H3 g2' (by omega)) ?_
        rintro v4 H4 ⟨o4, l4, f4, w4⟩
        rw [← hdl] at o4
        have n4 := own_ne g2' g1' (by decide)
        have g14 := (f4 H.length (fun q => n4 _ q rfl)).trans g1'
        have g34 := g3'.keep (H' := H4) fun id hid => f4 id (own_apart g3' g2' (by decide) id hid)
        obtain ⟨a4, c4, rfl, -⟩ := o4.sl (fun _ => rfl)
        simp -dsimp only [go_sem, ↓reduceIte, Nat.reduceEqDiff, Nat.reduceAdd, Nat.reduceMul, Nat.reduceSub, Nat.reduceLeDiff, Nat.reduceLT, t2, t3, t4, t18, t19, t20, g14, wrS (show i < 4611686018427387904 by omega)]
        refine ⟨_, by omega, i + 1, rfl, h, ?_, rfl⟩
        rw [tk]
        exact Making.put (s := { s with metas := L }) (s' := { s with metas := dropL L x }) hD3 (Nat.le_of_eq l4) (fun j hj => f4 j fun q => by have := (g2'.owner_ge q).1; omega) o4 g34
    · simp at h
      have hil : t.drop.take i = t.drop := List.take_of_length_le h
      rw [hil] at hD
      simp -dsimp only [go_sem, ↓reduceIte, Nat.reduceEqDiff, Nat.reduceAdd, Nat.reduceMul, Nat.reduceSub, Nat.reduceLeDiff, Nat.reduceLT, t2, t3, t4, t18, t19, t20]
      exact hD
  · rintro T H2' ⟨hD2, t2, t3, t4⟩
    have x2 := hD2.tx
    simp -dsimp only [go_sem, ↓reduceIte, Nat.reduceEqDiff, Nat.reduceAdd, Nat.reduceMul, Nat.reduceSub, Nat.reduceLeDiff, Nat.reduceLT, t2, t3, t4, x2]
    have hft : ∀ {i}, Fresh (t.drop.foldl dropL s.metas) (t.add.take i) := fun {i} => ⟨fun m hm => hf.out m (List.mem_of_mem_take hm), by have := hf.once; rw [Once] at *; exact (List.take_sublist i t.add).map _ |> this.sublist⟩
    refine aloop_join (fun T H' => Making H H' { s with metas := (doneS s t).metas } (txC t aa ad av ca cd cv) ∧ T 2 = ptrV H.length ∧ T 3 = ptrV (H.length + 1) ∧ T 4 = ptrV (H.length + 2))
      (fun n T H' => ∃ i, n = t.add.length - i ∧ i ≤ t.add.length ∧ Making H H' { s with metas := (t.add.take i).foldl putL (t.drop.foldl dropL s.metas) } (txC t aa ad av ca cd cv) ∧ T 2 = ptrV H.length ∧ T 3 = ptrV (H.length + 1) ∧ T 4 = ptrV (H.length + 2) ∧ T 41 = .slice aa t.add.length ca ∧ T 42 = .int .i64 t.add.length ∧ T 43 = .int .i64 (i : Nat)) (n := t.add.length) ?_ ?_ ?_
    · refine ⟨0, ?_⟩
      simp -dsimp only [go_sem, ↓reduceIte, Nat.reduceEqDiff, Nat.reduceAdd, Nat.reduceMul, Nat.reduceSub, Nat.reduceLeDiff, Nat.reduceLT, t2, t3, t4]
      exact ⟨rfl, Nat.zero_le _, hD2, rfl⟩
    · rintro n T H' ⟨i, rfl, hi, hD, t2, t3, t4, t41, t42, t43⟩
      obtain ⟨vm', vo', g1, g2, g3⟩ := hD.st
      simp -dsimp only [go_sem, ↓reduceIte, Nat.reduceEqDiff, Nat.reduceAdd, Nat.reduceMul, Nat.reduceSub, Nat.reduceLeDiff, Nat.reduceLT, t2, t3, t4, t41, t42, t43]
      refine acondP_of (fun h => ?_) (fun h => ?_)
      · simp at h
        obtain ⟨x, hx⟩ := get_ex h
        obtain ⟨id, off, rfl, hat⟩ := (h3.pre hD.pre).at (by omega)
        have px := List.prefix_append H' [AObj.row x.cells 8 true]
        have g1x := pre_get px g1
        obtain ⟨a', c', rfl, sl'⟩ := g2.sl (fun _ => rfl)
        simp -dsimp only [go_sem, ↓reduceIte, Nat.reduceEqDiff, Nat.reduceAdd, Nat.reduceMul, Nat.reduceSub, Nat.reduceLeDiff, Nat.reduceLT, t2, t3, t4, t41, t42, t43, inRange h, rowLoad_whole (hat i x hx), g1x]
        have hrk := puts_ranked (t.add.take i) _ (drops_ranked t.drop s.metas hr) hft
        have hln := drops_len t.drop s.metas
        have hln2 := puts_len (t.add.take i) (t.drop.foldl dropL s.metas)
        have hlt : (t.add.take i).length ≤ 3000 := by rw [List.length_take]; omega
        refine SoundP_of (findLaw _ x.seg a' c' _ (sl'.pre px) (by omega) hrk) ?_
        rintro _ H3 ⟨k, rfl, hP, hp3⟩
        have q3 := px.trans hp3
        have hD3 := hD.grow q3
        have g1' := pre_get q3 g1
        have g2' := g2.pre q3
        have g3' := g3.pre q3
        have gx := pre_get hp3 (get_end H' (AObj.row x.cells 8 true) [])
        have tk : (t.add.take (i + 1)).foldl putL (t.drop.foldl dropL s.metas) = putL ((t.add.take i).foldl putL (t.drop.foldl dropL s.metas)) x := by rw [List.take_add_one, hx]; simp
        generalize hL : (t.add.take i).foldl putL (t.drop.foldl dropL s.metas) = L at *
        simp -dsimp only [go_sem, ↓reduceIte, Nat.reduceEqDiff, Nat.reduceAdd, Nat.reduceMul, Nat.reduceSub, Nat.reduceLeDiff, Nat.reduceLT, t2, t3, t4, t41, t42, t43, g1', gx]
        refine SoundP_of (insertM' L x k hP.le _ _ _ _ (g2'.pre (List.prefix_append _ _)) (get_end _ _ _) (fun q => by have := (g2'.owner_ge q).2; omega) (by have := hD3.len; simp only [List.length_append]; omega) (by omega)) ?_
        rintro v4 H4 ⟨o4, l4, f4, w4⟩
        rw [← putL_at hP] at o4
        simp only [List.length_append, List.length_cons, List.length_nil] at l4
        have f4' : ∀ j, j < H3.length → owner (.slice a' L.length c') ≠ some j → H4[j]? = H3[j]? := fun j hj hn => by
          rw [f4 j (by rw [List.length_append]; omega) hn, List.getElem?_append_left hj]
        have n4 := own_ne g2' g1' (by decide)
        have g14 := (f4' H.length (get_lt g1') (fun q => n4 _ q rfl)).trans g1'
        have g34 := g3'.keep (H' := H4) fun id hid => f4' id (g3'.owner_ge hid).2 (own_apart g3' g2' (by decide) id hid)
        have hD4 := Making.put (s := { s with metas := L }) (s' := { s with metas := putL L x }) hD3 (by omega) (fun j hj => f4' j (by have := hD3.len; omega) fun q => by have := (g2'.owner_ge q).1; omega) o4 g34
        obtain ⟨a4, c4, rfl, -⟩ := o4.sl (fun _ => rfl)
        simp -dsimp only [go_sem, ↓reduceIte, Nat.reduceEqDiff, Nat.reduceAdd, Nat.reduceMul, Nat.reduceSub, Nat.reduceLeDiff, Nat.reduceLT, t2, t3, t4, t41, t42, t43, g14, wrS (show i < 4611686018427387904 by omega)]
        exact ⟨_, by omega, i + 1, rfl, h, by rw [tk]; exact hD4, rfl⟩
      · simp at h
        have hil : t.add.take i = t.add := List.take_of_length_le h
        rw [hil] at hD
        simp -dsimp only [go_sem, ↓reduceIte, Nat.reduceEqDiff, Nat.reduceAdd, Nat.reduceMul, Nat.reduceSub, Nat.reduceLeDiff, Nat.reduceLT, t2, t3, t4, t41, t42, t43]
        exact hD
    · rintro T H3' ⟨hD3, t2, t3, t4⟩
      have x3 := hD3.tx
      simp -dsimp only [go_sem, ↓reduceIte, Nat.reduceEqDiff, Nat.reduceAdd, Nat.reduceMul, Nat.reduceSub, Nat.reduceLeDiff, Nat.reduceLT, t2, t3, t4, x3]
      refine aloop_join (fun T H' => Making H H' { s with metas := (doneS s t).metas, offs := (doneS s t).offs } (txC t aa ad av ca cd cv) ∧ T 2 = ptrV H.length ∧ T 4 = ptrV (H.length + 2))
        (fun n T H' => ∃ i, n = t.moves.length - i ∧ i ≤ t.moves.length ∧ Making H H' { s with metas := (doneS s t).metas, offs := (t.moves.take i).foldl moveL s.offs } (txC t aa ad av ca cd cv) ∧ T 2 = ptrV H.length ∧ T 4 = ptrV (H.length + 2) ∧ T 64 = .slice av t.moves.length cv ∧ T 65 = .int .i64 t.moves.length ∧ T 66 = .int .i64 (i : Nat)) (n := t.moves.length) ?_ ?_ ?_
      · refine ⟨0, ?_⟩
        simp -dsimp only [go_sem, ↓reduceIte, Nat.reduceEqDiff, Nat.reduceAdd, Nat.reduceMul, Nat.reduceSub, Nat.reduceLeDiff, Nat.reduceLT, t2, t3, t4]
        exact ⟨rfl, Nat.zero_le _, hD3, rfl⟩
      · rintro n T H' ⟨i, rfl, hi, hD, t2, t4, t64, t65, t66⟩
        obtain ⟨vm', vo', g1, g2, g3⟩ := hD.st
        simp -dsimp only [go_sem, ↓reduceIte, Nat.reduceEqDiff, Nat.reduceAdd, Nat.reduceMul, Nat.reduceSub, Nat.reduceLeDiff, Nat.reduceLT, t2, t4, t64, t65, t66]
        refine acondP_of (fun h => ?_) (fun h => ?_)
        · simp at h
          obtain ⟨x, hx⟩ := get_ex h
          obtain ⟨id, off, rfl, hat⟩ := (h5.pre hD.pre).at (by omega)
          have px := List.prefix_append H' [AObj.row x.cells 3 true]
          have g1x := pre_get px g1
          have hlen := moves_len (t.moves.take i) s.offs
          have hst := hm x (List.mem_of_getElem? hx)
          have tk : (t.moves.take (i + 1)).foldl moveL s.offs = moveL ((t.moves.take i).foldl moveL s.offs) x := by rw [List.take_add_one, hx]; simp
          generalize hL : (t.moves.take i).foldl moveL s.offs = L at *
          obtain ⟨q, hq⟩ := Int.eq_ofNat_of_zero_le hst.1
          have hqL : q < L.length := by omega
          obtain ⟨a', c', rfl, -⟩ := g3.sl (fun _ => rfl)
          obtain ⟨id2, rest, hb2, rfl, -, hrow, hc⟩ := own_open g3 (by show 0 < L.length; omega)
          obtain ⟨o, ho1, ho2⟩ := (g3.pre px).store (fun _ => rfl) q x.to_ hqL
          have hxe : x = ⟨(q : Int), x.from_, x.to_⟩ := by rw [← hq]
          have hat' := hat i x hx
          rw [hxe] at hat' px g1x ho1 ho2
          rw [Nat.zero_add] at ho1
          have g2x := g2.pre px
          have hDx := hD.grow px
          have hln : H.length < (H' ++ [AObj.row (Move.cells ⟨(q : Int), x.from_, x.to_⟩) 3 true]).length := by have := hDx.len; omega
          have hne : id2 ≠ H.length := by omega
          simp -dsimp only [go_sem, ↓reduceIte, Nat.reduceEqDiff, Nat.reduceAdd, Nat.reduceMul, Nat.reduceSub, Nat.reduceLeDiff, Nat.reduceLT, t2, t4, t64, t65, t66, inRange h, rowLoad_whole hat', g1x, inRange hqL, ho1, wrS (show i < 4611686018427387904 by omega)]
          refine ⟨_, by omega, i + 1, rfl, h, ?_, rfl⟩
          rw [tk]
          have fk : ∀ j, j ≠ id2 → ((H' ++ [AObj.row (Move.cells ⟨(q : Int), x.from_, x.to_⟩) 3 true]).set id2 o)[j]? = (H' ++ [AObj.row (Move.cells ⟨(q : Int), x.from_, x.to_⟩) 3 true])[j]? := fun j hj => List.getElem?_set_ne (Ne.symm hj)
          have hL2 : moveL L x = L.set q x.to_ := by rw [moveL, hq]; rfl
          rw [hL2]
          exact ⟨pre_set hDx.pre (by omega) o, by rw [List.length_set]; exact hDx.len, ⟨vm', .slice (some ⟨id2, 0, none⟩) L.length c', (fk _ (Ne.symm hne)).trans g1x, g2x.keep fun id hid => fk id fun e => by
              subst e
              exact own_apart g2x (g3.pre px) (by decide) _ hid rfl, ho2⟩, (fk _ (by omega)).trans hDx.tx, (fk _ (by omega)).trans hDx.res⟩
        · simp at h
          have hil : t.moves.take i = t.moves := List.take_of_length_le h
          rw [hil] at hD
          simp -dsimp only [go_sem, ↓reduceIte, Nat.reduceEqDiff, Nat.reduceAdd, Nat.reduceMul, Nat.reduceSub, Nat.reduceLeDiff, Nat.reduceLT, t2, t4, t64, t65, t66]
          exact hD
      · rintro T H4 ⟨hD4, t2, t4⟩
        obtain ⟨vm', vo', g1, g2, g3⟩ := hD4.st
        have ew : IntKind.i64.wrap (s.epoch + 1) = s.epoch + 1 := wr64 (by omega) (by omega)
        have g4 := hD4.res
        simp -dsimp only [go_sem, ↓reduceIte, Nat.reduceEqDiff, Nat.reduceAdd, Nat.reduceMul, Nat.reduceSub, Nat.reduceLeDiff, Nat.reduceLT, t2, t4, g1, ew]
        have e1 := List.getElem?_set_self (a := AObj.row (stV (s.epoch + 1) s.term s.leader vm' vo') 5 true) (get_lt g1)
        have k1 : ∀ j, j ≠ H.length → (H4.set H.length (.row (stV (s.epoch + 1) s.term s.leader vm' vo') 5 true))[j]? = H4[j]? := fun j hj => List.getElem?_set_ne (Ne.symm hj)
        have r1 := pre_set hD4.pre (Nat.le_refl _) (AObj.row (stV (s.epoch + 1) s.term s.leader vm' vo') 5 true)
        have o1 := g2.keep (H' := H4.set H.length (.row (stV (s.epoch + 1) s.term s.leader vm' vo') 5 true)) fun id hid => k1 id (own_ne g2 g1 (by decide) id hid)
        have o2 := g3.keep (H' := H4.set H.length (.row (stV (s.epoch + 1) s.term s.leader vm' vo') 5 true)) fun id hid => k1 id (own_ne g3 g1 (by decide) id hid)
        have f1 := (k1 (H.length + 2) (by omega)).trans g4
        generalize H4.set H.length (.row (stV (s.epoch + 1) s.term s.leader vm' vo') 5 true) = H5 at *
        have e2 := List.getElem?_set_self (a := AObj.row (stV (s.epoch + 1) s.term s.leader vm' vo') 5 true) (get_lt f1)
        simp -dsimp only [go_sem, ↓reduceIte, Nat.reduceEqDiff, Nat.reduceAdd, Nat.reduceMul, Nat.reduceSub, Nat.reduceLeDiff, Nat.reduceLT, t2, t4, e1, f1, e2, own_one g2, own_one g3]
        refine ⟨pre_set r1 (by omega) _, vm', vo', rfl, (o1.keep fun id hid => List.getElem?_set_ne (Ne.symm (own_ne o1 f1 (by decide) id hid))).mono (by omega), (o2.keep fun id hid => List.getElem?_set_ne (Ne.symm (own_ne o2 f1 (by decide) id hid))).mono (by omega)⟩
end Go.Proofs.YtekpdopbiklkfaaGreatDoor
end
section
set_option linter.unusedVariables false
set_option linter.unusedSimpArgs false
namespace Go.AW
open Go
variable {P : Program}
def mkPlan4 (P : Program) (an : List Nat) (ops : Array Oper) : List (Nat × Nat) → List Nat → List Nat → Option (List (Nat × List Nat))
  | [], _, _ => some []
  | (i, k) :: is, seen, rd =>
    match ops[i]? with
    | none => none
    | some o =>
      match cls P o with
      | .eff =>
        let chk := seen.filter fun j => !(an.getD i 0).testBit j
        if chk.all rd.contains && (chk.isEmpty || k == 2) then (mkPlan4 P an ops is (i :: seen) rd).map ((i, chk) :: ·) else none
      | .read => (mkPlan4 P an ops is (i :: seen) (if k == 1 then i :: rd else rd)).map ((i, []) :: ·)
      | .alloc => if k == 1 then none else (mkPlan4 P an ops is (i :: seen) rd).map ((i, []) :: ·)
def planOk4 (P : Program) (ops : Array Oper) (order : List (Nat × Nat)) : Bool :=
  match mkPlan4 P (ancs ops) ops order [] [] with
  | some plan => planOk P ops plan
  | none => false
def recAt (P : Program) (H : AHeap) (T : Tm) (v : Value) (os : List Oper) (i : Nat) : Prop := bindO (opAt os i) fun o => aop P T o H fun v' _ => v' = v
def again4 (P : Program) (l : List Oper) (H : AHeap) : List (Nat × Tm × Value) → Prop
  | [] => True
  | (i, T, v) :: rs => recAt P H T v l i ∧ again4 P l H rs
def recq (k i : Nat) (T : Tm) (v : Value) (recs : List (Nat × Tm × Value)) : List (Nat × Tm × Value) := if k = 1 then (i, T, v) :: recs else recs
def adraw4 (P : Program) (l : List Oper) (K : Tm → AHeap → Prop) : List (Nat × Nat) → List (Nat × Tm × Value) → Tm → AHeap → Prop
  | [], _, T, H => K T H
  | (i, k) :: is, recs, T, H => bindO (opAt l i) fun o => bindO (aguard l.toArray T o) fun g =>
      acond g (aop P T o H fun v H' => (k = 2 → again4 P l H' recs) ∧ adraw4 P l K is (recq k i T v recs) (T.put o.dst v) H') (adraw4 P l K is recs (T.put o.dst undef) H)
theorem again_mem {l : List Oper} {H : AHeap} : ∀ {rs : List (Nat × Tm × Value)}, again4 P l H rs → ∀ r ∈ rs, recAt P H r.2.1 r.2.2 l r.1
  | (i, T, v) :: rs, h, r, hr => by
    rcases List.mem_cons.1 hr with rfl | hr
    · exact h.1
    · exact again_mem h.2 r hr
theorem adraw_of4 {l : List Oper} {an : List Nat} {K : Tm → AHeap → Prop} : ∀ (is : List (Nat × Nat)) (seen rd : List Nat) (plan : List (Nat × List Nat)) (recs : List Rec) (rs : List (Nat × Tm × Value)) (T : Tm) (H : AHeap),
    mkPlan4 P an l.toArray is seen rd = some plan → (∀ r ∈ recs, r.i ∈ seen) → (∀ i ∈ rd, i ∈ seen ∧ ∃ o, l.toArray[i]? = some o ∧ cls P o = .read) → (∀ r ∈ recs, r.i ∈ rd → r.skip = true ∨ (r.id = none ∧ (r.i, r.T, r.v) ∈ rs)) → (∀ i ∈ is.map Prod.fst, i ∉ seen) → (is.map Prod.fst).Nodup → adraw4 P l K is rs T H → adraw P l.toArray K plan recs T H
  | [], _, _, plan, recs, rs, T, H, hp, _, _, _, _, _, h => by
    simp only [mkPlan4, Option.some.injEq] at hp
    subst hp
    exact h
  | (i, k) :: is, seen, rd, plan, recs, rs, T, H, hp, hs, hrd, hg, hn, hnd, h => by
    simp only [adraw4] at h
    obtain ⟨o, ho, h1⟩ := bindO_iff.1 h
    rw [opAt_eq] at ho
    have ho' : l.toArray[i]? = some o := by simpa using ho
    simp only [mkPlan4, ho'] at hp
    have hi : i ∉ seen := hn i (by simp)
    simp only [List.map_cons, List.nodup_cons] at hnd
    have hn' : ∀ j ∈ is.map Prod.fst, j ∉ i :: seen := fun j hj hm => by
      rcases List.mem_cons.1 hm with rfl | hm
      · exact hnd.1 hj
      · exact hn j (by simp at hj ⊢; exact .inr hj) hm
    have hird : i ∉ rd := fun q => hi (hrd i q).1
    have hs' : ∀ r ∈ recs, r.i ∈ i :: seen := fun r hr => List.mem_cons_of_mem _ (hs r hr)
    have hrd' : ∀ j ∈ rd, j ∈ i :: seen ∧ ∃ o, l.toArray[j]? = some o ∧ cls P o = .read := fun j hj => ⟨List.mem_cons_of_mem _ (hrd j hj).1, (hrd j hj).2⟩
    have seen' : ∀ rec : Rec, rec.i = i → ∀ r ∈ rec :: recs, r.i ∈ i :: seen := fun rec e r hr => by
      rcases List.mem_cons.1 hr with rfl | hr
      · rw [e]; exact List.mem_cons_self ..
      · exact hs' r hr
    cases hc : cls P o with
    | eff =>
      simp only [hc] at hp
      split at hp
      · rename_i q
        simp only [Option.map_eq_some_iff] at hp
        obtain ⟨pl, hp, rfl⟩ := hp
        have hk1 : k ≠ 1 ∨ True := .inr trivial
        simp only [adraw]
        refine bindO_iff.2 ⟨o, ho', bindO_mono h1 fun g hgd => acond_mono hgd (fun hq => ?_) (fun hq => ?_)⟩
        · simp only [hc]
          simp only [Bool.and_eq_true, List.all_eq_true, Bool.or_eq_true, beq_iff_eq] at q
          refine aop_mono (fun v H' ⟨h3, h4⟩ => ⟨?_, ?_⟩) hq
          · refine rechecks_of fun r hr hj => ?_
            have hjr := q.1 r.i hj
            have hk : k = 2 := by
              rcases q.2 with q2 | q2
              · rw [List.isEmpty_iff] at q2; rw [q2] at hj; cases hj
              · exact q2
            have hjr : r.i ∈ rd := by simpa using hjr
            obtain ⟨_, p, hp1, hp2⟩ := hrd r.i hjr
            rcases hg r hr hjr with h5 | ⟨h5, h6⟩
            · simp only [recheck, h5]
            · have h7 := again_mem (h3 hk) _ h6
              unfold recAt at h7
              obtain ⟨o2, ho2, h8⟩ := bindO_iff.1 h7
              rw [opAt_eq] at ho2
              have ho2' : l.toArray[r.i]? = some o2 := by simpa using ho2
              rw [ho2'] at hp1
              cases hp1
              obtain ⟨v2, hv2, h9⟩ := bindO_iff.1 (aop_read hp2 h8)
              cases hsk : r.skip with
              | true => simp only [recheck, hsk]
              | false =>
                simp only [recheck, hsk, ho2', h5]
                rw [hv2, h9]
          · refine adraw_of4 is (i :: seen) rd pl recs _ _ _ hp hs' hrd' (fun r hr hj => ?_) hn' hnd.2 h4
            rcases hg r hr hj with h5 | ⟨h5, h6⟩
            · exact .inl h5
            · refine .inr ⟨h5, ?_⟩
              unfold recq
              split
              · exact List.mem_cons_of_mem _ h6
              · exact h6
        · simp only [hc]
          exact adraw_of4 is (i :: seen) rd pl recs _ _ _ hp hs' hrd' hg hn' hnd.2 hq
      · cases hp
    | read =>
      simp only [hc, Option.map_eq_some_iff] at hp
      obtain ⟨pl, hp, rfl⟩ := hp
      simp only [adraw]
      have rd2 : ∀ j ∈ (if k == 1 then i :: rd else rd), j ∈ i :: seen ∧ ∃ o, l.toArray[j]? = some o ∧ cls P o = .read := fun j hj => by
        split at hj
        · rcases List.mem_cons.1 hj with rfl | hj
          · exact ⟨List.mem_cons_self .., o, ho', hc⟩
          · exact hrd' j hj
        · exact hrd' j hj
      have old : ∀ rec : Rec, ∀ rs' : List (Nat × Tm × Value), rec.i = i → (∀ x ∈ rs, x ∈ rs') → (k = 1 → rec.skip = true ∨ (rec.id = none ∧ (rec.i, rec.T, rec.v) ∈ rs')) →
          ∀ r ∈ rec :: recs, r.i ∈ (if k == 1 then i :: rd else rd) → r.skip = true ∨ (r.id = none ∧ (r.i, r.T, r.v) ∈ rs') := fun rec rs' e hsub hrec r hr hj => by
        rcases List.mem_cons.1 hr with rfl | hr
        · split at hj
          · rename_i q; exact hrec (by simpa using q)
          · rw [e] at hj; exact absurd hj hird
        · have hj' : r.i ∈ rd := by
            split at hj
            · rcases List.mem_cons.1 hj with q | hj
              · exact absurd (hs r hr) (q ▸ hi)
              · exact hj
            · exact hj
          rcases hg r hr hj' with h5 | ⟨h5, h6⟩
          · exact .inl h5
          · exact .inr ⟨h5, hsub _ h6⟩
      refine bindO_iff.2 ⟨o, ho', bindO_mono h1 fun g hgd => acond_mono hgd (fun hq => ?_) (fun hq => ?_)⟩
      · simp only [hc]
        have := aop_read hc hq
        obtain ⟨v, hv, hv2⟩ := bindO_iff.1 this
        refine bindO_iff.2 ⟨v, hv, ?_⟩
        refine adraw_of4 is (i :: seen) _ pl _ _ _ _ hp (seen' _ rfl) rd2 (old _ _ rfl (fun x hx => ?_) fun q => .inr ⟨rfl, ?_⟩) hn' hnd.2 hv2.2
        · unfold recq
          split
          · exact List.mem_cons_of_mem _ hx
          · exact hx
        · unfold recq
          rw [if_pos q]
          exact List.mem_cons_self ..
      · simp only [hc]
        exact adraw_of4 is (i :: seen) _ pl _ _ _ _ hp (seen' _ rfl) rd2 (old _ _ rfl (fun x hx => hx) fun q => .inl rfl) hn' hnd.2 hq
    | alloc =>
      simp only [hc] at hp
      split at hp
      · cases hp
      rename_i hk
      simp only [Option.map_eq_some_iff] at hp
      obtain ⟨pl, hp, rfl⟩ := hp
      simp only [adraw]
      have old : ∀ rec : Rec, ∀ rs' : List (Nat × Tm × Value), rec.i = i → (∀ x ∈ rs, x ∈ rs') → ∀ r ∈ rec :: recs, r.i ∈ rd → r.skip = true ∨ (r.id = none ∧ (r.i, r.T, r.v) ∈ rs') := fun rec rs' e hsub r hr hj => by
        rcases List.mem_cons.1 hr with rfl | hr
        · rw [e] at hj; exact absurd hj hird
        · rcases hg r hr hj with h5 | ⟨h5, h6⟩
          · exact .inl h5
          · exact .inr ⟨h5, hsub _ h6⟩
      refine bindO_iff.2 ⟨o, ho', bindO_mono h1 fun g hgd => acond_mono hgd (fun hq => ?_) (fun hq => ?_)⟩
      · simp only [hc]
        have := aop_alloc' hc hq
        obtain ⟨p, hv, hv2⟩ := bindO_iff.1 this
        refine bindO_iff.2 ⟨p, hv, adraw_of4 is (i :: seen) rd pl _ _ _ _ hp (seen' _ rfl) hrd' (old _ _ rfl fun x hx => ?_) hn' hnd.2 hv2.2⟩
        unfold recq
        split
        · exact List.mem_cons_of_mem _ hx
        · exact hx
      · simp only [hc]
        exact adraw_of4 is (i :: seen) rd pl _ _ _ _ hp (seen' _ rfl) hrd' (old _ _ rfl fun x hx => hx) hn' hnd.2 hq
theorem adrawnP_of4 {l : List Oper} {K : Tm → AHeap → Prop} {T : Tm} {H : AHeap} {t1 : Tok l.toArray} {t2 : Tok K} {t3 : Tok T} {t4 : Tok H} (order : List (Nat × Nat)) (hp : (planOk4 P l.toArray order && decide ((order.map Prod.fst).Nodup)) = true)
    (h : adraw4 P l K order [] T H) : adrawnP P l.toArray K T H t1 t2 t3 t4 := by
  simp only [Bool.and_eq_true, decide_eq_true_eq] at hp
  obtain ⟨hp, hnd⟩ := hp
  unfold planOk4 at hp
  split at hp
  · rename_i plan hm
    exact ⟨plan, hp, adraw_of4 order [] [] plan [] [] T H hm (fun r hr => by simp at hr) (fun r hr => by simp at hr) (fun r hr => by simp at hr) (fun r hr => by simp) hnd h⟩
  · cases hp
def againP (k : Nat) (A B : Prop) (_ : Tok B) : Prop := (k = 2 → A) ∧ B
theorem againP_zero (A B : Prop) (t : Tok B) : againP 0 A B t = B := by simp [againP]
theorem againP_one (A B : Prop) (t : Tok B) : againP 1 A B t = B := by simp [againP]
theorem again_of {A B : Prop} {t : Tok B} (h : A) (hb : B) : againP 2 A B t := ⟨fun _ => h, hb⟩
theorem recq_zero (i : Nat) (T : Tm) (v : Value) (recs : List (Nat × Tm × Value)) : recq 0 i T v recs = recs := (rfl)
theorem recq_one (i : Nat) (T : Tm) (v : Value) (recs : List (Nat × Tm × Value)) : recq 1 i T v recs = (i, T, v) :: recs := (rfl)
theorem recq_two (i : Nat) (T : Tm) (v : Value) (recs : List (Nat × Tm × Value)) : recq 2 i T v recs = recs := (rfl)
def adstep4 (P : Program) (l : List Oper) (K : Tm → AHeap → Prop) (recs : List (Nat × Tm × Value)) (i k : Nat) (is : List (Nat × Nat)) (T : Tm) (H : AHeap) (o : Oper) : Prop :=
  bindO (aguard l.toArray T o) fun g => acond g (aop P T o H fun v H' => (k = 2 → again4 P l H' recs) ∧ adraw4 P l K is (recq k i T v recs) (T.put o.dst v) H') (adraw4 P l K is recs (T.put o.dst undef) H)
section
variable (P : Program) (l : List Oper) (K : Tm → AHeap → Prop) (recs : List (Nat × Tm × Value)) (T : Tm) (H : AHeap) (i k : Nat)
theorem adraw4_nil : adraw4 P l K [] recs T H = K T H := (rfl)
def adopen4 (os : List Oper) (j : Nat) (is : List (Nat × Nat)) : Prop := bindO (opAt os j) fun o => adstep4 P l K recs i k is T H o
theorem adraw4_cons (is : List (Nat × Nat)) : adraw4 P l K ((i, k) :: is) recs T H = adopen4 P l K recs T H i k l i is := (rfl)
theorem adopen4_zero (o : Oper) (os : List Oper) (is : List (Nat × Nat)) : adopen4 P l K recs T H i k (o :: os) 0 is = adstep4 P l K recs i k is T H o := (rfl)
theorem adopen4_succ (o : Oper) (os : List Oper) (j : Nat) (is : List (Nat × Nat)) : adopen4 P l K recs T H i k (o :: os) (j + 1) is = adopen4 P l K recs T H i k os j is := (rfl)
theorem adstep4_none (is : List (Nat × Nat)) (d : Option Tmp) (op : Op) (ty : TypeId) (pos : String) (aft : Array Edge) :
    adstep4 P l K recs i k is T H ⟨d, op, ty, pos, aft, none⟩ = aop P T ⟨d, op, ty, pos, aft, none⟩ H fun v H' => againP k (again4 P l H' recs) (adraw4 P l K is (recq k i T v recs) (T.put d v) H') (tk _) := (rfl)
theorem adstep4_some (is : List (Nat × Nat)) (d : Option Tmp) (op : Op) (ty : TypeId) (pos : String) (aft : Array Edge) (g : Nat × Bool) :
    adstep4 P l K recs i k is T H ⟨d, op, ty, pos, aft, some g⟩ = bindP (aguard l.toArray T ⟨d, op, ty, pos, aft, some g⟩) (fun q => acondP q (aop P T ⟨d, op, ty, pos, aft, some g⟩ H fun v H' => againP k (again4 P l H' recs) (adraw4 P l K is (recq k i T v recs) (T.put d v) H') (tk _)) (adraw4 P l K is recs (T.put d undef) H) (tk _) (tk _)) (tk _) := (rfl)
theorem again4_nil : again4 P l H [] = True := (rfl)
theorem again4_cons (T' : Tm) (v : Value) (rs : List (Nat × Tm × Value)) : again4 P l H ((i, T', v) :: rs) = (recAt P H T' v l i ∧ again4 P l H rs) := (rfl)
theorem recAt_zero (v : Value) (o : Oper) (os : List Oper) : recAt P H T v (o :: os) 0 = aop P T o H fun v' _ => v' = v := (rfl)
theorem recAt_succ (v : Value) (o : Oper) (os : List Oper) : recAt P H T v (o :: os) (i + 1) = recAt P H T v os i := (rfl)
end
attribute [go_sem ↓] adraw4_nil adraw4_cons adopen4_zero adopen4_succ adstep4_none adstep4_some
attribute [go_sem] againP_zero againP_one recq_zero recq_one recq_two again4_nil again4_cons recAt_zero recAt_succ
end Go.AW
end
section
set_option linter.unusedVariables false
set_option linter.unusedSimpArgs false
namespace Go.Proofs.YtekpdopbiklkfaaGreatDoor
open Go Go.AW
set_option linter.unusedSimpArgs false
set_option maxRecDepth 20000
theorem St.B_eq (s : St) : s.B = intB s.epoch ++ (intB s.term ++ (intB s.leader ++ (intB (s.offs.length : Int) ++ (s.offs.flatMap uintB ++ s.metas.flatMap Meta.B)))) := by simp [St.B]
theorem appU {b : Nat} {H : AHeap} {v : Value} {l : List Int} (h : Own b H encU 1 v l) (hb : b ≤ H.length) (hl : l.length < 90000) (x : Int) :
    ∃ v' H', aappend Tryz.prog (H ++ [.row (encU x) 1 true]) 39 39 v (.slice (some ⟨H.length, 0, none⟩) 1 1) = some (v', H') ∧ App b H encU 1 v v' H' (l ++ [x]) := by
  obtain ⟨v', H2, h1, h2, h3, h4, h5⟩ := Own.app1b un39 el39 inf52 rfl (by decide) (by decide) (fun _ => rfl) (fun _ => rfl) hb h x (by omega)
  exact ⟨v', H2, h1, h2, h3, h4, h5⟩
set_option maxHeartbeats 2000000 in
theorem readStateLaw (s : St) (hs : s.Ok) (hn : 1 ≤ s.offs.length) {v : Value} {H : AHeap} (hv : BAt H v s.B) :
    Sound Tryz.prog 95 [v] H fun w H' => H <+: H' ∧ ∃ vm vo, w = .tuple #[.agg (stV s.epoch s.term s.leader vm vo).toArray, .bool true] ∧ Own H.length H' Meta.cells 8 vm s.metas ∧ Own H.length H' encU 1 vo s.offs := by
  refine Sound.of_body (rs := [.cell 2 41, .tmp 3]) mixed Tryz.func95 rfl (by kernel_rfl) rfl (by kernel_rfl) ?_
  have hw : ∀ n : Int, N63 n → IntKind.i64.wrap n = n := fun n h => wr64 (by have := h.1; omega) (by have := h.2; omega)
  have l1 := intB_le hs.epoch
  have l2 := intB_le hs.term
  have l3 := intB_le hs.leader
  have hnO : N63 (s.offs.length : Int) := ⟨by omega, by have := hs.lenO; omega⟩
  have l4 := intB_le hnO
  have hlO := hs.lenO
  have hlM := hs.len
  have offsLe : ∀ i, ((s.offs.drop i).flatMap uintB).length ≤ 80 := fun i => by
    have h1 := flatLe uintB 10 (s.offs.drop i) (fun x hx => uintB_le (hs.offs x (List.mem_of_mem_drop hx)))
    have h2 : (s.offs.drop i).length ≤ 8 := by rw [List.length_drop]; omega
    omega
  have metaLe : (s.metas.flatMap Meta.B).length ≤ 426000 := by
    have h1 := flatLe Meta.B 142 s.metas (fun x hx => Meta.B_le (hs.metas x hx))
    omega
  have p0 := List.prefix_append H [AObj.row (stV 0 0 0 (.slice none 0 0) (.slice none 0 0)) 5 true]
  have c0 := get_end H (AObj.row (stV 0 0 0 (.slice none 0 0) (.slice none 0 0)) 5 true) []
  rw [St.B_eq] at hv
  have lo0 := offsLe 0
  rw [List.drop_zero] at lo0
  have lH : (H ++ [AObj.row (stV 0 0 0 (.slice none 0 0) (.slice none 0 0)) 5 true]).length = H.length + 1 := by simp
  simp -dsimp only [go_sem, ↓reduceIte, Nat.reduceEqDiff, Nat.reduceAdd, Nat.reduceMul, Nat.reduceSub, Nat.reduceLeDiff, Nat.reduceLT]
  refine SoundP_of (readLaw (hv.pre p0)) ?_
  rintro _ H1 ⟨rfl, p1, n1, r1⟩
  rw [lH] at n1 r1
  have c1 := pre_get p1 c0
  have q1 := p0.trans p1
  simp -dsimp only [go_sem, ↓reduceIte, Nat.reduceEqDiff, Nat.reduceAdd, Nat.reduceMul, Nat.reduceSub, Nat.reduceLeDiff, Nat.reduceLT, lH]
  refine SoundP_of (readInt' s.epoch hs.epoch _ r1 (by simp only [List.length_append]; omega)) ?_
  rintro _ H2 ⟨rfl, o2, r2⟩
  simp -dsimp only [go_sem, ↓reduceIte, Nat.reduceEqDiff, Nat.reduceAdd, Nat.reduceMul, Nat.reduceSub, Nat.reduceLeDiff, Nat.reduceLT, lH]
  refine SoundP_of (readInt' s.term hs.term _ r2 (by simp only [List.length_append]; omega)) ?_
  rintro _ H3 ⟨rfl, o3, r3⟩
  simp -dsimp only [go_sem, ↓reduceIte, Nat.reduceEqDiff, Nat.reduceAdd, Nat.reduceMul, Nat.reduceSub, Nat.reduceLeDiff, Nat.reduceLT, lH]
  refine SoundP_of (readInt' s.leader hs.leader _ r3 (by simp only [List.length_append]; omega)) ?_
  rintro _ H4 ⟨rfl, o4, r4⟩
  have o14 := (o2.trans o3).trans o4
  have c4 := (o14.2 H.length (by omega)).trans c1
  have n4 : H4.length = H.length + 2 := by rw [o14.1, n1]
  have q4 : H <+: H4 := pre_of fun j hj => (o14.2 j (by omega)).trans (by obtain ⟨L, rfl⟩ := q1; exact List.getElem?_append_left hj)
  simp -dsimp only [go_sem, ↓reduceIte, Nat.reduceEqDiff, Nat.reduceAdd, Nat.reduceMul, Nat.reduceSub, Nat.reduceLeDiff, Nat.reduceLT, lH, hw _ hs.epoch, hw _ hs.term, hw _ hs.leader]
  have px := List.prefix_append H4 [AObj.row (stV s.epoch s.term s.leader (.slice none 0 0) (.slice none 0 0)) 5 true]
  have d5 := get_end H4 (AObj.row (stV s.epoch s.term s.leader (.slice none 0 0) (.slice none 0 0)) 5 true) []
  refine SoundP_of (readInt' (s.offs.length : Int) hnO _ (r4.pre px) (by simp only [List.length_append]; omega)) ?_
  rintro _ H5 ⟨rfl, o5, r5⟩
  have n5 : H5.length = H.length + 3 := by rw [o5.1]; simp [n4]
  rw [n4] at d5
  have d5 := (o5.2 (H.length + 2) (by omega)).trans d5
  have c5 := (o5.2 H.length (by omega)).trans (pre_get px c4)
  have q5 : H <+: H5 := pre_of fun j hj => (o5.2 j (by omega)).trans (by rw [List.getElem?_append_left (by omega)]; obtain ⟨L, rfl⟩ := q4; exact List.getElem?_append_left hj)
  have z1 : decide ((s.offs.length : Int) < 1) = false := decide_eq_false (by omega)
  have z2 : decide ((8 : Int) < (s.offs.length : Int)) = false := decide_eq_false (by omega)
  simp -dsimp only [go_sem, ↓reduceIte, Nat.reduceEqDiff, Nat.reduceAdd, Nat.reduceMul, Nat.reduceSub, Nat.reduceLeDiff, Nat.reduceLT, n4, z1, z2]
  refine aloop_join (fun T H' => ∃ vo, H <+: H' ∧ H'[H.length]? = some (.row (stV 0 0 0 (.slice none 0 0) (.slice none 0 0)) 5 true) ∧ ReadAt H' (H.length + 1) (s.metas.flatMap Meta.B) ∧ H'[H.length + 2]? = some (.row (stV s.epoch s.term s.leader (.slice none 0 0) vo) 5 true) ∧ Own (H.length + 3) H' encU 1 vo s.offs ∧
      T 2 = ptrV H.length ∧ T 4 = ptrV (H.length + 1) ∧ T 5 = ptrV (H.length + 2))
    (fun k T H' => ∃ (i : Nat) (vo : Value), k = s.offs.length - i ∧ i ≤ s.offs.length ∧ H <+: H' ∧ H'[H.length]? = some (.row (stV 0 0 0 (.slice none 0 0) (.slice none 0 0)) 5 true) ∧ ReadAt H' (H.length + 1) ((s.offs.drop i).flatMap uintB ++ s.metas.flatMap Meta.B) ∧ H'[H.length + 2]? = some (.row (stV s.epoch s.term s.leader (.slice none 0 0) vo) 5 true) ∧ Own (H.length + 3) H' encU 1 vo (s.offs.take i) ∧
      T 2 = ptrV H.length ∧ T 4 = ptrV (H.length + 1) ∧ T 5 = ptrV (H.length + 2) ∧ T 25 = .int .i64 s.offs.length ∧ T 26 = .int .i64 (i : Nat)) (n := s.offs.length) ?_ ?_ ?_
  · refine ⟨0, .slice none 0 0, ?_⟩
    simp -dsimp only [go_sem, ↓reduceIte, Nat.reduceEqDiff, Nat.reduceAdd, Nat.reduceMul, Nat.reduceSub, Nat.reduceLeDiff, Nat.reduceLT]
    exact ⟨rfl, Nat.zero_le _, q5, c5, by simpa using r5, d5, Own.nil _ _ _ _, by rw [n4], rfl⟩
  · rintro k T H' ⟨i, vo, rfl, hi, hp, hc, hr, hd, ho, t2, t4, t5, t25, t26⟩
    simp -dsimp only [go_sem, ↓reduceIte, Nat.reduceEqDiff, Nat.reduceAdd, Nat.reduceMul, Nat.reduceSub, Nat.reduceLeDiff, Nat.reduceLT, t2, t4, t5, t25, t26]
    refine acondP_of (fun h => ?_) (fun h => ?_)
    · simp at h
      obtain ⟨x, hx⟩ := get_ex h
      have hU := hs.offs x (List.mem_of_getElem? hx)
      have hlx := uintB_le hU
      have hle := offsLe (i + 1)
      rw [drop_get hx, List.flatMap_cons, List.append_assoc] at hr
      simp -dsimp only [go_sem, ↓reduceIte, Nat.reduceEqDiff, Nat.reduceAdd, Nat.reduceMul, Nat.reduceSub, Nat.reduceLeDiff, Nat.reduceLT, t2, t4, t5, t25, t26]
      refine adrawnP_of4 [(0, 1), (1, 1), (2, 1), (3, 2), (4, 0), (5, 0), (6, 0), (7, 0)] (by kernel_rfl) ?_
      simp -dsimp only [go_sem, ↓reduceIte, Nat.reduceEqDiff, Nat.reduceAdd, Nat.reduceMul, Nat.reduceSub, Nat.reduceLeDiff, Nat.reduceLT, t2, t4, t5, t25, t26, hd]
      refine SoundP_of (readUint' x hU _ hr (by rw [List.length_append]; omega)) ?_
      rintro _ H7 ⟨rfl, o7, r7⟩
      have hd7 := (o7.2 (H.length + 2) (by omega)).trans hd
      have hc7 := (o7.2 H.length (by omega)).trans hc
      have ho7 : Own (H.length + 3) H7 encU 1 vo (s.offs.take i) := ho.keep fun id hid => o7.2 id (by have := (ho.owner_ge hid).1; omega)
      have hp7 : H <+: H7 := pre_of fun j hj => (o7.2 j (by omega)).trans (by obtain ⟨L, rfl⟩ := hp; exact List.getElem?_append_left hj)
      have lt7 := get_lt hd7
      obtain ⟨v', H8, e, ap⟩ := appU ho7 (by omega) (by rw [List.length_take]; omega) x
      refine again_of (by simp -dsimp only [go_sem, ↓reduceIte, Nat.reduceEqDiff, Nat.reduceAdd, Nat.reduceMul, Nat.reduceSub, Nat.reduceLeDiff, Nat.reduceLT, t2, t4, t5, t25, t26, hd7]) ?_
      have ow : ∀ j, owner vo = some j → H.length + 3 ≤ j := fun j hj => (ho.owner_ge hj).1
      have fr8 : ∀ j, j < H.length + 3 → H8[j]? = H7[j]? := fun j hj => ap.fr j (by omega) fun w => by have := ow _ w; omega
      have hd8 := (fr8 (H.length + 2) (by omega)).trans hd7
      have hc8 := (fr8 H.length (by omega)).trans hc7
      have r8 : ReadAt H8 (H.length + 1) ((s.offs.drop (i + 1)).flatMap uintB ++ s.metas.flatMap Meta.B) := by
        obtain ⟨w, w1, w2, w3⟩ := r7
        refine ⟨w, (fr8 _ (by omega)).trans w1, w2.keep fun id hid => ap.fr id (w2.lt hid) fun q => ?_, w3⟩
        have h1 := w3 id hid
        have h2 := ow id q
        omega
      obtain ⟨a', c', rfl, -⟩ := ap.own.sl (fun _ => rfl)
      have ow2 : ∀ j, owner (.slice a' (s.offs.take i ++ [x]).length c') = some j → H.length + 3 ≤ j := fun j hj => (ap.own.owner_ge hj).1
      generalize hnn : (s.offs.take i ++ [x]).length = nn at *
      simp -dsimp only [go_sem, ↓reduceIte, Nat.reduceEqDiff, Nat.reduceAdd, Nat.reduceMul, Nat.reduceSub, Nat.reduceLeDiff, Nat.reduceLT, t2, t4, t5, t25, t26, e, hd8, wrS (show i < 4611686018427387904 by omega)]
      have hs2 : ∀ j, j ≠ H.length + 2 → (H8.set (H.length + 2) (.row (stV s.epoch s.term s.leader (.slice none 0 0) (.slice a' nn c')) 5 true))[j]? = H8[j]? := fun j hj => List.getElem?_set_ne (Ne.symm hj)
      have hp8 : H <+: H8 := pre_of fun j hj => (fr8 j (by omega)).trans (by obtain ⟨L, rfl⟩ := hp7; exact List.getElem?_append_left hj)
      refine ⟨_, by omega, i + 1, .slice a' nn c', rfl, h, pre_set hp8 (by omega) _, (hs2 _ (by omega)).trans hc8, ?_, List.getElem?_set_self (get_lt hd8), ?_, rfl⟩
      · obtain ⟨w, w1, w2, w3⟩ := r8
        exact ⟨w, (hs2 _ (by omega)).trans w1, w2.keep fun id hid => hs2 id (by have := w3 id hid; omega), w3⟩
      · rw [List.take_add_one, hx]
        exact ap.own.keep fun id hid => hs2 id (by have := ow2 id hid; omega)
    · simp at h
      rw [List.take_of_length_le h] at ho
      rw [List.drop_of_length_le h] at hr
      simp -dsimp only [go_sem, ↓reduceIte, Nat.reduceEqDiff, Nat.reduceAdd, Nat.reduceMul, Nat.reduceSub, Nat.reduceLeDiff, Nat.reduceLT, t2, t4, t5, t25, t26]
      exact ⟨vo, hp, hc, by simpa using hr, hd, ho⟩
  · rintro T H6 ⟨vo, hp, hc, hr, hd, ho, t2, t4, t5⟩
    simp -dsimp only [go_sem, ↓reduceIte, Nat.reduceEqDiff, Nat.reduceAdd, Nat.reduceMul, Nat.reduceSub, Nat.reduceLeDiff, Nat.reduceLT, t2, t4, t5]
    refine SoundP_of (readMetas s.metas hs.metas hlM hr) ?_
    rintro vm H7 ⟨om, b7, r7⟩
    have hl6 := get_lt hd
    have hc7 := (b7.2 H.length (by omega) (by omega)).trans hc
    have hd7 := (b7.2 (H.length + 2) (by omega) (by omega)).trans hd
    have ho7 := own_but ho b7 (by omega)
    have hp7 : H <+: H7 := pre_of fun j hj => (b7.2 j (by omega) (by omega)).trans (by obtain ⟨L, rfl⟩ := hp; exact List.getElem?_append_left hj)
    obtain ⟨am, cm, rfl, -⟩ := om.sl (fun _ => rfl)
    simp -dsimp only [go_sem, ↓reduceIte, Nat.reduceEqDiff, Nat.reduceAdd, Nat.reduceMul, Nat.reduceSub, Nat.reduceLeDiff, Nat.reduceLT, t2, t4, t5, hd7]
    have hs2 : ∀ j, j ≠ H.length + 2 → (H7.set (H.length + 2) (.row (stV s.epoch s.term s.leader (.slice am s.metas.length cm) vo) 5 true))[j]? = H7[j]? := fun j hj => List.getElem?_set_ne (Ne.symm hj)
    have lt7 := get_lt hd7
    have hp8 := pre_set hp7 (show H.length ≤ H.length + 2 by omega) (.row (stV s.epoch s.term s.leader (.slice am s.metas.length cm) vo) 5 true)
    have hd8 := List.getElem?_set_self (a := AObj.row (stV s.epoch s.term s.leader (.slice am s.metas.length cm) vo) 5 true) lt7
    have hc8 := (hs2 H.length (by omega)).trans hc7
    have om8 := om.keep fun id hid => hs2 id (own_ne om hd7 (by decide) id hid)
    have ho8 := ho7.keep fun id hid => hs2 id (own_ne ho7 hd7 (by decide) id hid)
    have r8 : ReadAt (H7.set (H.length + 2) (.row (stV s.epoch s.term s.leader (.slice am s.metas.length cm) vo) 5 true)) (H.length + 1) [] := by
      obtain ⟨w, w1, w2, w3⟩ := r7
      exact ⟨w, (hs2 _ (by omega)).trans w1, w2.keep fun id hid => hs2 id (by have := w3 id hid; omega), w3⟩
    have hl8 : (H7.set (H.length + 2) (.row (stV s.epoch s.term s.leader (.slice am s.metas.length cm) vo) 5 true)).length = H7.length := List.length_set
    generalize H7.set (H.length + 2) (.row (stV s.epoch s.term s.leader (.slice am s.metas.length cm) vo) 5 true) = H8 at *
    refine adrawnP_of4 [(0, 1), (1, 1), (2, 2), (3, 1), (4, 2), (5, 0)] (by kernel_rfl) ?_
    simp -dsimp only [go_sem, ↓reduceIte, Nat.reduceEqDiff, Nat.reduceAdd, Nat.reduceMul, Nat.reduceSub, Nat.reduceLeDiff, Nat.reduceLT, t2, t4, t5, hd8]
    refine SoundP_of (endLaw r8) ?_
    rintro _ H9 ⟨rfl, hH9⟩
    rw [hH9]
    clear hH9
    refine again_of (by simp -dsimp only [go_sem, ↓reduceIte, Nat.reduceEqDiff, Nat.reduceAdd, Nat.reduceMul, Nat.reduceSub, Nat.reduceLeDiff, Nat.reduceLT, t2, t4, t5, hd8]) ?_
    have hd9 : (H8.set H.length (.row (stV s.epoch s.term s.leader (.slice am s.metas.length cm) vo) 5 true))[H.length + 2]? = some (.row (stV s.epoch s.term s.leader (.slice am s.metas.length cm) vo) 5 true) := (List.getElem?_set_ne (by omega)).trans hd8
    simp -dsimp only [go_sem, ↓reduceIte, Nat.reduceEqDiff, Nat.reduceAdd, Nat.reduceMul, Nat.reduceSub, Nat.reduceLeDiff, Nat.reduceLT, t2, t4, t5, hc8, own_one ho8, Int.reduceBEq]
    refine again_of (by simp -dsimp only [go_sem, ↓reduceIte, Nat.reduceEqDiff, Nat.reduceAdd, Nat.reduceMul, Nat.reduceSub, Nat.reduceLeDiff, Nat.reduceLT, t2, t4, t5, hd9]) ?_
    have hc9 := List.getElem?_set_self (a := AObj.row (stV s.epoch s.term s.leader (.slice am s.metas.length cm) vo) 5 true) (get_lt hc8)
    have hs9 : ∀ j, j ≠ H.length → (H8.set H.length (.row (stV s.epoch s.term s.leader (.slice am s.metas.length cm) vo) 5 true))[j]? = H8[j]? := fun j hj => List.getElem?_set_ne (Ne.symm hj)
    have hp9 := pre_set hp8 (Nat.le_refl _) (.row (stV s.epoch s.term s.leader (.slice am s.metas.length cm) vo) 5 true)
    have om9 := om8.keep fun id hid => hs9 id (own_ne om8 hc8 (by decide) id hid)
    have ho9 := ho8.keep fun id hid => hs9 id (own_ne ho8 hc8 (by decide) id hid)
    generalize H8.set H.length (.row (stV s.epoch s.term s.leader (.slice am s.metas.length cm) vo) 5 true) = H9 at *
    simp -dsimp only [go_sem, ↓reduceIte, Nat.reduceEqDiff, Nat.reduceAdd, Nat.reduceMul, Nat.reduceSub, Nat.reduceLeDiff, Nat.reduceLT, t2, t4, t5, hc9]
    exact ⟨hp9, _, vo, rfl, om9.mono (by omega), ho9.mono (by omega)⟩
end Go.Proofs.YtekpdopbiklkfaaGreatDoor
end
section
set_option linter.unusedVariables false
set_option linter.unusedSimpArgs false
namespace Go.Proofs.YtekpdopbiklkfaaGreatDoor
open Go Go.AW
set_option linter.unusedSimpArgs false
set_option maxRecDepth 20000
theorem appSeg' {b : Nat} {H : AHeap} {v : Value} {l : List Seg} (h : Own b H Seg.cells 5 v l) (hb : b ≤ H.length) (hl : l.length < 90000) (x : Seg) :
    ∃ v' H', aappend Tryz.prog (H ++ [.row x.cells 5 true]) 29 29 v (.slice (some ⟨H.length, 0, none⟩) 1 1) = some (v', H') ∧ App b H Seg.cells 5 v v' H' (l ++ [x]) := by
  obtain ⟨v', H2, h1, h2, h3, h4, h5⟩ := Own.app1b un29 el29 inf48 rfl (by decide) (by decide) (fun _ => rfl) (fun _ => rfl) hb h x (by omega)
  exact ⟨v', H2, h1, h2, h3, h4, h5⟩
theorem appMv {b : Nat} {H : AHeap} {v : Value} {l : List Move} (h : Own b H Move.cells 3 v l) (hb : b ≤ H.length) (hl : l.length < 90000) (x : Move) :
    ∃ v' H', aappend Tryz.prog (H ++ [.row x.cells 3 true]) 30 30 v (.slice (some ⟨H.length, 0, none⟩) 1 1) = some (v', H') ∧ App b H Move.cells 3 v v' H' (l ++ [x]) := by
  obtain ⟨v', H2, h1, h2, h3, h4, h5⟩ := Own.app1b un30 el30 inf54 rfl (by decide) (by decide) (fun _ => rfl) (fun _ => rfl) hb h x (by omega)
  exact ⟨v', H2, h1, h2, h3, h4, h5⟩
theorem ReadAt.setK {H : AHeap} {p n k : Nat} {l : List UInt8} {cs : List Value} {o : Bool} (h : ReadAt H p l) (hn : H[n]? = some (.row cs k o)) (hk : k ≠ 1) (hnp : n ≠ p) (x : AObj) : ReadAt (H.set n x) p l := by
  obtain ⟨w, w1, w2, w3⟩ := h
  refine ⟨w, (List.getElem?_set_ne hnp).trans w1, w2.keep fun id hid => List.getElem?_set_ne ?_, w3⟩
  rintro rfl
  obtain ⟨cs2, h2⟩ := w2.row1 hid
  rw [hn] at h2
  cases h2
  exact hk rfl
def Move.strip (m : Move) : Move := ⟨m.stream, 0, m.to_⟩
def Txn.strip (t : Txn) : Txn := ⟨0, 0, t.add, t.drop, t.moves.map Move.strip, 0, 0⟩
theorem strip_done (s : St) (t : Txn) : doneS s t.strip = doneS s t := by
  have : ∀ (l : List Move) (o : List Int), (l.map Move.strip).foldl moveL o = l.foldl moveL o := fun l => by
    induction l with
    | nil => exact fun _ => rfl
    | cons m l ih => exact fun o => ih _
  simp only [doneS, Txn.strip, this]
abbrev nilV : Value := .slice none 0 0
theorem Txn.B_eq (t : Txn) : t.B = intB 1 ++ (intB (t.drop.length : Int) ++ (intB (t.moves.length : Int) ++ (t.drop.flatMap Seg.B ++ (t.moves.flatMap Move.B ++ t.add.flatMap Meta.B)))) := by simp [Txn.B]
theorem Seg.B_pos (s : Seg) : 0 < s.B.length := by
  have := numB_pos (2 * s.f.toNat)
  rw [Seg.B_eq]
  simp only [List.length_append, intB]; omega
theorem Move.B_pos (m : Move) : 0 < m.B.length := by
  have := numB_pos (2 * m.stream.toNat)
  simp only [Move.B, List.length_append, intB]; omega
def electB (node : Int) : List UInt8 := intB 2 ++ intB node
theorem nextElect (s : St) (node : Int) (hn : N63 node) (ht : 0 ≤ s.term ∧ s.term < 4611686018427387904) (am ao : Option Addr) (cm co : Nat) {v : Value} {H : AHeap} (hv : BAt H v (electB node)) :
    Sound Tryz.prog 96 [.agg (stC s am ao cm co).toArray, v] H fun w H' => H <+: H' ∧ w = .tuple #[.agg (stV s.epoch (s.term + 1) node (.slice am s.metas.length cm) (.slice ao s.offs.length co)).toArray, .bool true] := by
  refine Sound.of_body (rs := [.cell 4 41, .tmp 5]) mixed Tryz.func96 rfl (by kernel_rfl) rfl (by kernel_rfl) ?_
  have p0 : H <+: H ++ [AObj.row (stC s am ao cm co) 5 true, AObj.row (stV 0 0 0 nilV nilV) 5 true] := List.prefix_append _ _
  have b0 := get_end H (AObj.row (stC s am ao cm co) 5 true) [AObj.row (stV 0 0 0 nilV nilV) 5 true]
  have c0 := get_end1 H (AObj.row (stC s am ao cm co) 5 true) (AObj.row (stV 0 0 0 nilV nilV) 5 true) []
  have lH : (H ++ [AObj.row (stC s am ao cm co) 5 true, AObj.row (stV 0 0 0 nilV nilV) 5 true]).length = H.length + 2 := by simp
  have ew : IntKind.i64.wrap (s.term + 1) = s.term + 1 := wr64 (by omega) (by omega)
  have en : IntKind.i64.wrap node = node := wr64 (by have := hn.1; omega) (by have := hn.2; omega)
  have l1 := intB_le hn
  rw [electB] at hv
  simp -dsimp only [go_sem, ↓reduceIte, Nat.reduceEqDiff, Nat.reduceAdd, Nat.reduceMul, Nat.reduceSub, Nat.reduceLeDiff, Nat.reduceLT]
  refine SoundP_of (readLaw (hv.pre p0)) ?_
  rintro _ H1 ⟨rfl, p1, n1, r1⟩
  rw [lH] at n1 r1
  have b1 := pre_get p1 b0
  have c1 := pre_get p1 c0
  have q1 := p0.trans p1
  simp -dsimp only [go_sem, ↓reduceIte, Nat.reduceEqDiff, Nat.reduceAdd, Nat.reduceMul, Nat.reduceSub, Nat.reduceLeDiff, Nat.reduceLT, lH]
  refine SoundP_of (readInt' 2 ⟨by omega, by omega⟩ _ r1 (by omega)) ?_
  rintro _ H2 ⟨rfl, o2, r2⟩
  have b2 := (o2.2 H.length (by omega)).trans b1
  have c2 := (o2.2 (H.length + 1) (by omega)).trans c1
  have n2 := o2.1
  simp -dsimp only [go_sem, ↓reduceIte, Nat.reduceEqDiff, Nat.reduceAdd, Nat.reduceMul, Nat.reduceSub, Nat.reduceLeDiff, Nat.reduceLT, lH, Int.reduceBEq, b2, ew]
  have r3 := r2.setK b2 (by decide) (by omega) (.row (stV s.epoch (s.term + 1) s.leader (.slice am s.metas.length cm) (.slice ao s.offs.length co)) 5 true)
  have b3 := List.getElem?_set_self (a := AObj.row (stV s.epoch (s.term + 1) s.leader (.slice am s.metas.length cm) (.slice ao s.offs.length co)) 5 true) (get_lt b2)
  have c3 : (H2.set H.length (.row (stV s.epoch (s.term + 1) s.leader (.slice am s.metas.length cm) (.slice ao s.offs.length co)) 5 true))[H.length + 1]? = _ := (List.getElem?_set_ne (by omega)).trans c2
  have q2 : H <+: H2 := pre_of fun j hj => (o2.2 j (by omega)).trans (by obtain ⟨L, rfl⟩ := q1; exact List.getElem?_append_left hj)
  have q3 := pre_set q2 (Nat.le_refl _) (.row (stV s.epoch (s.term + 1) s.leader (.slice am s.metas.length cm) (.slice ao s.offs.length co)) 5 true)
  generalize H2.set H.length (.row (stV s.epoch (s.term + 1) s.leader (.slice am s.metas.length cm) (.slice ao s.offs.length co)) 5 true) = H3 at *
  have r3' : ReadAt H3 (H.length + 2) (intB node ++ []) := by rwa [List.append_nil]
  refine SoundP_of (readInt' node hn [] r3' (by simp)) ?_
  rintro _ H4 ⟨rfl, o4, r4⟩
  have b4 := (o4.2 H.length (by omega)).trans b3
  have c4 := (o4.2 (H.length + 1) (by omega)).trans c3
  have q4 : H <+: H4 := pre_of fun j hj => (o4.2 j (by omega)).trans (by obtain ⟨L, rfl⟩ := q3; exact List.getElem?_append_left hj)
  simp -dsimp only [go_sem, ↓reduceIte, Nat.reduceEqDiff, Nat.reduceAdd, Nat.reduceMul, Nat.reduceSub, Nat.reduceLeDiff, Nat.reduceLT, b4, en]
  have r5 := r4.setK b4 (by decide) (by omega) (.row (stV s.epoch (s.term + 1) node (.slice am s.metas.length cm) (.slice ao s.offs.length co)) 5 true)
  have b5 := List.getElem?_set_self (a := AObj.row (stV s.epoch (s.term + 1) node (.slice am s.metas.length cm) (.slice ao s.offs.length co)) 5 true) (get_lt b4)
  have c5 : (H4.set H.length (.row (stV s.epoch (s.term + 1) node (.slice am s.metas.length cm) (.slice ao s.offs.length co)) 5 true))[H.length + 1]? = _ := (List.getElem?_set_ne (by omega)).trans c4
  have q5 := pre_set q4 (Nat.le_refl _) (.row (stV s.epoch (s.term + 1) node (.slice am s.metas.length cm) (.slice ao s.offs.length co)) 5 true)
  generalize H4.set H.length (.row (stV s.epoch (s.term + 1) node (.slice am s.metas.length cm) (.slice ao s.offs.length co)) 5 true) = H5 at *
  refine adrawnP_of4 [(0, 1), (1, 1), (2, 2), (3, 1), (4, 2), (5, 0)] (by kernel_rfl) ?_
  simp -dsimp only [go_sem, ↓reduceIte, Nat.reduceEqDiff, Nat.reduceAdd, Nat.reduceMul, Nat.reduceSub, Nat.reduceLeDiff, Nat.reduceLT, b5]
  refine SoundP_of (endLaw r5) ?_
  rintro _ H6 ⟨rfl, hH6⟩
  rw [hH6]
  clear hH6
  refine again_of (by simp -dsimp only [go_sem, ↓reduceIte, Nat.reduceEqDiff, Nat.reduceAdd, Nat.reduceMul, Nat.reduceSub, Nat.reduceLeDiff, Nat.reduceLT, b5]) ?_
  have b6 : (H5.set (H.length + 1) (.row (stV s.epoch (s.term + 1) node (.slice am s.metas.length cm) (.slice ao s.offs.length co)) 5 true))[H.length]? = _ := (List.getElem?_set_ne (by omega)).trans b5
  have c6 := List.getElem?_set_self (a := AObj.row (stV s.epoch (s.term + 1) node (.slice am s.metas.length cm) (.slice ao s.offs.length co)) 5 true) (get_lt c5)
  have q6 := pre_set q5 (Nat.le_succ _) (.row (stV s.epoch (s.term + 1) node (.slice am s.metas.length cm) (.slice ao s.offs.length co)) 5 true)
  simp -dsimp only [go_sem, ↓reduceIte, Nat.reduceEqDiff, Nat.reduceAdd, Nat.reduceMul, Nat.reduceSub, Nat.reduceLeDiff, Nat.reduceLT, c5, Int.reduceBEq]
  refine again_of (by simp -dsimp only [go_sem, ↓reduceIte, Nat.reduceEqDiff, Nat.reduceAdd, Nat.reduceMul, Nat.reduceSub, Nat.reduceLeDiff, Nat.reduceLT, b6]) ?_
  simp -dsimp only [go_sem, ↓reduceIte, Nat.reduceEqDiff, Nat.reduceAdd, Nat.reduceMul, Nat.reduceSub, Nat.reduceLeDiff, Nat.reduceLT, c6]
  exact q6
end Go.Proofs.YtekpdopbiklkfaaGreatDoor
end
section
set_option linter.unusedVariables false
set_option linter.unusedSimpArgs false
namespace Go.Proofs.YtekpdopbiklkfaaGreatDoor
open Go Go.AW
set_option linter.unusedSimpArgs false
set_option maxRecDepth 20000
abbrev txV (va vd vm : Value) : List Value := [.int .i64 0, .int .i64 0, va, vd, vm, .int .i64 0, .int .i64 0]
structure Rd (H H' : AHeap) (st : List Value) (va vd vm : Value) (l : List UInt8) : Prop where
  pre : H <+: H'
  st : H'[H.length]? = some (.row st 5 true)
  res : H'[H.length + 1]? = some (.row (stV 0 0 0 nilV nilV) 5 true)
  rd : ReadAt H' (H.length + 2) l
  tx : H'[H.length + 3]? = some (.row (txV va vd vm) 7 true)
variable {H H' H2 : AHeap} {st : List Value} {va vd vm : Value} {l l' : List UInt8}
theorem Rd.len (h : Rd H H' st va vd vm l) : H.length + 4 ≤ H'.length := by have := get_lt h.tx; omega
theorem Rd.old (h : Rd H H' st va vd vm l) (f : ∀ j, j < H.length + 4 → j ≠ H.length + 2 → H2[j]? = H'[j]?) : H <+: H2 := pre_of fun j hj => (f j (by omega) (by omega)).trans (by obtain ⟨L, hL⟩ := h.pre; rw [← hL]; exact List.getElem?_append_left hj)
theorem Rd.but (h : Rd H H' st va vd vm l) (hb : But (H.length + 2) H' H2) (hr : ReadAt H2 (H.length + 2) l') : Rd H H2 st va vd vm l' := by
  have f : ∀ j, j < H.length + 4 → j ≠ H.length + 2 → H2[j]? = H'[j]? := fun j hj hn => hb.2 j (by have := h.len; omega) hn
  exact ⟨h.old f, (f _ (by omega) (by omega)).trans h.st, (f _ (by omega) (by omega)).trans h.res, hr, (f _ (by omega) (by omega)).trans h.tx⟩
theorem Rd.grow (h : Rd H H' st va vd vm l) (hp : H' <+: H2) : Rd H H2 st va vd vm l := ⟨h.pre.trans hp, pre_get hp h.st, pre_get hp h.res, h.rd.pre hp, pre_get hp h.tx⟩
theorem Rd.app {α : Type} {b k : Nat} {enc : α → List Value} {v v' : Value} {L L' : List α} (h : Rd H H' st va vd vm l) (ho : Own (H.length + 4) H' enc k v L) (ap : App b H' enc k v v' H2 L') : Rd H H2 st va vd vm l := by
  have ow : ∀ j, owner v = some j → H.length + 4 ≤ j := fun j hj => (ho.owner_ge hj).1
  have f : ∀ j, j < H.length + 4 → H2[j]? = H'[j]? := fun j hj => ap.fr j (by have := h.len; omega) fun q => by have := ow j q; omega
  obtain ⟨w, w1, w2, w3⟩ := h.rd
  exact ⟨h.old fun j hj _ => f j hj, (f _ (by omega)).trans h.st, (f _ (by omega)).trans h.res, ⟨w, (f _ (by omega)).trans w1, w2.keep fun id hid => f id (by have := w3 id hid; omega), w3⟩, (f _ (by omega)).trans h.tx⟩
theorem Rd.set (h : Rd H H' st va vd vm l) (va2 vd2 vm2 : Value) : Rd H (H'.set (H.length + 3) (.row (txV va2 vd2 vm2) 7 true)) st va2 vd2 vm2 l := by
  have f : ∀ j, j ≠ H.length + 3 → (H'.set (H.length + 3) (.row (txV va2 vd2 vm2) 7 true))[j]? = H'[j]? := fun j hj => List.getElem?_set_ne (Ne.symm hj)
  exact ⟨pre_set h.pre (by omega) _, (f _ (by omega)).trans h.st, (f _ (by omega)).trans h.res, h.rd.setK h.tx (by decide) (by omega) _, List.getElem?_set_self (get_lt h.tx)⟩
theorem own_app {α β : Type} {b b1 b2 k k2 : Nat} {enc : α → List Value} {enc2 : β → List Value} {v v' w : Value} {L L' : List α} {M : List β} (ho : Own b1 H' enc k v L) (ap : App b H' enc k v v' H2 L') (hw : Own b2 H' enc2 k2 w M) (hk : k2 ≠ k) : Own b2 H2 enc2 k2 w M :=
  hw.keep fun id hid => ap.fr id (hw.owner_ge hid).2 fun q => own_apart hw ho hk id hid q
theorem own_set {β : Type} {b2 k k2 n : Nat} {enc2 : β → List Value} {w : Value} {M : List β} {cs : List Value} (hn : H'[n]? = some (.row cs k true)) (hw : Own b2 H' enc2 k2 w M) (hk : k2 ≠ k) (o : AObj) : Own b2 (H'.set n o) enc2 k2 w M :=
  hw.keep fun id hid => List.getElem?_set_ne (Ne.symm (own_ne hw hn hk id hid))
set_option maxHeartbeats 2000000 in
theorem nextTxn (s : St) (hs : s.Ok) (t : Txn) (ht : t.Ok) (hr : Ranked s.metas) (hf : Fresh (t.drop.foldl dropL s.metas) t.add) (hm : ∀ m ∈ t.moves, 0 ≤ m.stream ∧ m.stream < s.offs.length) (hE : s.epoch < 4611686018427387904) (hsz : t.B.length ≤ 1048576)
    (am ao : Option Addr) (cm co : Nat) {v : Value} {H : AHeap} (h1 : SlA H Meta.cells 8 am s.metas) (h2 : SlA H encU 1 ao s.offs) (hv : BAt H v t.B) :
    Sound Tryz.prog 96 [.agg (stC s am ao cm co).toArray, v] H fun w H' => H <+: H' ∧ ∃ vm vo, w = .tuple #[.agg (stV (s.epoch + 1) s.term s.leader vm vo).toArray, .bool true] ∧ Own H.length H' Meta.cells 8 vm (doneS s t).metas ∧ Own H.length H' encU 1 vo (doneS s t).offs := by
  refine Sound.of_body (rs := [.cell 4 41, .tmp 5]) mixed Tryz.func96 rfl (by kernel_rfl) rfl (by kernel_rfl) ?_
  have p0 : H <+: H ++ [AObj.row (stC s am ao cm co) 5 true, AObj.row (stV 0 0 0 nilV nilV) 5 true] := List.prefix_append _ _
  have b0 := get_end H (AObj.row (stC s am ao cm co) 5 true) [AObj.row (stV 0 0 0 nilV nilV) 5 true]
  have c0 := get_end1 H (AObj.row (stC s am ao cm co) 5 true) (AObj.row (stV 0 0 0 nilV nilV) 5 true) []
  have lH : (H ++ [AObj.row (stC s am ao cm co) 5 true, AObj.row (stV 0 0 0 nilV nilV) 5 true]).length = H.length + 2 := by simp
  have hlA := ht.lenA
  have hlD := ht.lenD
  have hlM := ht.lenM
  have hND : N63 (t.drop.length : Int) := ⟨by omega, by omega⟩
  have hNM : N63 (t.moves.length : Int) := ⟨by omega, by omega⟩
  rw [Txn.B_eq] at hsz hv
  simp only [List.length_append] at hsz
  simp -dsimp only [go_sem, ↓reduceIte, Nat.reduceEqDiff, Nat.reduceAdd, Nat.reduceMul, Nat.reduceSub, Nat.reduceLeDiff, Nat.reduceLT]
  refine SoundP_of (readLaw (hv.pre p0)) ?_
  rintro _ H1 ⟨rfl, p1, n1, r1⟩
  rw [lH] at n1 r1
  have b1 := pre_get p1 b0
  have c1 := pre_get p1 c0
  have q1 := p0.trans p1
  simp -dsimp only [go_sem, ↓reduceIte, Nat.reduceEqDiff, Nat.reduceAdd, Nat.reduceMul, Nat.reduceSub, Nat.reduceLeDiff, Nat.reduceLT, lH]
  refine SoundP_of (readInt' 1 ⟨by omega, by omega⟩ _ r1 (by simp only [List.length_append]; omega)) ?_
  rintro _ H2 ⟨rfl, o2, r2⟩
  have b2 := (o2.2 H.length (by omega)).trans b1
  have c2 := (o2.2 (H.length + 1) (by omega)).trans c1
  have n2 := o2.1
  have q2 : H <+: H2 := pre_of fun j hj => (o2.2 j (by omega)).trans (by obtain ⟨L, rfl⟩ := q1; exact List.getElem?_append_left hj)
  have n2' : H2.length = H.length + 3 := by omega
  have px := List.prefix_append H2 [AObj.row (txV nilV nilV nilV) 7 true]
  have cx := get_end H2 (AObj.row (txV nilV nilV nilV) 7 true) []
  rw [n2'] at cx
  simp -dsimp only [go_sem, ↓reduceIte, Nat.reduceEqDiff, Nat.reduceAdd, Nat.reduceMul, Nat.reduceSub, Nat.reduceLeDiff, Nat.reduceLT, lH, Int.reduceBEq]
  refine SoundP_of (readInt' _ hND _ (r2.pre px) (by simp only [List.length_append]; omega)) ?_
  rintro _ H3 ⟨rfl, o3, r3⟩
  simp -dsimp only [go_sem, ↓reduceIte, Nat.reduceEqDiff, Nat.reduceAdd, Nat.reduceMul, Nat.reduceSub, Nat.reduceLeDiff, Nat.reduceLT, lH]
  refine SoundP_of (readInt' _ hNM _ r3 (by simp only [List.length_append]; omega)) ?_
  rintro _ H4 ⟨rfl, o4, r4⟩
  have o24 := o3.trans o4
  have q4 : H <+: H4 := pre_of fun j hj => (o24.2 j (by omega)).trans (by rw [List.getElem?_append_left (by omega)]; obtain ⟨L, rfl⟩ := q2; exact List.getElem?_append_left hj)
  have R4 : Rd H H4 (stC s am ao cm co) nilV nilV nilV (t.drop.flatMap Seg.B ++ (t.moves.flatMap Move.B ++ t.add.flatMap Meta.B)) :=
    ⟨q4, (o24.2 _ (by omega)).trans (pre_get px b2), (o24.2 _ (by omega)).trans (pre_get px c2), r4, (o24.2 _ (by omega)).trans cx⟩
  simp -dsimp only [go_sem, ↓reduceIte, Nat.reduceEqDiff, Nat.reduceAdd, Nat.reduceMul, Nat.reduceSub, Nat.reduceLeDiff, Nat.reduceLT, lH, n2']
  refine aloop_join (fun T H' => ∃ vd, Rd H H' (stC s am ao cm co) nilV vd nilV (t.moves.flatMap Move.B ++ t.add.flatMap Meta.B) ∧ Own (H.length + 4) H' Seg.cells 5 vd t.drop ∧ T 2 = ptrV H.length ∧ T 4 = ptrV (H.length + 1) ∧ T 6 = ptrV (H.length + 2) ∧ T 7 = ptrV (H.length + 3) ∧ T 9 = .int .i64 t.moves.length)
    (fun k T H' => ∃ (i : Nat) (vd : Value), k = t.drop.length - i ∧ i ≤ t.drop.length ∧ Rd H H' (stC s am ao cm co) nilV vd nilV ((t.drop.drop i).flatMap Seg.B ++ (t.moves.flatMap Move.B ++ t.add.flatMap Meta.B)) ∧ Own (H.length + 4) H' Seg.cells 5 vd (t.drop.take i) ∧
      T 2 = ptrV H.length ∧ T 4 = ptrV (H.length + 1) ∧ T 6 = ptrV (H.length + 2) ∧ T 7 = ptrV (H.length + 3) ∧ T 8 = .int .i64 t.drop.length ∧ T 9 = .int .i64 t.moves.length ∧ T 10 = .int .i64 (i : Nat)) (n := t.drop.length) ?_ ?_ ?_
  · refine ⟨0, nilV, ?_⟩
    simp -dsimp only [go_sem, ↓reduceIte, Nat.reduceEqDiff, Nat.reduceAdd, Nat.reduceMul, Nat.reduceSub, Nat.reduceLeDiff, Nat.reduceLT]
    exact ⟨rfl, Nat.zero_le _, by simpa using R4, Own.nil _ _ _ _, by rw [n2'], rfl⟩
  · rintro k T H' ⟨i, vd, rfl, hi, hR, ho, t2, t4, t6, t7, t8, t9, t10⟩
    cases hA : decide ((i : Int) < (t.drop.length : Int)) with
    | true =>
      have h := of_decide_eq_true hA
      have h : i < t.drop.length := by omega
      obtain ⟨x, hx⟩ := get_ex h
      have hX := ht.drop x (List.mem_of_getElem? hx)
      have hlx := Seg.B_le hX
      have hpos := Seg.B_pos x
      rw [drop_get hx, List.flatMap_cons, List.append_assoc] at hR
      have hLen : x.B.length + (((t.drop.drop (i + 1)).flatMap Seg.B).length + ((t.moves.flatMap Move.B).length + (t.add.flatMap Meta.B).length)) ≤ 1048576 := by
        have e : (t.drop.flatMap Seg.B).length = ((t.drop.take i).flatMap Seg.B).length + (x.B.length + ((t.drop.drop (i + 1)).flatMap Seg.B).length) := by
          conv => lhs; rw [← List.take_append_drop i t.drop, drop_get hx]
          rw [List.flatMap_append, List.flatMap_cons, List.length_append, List.length_append]
        omega
      have hRl : ((t.drop.drop (i + 1)).flatMap Seg.B ++ (t.moves.flatMap Move.B ++ t.add.flatMap Meta.B)).length ≤ 1048576 := by simp only [List.length_append]; omega
      generalize hRe : (t.drop.drop (i + 1)).flatMap Seg.B ++ (t.moves.flatMap Move.B ++ t.add.flatMap Meta.B) = R at *
      simp -dsimp only [go_sem, ↓reduceIte, Nat.reduceEqDiff, Nat.reduceAdd, Nat.reduceMul, Nat.reduceSub, Nat.reduceLeDiff, Nat.reduceLT, t2, t4, t6, t7, t8, t9, t10, hA]
      refine SoundP_of (leftLaw hR.rd) ?_
      rintro _ K ⟨rfl, hK⟩
      rw [hK]
      have hB : decide ((0 : Int) < ((x.B.length + R.length : Nat) : Int)) = true := decide_eq_true (by omega)
      have htx := hR.tx
      simp -dsimp only [go_sem, ↓reduceIte, Nat.reduceEqDiff, Nat.reduceAdd, Nat.reduceMul, Nat.reduceSub, Nat.reduceLeDiff, Nat.reduceLT, t2, t4, t6, t7, t8, t9, t10, hB]
      refine adrawnP_of4 [(0, 1), (1, 1), (2, 1), (3, 2), (4, 0), (5, 0), (6, 0), (7, 0)] (by kernel_rfl) ?_
      simp -dsimp only [go_sem, ↓reduceIte, Nat.reduceEqDiff, Nat.reduceAdd, Nat.reduceMul, Nat.reduceSub, Nat.reduceLeDiff, Nat.reduceLT, t2, t4, t6, t7, t8, t9, t10, htx]
      refine SoundP_of (readSeg x hX R hR.rd (by omega)) ?_
      rintro _ H7 ⟨rfl, b7, r7⟩
      have hR7 := hR.but b7 r7
      have htx7 := hR7.tx
      have ho7 := own_but ho b7 (by omega)
      have hl7 := hR7.len
      refine again_of (by simp -dsimp only [go_sem, ↓reduceIte, Nat.reduceEqDiff, Nat.reduceAdd, Nat.reduceMul, Nat.reduceSub, Nat.reduceLeDiff, Nat.reduceLT, t2, t4, t6, t7, t8, t9, t10, htx7]) ?_
      obtain ⟨v', H8, e, ap⟩ := appSeg' ho7 hl7 (by rw [List.length_take]; omega) x
      have hR8 := hR7.app ho7 ap
      have htx8 := hR8.tx
      obtain ⟨a', c', rfl, -⟩ := ap.own.sl (fun _ => rfl)
      generalize hnn : (t.drop.take i ++ [x]).length = nn at *
      simp -dsimp only [go_sem, ↓reduceIte, Nat.reduceEqDiff, Nat.reduceAdd, Nat.reduceMul, Nat.reduceSub, Nat.reduceLeDiff, Nat.reduceLT, t2, t4, t6, t7, t8, t9, t10, e, htx8, wrS (show i < 4611686018427387904 by omega)]
      exact ⟨_, by omega, i + 1, _, rfl, h, by rw [hRe]; exact hR8.set _ _ _, by rw [List.take_add_one, hx]; exact own_set htx8 ap.own (by decide) _, rfl⟩
    | false =>
      have h := of_decide_eq_false hA
      obtain rfl : i = t.drop.length := by omega
      rw [List.take_length] at ho
      rw [List.drop_length] at hR
      simp -dsimp only [go_sem, ↓reduceIte, Nat.reduceEqDiff, Nat.reduceAdd, Nat.reduceMul, Nat.reduceSub, Nat.reduceLeDiff, Nat.reduceLT, t2, t4, t6, t7, t8, t9, t10, hA]
      exact ⟨vd, by simpa using hR, ho⟩
  · rintro T H5 ⟨vd, hR5, hod, t2, t4, t6, t7, t9⟩
    simp -dsimp only [go_sem, ↓reduceIte, Nat.reduceEqDiff, Nat.reduceAdd, Nat.reduceMul, Nat.reduceSub, Nat.reduceLeDiff, Nat.reduceLT, t2, t4, t6, t7, t9]
    refine aloop_join (fun T H' => ∃ vd vm, Rd H H' (stC s am ao cm co) nilV vd vm (t.add.flatMap Meta.B) ∧ Own (H.length + 4) H' Seg.cells 5 vd t.drop ∧ Own (H.length + 4) H' Move.cells 3 vm (t.moves.map Move.strip) ∧ T 2 = ptrV H.length ∧ T 4 = ptrV (H.length + 1) ∧ T 6 = ptrV (H.length + 2) ∧ T 7 = ptrV (H.length + 3))
      (fun k T H' => ∃ (i : Nat) (vd vm : Value), k = t.moves.length - i ∧ i ≤ t.moves.length ∧ Rd H H' (stC s am ao cm co) nilV vd vm ((t.moves.drop i).flatMap Move.B ++ t.add.flatMap Meta.B) ∧ Own (H.length + 4) H' Seg.cells 5 vd t.drop ∧ Own (H.length + 4) H' Move.cells 3 vm ((t.moves.take i).map Move.strip) ∧
        T 2 = ptrV H.length ∧ T 4 = ptrV (H.length + 1) ∧ T 6 = ptrV (H.length + 2) ∧ T 7 = ptrV (H.length + 3) ∧ T 9 = .int .i64 t.moves.length ∧ T 11 = .int .i64 (i : Nat)) (n := t.moves.length) ?_ ?_ ?_
    · refine ⟨0, vd, nilV, ?_⟩
      simp -dsimp only [go_sem, ↓reduceIte, Nat.reduceEqDiff, Nat.reduceAdd, Nat.reduceMul, Nat.reduceSub, Nat.reduceLeDiff, Nat.reduceLT, t2, t4, t6, t7, t9]
      exact ⟨rfl, Nat.zero_le _, by simpa using hR5, hod, Own.nil _ _ _ _, rfl⟩
    · rintro k T H' ⟨i, vd, vm, rfl, hi, hR, hod, hom, t2, t4, t6, t7, t9, t11⟩
      cases hA : decide ((i : Int) < (t.moves.length : Int)) with
      | true =>
        have h := of_decide_eq_true hA
        have h : i < t.moves.length := by omega
        obtain ⟨x, hx⟩ := get_ex h
        have hxm : x ∈ t.moves := List.mem_of_getElem? hx
        have hX := ht.moves x hxm
        have hlx := Move.B_le hX
        have hpos := Move.B_pos x
        have hst := hm x hxm
        rw [drop_get hx, List.flatMap_cons, List.append_assoc] at hR
        have hRl : ((t.moves.drop (i + 1)).flatMap Move.B ++ t.add.flatMap Meta.B).length ≤ 1048576 := by
          have e : (t.moves.flatMap Move.B).length = ((t.moves.take i).flatMap Move.B).length + (x.B.length + ((t.moves.drop (i + 1)).flatMap Move.B).length) := by
            conv => lhs; rw [← List.take_append_drop i t.moves, drop_get hx]
            rw [List.flatMap_append, List.flatMap_cons, List.length_append, List.length_append]
          rw [List.length_append]; omega
        generalize hRe : (t.moves.drop (i + 1)).flatMap Move.B ++ t.add.flatMap Meta.B = R at *
        simp -dsimp only [go_sem, ↓reduceIte, Nat.reduceEqDiff, Nat.reduceAdd, Nat.reduceMul, Nat.reduceSub, Nat.reduceLeDiff, Nat.reduceLT, t2, t4, t6, t7, t9, t11, hA]
        refine SoundP_of (leftLaw hR.rd) ?_
        rintro _ K ⟨rfl, hK⟩
        rw [hK]
        have hB : decide ((0 : Int) < ((x.B.length + R.length : Nat) : Int)) = true := decide_eq_true (by omega)
        have lu := uintB_le hX.to_
        simp -dsimp only [go_sem, ↓reduceIte, Nat.reduceEqDiff, Nat.reduceAdd, Nat.reduceMul, Nat.reduceSub, Nat.reduceLeDiff, Nat.reduceLT, t2, t4, t6, t7, t9, t11, hB]
        refine SoundP_of (readInt' x.stream hX.stream (uintB x.to_ ++ R) (by have := hR.rd; rwa [Move.B, List.append_assoc] at this) (by rw [List.length_append]; omega)) ?_
        rintro _ H6 ⟨rfl, o6, r6⟩
        simp -dsimp only [go_sem, ↓reduceIte, Nat.reduceEqDiff, Nat.reduceAdd, Nat.reduceMul, Nat.reduceSub, Nat.reduceLeDiff, Nat.reduceLT, t2, t4, t6, t7, t9, t11]
        refine SoundP_of (readUint' x.to_ hX.to_ R r6 (by omega)) ?_
        rintro _ H7 ⟨rfl, o7, r7⟩
        have b7 := (o6.trans o7).but
        have hR7 := hR.but b7 r7
        have htx7 := hR7.tx
        have hst7 := hR7.st
        have hod7 := own_but hod b7 (by omega)
        have hom7 := own_but hom b7 (by omega)
        have hl7 := hR7.len
        have ew : IntKind.i64.wrap x.stream = x.stream := wr64 (by have := hX.stream.1; omega) (by have := hX.stream.2; omega)
        have y1 : decide (x.stream < 0) = false := decide_eq_false (by omega)
        have y2 : decide ((s.offs.length : Int) ≤ x.stream) = false := decide_eq_false (by omega)
        have px8 := List.prefix_append H7 [AObj.row (Move.cells ⟨x.stream, 0, x.to_⟩) 3 true]
        have hR8 := hR7.grow px8
        have htx8 := hR8.tx
        have hst8 := hR8.st
        have hod8 := hod7.pre px8
        have hom8 := hom7.pre px8
        have hl8 := hR8.len
        have hcx := get_end H7 (AObj.row (Move.cells ⟨x.stream, 0, x.to_⟩) 3 true) []
        obtain ⟨v', H9, e, ap⟩ := appMv hom8 hl8 (by rw [List.length_map, List.length_take]; omega) ⟨x.stream, 0, x.to_⟩
        simp only [List.append_assoc, List.cons_append, List.nil_append, List.length_append, List.length_cons, List.length_nil, Nat.zero_add] at e
        have hR9 := hR8.app hom8 ap
        have htx9 := hR9.tx
        have hod9 := own_app hom8 ap hod8 (by decide)
        obtain ⟨a', c', rfl, -⟩ := ap.own.sl (fun _ => rfl)
        generalize hnn : ((t.moves.take i).map Move.strip ++ [(⟨x.stream, 0, x.to_⟩ : Move)]).length = nn at *
        simp -dsimp only [go_sem, ↓reduceIte, Nat.reduceEqDiff, Nat.reduceAdd, Nat.reduceMul, Nat.reduceSub, Nat.reduceLeDiff, Nat.reduceLT, t2, t4, t6, t7, t9, t11, ew, y1, y2, hst8, htx8, e, htx9, wrS (show i < 4611686018427387904 by omega)]
        exact ⟨_, by omega, i + 1, vd, _, rfl, h, by rw [hRe]; exact hR9.set _ _ _, own_set htx9 hod9 (by decide) _, by rw [List.take_add_one, hx, List.map_append]; exact own_set htx9 ap.own (by decide) _, rfl⟩
      | false =>
        have h := of_decide_eq_false hA
        obtain rfl : i = t.moves.length := by omega
        rw [List.take_length] at hom
        rw [List.drop_length] at hR
        simp -dsimp only [go_sem, ↓reduceIte, Nat.reduceEqDiff, Nat.reduceAdd, Nat.reduceMul, Nat.reduceSub, Nat.reduceLeDiff, Nat.reduceLT, t2, t4, t6, t7, t9, t11, hA]
        exact ⟨vd, vm, by simpa using hR, hod, hom⟩
    · rintro T H6 ⟨vd, vm, hR6, hod, hom, t2, t4, t6, t7⟩
      have hl6 := hR6.len
      simp -dsimp only [go_sem, ↓reduceIte, Nat.reduceEqDiff, Nat.reduceAdd, Nat.reduceMul, Nat.reduceSub, Nat.reduceLeDiff, Nat.reduceLT, t2, t4, t6, t7]
      refine SoundP_of (readMetas t.add ht.add hlA hR6.rd) ?_
      rintro va H7 ⟨oa, b7, r7⟩
      have hR7 := hR6.but b7 r7
      have htx7 := hR7.tx
      have hod7 := own_but hod b7 (by omega)
      have hom7 := own_but hom b7 (by omega)
      obtain ⟨aa, ca, rfl, -⟩ := oa.sl (fun _ => rfl)
      simp -dsimp only [go_sem, ↓reduceIte, Nat.reduceEqDiff, Nat.reduceAdd, Nat.reduceMul, Nat.reduceSub, Nat.reduceLeDiff, Nat.reduceLT, t2, t4, t6, t7, htx7]
      have hR8 := hR7.set (.slice aa t.add.length ca) vd vm
      have oa8 := own_set htx7 oa (by decide) (.row (txV (.slice aa t.add.length ca) vd vm) 7 true)
      have hod8 := own_set htx7 hod7 (by decide) (.row (txV (.slice aa t.add.length ca) vd vm) 7 true)
      have hom8 := own_set htx7 hom7 (by decide) (.row (txV (.slice aa t.add.length ca) vd vm) 7 true)
      generalize H7.set (H.length + 3) (.row (txV (.slice aa t.add.length ca) vd vm) 7 true) = H8 at *
      have htx8 := hR8.tx
      have hst8 := hR8.st
      obtain ⟨ad, cd, rfl, sd⟩ := hod8.sl (fun _ => rfl)
      obtain ⟨av, cv, rfl, sv⟩ := hom8.sl (fun _ => rfl)
      have sa := (oa8.slA (fun _ => rfl)).2
      have hlS := hs.len
      have hlO := hs.lenO
      simp -dsimp only [go_sem, ↓reduceIte, Nat.reduceEqDiff, Nat.reduceAdd, Nat.reduceMul, Nat.reduceSub, Nat.reduceLeDiff, Nat.reduceLT, t2, t4, t6, t7, htx8, hst8]
      have hd := doneLaw s t.strip am ao aa ad av cm co ca cd cv H8 (h1.pre hR8.pre) (h2.pre hR8.pre) sa sd sv hr hf (fun m hmm => by
        obtain ⟨m0, hm0, rfl⟩ := List.mem_map.1 hmm
        exact hm m0 hm0) hlS hlO hlA hlD (by show (t.moves.map Move.strip).length ≤ 8; rw [List.length_map]; omega) ⟨by have := hs.epoch.1; omega, hE⟩
      rw [strip_done] at hd
      refine SoundP_of hd ?_
      rintro _ H9 ⟨p9, vm9, vo9, rfl, om9, oo9⟩
      have hR9 := hR8.grow p9
      have hc9 := hR9.res
      simp -dsimp only [go_sem, ↓reduceIte, Nat.reduceEqDiff, Nat.reduceAdd, Nat.reduceMul, Nat.reduceSub, Nat.reduceLeDiff, Nat.reduceLT, t2, t4, t6, t7]
      refine SoundP_of (endLaw hR9.rd) ?_
      rintro _ K ⟨rfl, hK⟩
      rw [hK]
      clear hK
      have hc10 := List.getElem?_set_self (a := AObj.row (stV (s.epoch + 1) s.term s.leader vm9 vo9) 5 true) (get_lt hc9)
      have hl8 := hR8.len
      have om10 := own_set hc9 om9 (by decide) (.row (stV (s.epoch + 1) s.term s.leader vm9 vo9) 5 true)
      have oo10 := own_set hc9 oo9 (by decide) (.row (stV (s.epoch + 1) s.term s.leader vm9 vo9) 5 true)
      have hp10 := pre_set hR9.pre (Nat.le_succ _) (.row (stV (s.epoch + 1) s.term s.leader vm9 vo9) 5 true)
      simp -dsimp only [go_sem, ↓reduceIte, Nat.reduceEqDiff, Nat.reduceAdd, Nat.reduceMul, Nat.reduceSub, Nat.reduceLeDiff, Nat.reduceLT, t2, t4, t6, t7, hc9, own_one om9, own_one oo9, Int.reduceBEq]
      generalize H9.set (H.length + 1) (.row (stV (s.epoch + 1) s.term s.leader vm9 vo9) 5 true) = H10 at *
      simp -dsimp only [go_sem, ↓reduceIte, Nat.reduceEqDiff, Nat.reduceAdd, Nat.reduceMul, Nat.reduceSub, Nat.reduceLeDiff, Nat.reduceLT, t2, t4, t6, t7, hc10]
      exact ⟨hp10, vm9, vo9, rfl, om10.mono (by omega), oo10.mono (by omega)⟩
end Go.Proofs.YtekpdopbiklkfaaGreatDoor
end
