/-
  Timeline.Remove.
-/
import Derived.Test.YthbifkeadbmcnaaMade
set_option linter.unusedVariables false
set_option linter.unusedSimpArgs false
namespace Go.Proofs.Ythbifkeadbmcnaa
open Go Go.AW
set_option linter.unusedSimpArgs false
set_option maxRecDepth 20000

/-- what Remove makes of it -/
inductive RemTo (C : List KL) (s : Seg) : Int → List KL → Prop
  | bad (h : mayB s = false) : RemTo C s 1 C
  | none (h : mayB s = true) (hn : ∀ x ∈ C, ¬ s ∈ x.2) : RemTo C s 120 C
  | some {A B : List KL} {l : List Seg} {i : Nat} (h : mayB s = true) (hc : C = A ++ (s.key, l) :: B) (hi : l[i]? = some s) (hl : 1 < l.length) : RemTo C s 0 (A ++ (s.key, l.take i ++ l.drop (i + 1)) :: B)
  | last {A B : List KL} (h : mayB s = true) (hc : C = A ++ (s.key, [s]) :: B) : RemTo C s 0 (A ++ B)
theorem rise_one {l : List Seg} (hr : Rises l) {y z : Seg} (hy : y ∈ l) (hz : z ∈ l) (h : y.p = z.p) : y = z := by
  obtain ⟨i, hi⟩ := List.mem_iff_getElem?.1 hy
  obtain ⟨j, hj⟩ := List.mem_iff_getElem?.1 hz
  obtain ⟨h1, rfl⟩ := List.getElem?_eq_some_iff.1 hi
  obtain ⟨h2, rfl⟩ := List.getElem?_eq_some_iff.1 hj
  have hp : l.Pairwise fun a b => a.p < b.p := hr
  rw [List.pairwise_iff_getElem] at hp
  rcases Nat.lt_trichotomy i j with q | q | q
  · have := hp i j h1 h2 q; omega
  · subst q; rfl
  · have := hp j i h2 h1 q; omega
theorem del_sub (l : List Seg) (i : Nat) : (l.take i ++ l.drop (i + 1)).Sublist l := by
  rw [← List.eraseIdx_eq_take_drop_succ]; exact List.eraseIdx_sublist ..
theorem good_del {k : Key} {l : List Seg} {i : Nat} (h : GoodS k l) (hi : i < l.length) (hl : 1 < l.length) : GoodS k (l.take i ++ l.drop (i + 1)) := by
  have sub := del_sub l i
  refine ⟨?_, h.rise.sublist sub, fun s hs => h.key s (sub.subset hs), fun s hs z hz => h.core s (sub.subset hs) z (sub.subset hz), fun s hs => h.may s (sub.subset hs)⟩
  rw [List.length_append, List.length_take, List.length_drop]; omega
theorem mdel_ids {A B : List SetS} {x : SetS} (hA : ∀ y ∈ A, y.k ≠ x.k) : mdel (idsOf (A ++ x :: B)) x.k = idsOf (A ++ B) := by
  induction A with
  | nil => simp [idsOf, mdel]
  | cons y A ih =>
    have h1 := hA y (by simp)
    have ih := ih fun z hz => hA z (by simp [hz])
    simp only [idsOf, List.cons_append, List.map_cons] at ih ⊢
    simp only [mdel, if_neg h1]
    rw [ih]
/-- a set taken out -/
theorem TimeAt.drop {b : Nat} {H H' : AHeap} {p m : Nat} {A B : List SetS} {x : SetS} (h : TimeAt b H p m (A ++ x :: B)) (hp : x.id ≠ p) (hf : ∀ j, j < H.length → j ≠ x.id → owner x.sv ≠ some j → H'[j]? = H[j]?) :
    ∃ o, adelete Try.prog H' 68 (.map (some m)) (Key.val x.k) = some (H'.set m o) ∧ TimeAt b (H'.set m o) p m (A ++ B) := by
  have hxM : x ∈ A ++ x :: B := by simp
  have nm := h.ne_m hxM
  have hd' : DictAt H' m Key.val ptrV (idsOf (A ++ x :: B)) := h.dict.keep (hf m h.dict.lt (Ne.symm nm.1) fun q => nm.2 m q rfl)
  obtain ⟨o, h1, h2⟩ := hd'.delete (t := 68) keyLaw mt68 x.k
  have hno := h.nodup
  rw [List.pairwise_append, List.pairwise_cons] at hno
  rw [mdel_ids fun y hy => hno.2.2 y hy x (by simp)] at h2
  have memM : ∀ y, y ∈ A ++ B → y ∈ A ++ x :: B := fun y hy => by
    rcases List.mem_append.1 hy with q | q <;> simp [q]
  have pm : p ≠ m := dict_ne_row h.dict h.at_
  refine ⟨o, h1, h.bp, h.bm, ?_, h2, fun y hy => ?_, ?_, fun y hy => h.good y (memM y hy), fun y hy => h.len y (memM y hy)⟩
  · rw [List.getElem?_set_ne (Ne.symm pm), hf p h.lt (Ne.symm hp) (h.cross hxM hxM).2]; exact h.at_
  · obtain ⟨q1, q2, q3⟩ := h.other hy
    have o := h.old q1
    have nmy := h.ne_m q1
    refine (h.sets y q1).keep ?_ fun j hj => ?_
    · rw [List.getElem?_set_ne (Ne.symm nmy.1)]; exact hf _ o.1 q2 (h.cross hxM q1).1
    · rw [List.getElem?_set_ne (Ne.symm (nmy.2 j hj))]; exact hf j (o.2 j hj).1 (fun q => (h.cross q1 hxM).1 (q ▸ hj)) (q3 j hj)
  · have ha := h.apart
    rw [List.pairwise_append, List.pairwise_cons] at ha
    rw [List.pairwise_append]
    exact ⟨ha.1, ha.2.1.2, fun y hy z hz => ha.2.2 y hy z (by simp [hz])⟩
theorem tlRemove (s : Seg) (b : Nat) (H : AHeap) (p m : Nat) (M : List SetS) (h : TimeAt b H p m M) (hb : b ≤ H.length) :
    Sound Try.prog 28 [ptrV p, s.val] H fun v H' => ∃ M' e, v = .int .i64 e ∧ TimeAt b H' p m M' ∧ RemTo (cont M) s e (cont M') ∧ H.length ≤ H'.length ∧
      (∀ j, j < H.length → ¬ footT p m M j → H'[j]? = H[j]?) ∧ (∀ j, footT p m M' j → footT p m M j ∨ H.length ≤ j) := by
  refine Sound.of_body (rs := [.tmp 4]) mixed Try.func28 rfl (by kernel_rfl) rfl (by kernel_rfl) ?_
  simp -dsimp only [go_sem, ↓reduceIte, Nat.reduceEqDiff, Nat.reduceAdd, Nat.reduceMul, Nat.reduceSub, Nat.reduceLeDiff, Nat.reduceLT]
  refine SoundP_of (may s _) ?_
  rintro _ H1 ⟨rfl, hp1⟩
  have hb1 := pre_get hp1 (get_end H _ [])
  have p01 : H <+: H1 := (List.prefix_append _ _).trans hp1
  simp -dsimp only [go_sem, ↓reduceIte, Nat.reduceEqDiff, Nat.reduceAdd, Nat.reduceMul, Nat.reduceSub, Nat.reduceLeDiff, Nat.reduceLT]
  refine acondP_of (fun hm => ?_) (fun hm => ?_)
  · simp at hm
    simp -dsimp only [go_sem, ↓reduceIte, Nat.reduceEqDiff, Nat.reduceAdd, Nat.reduceMul, Nat.reduceSub, Nat.reduceLeDiff, Nat.reduceLT]
    refine ⟨M, 1, rfl, h.pre p01, .bad hm, pre_len p01, fun j hj _ => ?_, fun j hj => .inl hj⟩
    rw [pre_get p01 (List.getElem?_eq_getElem hj), List.getElem?_eq_getElem hj]
  simp at hm
  have h1 := h.pre p01
  have hk := h1.pre (List.prefix_append H1 [AObj.row [.int .i64 s.f, .int .i64 s.t, .int .i64 s.v] 3 true])
  have lk := look_sets hk s.key
  have hm1 := hk.at_
  simp -dsimp only [go_sem, ↓reduceIte, Nat.reduceEqDiff, Nat.reduceAdd, Nat.reduceMul, Nat.reduceSub, Nat.reduceLeDiff, Nat.reduceLT, hb1]
  refine adrawnP_of2 [(0, false), (1, false), (2, false), (3, false), (4, false), (5, false), (6, false)] (by kernel_rfl) ?_
  cases hg : mget (idsOf M) s.key with
  | none =>
    rw [hg] at lk
    simp -dsimp only [go_sem, ↓reduceIte, Nat.reduceEqDiff, Nat.reduceAdd, Nat.reduceMul, Nat.reduceSub, Nat.reduceLeDiff, Nat.reduceLT, hm1, show (Value.agg #[.int .i64 s.f, .int .i64 s.t, .int .i64 s.v]) = s.key.val from rfl, lk, Option.map_none, Option.getD_none]
    refine ⟨M, 120, rfl, hk, .none hm fun x hx hs => ?_, by have := pre_len p01; omega, fun j hj _ => ?_, fun j hj => .inl hj⟩
    · obtain ⟨y, hy, rfl⟩ := List.mem_map.1 hx
      exact mget_ids_none hg y hy ((h.good y hy).key s hs).symm
    · rw [List.getElem?_append_left (by have := pre_len p01; omega), pre_get p01 (List.getElem?_eq_getElem hj), List.getElem?_eq_getElem hj]
  | some id =>
    rw [hg] at lk
    obtain ⟨A, x, B, rfl, hxk, rfl⟩ := mget_ids hg
    have hb2 := get_app hb1
    have hx := hk.sets x (by simp)
    have hgd := hk.good x (by simp)
    have hl := hk.len x (by simp)
    simp -dsimp only [go_sem, ↓reduceIte, Nat.reduceEqDiff, Nat.reduceAdd, Nat.reduceMul, Nat.reduceSub, Nat.reduceLeDiff, Nat.reduceLT, hm1, show (Value.agg #[.int .i64 s.f, .int .i64 s.t, .int .i64 s.v]) = s.key.val from rfl, lk, Option.map_some, Option.getD_some, hb2]
    refine SoundP_of (tlPart x s.p b _ hx (by omega) hgd.rise) ?_
    rintro _ H2 ⟨i, rfl, hi, hp2⟩
    have k2 := hk.pre hp2
    have hb3 := pre_get hp2 (hb2 _)
    have hkk := pre_get hp2 (get_end H1 (AObj.row [.int .i64 s.f, .int .i64 s.t, .int .i64 s.v] 3 true) [])
    have p02 := (p01.trans (List.prefix_append _ _)).trans hp2
    clear hk lk hm1 hx
    have same : ∀ j, j < H.length → H2[j]? = H[j]? := fun j hj => by rw [pre_get p02 (List.getElem?_eq_getElem hj), List.getElem?_eq_getElem hj]
    have hcont : cont (A ++ x :: B) = cont A ++ (s.key, x.l) :: cont B := by rw [← hxk]; simp [cont]
    have hothers : ∀ (l' : Prop), (s ∈ x.l → l') → (∀ y ∈ cont (A ++ x :: B), s ∈ y.2 → l') := fun l' hl' y hy hs => by
      obtain ⟨z, hz, rfl⟩ := List.mem_map.1 hy
      have hzk := (k2.good z hz).key s hs
      have : z = x := pair_uniq (f := SetS.k) k2.nodup hz (by simp) (by rw [← hzk, hxk])
      subst this; exact hl' hs
    simp -dsimp only [go_sem, ↓reduceIte, Nat.reduceEqDiff, Nat.reduceAdd, Nat.reduceMul, Nat.reduceSub, Nat.reduceLeDiff, Nat.reduceLT]
    refine adrawnP_of2 [(0, false), (1, false), (2, false), (3, false), (4, false), (5, false), (6, false), (7, false), (8, false), (9, false), (10, false), (11, false), (12, false)] (by kernel_rfl) ?_
    have no : (¬ s ∈ x.l) → ∃ M' e, (Value.int .i64 120) = .int .i64 e ∧ TimeAt b H2 p m M' ∧ RemTo (cont (A ++ x :: B)) s e (cont M') ∧ H.length ≤ H2.length ∧
        (∀ j, j < H.length → ¬ footT p m (A ++ x :: B) j → H2[j]? = H[j]?) ∧ (∀ j, footT p m M' j → footT p m (A ++ x :: B) j ∨ H.length ≤ j) := fun hs =>
      ⟨A ++ x :: B, 120, rfl, k2, .none hm fun y hy hs' => hothers False hs y hy hs', pre_len p02, fun j hj _ => same j hj, fun j hj => .inl hj⟩
    have hx2 := k2.sets x (by simp)
    obtain ⟨a, c, hv, hsl⟩ := hx2.own.sl (fun _ => rfl)
    have hxat := hx2.at_
    rw [hv] at hxat
    cases hc : decide (∃ z, x.l[i]? = some z ∧ z.p = s.p) with
    | false =>
      simp -dsimp only [go_sem, ↓reduceIte, Nat.reduceEqDiff, Nat.reduceAdd, Nat.reduceMul, Nat.reduceSub, Nat.reduceLeDiff, Nat.reduceLT, hc]
      exact no fun hs => place_none hgd.rise hi (of_decide_eq_false hc) s hs rfl
    | true =>
      obtain ⟨z, hz, hzp⟩ := of_decide_eq_true hc
      have hil := (List.getElem?_eq_some_iff.1 hz).1
      obtain ⟨ia, oa, rfl, hat⟩ := hsl.at hgd.ne
      simp -dsimp only [go_sem, ↓reduceIte, Nat.reduceEqDiff, Nat.reduceAdd, Nat.reduceMul, Nat.reduceSub, Nat.reduceLeDiff, Nat.reduceLT, hc, hxat, hb3, inRange hil, rowLoad_whole (hat i z hz), segEqB]
      refine acondP_of (fun hzs => ?_) (fun hzs => ?_)
      · have hzs : z ≠ s := by simpa using hzs
        simp -dsimp only [go_sem, ↓reduceIte, Nat.reduceEqDiff, Nat.reduceAdd, Nat.reduceMul, Nat.reduceSub, Nat.reduceLeDiff, Nat.reduceLT]
        exact no fun hs => hzs (rise_one hgd.rise (List.mem_of_getElem? hz) hs hzp)
      have hzs : z = s := by simpa using hzs
      subst hzs
      simp -dsimp only [go_sem, ↓reduceIte, Nat.reduceEqDiff, Nat.reduceAdd, Nat.reduceMul, Nat.reduceSub, Nat.reduceLeDiff, Nat.reduceLT, hxat, wrS (show i < 4611686018427387904 by omega)]
      have own3 := hx2.own
      rw [hv] at own3
      refine SoundP_of (deleteS x.l i hil b _ H2 own3 (by omega)) ?_
      rintro v5 H5 ⟨own5, len5, fr5, ow5⟩
      rw [← hv] at fr5 ow5
      have old := k2.old (x := x) (by simp)
      have xr : H5[x.id]? = some (.row [.int .i64 x.k.f, .int .i64 x.k.t, .int .i64 x.k.v, x.sv] 4 true) := by
        rw [fr5 _ (fun q => (old.2 _ q).2 rfl)]; exact hx2.at_
      obtain ⟨a5, c5, hv5, -⟩ := own5.sl (fun _ => rfl)
      generalize hn5 : (x.l.take i ++ x.l.drop (i + 1)).length = n5 at hv5
      subst hv5
      have hxp : x.id ≠ p := fun q => by have h1 := hx2.at_; rw [q, k2.at_] at h1; simp at h1
      have xlt := get_lt xr
      have len6 : (x.l.take i ++ x.l.drop (i + 1)).length = x.l.length - 1 := by rw [List.length_append, List.length_take, List.length_drop]; omega
      have n2 := pre_len p02
      simp -dsimp only [go_sem, ↓reduceIte, Nat.reduceEqDiff, Nat.reduceAdd, Nat.reduceMul, Nat.reduceSub, Nat.reduceLeDiff, Nat.reduceLT, xr]
      generalize hH6 : H5.set x.id (AObj.row [.int .i64 x.k.f, .int .i64 x.k.t, .int .i64 x.k.v, .slice a5 n5 c5] 4 true) = H6 at *
      have xr6 : H6[x.id]? = some (.row [.int .i64 x.k.f, .int .i64 x.k.t, .int .i64 x.k.v, .slice a5 n5 c5] 4 true) := by rw [← hH6]; exact List.getElem?_set_self xlt
      have l6 : H6.length = H2.length := by rw [← hH6, List.length_set]; omega
      have fr6 : ∀ j, j ≠ x.id → owner x.sv ≠ some j → H6[j]? = H2[j]? := fun j h1 h2 => by rw [← hH6, List.getElem?_set_ne (Ne.symm h1)]; exact fr5 j h2
      have own6 : OwnS b H6 (.slice a5 n5 c5) (x.l.take i ++ x.l.drop (i + 1)) := own5.keep fun j hj => by
        rw [← hH6]
        exact List.getElem?_set_ne (by rintro rfl; exact (old.2 _ (ow5 _ hj)).2 rfl)
      have h1old := h1.old (x := x) (by simp)
      have hkk6 : H6[H1.length]? = some (.row [.int .i64 z.f, .int .i64 z.t, .int .i64 z.v] 3 true) := (fr6 _ (by omega) (fun q => by have := (h1old.2 _ q).1; omega)).trans hkk
      have p6 : H6[p]? = some (.row [.map (some m)] 1 true) := (fr6 p (Ne.symm hxp) (k2.cross (x := x) (y := x) (by simp) (by simp)).2).trans k2.at_
      have hframe : ∀ j, j < H.length → ¬ footT p m (A ++ x :: B) j → H6[j]? = H[j]? := fun j hj hf => by
        rw [fr6 j (fun q => hf (.inr (.inr ⟨x, by simp, .inl q⟩))) (fun q => hf (.inr (.inr ⟨x, by simp, .inr q⟩)))]; exact same j hj
      simp -dsimp only [go_sem, ↓reduceIte, Nat.reduceEqDiff, Nat.reduceAdd, Nat.reduceMul, Nat.reduceSub, Nat.reduceLeDiff, Nat.reduceLT, xr6]
      refine acondP_of (fun h0 => ?_) (fun h0 => ?_)
      · have h0 : n5 = 0 := by simpa using h0
        obtain ⟨o, hdel, hT⟩ := k2.drop hxp (H' := H6) fun j _ q1 q2 => fr6 j q1 q2
        rw [hxk] at hdel
        have hdel2 : adelete Try.prog H6 68 (.map (some m)) (.agg #[.int .i64 z.f, .int .i64 z.t, .int .i64 z.v]) = some (H6.set m o) := hdel
        have hone : x.l = [z] := by
          have h2 : x.l.length = 1 := by have := hgd.ne; omega
          obtain ⟨y, hy⟩ := List.length_eq_one_iff.1 h2
          rw [hy] at hz
          have : i = 0 := by rw [hy] at hil; simpa using hil
          subst this
          simp at hz
          rw [hy, hz]
        simp -dsimp only [go_sem, ↓reduceIte, Nat.reduceEqDiff, Nat.reduceAdd, Nat.reduceMul, Nat.reduceSub, Nat.reduceLeDiff, Nat.reduceLT]
        refine adrawnP_of2 [(0, false), (1, false), (2, false), (3, false), (4, false), (5, false)] (by kernel_rfl) ?_
        simp -dsimp only [go_sem, ↓reduceIte, Nat.reduceEqDiff, Nat.reduceAdd, Nat.reduceMul, Nat.reduceSub, Nat.reduceLeDiff, Nat.reduceLT, p6, hkk6, hdel2]
        refine ⟨A ++ B, 0, rfl, hT, ?_, by rw [List.length_set]; omega, fun j hj hf => ?_, fun j hj => ?_⟩
        · rw [hcont, hone]
          have := RemTo.last (C := cont A ++ (z.key, [z]) :: cont B) (s := z) hm rfl
          simpa [cont] using this
        · rw [List.getElem?_set_ne (fun q => hf (.inr (.inl q.symm)))]; exact hframe j hj hf
        · rcases hj with rfl | rfl | ⟨y, hy, hj⟩
          · exact .inl (.inl rfl)
          · exact .inl (.inr (.inl rfl))
          · exact .inl (.inr (.inr ⟨y, by rcases List.mem_append.1 hy with q | q <;> simp [q], hj⟩))
      · have h0 : n5 ≠ 0 := by simpa using h0
        simp -dsimp only [go_sem, ↓reduceIte, Nat.reduceEqDiff, Nat.reduceAdd, Nat.reduceMul, Nat.reduceSub, Nat.reduceLeDiff, Nat.reduceLT]
        have gS := good_del hgd hil (by omega)
        refine ⟨A ++ ⟨x.id, x.k, .slice a5 n5 c5, x.l.take i ++ x.l.drop (i + 1)⟩ :: B, 0, rfl, ?_, ?_, by omega, hframe, fun j hj => ?_⟩
        · exact k2.swap rfl rfl hxp (fun j _ q1 q2 => fr6 j q1 q2) ⟨hx2.ge, xr6, own6⟩ (fun j hj => .inl (ow5 j hj)) gS (show (x.l.take i ++ x.l.drop (i + 1)).length < 900 by omega)
        · rw [hcont]
          have := RemTo.some (C := cont A ++ (z.key, x.l) :: cont B) hm rfl hz (by omega)
          rw [← hxk] at this ⊢
          simpa [cont] using this
        · rcases hj with rfl | rfl | ⟨y, hy, hj⟩
          · exact .inl (.inl rfl)
          · exact .inl (.inr (.inl rfl))
          · rcases List.mem_append.1 hy with hy | hy
            · exact .inl (.inr (.inr ⟨y, by simp [hy], hj⟩))
            · rcases List.mem_cons.1 hy with rfl | hy
              · rcases hj with rfl | hj
                · exact .inl (.inr (.inr ⟨x, by simp, .inl rfl⟩))
                · exact .inl (.inr (.inr ⟨x, by simp, .inr (ow5 j hj)⟩))
              · exact .inl (.inr (.inr ⟨y, by simp [hy], hj⟩))
end Go.Proofs.Ythbifkeadbmcnaa
