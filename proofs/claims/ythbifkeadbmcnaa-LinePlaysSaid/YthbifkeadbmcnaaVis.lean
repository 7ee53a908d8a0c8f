/-
  Timeline.Visible.
-/
import Derived.Test.YthbifkeadbmcnaaCov2
set_option linter.unusedVariables false
set_option linter.unusedSimpArgs false
namespace Go.Proofs.Ythbifkeadbmcnaa
open Go Go.AW Go.Bub
set_option linter.unusedSimpArgs false
set_option maxRecDepth 20000

/-- what Visible answers -/
def visL (C : List KL) : List Seg := sortL ((C.filter fun x => (strsC C).any fun s => decide (s.k = x.1)).flatMap fun x => x.2)
theorem mput_same {κ ν : Type} [DecidableEq κ] {k : κ} {v : ν} : ∀ {m : List (κ × ν)}, mget m k = some v → mput m k v = m
  | [], h => by cases h
  | (a, w) :: m, h => by
    simp only [mget] at h
    simp only [mput]
    split at h
    · rename_i q; cases h; rw [if_pos q, q]
    · rename_i q; rw [if_neg q, mput_same h]
/-- put once more, it stays -/
theorem mput_ids {D : List SetS} {x : SetS} (hn : (mkeys (idsOf D)).Nodup) (hu : ∀ y ∈ D, y.k = x.k → y = x) : ∃ D', mput (idsOf D) x.k x.id = idsOf D' ∧ ∀ y, y ∈ D' ↔ y ∈ D ∨ y = x := by
  cases hg : mget (idsOf D) x.k with
  | some id =>
    obtain ⟨A, y, B, rfl, hk, hid⟩ := mget_ids hg
    have hyx := hu y (by simp) hk
    refine ⟨A ++ y :: B, ?_, fun z => ⟨.inl, fun h => h.elim (fun h => h) fun h => by rw [h, ← hyx]; simp⟩⟩
    exact mput_same (by rw [hg, ← hid, hyx])
  | none =>
    refine ⟨D ++ [x], ?_, fun z => by simp⟩
    rw [cells_push (ek := Key.val) (ev := ptrV) _ hg]
    simp [idsOf]
theorem tlVisible (b : Nat) (H : AHeap) (p m : Nat) (M : List SetS) (h : TimeAt b H p m M) (hM : M.length < 100) (hL : ∀ x ∈ M, x.l.length < 100) :
    Sound Try.prog 23 [ptrV p] H fun v H' => OwnS H.length H' v (visL (cont M)) ∧ H <+: H' := by
  refine Sound.of_body (rs := [.tmp 2]) mixed Try.func23 rfl (by kernel_rfl) rfl (by kernel_rfl) ?_
  simp -dsimp only [go_sem, ↓reduceIte, Nat.reduceEqDiff, Nat.reduceAdd, Nat.reduceMul, Nat.reduceSub, Nat.reduceLeDiff, Nat.reduceLT]
  have p1 := List.prefix_append H [AObj.map #[] 0]
  have hT1 := h.pre p1
  have hd1 := DictAt.new (κ := Key) (ν := Nat) H [] Key.val ptrV
  refine SoundP_of (tlStr b _ p m M hT1 hM) ?_
  rintro vS H2 ⟨S, hS1, hS2, hS3, oS, p2⟩
  obtain ⟨aS, cS, rfl, sS⟩ := oS.sl (fun _ => rfl)
  have hT2 := hT1.pre p2
  have hd2 := hd1.pre p2
  have n2 := pre_len p2
  simp only [List.length_append, List.length_singleton] at n2
  have p02 := p1.trans p2
  have mlt : m < H.length := h.dict.lt
  have flt : ∀ j, footT p m M j → j < H.length := fun j hj => (h.foot hj).2
  have lap : (H ++ [AObj.map #[] 0]).length = H.length + 1 := by simp
  clear hd1 p1 hT1
  simp -dsimp only [go_sem, ↓reduceIte, Nat.reduceEqDiff, Nat.reduceAdd, Nat.reduceMul, Nat.reduceSub, Nat.reduceLeDiff, Nat.reduceLT]
  refine aloopP_of (fun n T H' => ∃ (i : Nat) (D : List SetS), n = S.length - i ∧ i ≤ S.length ∧ T 3 = .map (some H.length) ∧ T 13 = .slice aS S.length cS ∧ T 14 = .int .i64 S.length ∧ T 15 = .int .i64 (i : Nat) ∧ DictAt H' H.length Key.val ptrV (idsOf D) ∧ (∀ y, y ∈ D ↔ ∃ s ∈ S.take i, s.x = y) ∧ H2.length ≤ H'.length ∧ ∀ j, j < H2.length → j ≠ H.length → H'[j]? = H2[j]?) (n := S.length) ?_ ?_
  · refine ⟨0, [], ?_⟩
    simp -dsimp only [go_sem, ↓reduceIte, Nat.reduceEqDiff, Nat.reduceAdd, Nat.reduceMul, Nat.reduceSub, Nat.reduceLeDiff, Nat.reduceLT]
    exact ⟨rfl, Nat.zero_le _, rfl, hd2, fun y => by simp, fun _ _ _ => trivial⟩
  rintro n T H3 ⟨i, D, rfl, hi, t3, t13, t14, t15, hd3, hD, n3, kp3⟩
  have hT3 : TimeAt b H3 p m M := hT2.keep fun j hj => kp3 j (by have := flt j hj; omega) (by have := flt j hj; omega)
  simp -dsimp only [go_sem, ↓reduceIte, Nat.reduceEqDiff, Nat.reduceAdd, Nat.reduceMul, Nat.reduceSub, Nat.reduceLeDiff, Nat.reduceLT, t3, t13, t14, t15]
  refine acondP_of (fun hc => ?_) (fun hc => ?_)
  · simp at hc
    obtain ⟨s, hsi⟩ := get_ex hc
    have oS3 : OwnT (H ++ [AObj.map #[] 0]).length H3 (.slice aS S.length cS) S := oS.keep fun j hj => kp3 j (oS.owner_ge hj).2 (by have := (oS.owner_ge hj).1; omega)
    obtain ⟨id, off, rfl, hat⟩ := ((oS3.slA (fun _ => rfl)).2).at (by omega)
    have hxM := hS2 s (List.mem_of_getElem? hsi)
    have pa := List.prefix_append H3 [AObj.row [ptrV s.x.id, .int .i64 s.f, .int .i64 s.t] 3 true]
    have hx4 := (hT3.sets s.x hxM).pre pa
    have hd4 := hd3.pre pa
    have hdn : (mkeys (idsOf D)).Nodup := by obtain ⟨es, ck, -, hh⟩ := hd3; exact hh.keys
    have hu : ∀ y ∈ D, y.k = s.x.k → y = s.x := fun y hy hk => by
      obtain ⟨s2, h2, rfl⟩ := (hD y).1 hy
      exact pair_uniq (f := SetS.k) h.nodup (hS2 s2 (List.mem_of_mem_take h2)) hxM hk
    obtain ⟨D2, hD2, hm2⟩ := mput_ids hdn hu
    obtain ⟨o, ep, hd5⟩ := hd4.put (t := 68) keyLaw mt68 s.x.k s.x.id
    rw [hD2] at hd5
    dsimp only [Key.val] at ep
    simp -dsimp only [go_sem, ↓reduceIte, Nat.reduceEqDiff, Nat.reduceAdd, Nat.reduceMul, Nat.reduceSub, Nat.reduceLeDiff, Nat.reduceLT, t3, t13, t14, t15, inRange hc, rowLoad_whole (hat i s hsi)]
    refine adrawnP_of2 [(0, false), (1, false), (2, false), (3, false), (4, false), (5, false), (6, false), (7, false), (8, false)] (by kernel_rfl) ?_
    simp -dsimp only [go_sem, ↓reduceIte, Nat.reduceEqDiff, Nat.reduceAdd, Nat.reduceMul, Nat.reduceSub, Nat.reduceLeDiff, Nat.reduceLT, t3, t13, t14, t15, hx4.at_, ep, wrS (show i < 4611686018427387904 by omega)]
    refine ⟨_, by omega, i + 1, D2, rfl, hc, rfl, hd5, fun y => ?_, by rw [List.length_set, List.length_append]; omega, fun j hj hn => ?_⟩
    · rw [hm2, hD, take_get hsi]
      constructor
      · rintro (⟨s2, h2, rfl⟩ | rfl)
        · exact ⟨s2, by simp [h2], rfl⟩
        · exact ⟨s, by simp, rfl⟩
      · rintro ⟨s2, h2, rfl⟩
        rcases List.mem_append.1 h2 with q | q
        · exact .inl ⟨s2, q, rfl⟩
        · rw [List.mem_singleton] at q; rw [q]; exact .inr rfl
    · rw [List.getElem?_set_ne (Ne.symm hn), List.getElem?_append_left (by omega)]; exact kp3 j hj hn
  simp at hc
  rw [List.take_of_length_le hc] at hD
  obtain ⟨o3, e3, hr⟩ := hd3.range (t := 68) un68
  have hDM : ∀ y ∈ D, y ∈ M := fun y hy => by obtain ⟨s2, h2, rfl⟩ := (hD y).1 hy; exact hS2 s2 h2
  have hdn : (mkeys (idsOf D)).Nodup := by obtain ⟨es, ck, -, hh⟩ := hd3; exact hh.keys
  have hdk : (D.map SetS.k).Nodup := by
    have : mkeys (idsOf D) = D.map SetS.k := by simp [mkeys, idsOf, Function.comp_def]
    rwa [this] at hdn
  have hDl : D.length ≤ 100 := by
    have := sub_len hdk (m := M.map SetS.k) fun k hk => by
      obtain ⟨y, hy, rfl⟩ := List.mem_map.1 hk; exact List.mem_map.2 ⟨y, hDM y hy, rfl⟩
    rw [List.length_map, List.length_map] at this; omega
  have hgD : GoodC (cont D) := ⟨by
    rw [KeysC, cont, List.pairwise_map]; exact List.pairwise_map.1 hdk, fun y hy => by
    obtain ⟨z, hz, rfl⟩ := List.mem_map.1 hy; exact h.good z (hDM z hz)⟩
  simp -dsimp only [go_sem, ↓reduceIte, Nat.reduceEqDiff, Nat.reduceAdd, Nat.reduceMul, Nat.reduceSub, Nat.reduceLeDiff, Nat.reduceLT, t3, t13, t14, t15, e3]
  refine aloopP_of (fun n T H' => ∃ (L Dn : List SetS) (vl : Value), n = L.length ∧ T 6 = vl ∧ T 29 = ptrV H3.length ∧ RangeAt H' H3.length H.length Key.val ptrV (idsOf D) (idsOf L) ∧ H3 <+: H' ∧ (Dn ++ L).Perm D ∧ OwnS (H3.length + 1) H' vl (Dn.flatMap fun x => x.l)) (n := D.length) ?_ ?_
  · refine ⟨D, [], .slice none 0 0, ?_⟩
    simp -dsimp only [go_sem, ↓reduceIte, Nat.reduceEqDiff, Nat.reduceAdd, Nat.reduceMul, Nat.reduceSub, Nat.reduceLeDiff, Nat.reduceLT, t3, t13, t14, t15]
    exact ⟨hr, List.prefix_append _ _, List.Perm.refl _, Own.nil _ _ _ _⟩
  clear t3 t13 t14 t15 hr e3
  rintro n T H4 ⟨L, Dn, vl, rfl, t6, t29, hr, p4, hperm, ol⟩
  simp -dsimp only [go_sem, ↓reduceIte, Nat.reduceEqDiff, Nat.reduceAdd, Nat.reduceMul, Nat.reduceSub, Nat.reduceLeDiff, Nat.reduceLT, t6, t29]
  refine hr.next2 ?_ ?_
  · intro hLe
    obtain rfl : L = [] := List.map_eq_nil_iff.1 hLe
    rw [List.append_nil] at hperm
    have hfl : ∀ K : List SetS, (cont K).flatMap (fun x => x.2) = K.flatMap fun x => x.l := fun K => by rw [cont, List.flatMap_map]
    have honce : OnceL (D.flatMap fun x => x.l) := by
      have := once_flat hgD
      rwa [hfl] at this
    have hpo : (Dn.flatMap fun x => x.l).Perm (D.flatMap fun x => x.l) := hperm.flatMap_right _
    have honce2 := honce.perm hpo.symm
    have hlen : (Dn.flatMap fun x => x.l).length ≤ 10000 := by
      refine Nat.le_trans (flat_bound (n := 100) fun y hy => Nat.le_of_lt (hL y (hDM y (hperm.mem_iff.1 hy)))) ?_
      have := hperm.length_eq
      exact Nat.mul_le_mul (show _ ≤ 100 by omega) (Nat.le_refl 100)
    have hvis : visL (cont M) = sortL (Dn.flatMap fun x => x.l) := by
      unfold visL
      refine standL_ext (sortL_sorted (once_flat (h.goodC.filter _))) (sortL_sorted honce2) fun y => ?_
      rw [(sortL_perm _).mem_iff, (sortL_perm _).mem_iff, hpo.mem_iff, List.mem_flatMap, List.mem_flatMap]
      constructor
      · rintro ⟨c, hc1, hyc⟩
        obtain ⟨hcM, hany⟩ := List.mem_filter.1 hc1
        obtain ⟨x, hx, rfl⟩ := List.mem_map.1 hcM
        obtain ⟨s2, hs2, hk2⟩ := List.any_eq_true.1 hany
        rw [← hS1] at hs2
        obtain ⟨s3, hs3, rfl⟩ := List.mem_map.1 hs2
        have hk3 : s3.x.k = x.k := of_decide_eq_true hk2
        have : s3.x = x := pair_uniq (f := SetS.k) h.nodup (hS2 s3 hs3) hx hk3
        exact ⟨x, (hD x).2 ⟨s3, hs3, this⟩, hyc⟩
      · rintro ⟨x, hx, hyx⟩
        obtain ⟨s3, hs3, rfl⟩ := (hD x).1 hx
        refine ⟨(s3.x.k, s3.x.l), List.mem_filter.2 ⟨List.mem_map.2 ⟨s3.x, hS2 s3 hs3, rfl⟩, ?_⟩, hyx⟩
        refine List.any_eq_true.2 ⟨s3.toC, ?_, by simp⟩
        rw [← hS1]; exact List.mem_map.2 ⟨s3, hs3, rfl⟩
    generalize (Dn.flatMap fun x => x.l) = out at *
    simp -dsimp only [go_sem, ↓reduceIte, Nat.reduceEqDiff, Nat.reduceAdd, Nat.reduceMul, Nat.reduceSub, Nat.reduceLeDiff, Nat.reduceLT, t6, t29]
    refine SoundP_of (sortSegs out (H3.length + 1) H4 vl ol (by omega) honce2) ?_
    rintro _ H5 ⟨rfl, o5, len5, fr5⟩
    simp -dsimp only [go_sem, ↓reduceIte, Nat.reduceEqDiff, Nat.reduceAdd, Nat.reduceMul, Nat.reduceSub, Nat.reduceLeDiff, Nat.reduceLT, t6, t29]
    refine ⟨by rw [hvis]; exact o5.mono (by omega), ?_⟩
    refine List.prefix_iff_getElem?.2 fun j hj => ?_
    rw [fr5 j (fun q => by have := (ol.owner_ge q).1; omega)]
    refine pre_get p4 ?_
    rw [kp3 j (by omega) (by omega)]
    exact pre_get p02 (by simp [hj])
  · intro L1 k v L2 o hLe hr2 he
    obtain ⟨A, x, B, rfl, rfl, rfl, rfl, rfl⟩ := mapSplit hLe
    have hxD : x ∈ D := hperm.mem_iff.1 (by simp)
    have hp5 : H3 <+: H4.set H3.length o := pre_set p4 (Nat.le_refl _) o
    have hx5 := (hT3.sets x (hDM x hxD)).pre hp5
    have ol5 : OwnS (H3.length + 1) (H4.set H3.length o) vl (Dn.flatMap fun x => x.l) := ol.keep fun j hj => List.getElem?_set_ne (by have := (ol.owner_ge hj).1; omega)
    have hr3 : RangeAt (H4.set H3.length o) H3.length H.length Key.val ptrV (idsOf D) (idsOf (A ++ B)) := by rw [show idsOf (A ++ B) = idsOf A ++ idsOf B from List.map_append]; exact hr2
    have hperm2 : ((Dn ++ [x]) ++ (A ++ B)).Perm D := by
      refine List.Perm.trans ?_ hperm
      rw [List.append_assoc]
      exact List.Perm.append_left Dn (show (x :: (A ++ B)).Perm (A ++ x :: B) from List.perm_middle.symm)
    have hlt : H3.length < (H4.set H3.length o).length := by
      obtain ⟨es, ck, seen, -, -, hit, -⟩ := hr3; exact get_lt hit
    generalize H4.set H3.length o = H5 at *
    obtain ⟨aX, cX, hvx, slX⟩ := hx5.own.sl (fun _ => rfl)
    have hxat := hx5.at_
    rw [hvx] at hxat
    obtain ⟨inf, hi1, hi2, hi3, hi4⟩ := inf32
    have hs : asrc Try.prog H5 5 22 (.slice aX x.l.length cX) = some (x.l.length, x.l.flatMap Seg.cells) := asrc_sl un22 slX (fun _ => rfl)
    have hb1 : (Dn.flatMap fun x => x.l).length ≤ 10000 := by
      refine Nat.le_trans (flat_bound (n := 100) fun y hy => Nat.le_of_lt (hL y (hDM y (hperm2.mem_iff.1 (by simp [hy]))))) ?_
      have := hperm2.length_eq
      simp only [List.length_append, List.length_singleton] at this
      exact Nat.mul_le_mul (show _ ≤ 100 by omega) (Nat.le_refl 100)
    have hlx := hL x (hDM x hxD)
    obtain ⟨v9, H9, e9, o9, le9, fr9, ow9⟩ := Own.append (news := x.l) ol5 el22 hi1 hi2 hi3 rfl (by decide) (fun _ => rfl) (fun _ => rfl) hs (by rw [hi4]; omega) (by omega) (by omega)
    simp -dsimp only [go_sem, ↓reduceIte, Nat.reduceEqDiff, Nat.reduceAdd, Nat.reduceMul, Nat.reduceSub, Nat.reduceLeDiff, Nat.reduceLT, t6, t29, he.get, hxat, e9]
    have hfr : ∀ j, j ≤ H3.length → H9[j]? = H5[j]? := fun j hj => fr9 j (by omega) (fun q => by have := (ol5.owner_ge q).1; omega)
    refine ⟨_, by simp, A ++ B, Dn ++ [x], v9, rfl, rfl, hr3.keep (hfr _ (by omega)) (hfr _ (Nat.le_refl _)), ?_, hperm2, ?_⟩
    · refine List.prefix_iff_getElem?.2 fun j hj => ?_
      rw [hfr j (by omega)]
      exact pre_get hp5 (by simp [hj])
    · rw [List.flatMap_append, List.flatMap_cons, List.flatMap_nil, List.append_nil]; exact o9
end Go.Proofs.Ythbifkeadbmcnaa
