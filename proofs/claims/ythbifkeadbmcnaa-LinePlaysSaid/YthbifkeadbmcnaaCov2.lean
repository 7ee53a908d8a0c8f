/-
  Timeline.Covered.
-/
import Derived.Test.YthbifkeadbmcnaaCov
set_option linter.unusedVariables false
set_option linter.unusedSimpArgs false
namespace Go.Proofs.Ythbifkeadbmcnaa
open Go Go.AW Go.Bub
set_option linter.unusedSimpArgs false
set_option maxRecDepth 20000

/-- what Covered answers -/
def coverL (C : List KL) : List Seg := sortL ((C.filter fun x => coveredC x.1 (strsC C)).flatMap fun x => x.2)
theorem once_flat {C : List KL} (h : GoodC C) : OnceL (C.flatMap fun x => x.2) := by
  obtain ⟨hk, hg⟩ := h
  induction C with
  | nil => exact .nil
  | cons x C ih =>
    have hk := List.pairwise_cons.1 hk
    rw [List.flatMap_cons, OnceL, List.pairwise_append]
    refine ⟨(hg x (by simp)).rise.imp fun h q => by omega, ih hk.2 fun y hy => hg y (by simp [hy]), fun z hz w hw q => ?_⟩
    obtain ⟨y, hy, hwy⟩ := List.mem_flatMap.1 hw
    have h1 := (hg x (by simp)).key z hz
    have h2 := (hg y (by simp [hy])).key w hwy
    exact hk.1 y hy (by rw [← h1, ← h2]; exact q.1)
theorem GoodC.filter {C : List KL} (h : GoodC C) (f : KL → Bool) : GoodC (C.filter f) := ⟨h.keys.filter _, fun x hx => h.good x (List.mem_filter.1 hx).1⟩
theorem GoodC.perm {C D : List KL} (h : GoodC C) (hp : C.Perm D) : GoodC D := ⟨h.keys.perm hp, fun x hx => h.good x (hp.mem_iff.2 hx)⟩
theorem sortL_same {l m : List Seg} (ho : OnceL l) (hp : l.Perm m) : sortL l = sortL m :=
  standL_ext (sortL_sorted ho) (sortL_sorted (ho.perm hp)) fun x => by rw [(sortL_perm l).mem_iff, (sortL_perm m).mem_iff, hp.mem_iff]
theorem enters25 (xs : Array Value) (w : World) : (callFunc 25 xs).run Try.prog w = .ok (.enter 25 xs) w := enters_body Try.func25 (by kernel_rfl) rfl xs w
theorem entersK (xs : Array Value) (w : World) : (callFunc keysF xs).run Try.prog w = .ok (.enter keysF xs) w := enters_body Try.func62 (by kernel_rfl) rfl xs w
/-- the loop's word between two rounds -/
def CovJ (H5 : AHeap) (i4 : Nat) (M : List SetS) (S : List CStr) (left : List (Key × Nat)) (H' : AHeap) : Prop :=
  ∃ (L D : List SetS) (vl : Value), left = idsOf L ∧ (D ++ L).Perm M ∧ H'[i4]? = some (.row [vl] 1 true) ∧ OwnS (H5.length + 1) H' vl ((D.filter fun x => coveredC x.k S).flatMap fun x => x.l) ∧ H5.length ≤ H'.length ∧ ∀ j, j < H5.length → j ≠ i4 → H'[j]? = H5[j]?
theorem covJ_rounds {H5 : AHeap} {i4 m : Nat} {M : List SetS} {S : List CStr} (h4 : i4 < H5.length) : Rounds H5 m (idsOf M) (CovJ H5 i4 M S) where
  set left H' o := by
    rintro ⟨L, D, vl, h1, h2, h3, h5, h6, h7⟩
    exact ⟨L, D, vl, h1, h2, by rw [List.getElem?_set_ne (by omega)]; exact h3, h5.keep fun j hj => List.getElem?_set_ne (by have := (h5.owner_ge hj).1; omega), by rw [List.length_set]; exact h6, fun j hj hn => by rw [List.getElem?_set_ne (by omega)]; exact h7 j hj hn⟩
  app left H' o := by
    rintro ⟨L, D, vl, h1, h2, h3, h5, h6, h7⟩
    exact ⟨L, D, vl, h1, h2, get_app h3 _, h5.pre (List.prefix_append _ _), by rw [List.length_append]; omega, fun j hj hn => by rw [List.getElem?_append_left (by omega)]; exact h7 j hj hn⟩
theorem flat_bound {n : Nat} : ∀ {D : List SetS}, (∀ y ∈ D, y.l.length ≤ n) → (D.flatMap fun x => x.l).length ≤ D.length * n
  | [], _ => by simp
  | y :: D, h => by
    have h1 := flat_bound (D := D) fun z hz => h z (by simp [hz])
    have h2 := h y (by simp)
    rw [List.flatMap_cons, List.length_append, List.length_cons, Nat.add_mul]; omega
theorem tlStr (b : Nat) (H : AHeap) (p m : Nat) (M : List SetS) (h : TimeAt b H p m M) (hM : M.length < 100) :
    Sound Try.prog 29 [ptrV p] H fun v H' => ∃ S : List Stretch, S.map Stretch.toC = strsC (cont M) ∧ (∀ s ∈ S, s.x ∈ M) ∧ S.length ≤ 200 ∧ OwnT H.length H' v S ∧ H <+: H' := by
  refine (tlStretches b H p m M h (by omega)).mono ?_
  rintro v H' ⟨W, T, hW, hs, hT, hm, oS, p1⟩
  refine ⟨strT W T, str_cont h hW hs hT hm, fun s hq => (List.mem_filter.1 (hW.mem_iff.1 (strT_in s hq))).1, ?_, oS, p1⟩
  have h1 := strT_len W T
  have h2 : T.length ≤ (ends W).length := sub_len (hT.imp fun h => by omega) fun n hn => (hm n).1 hn
  rw [ends_len] at h2
  have h3 := hW.length_eq
  have h4 := List.length_filter_le (fun x : SetS => whole x.l) M
  omega
theorem tlCovered (b : Nat) (H : AHeap) (p m : Nat) (M : List SetS) (h : TimeAt b H p m M) (hM : M.length < 100) (hL : ∀ x ∈ M, x.l.length < 100) :
    Sound Try.prog 25 [ptrV p] H fun v H' => OwnS H.length H' v (coverL (cont M)) ∧ H <+: H' := by
  refine ⟨enters25, fun ρ F w args' hR hv => callsIn_wide.1 (callsIn_of_wp_marks (n := 2) Try.func25 rfl trivial ?_)⟩
  have hT0 := TR.start (n := 33) hv (by simp)
  rw [show (Try.f25).ntmps = 33 by kernel_rfl]
  generalize ({ tmps := args'.toArray ++ Array.replicate (33 - args'.toArray.size) undef, defers := [] } : Act) = a0 at hT0 ⊢
  have hm : (Try.prog).follows .mixedOrders = true := mixed
  -- what is boxed
  refine wpIn_seq (sim_codeIn (n := 33) hm open_wide _ (by kernel_rfl) (by kernel_rfl) (Qa := fun e T' H' => e = .normal ∧ T' 1 = ptrV H.length ∧ H' = H ++ [.row [ptrV p] 1 true]) ?_ hR hT0 ?_ ?_)
  · simp -dsimp only [go_sem, ↓reduceIte, Nat.reduceEqDiff, Nat.reduceAdd, Nat.reduceMul, Nat.reduceSub, Nat.reduceLeDiff, Nat.reduceLT]
  · rintro e T1 H1 ρ1 a1 w1 ⟨rfl, t1, hH1⟩ hR1 hX1 hL1 hT1
    have r1 : H1[H.length]? = some (.row [ptrV p] 1 true) := by rw [hH1]; exact get_end _ _ _
    have p01 : H <+: H1 := by rw [hH1]; exact List.prefix_append _ _
    refine wpIn_seq (sim_codeIn (n := 33) hm open_wide _ (by kernel_rfl) (by kernel_rfl) (Qa := fun e T' H' => e = .normal ∧ T' 1 = ptrV H.length ∧ H' = H1) ?_ hR1 hT1 ?_ ?_)
    · simp -dsimp only [go_sem, ↓reduceIte, Nat.reduceEqDiff, Nat.reduceAdd, Nat.reduceMul, Nat.reduceSub, Nat.reduceLeDiff, Nat.reduceLT, t1, r1]
    · rintro e T2 H2 ρ2 a2 w2 ⟨rfl, t1, hH2⟩ hR2 hX2 hL2 hT2
      subst hH2
      have hTm := h.pre p01
      refine wpIn_seq (sim_codeIn (n := 33) hm open_wide _ (by kernel_rfl) (by kernel_rfl) (Qa := fun e T' H' => e = .normal ∧ T' 1 = ptrV H.length ∧ ∃ (S : List Stretch) (v : Value) (Hs : AHeap), S.map Stretch.toC = strsC (cont M) ∧ (∀ s ∈ S, s.x ∈ M) ∧ S.length ≤ 200 ∧ OwnT H2.length Hs v S ∧ H2 <+: Hs ∧ T' 3 = ptrV Hs.length ∧ H' = Hs ++ [.row [v] 1 true]) ?_ hR2 hT2 ?_ ?_)
      · simp -dsimp only [go_sem, ↓reduceIte, Nat.reduceEqDiff, Nat.reduceAdd, Nat.reduceMul, Nat.reduceSub, Nat.reduceLeDiff, Nat.reduceLT, t1, r1]
        refine SoundP_of (tlStr b H2 p m M hTm hM) ?_
        rintro v Hs ⟨S, h1, h2, h3, h4, h5⟩
        obtain ⟨aS, cS, rfl, sS⟩ := h4.sl (fun _ => rfl)
        simp -dsimp only [go_sem, ↓reduceIte, Nat.reduceEqDiff, Nat.reduceAdd, Nat.reduceMul, Nat.reduceSub, Nat.reduceLeDiff, Nat.reduceLT, t1]
        exact ⟨S, _, Hs, h1, h2, h3, h4, h5, rfl, rfl⟩
      · rintro e T3 H3 ρ3 a3 w3 ⟨rfl, t1, S, vS, Hs, hS1, hS2, hS3, oS, pS, t3, hH3⟩ hR3 hX3 hL3 hT3
        refine wpIn_seq (sim_codeIn (n := 33) hm open_wide _ (by kernel_rfl) (by kernel_rfl) (Qa := fun e T' H' => e = .normal ∧ T' 1 = ptrV H.length ∧ T' 3 = ptrV Hs.length ∧ T' 4 = ptrV H3.length ∧ H' = H3 ++ [.row [.slice none 0 0] 1 true]) ?_ hR3 hT3 ?_ ?_)
        · simp -dsimp only [go_sem, ↓reduceIte, Nat.reduceEqDiff, Nat.reduceAdd, Nat.reduceMul, Nat.reduceSub, Nat.reduceLeDiff, Nat.reduceLT, t1, t3]
        · rintro e T4 H4 ρ4 a4 w4 ⟨rfl, t1, t3, t4, hH4⟩ hR4 hX4 hL4 hT4
          have p24 : H2 <+: H4 := by rw [hH4, hH3]; exact (pS.trans (List.prefix_append _ _)).trans (List.prefix_append _ _)
          have r4 := pre_get p24 r1
          have hT4m := hTm.pre p24
          refine wpIn_seq (wpIn_seq (sim_codeIn (n := 33) hm open_wide _ (by kernel_rfl) (by kernel_rfl) (Qa := fun e T' H' => e = .normal ∧ T' 1 = ptrV H.length ∧ T' 3 = ptrV Hs.length ∧ T' 4 = ptrV H3.length ∧ T' 14 = .func (.func keysF) #[] #[ptrV H4.length] ∧ H' = H4 ++ [.row [.map (some m)] 1 true]) ?_ hR4 hT4 ?_ ?_))
          · simp -dsimp only [go_sem, ↓reduceIte, Nat.reduceEqDiff, Nat.reduceAdd, Nat.reduceMul, Nat.reduceSub, Nat.reduceLeDiff, Nat.reduceLT, t1, t3, t4, r4, hT4m.at_]
            refine SoundP_of (keysOf_ m H4) ?_
            rintro _ _ ⟨rfl, rfl⟩
            simp -dsimp only [go_sem, ↓reduceIte, Nat.reduceEqDiff, Nat.reduceAdd, Nat.reduceMul, Nat.reduceSub, Nat.reduceLeDiff, Nat.reduceLT, t1, t3, t4]
          · rintro e T5 H5 ρ5 a5 w5 ⟨rfl, t1, t3, t4, t14, hH5⟩ hR5 hX5 hL5 hT5
            have p45 : H4 <+: H5 := by rw [hH5]; exact List.prefix_append _ _
            have p25 := p24.trans p45
            have hTm5 := hTm.pre p25
            have bx5 : H5[H4.length]? = some (.row [.map (some m)] 1 true) := by rw [hH5]; exact get_end _ _ _
            have r5 := pre_get p25 r1
            have p35 : H3 <+: H4 := by rw [hH4]; exact List.prefix_append _ _
            have s5 : H5[Hs.length]? = some (.row [vS] 1 true) := pre_get (p35.trans p45) (by rw [hH3]; exact get_end _ _ _)
            have o5 : H5[H3.length]? = some (.row [.slice none 0 0] 1 true) := pre_get p45 (by rw [hH4]; exact get_end _ _ _)
            have oS5 : OwnT H2.length H5 vS S := oS.pre (by refine List.IsPrefix.trans ?_ (p35.trans p45); rw [hH3]; exact List.prefix_append _ _)
            have lt3 : H3.length < H5.length := get_lt o5
            have lts : Hs.length < H3.length := by rw [hH3]; simp
            have p05 := p01.trans p25
            have l0 : H.length < Hs.length := Nat.lt_of_lt_of_le (get_lt r1) (pre_len pS)
            refine wpIn_block ?_
            have hv14 := hT5.vr 14 (by decide)
            rw [t14] at hv14
            obtain ⟨as', bs', hval, ha, hb⟩ := hv14.func_inv
            have e1 : as' = #[] := by
              have := ha.1; apply Array.toList_inj.1; exact List.length_eq_zero_iff.1 (by simpa using this.symm)
            obtain ⟨c', rest, hbs, hc', hrest⟩ := hb.inv
            have hre : rest = [] := List.length_eq_zero_iff.1 (by simpa using hrest.1.symm)
            have e2 : bs' = #[c'] := by
              apply Array.toList_inj.1
              rw [hbs, hre]
            have hg : a5.eval (.tmp 14) = .func (.func keysF) #[] #[c'] := by
              show a5.tmps.getD 14 undef = _
              rw [hval, e1, e2]
            have hJ0 : CovJ H5 H3.length M (strsC (cont M)) (idsOf M) H5 := ⟨M, [], .slice none 0 0, rfl, List.Perm.refl _, o5, Own.nil _ _ _ _, Nat.le_refl _, fun _ _ _ => rfl⟩
            refine sim_range hg entersK hR5 (J := CovJ H5 H3.length M (strsC (cont M)) []) (fun fn D L W hDL hFD hFL hRW => keys_walk (n := 33) (T := T5) (by kernel_rfl) (by kernel_rfl) (by kernel_rfl) (by kernel_rfl) (by decide) hRW ⟨hT5.size, rfl, hT5.vr⟩ hc' bx5 hTm5.dict (covJ_rounds lt3) hJ0 ?_) ?_
            · clear hRW hT5 hR5 hv14 hJ0 hval ha hb
              intro L1 k v L2 H' hJ hD hlt
              obtain ⟨L, Dn, vl, hL', hperm, h4', ol, len', kp⟩ := hJ
              obtain ⟨A, x, B, rfl, rfl, rfl, rfl, rfl⟩ := mapSplit hL'.symm
              have hxM : x ∈ M := hperm.mem_iff.1 (by simp)
              have lo : H2.length ≤ Hs.length := pre_len pS
              have kp' : ∀ j, j < H3.length → H'[j]? = H5[j]? := fun j hj => kp j (by omega) (by omega)
              have r' := (kp' _ (by omega)).trans r5
              have s' := (kp' _ lts).trans s5
              have hT' : TimeAt b H' p m M := hTm5.keep fun j hj => kp' j (by have := (hTm.foot hj).2; omega)
              have oS' : OwnT H2.length H' vS S := oS5.keep fun j hj => kp' j (by have := (oS.owner_ge hj).2; omega)
              obtain ⟨aS, cS, rfl, sS⟩ := oS'.sl (fun _ => rfl)
              have pa := List.prefix_append H' [AObj.row [.int .i64 x.k.f, .int .i64 x.k.t, .int .i64 x.k.v] 3 true]
              simp -dsimp only [go_sem, ↓reduceIte, Nat.reduceEqDiff, Nat.reduceAdd, Nat.reduceMul, Nat.reduceSub, Nat.reduceLeDiff, Nat.reduceLT, t1, t3, t4, get_app s']
              refine SoundP_of (coveredLaw x.k S aS cS b _ (sS.pre pa) (fun s hs => (hT'.sets s.x (hS2 s hs)).pre pa) (by omega)) ?_
              rintro _ H7 ⟨rfl, p7⟩
              rw [hS1]
              have pH7 := pa.trans p7
              have k7 := pre_get p7 (get_end H' (AObj.row [.int .i64 x.k.f, .int .i64 x.k.t, .int .i64 x.k.v] 3 true) [])
              have n7 := pre_len pH7
              have same7 : ∀ j, j < H'.length → H7[j]? = H'[j]? := fun j hj => by rw [pre_get pH7 (List.getElem?_eq_getElem hj), List.getElem?_eq_getElem hj]
              have hperm2 : ((Dn ++ [x]) ++ (A ++ B)).Perm M := by
                refine List.Perm.trans ?_ hperm
                rw [List.append_assoc]
                exact List.Perm.append_left Dn (show (x :: (A ++ B)).Perm (A ++ x :: B) from List.perm_middle.symm)
              cases hcv : coveredC x.k (strsC (cont M)) with
              | false =>
                have ef : (Dn ++ [x]).filter (fun y => coveredC y.k (strsC (cont M))) = Dn.filter fun y => coveredC y.k (strsC (cont M)) := by rw [List.filter_append]; simp [hcv]
                simp -dsimp only [go_sem, ↓reduceIte, Nat.reduceEqDiff, Nat.reduceAdd, Nat.reduceMul, Nat.reduceSub, Nat.reduceLeDiff, Nat.reduceLT, t1, t3, t4]
                exact ⟨⟨A ++ B, Dn ++ [x], vl, by simp [idsOf], hperm2, pre_get pH7 h4', by rw [ef]; exact ol.pre pH7, by omega, fun j hj hn => by rw [same7 j (by omega)]; exact kp j hj hn⟩, same7 m (by have := hT'.dict.lt; omega), same7 _ hlt⟩
              | true =>
                have ef : (Dn ++ [x]).filter (fun y => coveredC y.k (strsC (cont M))) = (Dn.filter fun y => coveredC y.k (strsC (cont M))) ++ [x] := by rw [List.filter_append]; simp [hcv]
                have h47 := pre_get pH7 h4'
                have r7 := pre_get pH7 r'
                have hT7 := hT'.pre pH7
                have lk := look_sets hT7 x.k
                have mg : mget (idsOf M) x.k = some x.id := by
                  obtain ⟨es, ck, -, hh⟩ := hT7.dict
                  exact mget_of_mem hh.keys (List.mem_map.2 ⟨x, hxM, rfl⟩)
                rw [mg] at lk
                dsimp only [Key.val] at lk
                have hx7 := hT7.sets x hxM
                obtain ⟨aX, cX, hvx, slX⟩ := hx7.own.sl (fun _ => rfl)
                have hxat := hx7.at_
                rw [hvx] at hxat
                obtain ⟨inf, hi1, hi2, hi3, hi4⟩ := inf32
                have hs : asrc Try.prog H7 5 22 (.slice aX x.l.length cX) = some (x.l.length, x.l.flatMap Seg.cells) := asrc_sl un22 slX (fun _ => rfl)
                have hb1 : ((Dn.filter fun y => coveredC y.k (strsC (cont M))).flatMap fun x => x.l).length ≤ 10000 := by
                  refine Nat.le_trans (flat_bound (n := 100) fun y hy => ?_) ?_
                  · exact Nat.le_of_lt (hL y (hperm2.mem_iff.1 (by simp [(List.mem_filter.1 hy).1])))
                  · have q1 := List.length_filter_le (fun y : SetS => coveredC y.k (strsC (cont M))) Dn
                    have q2 := hperm2.length_eq
                    simp only [List.length_append, List.length_singleton] at q2
                    exact Nat.mul_le_mul (show _ ≤ 100 by omega) (Nat.le_refl 100)
                have hlx := hL x hxM
                obtain ⟨v9, H9, e9, o9, le9, fr9, ow9⟩ := Own.append (news := x.l) (ol.pre pH7) el22 hi1 hi2 hi3 rfl (by decide) (fun _ => rfl) (fun _ => rfl) hs (by rw [hi4]; omega) (by omega) (by omega)
                obtain ⟨a9, c9, rfl, -⟩ := o9.sl (fun _ => rfl)
                have hfr : ∀ j, j ≤ H5.length → H9[j]? = H7[j]? := fun j hj => fr9 j (by omega) (fun q => by have := (ol.owner_ge q).1; omega)
                have h49 := (hfr _ (by omega)).trans h47
                simp -dsimp only [go_sem, ↓reduceIte, Nat.reduceEqDiff, Nat.reduceAdd, Nat.reduceMul, Nat.reduceSub, Nat.reduceLeDiff, Nat.reduceLT, t1, t3, t4]
                refine adrawnP_of2 [(0, false), (1, false), (2, false), (3, false), (4, false), (5, false), (6, false), (7, false), (8, false), (9, false), (10, false), (11, false)] (by kernel_rfl) ?_
                simp -dsimp only [go_sem, ↓reduceIte, Nat.reduceEqDiff, Nat.reduceAdd, Nat.reduceMul, Nat.reduceSub, Nat.reduceLeDiff, Nat.reduceLT, t1, t3, t4, h47, r7, hT7.at_, k7, lk, Option.map_some, Option.getD_some, hxat, e9, h49]
                refine ⟨⟨A ++ B, Dn ++ [x], _, by simp [idsOf], hperm2, List.getElem?_set_self (get_lt h49), ?_, by rw [List.length_set]; omega, fun j hj hn => ?_⟩, ?_, ?_⟩
                · rw [ef, List.flatMap_append, List.flatMap_cons, List.flatMap_nil, List.append_nil]
                  rw [List.length_append] at o9
                  exact o9.keep fun j hj => List.getElem?_set_ne (show H3.length ≠ j by have := (o9.owner_ge hj).1; omega)
                · rw [List.getElem?_set_ne (Ne.symm hn), hfr j (by omega), same7 j (by omega)]; exact kp j hj hn
                · have hmlt := (hTm.foot (.inr (.inl rfl) : footT p m M m)).2
                  rw [List.getElem?_set_ne (by omega), hfr m (by omega), same7 m (by omega)]
                · rw [List.getElem?_set_ne (by omega), hfr _ (Nat.le_refl _), same7 _ hlt]
            · intro D L y ρ' H' w' hDL hFD hFL hy hJ hR' hX hLn
              obtain ⟨L0, Dn, vl, hL0, hperm, h4', ol, len', kp⟩ := hJ
              obtain rfl : L0 = [] := List.map_eq_nil_iff.1 hL0.symm
              rw [List.append_nil] at hperm
              simp only [Exit.inBlock, Exit.then]
              have hc1 : (cont M).filter (fun x => coveredC x.1 (strsC (cont M))) = cont (M.filter fun x => coveredC x.k (strsC (cont M))) := by rw [cont, cont, List.filter_map]; rfl
              have hfl : ∀ K : List SetS, (cont K).flatMap (fun x => x.2) = K.flatMap fun x => x.l := fun K => by rw [cont, List.flatMap_map]
              have hpF : (M.filter fun y => coveredC y.k (strsC (cont M))).Perm (Dn.filter fun y => coveredC y.k (strsC (cont M))) := (hperm.filter _).symm
              have honce : OnceL ((M.filter fun y => coveredC y.k (strsC (cont M))).flatMap fun x => x.l) := by
                have := once_flat (h.goodC.filter fun x => coveredC x.1 (strsC (cont M)))
                rwa [hc1, hfl] at this
              have hperm2 : ((M.filter fun y => coveredC y.k (strsC (cont M))).flatMap fun x => x.l).Perm ((Dn.filter fun y => coveredC y.k (strsC (cont M))).flatMap fun x => x.l) := hpF.flatMap_right _
              have hcov : coverL (cont M) = sortL ((Dn.filter fun y => coveredC y.k (strsC (cont M))).flatMap fun x => x.l) := by
                unfold coverL
                rw [hc1, hfl]
                exact sortL_same honce hperm2
              have hlen : ((Dn.filter fun y => coveredC y.k (strsC (cont M))).flatMap fun x => x.l).length ≤ 10000 := by
                refine Nat.le_trans (flat_bound (n := 100) fun y hy => ?_) ?_
                · exact Nat.le_of_lt (hL y (hperm.mem_iff.1 (List.mem_filter.1 hy).1))
                · have q1 := List.length_filter_le (fun y : SetS => coveredC y.k (strsC (cont M))) Dn
                  have q2 := hperm.length_eq
                  exact Nat.mul_le_mul (show _ ≤ 100 by omega) (Nat.le_refl 100)
              have honce2 := honce.perm hperm2
              generalize (Dn.filter fun y => coveredC y.k (strsC (cont M))).flatMap (fun x => x.l) = out at *
              have x5 := ((((hX1.trans hX2 hL1).trans hX3 (by omega)).trans hX4 (by omega)).trans hX5 (by omega)).trans hX (by omega)
              refine sim_codeIn (n := 33) (ds := [{ target := .collected D, args := #[] }]) hm open_wide _ (by kernel_rfl) (by kernel_rfl) (Qa := fun e T' H'' => (e = .ret ∨ e = .normal) ∧ OwnS H.length H'' (T' 2) (coverL (cont M)) ∧ H <+: H'') ?_ hR' ⟨hT5.size, by simp [hT5.defers], fun t ht => (hT5.vr t ht).mono (hR5.ext hX)⟩ ?_ ?_
              · simp -dsimp only [go_sem, ↓reduceIte, Nat.reduceEqDiff, Nat.reduceAdd, Nat.reduceMul, Nat.reduceSub, Nat.reduceLeDiff, Nat.reduceLT, t4, h4']
                refine SoundP_of (sortSegs out (H5.length + 1) H' vl ol (by omega) honce2) ?_
                rintro _ H8 ⟨rfl, o8, len8, fr8⟩
                have h48 : H8[H3.length]? = some (.row [vl] 1 true) := (fr8 _ (fun q => by have := (ol.owner_ge q).1; omega)).trans h4'
                simp -dsimp only [go_sem, ↓reduceIte, Nat.reduceEqDiff, Nat.reduceAdd, Nat.reduceMul, Nat.reduceSub, Nat.reduceLeDiff, Nat.reduceLT, t4, h48]
                refine ⟨.inl trivial, ?_, ?_⟩
                · rw [hcov]; exact o8.mono (by have := pre_len p05; omega)
                · refine List.prefix_iff_getElem?.2 fun j hj => ?_
                  rw [fr8 j (fun q => by have := (ol.owner_ge q).1; have := pre_len p05; omega), kp j (by have := pre_len p05; omega) (by omega)]
                  exact pre_get p05 (by simp [hj])
              · rintro e T6 H6 ρ6 a6 w6 ⟨he, oF, pF⟩ hR6 hX6 hL6 hT6
                have hK := hR6.frm.heap D _ (Frm.two_D _ _ _ hDL)
                have hRf := (hR6.turnD hDL (odd_deferred _) (.deferred none)).back hDL (odd_deferred _) hy hFD hFL
                obtain ⟨v', hv', hvr⟩ := sim_results (n := 33) (fn := Try.f25) (vs := [T6 2]) (by kernel_rfl) hRf hT6 (by rfl)
                have fin : LeavesInM Fence.wide 2 Try.prog Try.f25 a6.tmps (fun e w' => ∃ v v' H' ρ', e = .returned v' ∧ (OwnS H.length H' v (coverL (cont M)) ∧ H <+: H') ∧ Rel ρ' H' F w' ∧ Ext H ρ ρ' ∧ H.length ≤ H'.length ∧ VR ρ' v v') a6.defers .returning w6 := by
                  rw [hT6.defers]
                  exact ⟨by simp, .inl ⟨D, _, rfl, run_takeDeferred hK, v', hv', T6 2, v', H6, ρ6, rfl, ⟨oF, pF⟩, hRf, x5.trans hX6 (by omega), by omega, hvr⟩⟩
                rcases he with rfl | rfl
                · exact fin
                · exact fin
              · rintro ⟨_, _, _, _, _, _, q, _⟩; cases q
          · rintro ⟨_, _, _, _, _, _, q, _⟩; cases q
        · rintro ⟨_, _, _, _, _, _, q, _⟩; cases q
      · rintro ⟨_, _, _, _, _, _, q, _⟩; cases q
    · rintro ⟨_, _, _, _, _, _, q, _⟩; cases q
  · rintro ⟨_, _, _, _, _, _, q, _⟩; cases q
end Go.Proofs.Ythbifkeadbmcnaa
