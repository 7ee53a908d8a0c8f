/-
  Timeline.Lookup.
-/
import Derived.Test.YthbifkeadbmcnaaStr6
import Derived.Test.YthbifkeadbmcnaaLook
set_option linter.unusedVariables false
set_option linter.unusedSimpArgs false
namespace Go.Proofs.Ythbifkeadbmcnaa
open Go Go.AW
set_option linter.unusedSimpArgs false
set_option maxRecDepth 20000

theorem TimeAt.nodup {b : Nat} {H : AHeap} {p m : Nat} {M : List SetS} (h : TimeAt b H p m M) : M.Pairwise fun x y => x.k ≠ y.k := by
  obtain ⟨es, ck, -, hh⟩ := h.dict
  have := hh.keys
  rw [show mkeys (idsOf M) = M.map fun x => x.k by simp [mkeys, idsOf, Function.comp_def]] at this
  exact List.pairwise_map.1 this
theorem TimeAt.keys {b : Nat} {H : AHeap} {p m : Nat} {M : List SetS} (h : TimeAt b H p m M) : KeysC (cont M) := List.pairwise_map.2 h.nodup
theorem pair_uniq {α β : Type} {f : α → β} : ∀ {M : List α}, (M.Pairwise fun x y => f x ≠ f y) → ∀ {x y : α}, x ∈ M → y ∈ M → f x = f y → x = y
  | [], _, _, _, h, _, _ => by cases h
  | z :: C, hk, x, y, hx, hy, he => by
    have hk := List.pairwise_cons.1 hk
    rcases List.mem_cons.1 hx with e1 | h1 <;> rcases List.mem_cons.1 hy with e2 | h2
    · rw [e1, e2]
    · exact absurd (e1 ▸ he) (hk.1 y h2)
    · exact absurd (e2 ▸ he.symm) (hk.1 x h1)
    · exact pair_uniq hk.2 h1 h2 he
/-- the stretches are those of the contents -/
theorem str_cont {b : Nat} {H : AHeap} {p m : Nat} {M W : List SetS} {T : List Int} (h : TimeAt b H p m M) (hp : W.Perm (M.filter fun x => whole x.l)) (hs : W.Pairwise fun x y => ¬ aheadR y.k x.k = true)
    (hT : T.Pairwise (· < ·)) (hm : ∀ n, n ∈ T ↔ n ∈ ends W) : (strT W T).map Stretch.toC = strsC (cont M) := by
  have hWM : ∀ x ∈ W, x ∈ M := fun x hx => (List.mem_filter.1 (hp.mem_iff.1 hx)).1
  have hI : ∀ x ∈ W, ∀ y ∈ W, (x.id = y.id ↔ x.k = y.k) := fun x hx y hy =>
    ⟨fun e => by rw [pair_uniq (f := SetS.id) (h.apart.imp fun h => h.1) (hWM x hx) (hWM y hy) e], fun e => by rw [pair_uniq (f := SetS.k) h.nodup (hWM x hx) (hWM y hy) e]⟩
  have eW : W.map kl = wholes (cont M) := by
    refine wholes_uniq h.keys ?_ (List.pairwise_map.2 hs)
    have := hp.map kl
    rw [show (cont M).filter (fun x => whole x.2) = (M.filter fun x => whole x.l).map kl by rw [List.filter_map]; rfl]
    exact this
  have eT : T = timesC (W.map kl) := timesC_uniq hT fun n => by rw [hm]; simp [ends, List.flatMap_map]
  rw [strC_map hI, strsC, ← eW, ← eT]
/-- the pieces of a stretch -/
def piecesOf (s : Stretch) (a b : Int) : List Piece := if max s.f a < min s.t b then s.x.l.map fun z => ⟨z, max s.f a, min s.t b⟩ else []
theorem look_take {S : List Stretch} {i : Nat} {s : Stretch} (h : S[i]? = some s) (a b : Int) : lookS ((S.take (i + 1)).map Stretch.toC) a b = lookS ((S.take i).map Stretch.toC) a b ++ piecesOf s a b := by
  rw [take_get h, List.map_append, lookS, List.flatMap_append]
  simp [lookS, piecesOf]
theorem look_len {S : List Stretch} {n : Nat} (h : ∀ s ∈ S, s.x.l.length ≤ n) (a b : Int) : (lookS (S.map Stretch.toC) a b).length ≤ S.length * n := by
  induction S with
  | nil => simp [lookS]
  | cons s S ih =>
    have h1 := ih fun s hs => h s (by simp [hs])
    have h2 := h s (by simp)
    rw [List.map_cons]
    show (_ ++ lookS (S.map Stretch.toC) a b).length ≤ _
    rw [List.length_append, List.length_cons, Nat.add_mul]
    dsimp only
    split
    · rw [List.length_map]; show s.x.l.length + _ ≤ _; omega
    · simp; omega
theorem look_len' {S : List Stretch} (hS : S.length ≤ 200) (h : ∀ s ∈ S, s.x.l.length < 100) (i : Nat) (a b : Int) : (lookS ((S.take i).map Stretch.toC) a b).length ≤ 20000 := by
  have h1 := look_len (S := S.take i) (n := 100) (fun s hs => Nat.le_of_lt (h s (List.mem_of_mem_take hs))) a b
  have h2 : (S.take i).length ≤ 200 := Nat.le_trans (List.length_take_le' _ _) hS
  have := Nat.mul_le_mul_right 100 h2
  omega
theorem sub_len {α : Type} [DecidableEq α] : ∀ {l m : List α}, l.Nodup → (∀ x ∈ l, x ∈ m) → l.length ≤ m.length
  | [], _, _, _ => Nat.zero_le _
  | x :: l, m, h, hm => by
    rw [List.nodup_cons] at h
    have hx := hm x (List.mem_cons_self ..)
    have h1 := sub_len (m := m.erase x) h.2 fun y hy => (List.mem_erase_of_ne (by rintro rfl; exact h.1 hy)).2 (hm y (List.mem_cons_of_mem _ hy))
    rw [List.length_erase_of_mem hx] at h1
    have h2 := List.length_pos_of_mem hx
    rw [List.length_cons]; omega
theorem tlLookup (a c : Int) (b : Nat) (H : AHeap) (p m : Nat) (M : List SetS) (h : TimeAt b H p m M) (hM : M.length < 100) (hL : ∀ x ∈ M, x.l.length < 100) :
    Sound Try.prog 12 [ptrV p, spanV a c] H fun v H' => OwnP H.length H' v (lookC (cont M) a c) ∧ H <+: H' := by
  refine Sound.of_body (rs := [.tmp 4]) mixed Try.func12 rfl (by kernel_rfl) rfl (by kernel_rfl) ?_
  simp -dsimp only [go_sem, ↓reduceIte, Nat.reduceEqDiff, Nat.reduceAdd, Nat.reduceMul, Nat.reduceSub, Nat.reduceLeDiff, Nat.reduceLT]
  refine acondP_of (fun hc => ?_) (fun hc => ?_)
  · simp -dsimp only [go_sem, ↓reduceIte, Nat.reduceEqDiff, Nat.reduceAdd, Nat.reduceMul, Nat.reduceSub, Nat.reduceLeDiff, Nat.reduceLT]
    simp at hc
    have e : lookC (cont M) a c = [] := by
      rw [List.eq_nil_iff_forall_not_mem]
      intro q hq
      obtain ⟨s, _, h1, _⟩ := lookS_mem.1 hq
      omega
    rw [e]
    exact ⟨Own.nil _ _ _ _, List.prefix_append _ _⟩
  simp at hc
  simp -dsimp only [go_sem, ↓reduceIte, Nat.reduceEqDiff, Nat.reduceAdd, Nat.reduceMul, Nat.reduceSub, Nat.reduceLeDiff, Nat.reduceLT]
  have hb0 := get_end H (AObj.row [.int .i64 a, .int .i64 c] 2 true) []
  have h1 := h.pre (List.prefix_append H [AObj.row [.int .i64 a, .int .i64 c] 2 true])
  refine SoundP_of (tlStretches b _ p m M h1 (by omega)) ?_
  rintro vS H1 ⟨W, T, hW, hs, hT, hm, oS, p1⟩
  have hb1 := pre_get p1 hb0
  have eS := str_cont h hW hs hT hm
  have h2 := h1.pre p1
  have hSM : ∀ s ∈ strT W T, s.x ∈ M := fun s hq => (List.mem_filter.1 (hW.mem_iff.1 (strT_in s hq))).1
  have lS : (strT W T).length ≤ 200 := by
    have h1 := strT_len W T
    have h2 : T.length ≤ (ends W).length := by
      have hn : T.Nodup := hT.imp fun h => by omega
      exact sub_len hn fun n hn => (hm n).1 hn
    rw [ends_len] at h2
    have h3 := hW.length_eq
    have h4 := List.length_filter_le (fun x : SetS => whole x.l) M
    omega
  have pH1 : H <+: H1 := (List.prefix_append _ _).trans p1
  clear hW hs hT hm
  generalize strT W T = S at *
  obtain ⟨aS, cS, rfl, sS⟩ := oS.sl (fun _ => rfl)
  simp -dsimp only [go_sem, ↓reduceIte, Nat.reduceEqDiff, Nat.reduceAdd, Nat.reduceMul, Nat.reduceSub, Nat.reduceLeDiff, Nat.reduceLT]
  refine aloopP_of (fun n T H' => ∃ i v5, n = S.length - i ∧ i ≤ S.length ∧ T 3 = ptrV H.length ∧ T 5 = v5 ∧ T 21 = .slice aS S.length cS ∧ T 22 = .int .i64 S.length ∧ T 23 = .int .i64 (i : Nat) ∧ H1 <+: H' ∧ OwnP H1.length H' v5 (lookS ((S.take i).map Stretch.toC) a c)) (n := S.length) ?_ ?_
  · refine ⟨0, .slice none 0 0, rfl, Nat.zero_le _, ?_⟩
    simp -dsimp only [go_sem, ↓reduceIte, Nat.reduceEqDiff, Nat.reduceAdd, Nat.reduceMul, Nat.reduceSub, Nat.reduceLeDiff, Nat.reduceLT]
    exact ⟨rfl, List.prefix_refl _, Own.nil _ _ _ _⟩
  rintro n T H2 ⟨i, v5, rfl, hi, h3, h5, h21, h22, h23, p2, o5⟩
  simp -dsimp only [go_sem, ↓reduceIte, Nat.reduceEqDiff, Nat.reduceAdd, Nat.reduceMul, Nat.reduceSub, Nat.reduceLeDiff, Nat.reduceLT, h3, h5, h21, h22, h23]
  refine acondP_of (fun hc2 => ?_) (fun hc2 => ?_)
  rotate_left
  · simp at hc2
    simp -dsimp only [go_sem, ↓reduceIte, Nat.reduceEqDiff, Nat.reduceAdd, Nat.reduceMul, Nat.reduceSub, Nat.reduceLeDiff, Nat.reduceLT, h3, h5, h21, h22, h23]
    rw [List.take_of_length_le hc2, eS] at o5
    exact ⟨o5.mono (pre_len pH1), pH1.trans p2⟩
  simp at hc2
  obtain ⟨s, hs⟩ := get_ex hc2
  have hsS := List.mem_of_getElem? hs
  obtain ⟨idS, ofS, rfl, atS⟩ := (sS.pre p2).at (by omega)
  have hb2 := pre_get p2 hb1
  have hx := ((h2.pre p2).sets s.x (hSM s hsS))
  have eF : (if a > s.f then a else s.f) = max s.f a := by split <;> omega
  have eT : (if c < s.t then c else s.t) = min s.t c := by split <;> omega
  have lk := look_take hs a c
  simp -dsimp only [go_sem, ↓reduceIte, Nat.reduceEqDiff, Nat.reduceAdd, Nat.reduceMul, Nat.reduceSub, Nat.reduceLeDiff, Nat.reduceLT, h3, h5, h21, h22, h23, inRange hc2, rowLoad_whole (atS _ s hs), hb2, get_app hb2, eF, eT]
  refine acondP_of (fun he => ?_) (fun he => ?_)
  · simp only [decide_eq_true_eq] at he
    simp -dsimp only [go_sem, ↓reduceIte, Nat.reduceEqDiff, Nat.reduceAdd, Nat.reduceMul, Nat.reduceSub, Nat.reduceLeDiff, Nat.reduceLT, h3, h5, h21, h22, h23, wrS (show i < 4611686018427387904 by omega)]
    refine ⟨_, ?_, i + 1, v5, rfl, by omega, rfl, rfl, p2.trans (List.prefix_append _ _), ?_⟩
    · omega
    · rw [lk, piecesOf, if_neg (by omega), List.append_nil]
      exact o5.pre (List.prefix_append _ _)
  simp only [decide_eq_false_iff_not] at he
  have hx1 := h2.sets s.x (hSM s hsS)
  obtain ⟨aX, cX, hv, slX⟩ := hx1.own.sl (fun _ => rfl)
  have hxat := pre_get p2 hx1.at_
  rw [hv] at hxat
  have lX := hL s.x (hSM s hsS)
  have lB := look_len' lS (fun s hs => hL s.x (hSM s hs)) i a c
  have ep : piecesOf s a c = s.x.l.map fun z => ⟨z, max s.f a, min s.t c⟩ := if_pos (by omega)
  rw [ep] at lk
  clear ep eS oS hx
  generalize hB : lookS ((S.take i).map Stretch.toC) a c = base at *
  generalize max s.f a = f' at *
  generalize min s.t c = t' at *
  have n2 := pre_len p2
  simp -dsimp only [go_sem, ↓reduceIte, Nat.reduceEqDiff, Nat.reduceAdd, Nat.reduceMul, Nat.reduceSub, Nat.reduceLeDiff, Nat.reduceLT, h3, h5, h21, h22, h23, get_app hxat]
  refine aloopP_of (fun n T H' => ∃ q v7, n = s.x.l.length - q ∧ q ≤ s.x.l.length ∧ T 3 = ptrV H.length ∧ T 5 = v7 ∧ T 8 = ptrV (H2.length + 1) ∧ T 21 = .slice (some ⟨idS, ofS, none⟩) S.length cS ∧ T 22 = .int .i64 S.length ∧ T 23 = .int .i64 (i : Nat) ∧
    T 49 = .slice aX s.x.l.length cX ∧ T 50 = .int .i64 s.x.l.length ∧ T 51 = .int .i64 (q : Nat) ∧ H1 <+: H' ∧ H2.length + 2 ≤ H'.length ∧ H'[H2.length + 1]? = some (.row [.int .i64 f', .int .i64 t'] 2 true) ∧ owner v7 ≠ some (H2.length + 1) ∧ OwnP H1.length H' v7 (base ++ (s.x.l.take q).map fun z => ⟨z, f', t'⟩)) (n := s.x.l.length) ?_ ?_
  · refine ⟨0, v5, rfl, Nat.zero_le _, ?_⟩
    simp -dsimp only [go_sem, ↓reduceIte, Nat.reduceEqDiff, Nat.reduceAdd, Nat.reduceMul, Nat.reduceSub, Nat.reduceLeDiff, Nat.reduceLT, h3, h5, h21, h22, h23]
    exact ⟨rfl, p2.trans (List.prefix_append _ _), fun q => by have := (o5.owner_ge q).2; omega, by rw [List.append_nil]; exact o5.pre (List.prefix_append _ _)⟩
  rintro n T H3 ⟨q, v7, rfl, hq, h3, h5, h8, h21, h22, h23, h49, h50, h51, p3, l3, r8, ow7, o7⟩
  simp -dsimp only [go_sem, ↓reduceIte, Nat.reduceEqDiff, Nat.reduceAdd, Nat.reduceMul, Nat.reduceSub, Nat.reduceLeDiff, Nat.reduceLT, h3, h5, h8, h21, h22, h23, h49, h50, h51]
  refine acondP_of (fun hc3 => ?_) (fun hc3 => ?_)
  rotate_left
  · simp at hc3
    simp -dsimp only [go_sem, ↓reduceIte, Nat.reduceEqDiff, Nat.reduceAdd, Nat.reduceMul, Nat.reduceSub, Nat.reduceLeDiff, Nat.reduceLT, h3, h5, h8, h21, h22, h23, h49, h50, h51, wrS (show i < 4611686018427387904 by omega)]
    refine ⟨_, ?_, i + 1, v7, rfl, by omega, rfl, rfl, p3, ?_⟩
    · omega
    · rw [lk]
      rw [List.take_of_length_le hc3] at o7
      exact o7
  simp at hc3
  obtain ⟨z, hz⟩ := get_ex hc3
  obtain ⟨idX, ofX, rfl, atX⟩ := (slX.pre p3).at (by omega)
  obtain ⟨v9, H9, e9, o9, le9, fr9, ow9⟩ := Own.app1b (enc := Piece.cells) un29 el29 inf34 rfl (by decide) (by decide) (fun _ => rfl) (fun _ => rfl) (b := H1.length) (H := H3 ++ [AObj.row z.cells 5 true]) (by rw [List.length_append]; omega) (o7.pre (List.prefix_append _ _)) ⟨z, f', t'⟩ (by rw [List.length_append, List.length_map, List.length_take]; omega)
  simp only [Piece.cells, Seg.cells, List.append_assoc, List.cons_append, List.nil_append, List.length_append, List.length_cons, List.length_nil, Nat.zero_add] at e9
  simp -dsimp only [go_sem, ↓reduceIte, Nat.reduceEqDiff, Nat.reduceAdd, Nat.reduceMul, Nat.reduceSub, Nat.reduceLeDiff, Nat.reduceLT, h3, h5, h8, h21, h22, h23, h49, h50, h51, inRange hc3, rowLoad_whole (atX _ z hz), get_app r8, e9, wrS (show q < 4611686018427387904 by omega)]
  have l4 : (H3 ++ [AObj.row z.cells 5 true]).length = H3.length + 1 := by simp
  have o8 := o7.pre (List.prefix_append H3 [AObj.row z.cells 5 true])
  rw [l4] at le9
  refine ⟨_, ?_, q + 1, v9, rfl, hc3, rfl, rfl, ?_, by omega, ?_, ?_, ?_⟩
  · omega
  · refine List.prefix_iff_getElem?.2 fun j hj => ?_
    have n3 := pre_len p3
    rw [fr9 j (by omega) (fun q => by have := (o7.owner_ge q).1; omega), List.getElem?_append_left (by omega)]
    exact pre_get p3 (by simp [hj])
  · rw [fr9 _ (by omega) ow7, List.getElem?_append_left (by omega)]; exact r8
  · intro q2
    rcases ow9 _ q2 with q3 | q3
    · exact ow7 q3
    · omega
  · rw [take_get hz, List.map_append, ← List.append_assoc]
    exact o9
end Go.Proofs.Ythbifkeadbmcnaa
