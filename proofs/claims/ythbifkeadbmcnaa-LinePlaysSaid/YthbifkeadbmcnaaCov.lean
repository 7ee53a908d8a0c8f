/-
  Segments sorted; covered; maps.Keys.
-/
import Derived.Test.YthbifkeadbmcnaaKeys
import Derived.Test.YthbifkeadbmcnaaPure1
set_option linter.unusedVariables false
set_option linter.unusedSimpArgs false
namespace Go.Proofs.Ythbifkeadbmcnaa
open Go Go.AW Go.Bub
set_option linter.unusedSimpArgs false
set_option maxRecDepth 20000

theorem cmpSeg_lt {a b : Seg} : cmpSeg a b < 0 ↔ standsR a b = true := by
  unfold cmpSeg standsR
  simp only [orZ_cons, orZ, cmpZ]
  by_cases h1 : a.f = b.f
  · by_cases h2 : a.t = b.t
    · by_cases h3 : a.v = b.v
      · by_cases h4 : a.p = b.p
        · simp [h1, h2, h3, h4]
        · simp only [h1, h2, h3, ne_eq, not_true_eq_false, if_false, Int.lt_irrefl, decide_eq_true_eq]
          split <;> (try split) <;> simp_all <;> omega
      · simp only [h1, h2, ne_eq, not_true_eq_false, if_false, Int.lt_irrefl, h3, not_false_eq_true, if_true, decide_eq_true_eq]
        split <;> (try split) <;> simp_all <;> omega
    · simp only [h1, ne_eq, not_true_eq_false, if_false, Int.lt_irrefl, h2, not_false_eq_true, if_true, decide_eq_true_eq]
      split <;> (try split) <;> simp_all <;> omega
  · simp only [ne_eq, h1, not_false_eq_true, if_true, decide_eq_true_eq]
    split <;> (try split) <;> simp_all <;> omega
theorem standsR_iff {a b : Seg} : standsR a b = true ↔ a.f < b.f ∨ (a.f = b.f ∧ (a.t < b.t ∨ (a.t = b.t ∧ (a.v < b.v ∨ (a.v = b.v ∧ a.p < b.p))))) := by
  unfold standsR
  by_cases h1 : a.f = b.f
  · by_cases h2 : a.t = b.t
    · by_cases h3 : a.v = b.v
      · simp [h1, h2, h3]
      · simp [h1, h2, h3]
    · simp [h1, h2]
  · simp [h1]
theorem standsR_irrefl (a : Seg) : ¬ standsR a a = true := by rw [standsR_iff]; omega
theorem standsR_asymm {a b : Seg} (h : standsR a b = true) : ¬ standsR b a = true := by rw [standsR_iff] at *; omega
theorem standsR_tri {a b : Seg} (h : ¬ (a.key = b.key ∧ a.p = b.p)) (h2 : ¬ standsR b a = true) : standsR a b = true := by
  rw [standsR_iff] at *; simp only [Seg.key, Key.mk.injEq] at h; omega
theorem cmpSeg_on (l : List Seg) : CmpOn cmpSeg l where
  irrefl x _ := by rw [cmpSeg_lt, standsR_iff]; omega
  trans x _ y _ z _ h1 h2 := by rw [cmpSeg_lt, standsR_iff] at *; omega
  ntrans x _ y _ z _ h1 h2 := by rw [cmpSeg_lt, standsR_iff] at *; omega
abbrev StandL (l : List Seg) : Prop := l.Pairwise fun x y => standsR x y = true
/-- no segment twice, by set and part -/
abbrev OnceL (l : List Seg) : Prop := l.Pairwise fun x y => ¬ (x.key = y.key ∧ x.p = y.p)
theorem OnceL.perm {l m : List Seg} (h : OnceL l) (hp : l.Perm m) : OnceL m := (hp.pairwise_iff fun h q => h ⟨q.1.symm, q.2.symm⟩).1 h
def sortL (l : List Seg) : List Seg := l.mergeSort fun x y => !standsR y x
theorem sortL_perm (l : List Seg) : (sortL l).Perm l := List.mergeSort_perm _ _
theorem sortL_sorted {l : List Seg} (h : OnceL l) : StandL (sortL l) := by
  have h1 : (sortL l).Pairwise fun x y => ¬ standsR y x = true :=
    (List.pairwise_mergeSort (le := fun x y : Seg => !standsR y x) (fun a b c h1 h2 => by
      simp only [Bool.not_eq_true', ← Bool.not_eq_true, standsR_iff] at *; omega) (fun a b => by
      simp only [Bool.or_eq_true, Bool.not_eq_true', ← Bool.not_eq_true, standsR_iff]; omega) l).imp (fun {a b} h => by simpa using h)
  exact (List.Pairwise.and (h.perm (sortL_perm l).symm) h1).imp fun ⟨h1, h2⟩ => standsR_tri h1 h2
theorem standL_ext {l m : List Seg} (h : StandL l) (h2 : StandL m) (hm : ∀ x, x ∈ l ↔ x ∈ m) : l = m :=
  sorted_ext (lt := fun x y : Seg => standsR x y = true) (fun x => standsR_irrefl _) (fun x y => standsR_asymm) h h2 hm
/-- slices.SortFunc(out, stands) -/
theorem sortSegs (l : List Seg) (b : Nat) (H : AHeap) (v : Value) (hown : OwnS b H v l) (hl : l.length < 1000000) (ho : OnceL l) :
    Sound Try.prog 37 [v, .func (.func 38) #[] #[]] H fun r H' => r = .tuple #[] ∧ OwnS b H' v (sortL l) ∧ H'.length = H.length ∧ ∀ j, owner v ≠ some j → H'[j]? = H[j]? := by
  refine (sortFunc_struct Try.laysSF_f37 (k := 5) ag32 sz32 (by decide) (fun _ => rfl) (fun x _ => rfl) cmpSeg (cmpSeg_on l) 38 #[] hown (by omega) ?_).mono ?_
  · intro H' x y hx hy _ _
    exact (stands x y H').mono fun _ _ h => h.1
  · rintro r H' ⟨rfl, l', h1, h2, h3, h4⟩
    have h5 : StandL l' := (List.Pairwise.and (ho.perm h1.symm) h2).imp fun ⟨h1, h2⟩ => standsR_tri h1 (by rwa [cmpSeg_lt] at h2)
    rw [standL_ext h5 (sortL_sorted ho) fun x => by rw [h1.mem_iff, (sortL_perm l).mem_iff]] at h3
    exact ⟨rfl, h3, h4⟩

/-! ### covered -/
def covStep (k : Key) (at_ : Int) (s : CStr) : Int := if s.f ≤ at_ ∧ at_ < s.t ∧ aheadR s.k k = true then s.t else at_
def coveredC (k : Key) (S : List CStr) : Bool := decide (k.t ≤ S.foldl (covStep k) k.f)
theorem coveredLaw (k : Key) (S : List Stretch) (a : Option Addr) (c b : Nat) (H : AHeap) (hs : SlA H Stretch.cells 3 a S) (hx : ∀ s ∈ S, SetAt b H s.x) (hl : S.length < 100000) :
    Sound Try.prog 40 [k.val, .slice a S.length c] H fun v H' => v = .bool (coveredC k (S.map Stretch.toC)) ∧ H <+: H' := by
  refine Sound.of_body (rs := [.tmp 4]) mixed Try.func40 rfl (by kernel_rfl) rfl (by kernel_rfl) ?_
  have b0 := get_end H (AObj.row [.int .i64 k.f, .int .i64 k.t, .int .i64 k.v] 3 true) []
  have p1 := List.prefix_append H [AObj.row [.int .i64 k.f, .int .i64 k.t, .int .i64 k.v] 3 true]
  simp -dsimp only [go_sem, ↓reduceIte, Nat.reduceEqDiff, Nat.reduceAdd, Nat.reduceMul, Nat.reduceSub, Nat.reduceLeDiff, Nat.reduceLT]
  generalize hH1 : H ++ [AObj.row [.int .i64 k.f, .int .i64 k.t, .int .i64 k.v] 3 true] = H1 at *
  generalize hib : H.length = ib at *
  refine aloopP_of (fun n T H' => ∃ i : Nat, n = S.length - i ∧ i ≤ S.length ∧ H1 <+: H' ∧ T 2 = ptrV ib ∧ T 5 = .int .i64 ((S.take i).foldl (fun at_ s => covStep k at_ s.toC) k.f) ∧ T 11 = .slice a S.length c ∧ T 12 = .int .i64 S.length ∧ T 13 = .int .i64 (i : Nat)) (n := S.length) ?_ ?_
  · refine ⟨0, ?_⟩
    simp -dsimp only [go_sem, ↓reduceIte, Nat.reduceEqDiff, Nat.reduceAdd, Nat.reduceMul, Nat.reduceSub, Nat.reduceLeDiff, Nat.reduceLT]
    refine ⟨rfl, Nat.zero_le _, ?_, rfl, rfl⟩
    rw [← hH1]; exact List.prefix_refl _
  rintro n T H2 ⟨i, rfl, hi, p2, t2, t5, t11, t12, t13⟩
  have b2 := pre_get p2 b0
  simp -dsimp only [go_sem, ↓reduceIte, Nat.reduceEqDiff, Nat.reduceAdd, Nat.reduceMul, Nat.reduceSub, Nat.reduceLeDiff, Nat.reduceLT, t2, t5, t11, t12, t13, b2]
  refine acondP_of (fun hc => ?_) (fun hc => ?_)
  rotate_left
  · simp at hc
    rw [List.take_of_length_le hc] at t5
    simp -dsimp only [go_sem, ↓reduceIte, Nat.reduceEqDiff, Nat.reduceAdd, Nat.reduceMul, Nat.reduceSub, Nat.reduceLeDiff, Nat.reduceLT, t2, t5, t11, t12, t13, b2]
    refine ⟨?_, p1.trans p2⟩
    rw [coveredC, List.foldl_map]
  simp at hc
  obtain ⟨s, hsi⟩ := get_ex hc
  obtain ⟨id, off, rfl, hat⟩ := ((hs.pre p1).pre p2).at (by omega)
  have hset := (((hx s (List.mem_of_getElem? hsi)).pre p1).pre p2).pre (List.prefix_append H2 [AObj.row [ptrV s.x.id, .int .i64 s.f, .int .i64 s.t] 3 true])
  have stp : (S.take (i + 1)).foldl (fun at_ s => covStep k at_ s.toC) k.f = covStep k ((S.take i).foldl (fun at_ s => covStep k at_ s.toC) k.f) s.toC := by
    rw [take_get hsi, List.foldl_append]; rfl
  generalize (S.take i).foldl (fun at_ s => covStep k at_ s.toC) k.f = at0 at *
  have w1 := wrS (show i < 4611686018427387904 by omega)
  have b3 := get_app b2 [AObj.row [ptrV s.x.id, .int .i64 s.f, .int .i64 s.t] 3 true]
  have p3 := List.prefix_append H2 [AObj.row [ptrV s.x.id, .int .i64 s.f, .int .i64 s.t] 3 true]
  simp -dsimp only [go_sem, ↓reduceIte, Nat.reduceEqDiff, Nat.reduceAdd, Nat.reduceMul, Nat.reduceSub, Nat.reduceLeDiff, Nat.reduceLT, t2, t5, t11, t12, t13, b2, inRange hc, rowLoad_whole (hat i s hsi)]
  refine adrawnP_of2 [(0, false), (1, false), (2, false), (3, false), (4, false), (5, false), (6, false), (7, false), (8, false), (9, false), (10, false), (11, false), (12, false), (13, false), (14, false), (15, false), (16, false), (17, false), (18, false), (19, false), (20, false), (21, false)] (by kernel_rfl) ?_
  cases e1 : decide (s.f ≤ at0) with
  | false =>
    simp -dsimp only [go_sem, ↓reduceIte, Nat.reduceEqDiff, Nat.reduceAdd, Nat.reduceMul, Nat.reduceSub, Nat.reduceLeDiff, Nat.reduceLT, t2, t5, t11, t12, t13, b2, e1, w1]
    refine ⟨_, by omega, i + 1, rfl, hc, p2.trans p3, ?_, rfl⟩
    rw [stp, covStep, if_neg (fun q => absurd (show s.f ≤ at0 from q.1) (of_decide_eq_false e1))]
  | true =>
    cases e2 : decide (at0 < s.t) with
    | false =>
      simp -dsimp only [go_sem, ↓reduceIte, Nat.reduceEqDiff, Nat.reduceAdd, Nat.reduceMul, Nat.reduceSub, Nat.reduceLeDiff, Nat.reduceLT, t2, t5, t11, t12, t13, b2, e1, e2, w1]
      refine ⟨_, by omega, i + 1, rfl, hc, p2.trans p3, ?_, rfl⟩
      rw [stp, covStep, if_neg (fun q => absurd (show at0 < s.t from q.2.1) (of_decide_eq_false e2))]
    | true =>
      simp -dsimp only [go_sem, ↓reduceIte, Nat.reduceEqDiff, Nat.reduceAdd, Nat.reduceMul, Nat.reduceSub, Nat.reduceLeDiff, Nat.reduceLT, t2, t5, t11, t12, t13, b2, e1, e2, hset.at_, b3]
      refine SoundP_of (ahead s.x.k k _) ?_
      rintro _ H4 ⟨rfl, p4⟩
      have r4 := pre_get p4 (get_end H2 (AObj.row [ptrV s.x.id, .int .i64 s.f, .int .i64 s.t] 3 true) [])
      have e3 : decide (cmpAhead s.x.k k < 0) = aheadR s.x.k k := by rw [Bool.eq_iff_iff, decide_eq_true_eq, cmpAhead_lt]
      cases e4 : aheadR s.x.k k with
      | false =>
        simp -dsimp only [go_sem, ↓reduceIte, Nat.reduceEqDiff, Nat.reduceAdd, Nat.reduceMul, Nat.reduceSub, Nat.reduceLeDiff, Nat.reduceLT, t2, t5, t11, t12, t13, b2, e1, e2, e3, e4, w1]
        refine ⟨_, by omega, i + 1, rfl, hc, (p2.trans p3).trans p4, ?_, rfl⟩
        rw [stp, covStep, if_neg (fun q => by rw [e4] at q; simp at q)]
      | true =>
        simp -dsimp only [go_sem, ↓reduceIte, Nat.reduceEqDiff, Nat.reduceAdd, Nat.reduceMul, Nat.reduceSub, Nat.reduceLeDiff, Nat.reduceLT, t2, t5, t11, t12, t13, b2, e1, e2, e3, e4, r4, w1]
        refine ⟨_, by omega, i + 1, rfl, hc, (p2.trans p3).trans p4, ?_, rfl⟩
        rw [stp, covStep, if_pos ⟨of_decide_eq_true e1, of_decide_eq_true e2, e4⟩]
/-! ### maps.Keys -/
theorem keysOf_ (m : Nat) (H : AHeap) : Sound Try.prog 39 [.map (some m)] H fun v H' => v = .func (.func keysF) #[] #[ptrV H.length] ∧ H' = H ++ [.row [.map (some m)] 1 true] := by
  refine Sound.of_body (rs := [.tmp 2]) mixed Try.func39 rfl (by kernel_rfl) rfl (by kernel_rfl) ?_
  simp -dsimp only [go_sem, ↓reduceIte, Nat.reduceEqDiff, Nat.reduceAdd, Nat.reduceMul, Nat.reduceSub, Nat.reduceLeDiff, Nat.reduceLT]
end Go.Proofs.Ythbifkeadbmcnaa
