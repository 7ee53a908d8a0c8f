/-
  Parts of the proof, joined: AwMix, Meta1, Meta2, Meta3, AwIns, Ord.
-/
import Derived.Lib.Overlaps
import Derived.Laws.Externs
import Derived.Test.YtekpdopbiklkfaaGreatDoorPf09
section
set_option linter.unusedVariables false
set_option linter.unusedSimpArgs false
namespace Go.AW
open Go
variable {P : Program}
def mkPlan6 (P : Program) (an : List Nat) (ops : Array Oper) : List (Nat × Nat) → List Nat → List Nat → List Nat → Bool → Option (List (Nat × List Nat))
  | [], _, _, _, _ => some []
  | (i, k) :: is, seen, good, base, fresh =>
    match ops[i]? with
    | none => none
    | some o =>
      match cls P o with
      | .eff =>
        let chk := seen.filter fun j => !(an.getD i 0).testBit j
        if k = 1 then (if chk.all good.contains then (mkPlan6 P an ops is (i :: seen) good base false).map ((i, chk) :: ·) else none)
        else if k = 2 then (if chk.all base.contains then (mkPlan6 P an ops is (i :: seen) (base.filter good.contains) base false).map ((i, chk) :: ·) else none)
        else (if chk.isEmpty then (mkPlan6 P an ops is (i :: seen) [] base false).map ((i, chk) :: ·) else none)
      | .read => (mkPlan6 P an ops is (i :: seen) (i :: good) (if fresh then i :: base else base) fresh).map ((i, []) :: ·)
      | .alloc => (mkPlan6 P an ops is (i :: seen) (i :: good) base false).map ((i, []) :: ·)
def planOk6 (P : Program) (ops : Array Oper) (order : List (Nat × Nat)) : Bool :=
  match mkPlan6 P (ancs ops) ops order [] [] [] true with
  | some plan => planOk P ops plan
  | none => false
def adraw6 (P : Program) (l : List Oper) (K : Tm → AHeap → Prop) (B : AHeap) : List (Nat × Nat) → Tm → AHeap → Prop
  | [], T, H => K T H
  | (i, k) :: is, T, H => bindO (opAt l i) fun o => bindO (aguard l.toArray T o) fun g =>
      acond g (aop P T o H fun v H' => ((k = 1 → H <+: H') ∧ (k = 2 → B <+: H')) ∧ adraw6 P l K B is (T.put o.dst v) H') (adraw6 P l K B is (T.put o.dst undef) H)
theorem adraw_of6 {l : List Oper} {an : List Nat} {K : Tm → AHeap → Prop} {B : AHeap} : ∀ (is : List (Nat × Nat)) (seen good base : List Nat) (fresh : Bool) (plan : List (Nat × List Nat)) (recs : List Rec) (T : Tm) (H : AHeap),
    mkPlan6 P an l.toArray is seen good base fresh = some plan → (∀ r ∈ recs, r.i ∈ seen) → (∀ i ∈ good, i ∈ seen) → (∀ i ∈ base, i ∈ seen) → (∀ r ∈ recs, r.i ∈ good → recheck P l.toArray H r) → (∀ r ∈ recs, r.i ∈ base → recheck P l.toArray B r) → (fresh = true → H = B) →
      (∀ i ∈ is.map Prod.fst, i ∉ seen) → (is.map Prod.fst).Nodup → adraw6 P l K B is T H → adraw P l.toArray K plan recs T H
  | [], _, _, _, _, plan, recs, T, H, hp, _, _, _, _, _, _, _, _, h => by
    simp only [mkPlan6, Option.some.injEq] at hp
    subst hp
    exact h
  | (i, k) :: is, seen, good, base, fresh, plan, recs, T, H, hp, hs, hgs, hbs, hg, hb, hfr, hn, hnd, h => by
    simp only [adraw6] at h
    obtain ⟨o, ho, h1⟩ := bindO_iff.1 h
    rw [opAt_eq] at ho
    have ho' : l.toArray[i]? = some o := by simpa using ho
    simp only [mkPlan6, ho'] at hp
    have hi : i ∉ seen := hn i (by simp)
    simp only [List.map_cons, List.nodup_cons] at hnd
    have hn' : ∀ j ∈ is.map Prod.fst, j ∉ i :: seen := fun j hj hm => by
      rcases List.mem_cons.1 hm with rfl | hm
      · exact hnd.1 hj
      · exact hn j (by simp at hj ⊢; exact .inr hj) hm
    have hig : i ∉ good := fun q => hi (hgs i q)
    have hib : i ∉ base := fun q => hi (hbs i q)
    have s1 : ∀ r ∈ recs, r.i ∈ i :: seen := fun r hr => List.mem_cons_of_mem _ (hs r hr)
    have s2 : ∀ rec : Rec, rec.i = i → ∀ r ∈ rec :: recs, r.i ∈ i :: seen := fun rec e r hr => by
      rcases List.mem_cons.1 hr with rfl | hr
      · rw [e]; exact List.mem_cons_self ..
      · exact s1 r hr
    have g1 : ∀ j ∈ good, j ∈ i :: seen := fun j hj => List.mem_cons_of_mem _ (hgs j hj)
    have b1 : ∀ j ∈ base, j ∈ i :: seen := fun j hj => List.mem_cons_of_mem _ (hbs j hj)
    have g2 : ∀ j ∈ i :: good, j ∈ i :: seen := fun j hj => by
      rcases List.mem_cons.1 hj with rfl | hj
      · exact List.mem_cons_self ..
      · exact g1 j hj
    cases hc : cls P o with
    | eff =>
      simp only [hc] at hp
      by_cases k1 : k = 1
      · rw [if_pos k1] at hp
        split at hp
        · rename_i q
          simp only [Option.map_eq_some_iff] at hp
          obtain ⟨pl, hp, rfl⟩ := hp
          simp only [adraw]
          refine bindO_iff.2 ⟨o, ho', bindO_mono h1 fun g hgd => acond_mono hgd (fun hq => ?_) (fun hq => ?_)⟩
          · simp only [hc]
            refine aop_mono (fun v H' ⟨h3, h4⟩ => ⟨?_, ?_⟩) hq
            · refine rechecks_of fun r hr hj => recheck_pre (h3.1 k1) (hg r hr ?_)
              have := List.all_eq_true.1 q _ hj
              simpa using this
            · exact adraw_of6 is (i :: seen) good base false pl recs _ _ hp s1 g1 b1 (fun r hr hj => recheck_pre (h3.1 k1) (hg r hr hj)) hb (fun q => by cases q) hn' hnd.2 h4
          · simp only [hc]
            exact adraw_of6 is (i :: seen) good base false pl recs _ _ hp s1 g1 b1 hg hb (fun q => by cases q) hn' hnd.2 hq
        · cases hp
      · rw [if_neg k1] at hp
        by_cases k2 : k = 2
        · rw [if_pos k2] at hp
          have gf : ∀ j ∈ base.filter good.contains, j ∈ base ∧ j ∈ good := fun j hj => by
            have := List.mem_filter.1 hj
            exact ⟨this.1, by simpa using this.2⟩
          split at hp
          · rename_i q
            simp only [Option.map_eq_some_iff] at hp
            obtain ⟨pl, hp, rfl⟩ := hp
            simp only [adraw]
            refine bindO_iff.2 ⟨o, ho', bindO_mono h1 fun g hgd => acond_mono hgd (fun hq => ?_) (fun hq => ?_)⟩
            · simp only [hc]
              refine aop_mono (fun v H' ⟨h3, h4⟩ => ⟨?_, ?_⟩) hq
              · refine rechecks_of fun r hr hj => recheck_pre (h3.2 k2) (hb r hr ?_)
                have := List.all_eq_true.1 q _ hj
                simpa using this
              · exact adraw_of6 is (i :: seen) _ base false pl recs _ _ hp s1 (fun j hj => b1 j (gf j hj).1) b1 (fun r hr hj => recheck_pre (h3.2 k2) (hb r hr (gf _ hj).1)) hb (fun q => by cases q) hn' hnd.2 h4
            · simp only [hc]
              exact adraw_of6 is (i :: seen) _ base false pl recs _ _ hp s1 (fun j hj => b1 j (gf j hj).1) b1 (fun r hr hj => hg r hr (gf _ hj).2) hb (fun q => by cases q) hn' hnd.2 hq
          · cases hp
        · rw [if_neg k2] at hp
          split at hp
          · rename_i q
            simp only [Option.map_eq_some_iff] at hp
            obtain ⟨pl, hp, rfl⟩ := hp
            simp only [adraw]
            have hnone : ∀ j, j ∉ (seen.filter fun j => !(an.getD i 0).testBit j) := fun j hj => by
              rw [List.isEmpty_iff] at q; rw [q] at hj; cases hj
            refine bindO_iff.2 ⟨o, ho', bindO_mono h1 fun g hgd => acond_mono hgd (fun hq => ?_) (fun hq => ?_)⟩
            · simp only [hc]
              refine aop_mono (fun v H' ⟨h3, h4⟩ => ⟨?_, ?_⟩) hq
              · exact rechecks_of fun r hr hj => absurd hj (hnone _)
              · exact adraw_of6 is (i :: seen) [] base false pl recs _ _ hp s1 (fun j hj => by cases hj) b1 (fun r hr hj => by cases hj) hb (fun q => by cases q) hn' hnd.2 h4
            · simp only [hc]
              exact adraw_of6 is (i :: seen) [] base false pl recs _ _ hp s1 (fun j hj => by cases hj) b1 (fun r hr hj => by cases hj) hb (fun q => by cases q) hn' hnd.2 hq
          · cases hp
    | read =>
      simp only [hc, Option.map_eq_some_iff] at hp
      obtain ⟨pl, hp, rfl⟩ := hp
      simp only [adraw]
      have b2 : ∀ j ∈ (if fresh then i :: base else base), j ∈ i :: seen := fun j hj => by
        split at hj
        · rcases List.mem_cons.1 hj with rfl | hj
          · exact List.mem_cons_self ..
          · exact b1 j hj
        · exact b1 j hj
      have go : ∀ rec : Rec, rec.i = i → recheck P l.toArray H rec → (∀ r ∈ rec :: recs, r.i ∈ i :: good → recheck P l.toArray H r) ∧ (∀ r ∈ rec :: recs, r.i ∈ (if fresh then i :: base else base) → recheck P l.toArray B r) := fun rec e hrec => by
        refine ⟨fun r hr hj => ?_, fun r hr hj => ?_⟩
        · rcases List.mem_cons.1 hr with rfl | hr
          · exact hrec
          · rcases List.mem_cons.1 hj with q | hj
            · exact absurd (hs r hr) (q ▸ hi)
            · exact hg r hr hj
        · rcases List.mem_cons.1 hr with rfl | hr
          · split at hj
            · rename_i q; rw [← hfr q]; exact hrec
            · rw [e] at hj; exact absurd hj hib
          · split at hj
            · rcases List.mem_cons.1 hj with q | hj
              · exact absurd (hs r hr) (q ▸ hi)
              · exact hb r hr hj
            · exact hb r hr hj
      refine bindO_iff.2 ⟨o, ho', bindO_mono h1 fun g hgd => acond_mono hgd (fun hq => ?_) (fun hq => ?_)⟩
      · simp only [hc]
        have := aop_read hc hq
        obtain ⟨v, hv, hv2⟩ := bindO_iff.1 this
        refine bindO_iff.2 ⟨v, hv, ?_⟩
        have hrec : recheck P l.toArray H ⟨i, T, v, none, false⟩ := by simp only [recheck, ho']; exact hv
        obtain ⟨w1, w2⟩ := go _ rfl hrec
        exact adraw_of6 is (i :: seen) _ _ fresh pl _ _ _ hp (s2 _ rfl) g2 b2 w1 w2 hfr hn' hnd.2 hv2.2
      · simp only [hc]
        obtain ⟨w1, w2⟩ := go ⟨i, T, undef, none, true⟩ rfl (by simp only [recheck])
        exact adraw_of6 is (i :: seen) _ _ fresh pl _ _ _ hp (s2 _ rfl) g2 b2 w1 w2 hfr hn' hnd.2 hq
    | alloc =>
      simp only [hc, Option.map_eq_some_iff] at hp
      obtain ⟨pl, hp, rfl⟩ := hp
      simp only [adraw]
      have w2 : ∀ rec : Rec, rec.i = i → ∀ r ∈ rec :: recs, r.i ∈ base → recheck P l.toArray B r := fun rec e r hr hj => by
        rcases List.mem_cons.1 hr with rfl | hr
        · rw [e] at hj; exact absurd hj hib
        · exact hb r hr hj
      refine bindO_iff.2 ⟨o, ho', bindO_mono h1 fun g hgd => acond_mono hgd (fun hq => ?_) (fun hq => ?_)⟩
      · simp only [hc]
        have := aop_alloc' hc hq
        obtain ⟨p, hv, hv2⟩ := bindO_iff.1 this
        refine bindO_iff.2 ⟨p, hv, adraw_of6 is (i :: seen) _ base false pl _ _ _ hp (s2 _ rfl) g2 b1 (fun r hr hj => ?_) (w2 _ rfl) (fun q => by cases q) hn' hnd.2 hv2.2⟩
        rcases List.mem_cons.1 hr with rfl | hr
        · simp only [recheck, ho']; exact bindO_iff.2 ⟨p, hv, by simp⟩
        · rcases List.mem_cons.1 hj with q | hj
          · exact absurd (hs r hr) (q ▸ hi)
          · exact recheck_pre (pre_add _ _) (hg r hr hj)
      · simp only [hc]
        refine adraw_of6 is (i :: seen) _ base false pl _ _ _ hp (s2 _ rfl) g2 b1 (fun r hr hj => ?_) (w2 _ rfl) (fun q => by cases q) hn' hnd.2 hq
        rcases List.mem_cons.1 hr with rfl | hr
        · simp only [recheck]
        · rcases List.mem_cons.1 hj with q | hj
          · exact absurd (hs r hr) (q ▸ hi)
          · exact hg r hr hj
theorem adrawnP_of6 {l : List Oper} {K : Tm → AHeap → Prop} {T : Tm} {H : AHeap} {t1 : Tok l.toArray} {t2 : Tok K} {t3 : Tok T} {t4 : Tok H} (order : List (Nat × Nat)) (hp : (planOk6 P l.toArray order && decide ((order.map Prod.fst).Nodup)) = true)
    (h : adraw6 P l K H order T H) : adrawnP P l.toArray K T H t1 t2 t3 t4 := by
  simp only [Bool.and_eq_true, decide_eq_true_eq] at hp
  obtain ⟨hp, hnd⟩ := hp
  unfold planOk6 at hp
  split at hp
  · rename_i plan hm
    exact ⟨plan, hp, adraw_of6 order [] [] [] true plan [] T H hm (fun r hr => by simp at hr) (fun r hr => by simp at hr) (fun r hr => by simp at hr) (fun r hr => by simp at hr) (fun r hr => by simp at hr) (fun _ => rfl) (fun r hr => by simp) hnd h⟩
  · cases hp
def adstep6 (P : Program) (l : List Oper) (K : Tm → AHeap → Prop) (B : AHeap) (k : Nat) (is : List (Nat × Nat)) (T : Tm) (H : AHeap) (o : Oper) : Prop :=
  bindO (aguard l.toArray T o) fun g => acond g (aop P T o H fun v H' => ((k = 1 → H <+: H') ∧ (k = 2 → B <+: H')) ∧ adraw6 P l K B is (T.put o.dst v) H') (adraw6 P l K B is (T.put o.dst undef) H)
def mixed6 (k : Nat) (B H H' : AHeap) (A : Prop) (_ : Tok A) : Prop := ((k = 1 → H <+: H') ∧ (k = 2 → B <+: H')) ∧ A
theorem mixed6_zero (B H H' : AHeap) (A : Prop) (t : Tok A) : mixed6 0 B H H' A t = A := by simp [mixed6]
theorem mixed6_refl1 (B H : AHeap) (A : Prop) (t : Tok A) : mixed6 1 B H H A t = A := by simp [mixed6]
theorem grown2 {B H H' : AHeap} {A : Prop} {t : Tok A} (h : B <+: H') (ha : A) : mixed6 2 B H H' A t := ⟨⟨fun q => absurd q (by decide), fun _ => h⟩, ha⟩
theorem grownX {k : Nat} {B H H' : AHeap} {A : Prop} {t : Tok A} (h : H <+: H') (h2 : B <+: H') (ha : A) : mixed6 k B H H' A t := ⟨⟨fun _ => h, fun _ => h2⟩, ha⟩
section
variable (P : Program) (l : List Oper) (K : Tm → AHeap → Prop) (B : AHeap) (T : Tm) (H : AHeap) (k : Nat)
theorem adraw6_nil : adraw6 P l K B [] T H = K T H := (rfl)
def adopen6 (os : List Oper) (i : Nat) (is : List (Nat × Nat)) : Prop := bindO (opAt os i) fun o => adstep6 P l K B k is T H o
theorem adraw6_cons (i : Nat) (is : List (Nat × Nat)) : adraw6 P l K B ((i, k) :: is) T H = adopen6 P l K B T H k l i is := (rfl)
theorem adopen6_zero (o : Oper) (os : List Oper) (is : List (Nat × Nat)) : adopen6 P l K B T H k (o :: os) 0 is = adstep6 P l K B k is T H o := (rfl)
theorem adopen6_succ (o : Oper) (os : List Oper) (i : Nat) (is : List (Nat × Nat)) : adopen6 P l K B T H k (o :: os) (i + 1) is = adopen6 P l K B T H k os i is := (rfl)
theorem adstep6_none (is : List (Nat × Nat)) (d : Option Tmp) (op : Op) (ty : TypeId) (pos : String) (aft : Array Edge) :
    adstep6 P l K B k is T H ⟨d, op, ty, pos, aft, none⟩ = aop P T ⟨d, op, ty, pos, aft, none⟩ H fun v H' => mixed6 k B H H' (adraw6 P l K B is (T.put d v) H') (tk _) := (rfl)
theorem adstep6_some (is : List (Nat × Nat)) (d : Option Tmp) (op : Op) (ty : TypeId) (pos : String) (aft : Array Edge) (g : Nat × Bool) :
    adstep6 P l K B k is T H ⟨d, op, ty, pos, aft, some g⟩ = bindP (aguard l.toArray T ⟨d, op, ty, pos, aft, some g⟩) (fun q => acondP q (aop P T ⟨d, op, ty, pos, aft, some g⟩ H fun v H' => mixed6 k B H H' (adraw6 P l K B is (T.put d v) H') (tk _)) (adraw6 P l K B is (T.put d undef) H) (tk _) (tk _)) (tk _) := (rfl)
end
attribute [go_sem ↓] adraw6_nil adraw6_cons adopen6_zero adopen6_succ adstep6_none adstep6_some
attribute [go_sem] mixed6_zero mixed6_refl1
end Go.AW
end
section
set_option linter.unusedVariables false
set_option linter.unusedSimpArgs false
namespace Go.Proofs.YtekpdopbiklkfaaGreatDoor
open Go Go.AW
set_option linter.unusedSimpArgs false
set_option maxRecDepth 20000
structure Seg where
  f : Int
  t : Int
  v : Int
  p : Int
  c : Int
deriving DecidableEq
abbrev Seg.cells (s : Seg) : List Value := [.int .i64 s.f, .int .i64 s.t, .int .i64 s.v, .int .i64 s.p, .int .i64 s.c]
abbrev Seg.val (s : Seg) : Value := .agg s.cells.toArray
def N63 (n : Int) : Prop := 0 ≤ n ∧ n < 9223372036854775808
structure Seg.Ok (s : Seg) : Prop where
  f : N63 s.f
  t : N63 s.t
  v : N63 s.v
  p : N63 s.p
  c : N63 s.c
def intB (n : Int) : List UInt8 := numB (2 * n.toNat)
def Seg.B (s : Seg) : List UInt8 := [s.f, s.t, s.v, s.p, s.c].flatMap intB
theorem intB_le {n : Int} (h : N63 n) : (intB n).length ≤ 10 := numB_le (by have := h.1; have := h.2; omega)
theorem ints_le : ∀ (l : List Int), (∀ n ∈ l, N63 n) → (l.flatMap intB).length ≤ 10 * l.length
  | [], _ => by simp
  | n :: l, h => by
    have h1 := intB_le (h n (by simp))
    have h2 := ints_le l (fun m hm => h m (by simp [hm]))
    simp only [List.flatMap_cons, List.length_append, List.length_cons]; omega
abbrev encI (n : Int) : List Value := [.int .i64 n]
attribute [go_sem] encI
theorem intLaw' (n : Int) (hn : N63 n) (l : List UInt8) (a : Option Addr) (c : Nat) (H : AHeap) (hs : SlA H encB 1 a l) (hl : l.length < 3000000) :
    Sound Tryz.prog 91 [.slice a l.length c, .int .i64 n] H fun v H' => H <+: H' ∧ Own H.length H' encB 1 v (l ++ intB n) := by
  obtain ⟨k, rfl⟩ := Int.eq_ofNat_of_zero_le hn.1
  have h := intLaw k (by have := hn.2; omega) l a c H hs hl
  rw [intB, Int.toNat_natCast]
  exact h
theorem readInt' (n : Int) (hn : N63 n) (rest : List UInt8) {p : Nat} {H : AHeap} (hr : ReadAt H p (intB n ++ rest)) (hl : rest.length < 3000000) :
    Sound Tryz.prog 135 [ptrV p] H fun v H' => v = .int .i64 n ∧ Only p H H' ∧ ReadAt H' p rest := by
  obtain ⟨k, rfl⟩ := Int.eq_ofNat_of_zero_le hn.1
  rw [intB, Int.toNat_natCast] at hr
  exact readInt k (by have := hn.2; omega) rest hr hl
theorem intsLaw (l : List Int) (hn : ∀ n ∈ l, N63 n) (a : Option Addr) (c : Nat) (H : AHeap) (hs : SlA H encI 1 a l) (hl : l.length < 1000) :
    Sound Tryz.prog 57 [.slice a l.length c] H fun v H' => H <+: H' ∧ Own H.length H' encB 1 v (l.flatMap intB) := by
  refine Sound.of_body (rs := [.tmp 2]) mixed Tryz.func57 rfl (by kernel_rfl) rfl (by kernel_rfl) ?_
  simp -dsimp only [go_sem, ↓reduceIte, Nat.reduceEqDiff, Nat.reduceAdd, Nat.reduceMul, Nat.reduceSub, Nat.reduceLeDiff, Nat.reduceLT]
  refine aloopP_of (fun n T H' => ∃ i v, n = l.length - i ∧ i ≤ l.length ∧ H <+: H' ∧ Own H.length H' encB 1 v ((l.take i).flatMap intB) ∧ T 3 = v ∧ T 6 = .slice a l.length c ∧ T 7 = .int .i64 l.length ∧ T 8 = .int .i64 (i : Nat)) (n := l.length) ?_ ?_
  · refine ⟨0, .slice none 0 0, ?_⟩
    simp -dsimp only [go_sem, ↓reduceIte, Nat.reduceEqDiff, Nat.reduceAdd, Nat.reduceMul, Nat.reduceSub, Nat.reduceLeDiff, Nat.reduceLT]
    exact ⟨rfl, Nat.zero_le _, List.prefix_refl _, Own.nil _ _ _ _, rfl⟩
  · rintro n T H' ⟨i, v, rfl, hi, hp, ho, h3, h6, h7, h8⟩
    simp -dsimp only [go_sem, ↓reduceIte, Nat.reduceEqDiff, Nat.reduceAdd, Nat.reduceMul, Nat.reduceSub, Nat.reduceLeDiff, Nat.reduceLT, h3, h6, h7, h8]
    refine acondP_of (fun h => ?_) (fun h => ?_)
    · simp at h
      obtain ⟨x, hx⟩ := get_ex h
      obtain ⟨id, off, rfl, hat⟩ := (hs.pre hp).at (by omega)
      obtain ⟨a1, c1, rfl, sl1⟩ := ho.sl (fun _ => rfl)
      have hle := ints_le (l.take i) (fun m hm => hn m (List.mem_of_mem_take hm))
      have hlen : (l.take i).length ≤ 1000 := by rw [List.length_take]; omega
      generalize hL : (l.take i).flatMap intB = L at *
      simp -dsimp only [go_sem, ↓reduceIte, Nat.reduceEqDiff, Nat.reduceAdd, Nat.reduceMul, Nat.reduceSub, Nat.reduceLeDiff, Nat.reduceLT, h3, h6, h7, h8, inRange h, rowLoad_one0 (hat i x hx)]
      refine SoundP_of (intLaw' x (hn x (List.mem_of_getElem? hx)) L a1 c1 H' sl1 (by omega)) ?_
      rintro w H2 ⟨p2, o2⟩
      simp -dsimp only [go_sem, ↓reduceIte, Nat.reduceEqDiff, Nat.reduceAdd, Nat.reduceMul, Nat.reduceSub, Nat.reduceLeDiff, Nat.reduceLT, h3, h6, h7, h8, wrS (show i < 4611686018427387904 by omega)]
      exact ⟨_, by omega, i + 1, w, rfl, h, hp.trans p2, by rw [List.take_add_one, hx, List.flatMap_append, hL]; simpa using o2.mono (pre_len hp), rfl, rfl⟩
    · simp at h
      have hil : l.take i = l := List.take_of_length_le h
      rw [hil] at ho
      simp -dsimp only [go_sem, ↓reduceIte, Nat.reduceEqDiff, Nat.reduceAdd, Nat.reduceMul, Nat.reduceSub, Nat.reduceLeDiff, Nat.reduceLT, h3, h6, h7, h8]
      exact ⟨hp, ho⟩
theorem sliceI (l : List Int) {H : AHeap} {id : Nat} (h : H[id]? = some (.row (l.flatMap encI) 1 true)) : SlA H encI 1 (some ⟨id, 0, none⟩) l := SlA.ofRow h (by simp) (fun _ => rfl)
theorem segBytes (s : Seg) (hs : s.Ok) (H : AHeap) : Sound Tryz.prog 75 [s.val] H fun v H' => H <+: H' ∧ Own H.length H' encB 1 v s.B := by
  refine Sound.of_body (rs := [.tmp 2]) mixed Tryz.func75 rfl (by kernel_rfl) rfl (by kernel_rfl) ?_
  have p0 : H <+: H ++ [AObj.row s.cells 5 true, AObj.row (([s.f, s.t, s.v, s.p, s.c] : List Int).flatMap encI) 1 true] := List.prefix_append _ _
  have b0 := get_end1 H (AObj.row s.cells 5 true) (AObj.row (([s.f, s.t, s.v, s.p, s.c] : List Int).flatMap encI) 1 true) []
  simp -dsimp only [go_sem, ↓reduceIte, Nat.reduceEqDiff, Nat.reduceAdd, Nat.reduceMul, Nat.reduceSub, Nat.reduceLeDiff, Nat.reduceLT]
  refine SoundP_of (intsLaw [s.f, s.t, s.v, s.p, s.c] (by
    intro n hn
    simp only [List.mem_cons, List.not_mem_nil, or_false] at hn
    rcases hn with rfl | rfl | rfl | rfl | rfl
    · exact hs.f
    · exact hs.t
    · exact hs.v
    · exact hs.p
    · exact hs.c) _ 5 _ (sliceI _ b0) (by simp)) ?_
  rintro v H1 ⟨p1, o1⟩
  simp -dsimp only [go_sem, ↓reduceIte, Nat.reduceEqDiff, Nat.reduceAdd, Nat.reduceMul, Nat.reduceSub, Nat.reduceLeDiff, Nat.reduceLT]
  exact ⟨p0.trans p1, o1.mono (pre_len p0)⟩
structure Meta where
  seg : Seg
  blob : ByteArray
  sum : Int
  rows : Int
deriving DecidableEq
abbrev Meta.cells (m : Meta) : List Value := [.int .i64 m.seg.f, .int .i64 m.seg.t, .int .i64 m.seg.v, .int .i64 m.seg.p, .int .i64 m.seg.c, .string m.blob, .int .u32 m.sum, .int .i64 m.rows]
abbrev Meta.val (m : Meta) : Value := .agg m.cells.toArray
structure Meta.Ok (m : Meta) : Prop where
  seg : m.seg.Ok
  blob : m.blob.size ≤ 62
  s0 : 0 ≤ m.sum
  s1 : m.sum < 4294967296
  rows : N63 m.rows
def Meta.B (m : Meta) : List UInt8 := m.seg.B ++ (intB m.rows ++ (numB m.sum.toNat ++ (numB m.blob.size ++ strB m.blob)))
theorem Seg.B_le {s : Seg} (h : s.Ok) : s.B.length ≤ 50 := ints_le [s.f, s.t, s.v, s.p, s.c] (by
    intro n hn
    simp only [List.mem_cons, List.not_mem_nil, or_false] at hn
    rcases hn with rfl | rfl | rfl | rfl | rfl
    · exact h.f
    · exact h.t
    · exact h.v
    · exact h.p
    · exact h.c)
theorem Meta.B_le {m : Meta} (h : m.Ok) : m.B.length ≤ 142 := by
  have h1 := Seg.B_le h.seg
  have h2 := intB_le h.rows
  have h3 := numB_le (n := m.sum.toNat) (by have := h.s1; omega)
  have h4 := numB_le (n := m.blob.size) (by have := h.blob; omega)
  have h5 : (strB m.blob).length = m.blob.size := rfl
  have h6 := h.blob
  simp only [Meta.B, List.length_append]; omega
theorem metaBytes (m : Meta) (hm : m.Ok) (H : AHeap) : Sound Tryz.prog 77 [m.val] H fun v H' => H <+: H' ∧ Own H.length H' encB 1 v m.B := by
  refine Sound.of_body (rs := [.tmp 2]) mixed Tryz.func77 rfl (by kernel_rfl) rfl (by kernel_rfl) ?_
  have p0 : H <+: H ++ [AObj.row m.cells 8 true] := List.prefix_append _ _
  have b0 := get_end H (AObj.row m.cells 8 true) []
  simp -dsimp only [go_sem, ↓reduceIte, Nat.reduceEqDiff, Nat.reduceAdd, Nat.reduceMul, Nat.reduceSub, Nat.reduceLeDiff, Nat.reduceLT]
  have c0 := get_end1 H (AObj.row m.cells 8 true) (AObj.row (([m.rows] : List Int).flatMap encI) 1 true) []
  have p0' : H <+: H ++ [AObj.row m.cells 8 true, AObj.row (([m.rows] : List Int).flatMap encI) 1 true] := List.prefix_append _ _
  obtain ⟨k, hk⟩ := Int.eq_ofNat_of_zero_le hm.s0
  have hk2 : k < 18446744073709551616 := by have := hm.s1; omega
  have ew : IntKind.u64.wrap m.sum = ((k : Nat) : Int) := by rw [hk]; exact wrap64 _ hk2
  have pB : H ++ [AObj.row m.cells 8 true] <+: H ++ [AObj.row m.cells 8 true, AObj.row (([m.rows] : List Int).flatMap encI) 1 true] := ⟨[AObj.row (([m.rows] : List Int).flatMap encI) 1 true], by simp⟩
  have lB : (H ++ [AObj.row m.cells 8 true]).length = H.length + 1 := by simp
  have lB2 : (H ++ [AObj.row m.cells 8 true, AObj.row (([m.rows] : List Int).flatMap encI) 1 true]).length = H.length + 2 := by simp
  refine adrawnP_of6 [(0, 0), (1, 0), (3, 0), (4, 0), (8, 0), (9, 0), (10, 0), (12, 0), (13, 0), (5, 0), (2, 1), (6, 2), (7, 2), (11, 2), (14, 0), (15, 0)] (by kernel_rfl) ?_
  simp -dsimp only [go_sem, ↓reduceIte, Nat.reduceEqDiff, Nat.reduceAdd, Nat.reduceMul, Nat.reduceSub, Nat.reduceLeDiff, Nat.reduceLT, ew]
  refine SoundP_of (segBytes m.seg hm.seg _) ?_
  rintro v1 H1 ⟨p1, o1⟩
  have r1 := pB.trans p1
  have lH1 : H.length + 2 ≤ H1.length := by rw [← lB2]; exact pre_len p1
  have o1 := o1.mono (show (H ++ [AObj.row m.cells 8 true]).length ≤ _ by rw [lB]; show _ ≤ (H ++ [AObj.row m.cells 8 true, AObj.row (([m.rows] : List Int).flatMap encI) 1 true]).length; rw [lB2]; omega)
  refine grownX (by simpa using p1) r1 ?_
  simp -dsimp only [go_sem, ↓reduceIte, Nat.reduceEqDiff, Nat.reduceAdd, Nat.reduceMul, Nat.reduceSub, Nat.reduceLeDiff, Nat.reduceLT]
  refine SoundP_of (intsLaw [m.rows] (by intro n hn; rw [List.mem_singleton.1 hn]; exact hm.rows) _ 1 _ (sliceI _ (pre_get p1 c0)) (by simp)) ?_
  rintro v2 H2 ⟨p2, o2⟩
  have r2 := r1.trans p2
  refine grownX p2 r2 ?_
  obtain ⟨a2, c2, rfl, sl2⟩ := o2.sl (fun _ => rfl)
  have o1' := o1.pre p2
  have hb1 := Seg.B_le hm.seg
  have hb2 := ints_le [m.rows] (by intro n hn; rw [List.mem_singleton.1 hn]; exact hm.rows)
  simp only [List.length_cons, List.length_nil] at hb2
  obtain ⟨v3, H3, e3, ap3⟩ := appL (c := c2) o1' (pre_len r2) sl2 (by omega) (by omega)
  have r3 := ap3.pre r2 o1'
  simp -dsimp only [go_sem, ↓reduceIte, Nat.reduceEqDiff, Nat.reduceAdd, Nat.reduceMul, Nat.reduceSub, Nat.reduceLeDiff, Nat.reduceLT, e3]
  refine grown2 r3 ?_
  obtain ⟨a3, c3, rfl, sl3⟩ := ap3.own.sl (fun _ => rfl)
  have g3 : (m.seg.B ++ ([m.rows] : List Int).flatMap intB).length ≤ 60 := by rw [List.length_append]; omega
  have e3' : m.seg.B ++ ([m.rows] : List Int).flatMap intB = m.seg.B ++ intB m.rows := by simp
  generalize hB3 : m.seg.B ++ ([m.rows] : List Int).flatMap intB = B3 at *
  simp -dsimp only [go_sem, ↓reduceIte, Nat.reduceEqDiff, Nat.reduceAdd, Nat.reduceMul, Nat.reduceSub, Nat.reduceLeDiff, Nat.reduceLT]
  refine SoundP_of (uintLaw k hk2 B3 a3 c3 H3 sl3 (by omega)) ?_
  rintro v4 H4 ⟨p4, o4⟩
  refine grown2 (r3.trans p4) ?_
  obtain ⟨a4, c4, rfl, sl4⟩ := o4.sl (fun _ => rfl)
  have g4 : (B3 ++ numB k).length ≤ 70 := by rw [List.length_append]; have := numB_le hk2; omega
  generalize hB4 : B3 ++ numB k = B4 at *
  simp -dsimp only [go_sem, ↓reduceIte, Nat.reduceEqDiff, Nat.reduceAdd, Nat.reduceMul, Nat.reduceSub, Nat.reduceLeDiff, Nat.reduceLT]
  refine SoundP_of (textLaw m.blob (by have := hm.blob; omega) B4 a4 c4 H4 sl4 (by omega)) ?_
  rintro v5 H5 ⟨p5, o5⟩
  simp -dsimp only [go_sem, ↓reduceIte, Nat.reduceEqDiff, Nat.reduceAdd, Nat.reduceMul, Nat.reduceSub, Nat.reduceLeDiff, Nat.reduceLT]
  have q4 := (r3.trans p4).trans p5
  refine ⟨p0.trans q4, ?_⟩
  have eB : m.B = B4 ++ (numB m.blob.size ++ strB m.blob) := by
    rw [← hB4, e3', Meta.B, show m.sum.toNat = k by rw [hk]; rfl]
    simp only [List.append_assoc]
  rw [eB]
  exact o5.mono (Nat.le_trans (by omega : H.length ≤ (H ++ [AObj.row m.cells 8 true]).length) (pre_len (r3.trans p4)))
end Go.Proofs.YtekpdopbiklkfaaGreatDoor
end
section
set_option linter.unusedVariables false
set_option linter.unusedSimpArgs false
namespace Go.Proofs.YtekpdopbiklkfaaGreatDoor
open Go Go.AW
set_option linter.unusedSimpArgs false
set_option maxRecDepth 20000
abbrev encU (n : Int) : List Value := [.int .u64 n]
attribute [go_sem] encU
def U64 (n : Int) : Prop := 0 ≤ n ∧ n < 18446744073709551616
def uintB (n : Int) : List UInt8 := numB n.toNat
theorem uintB_le {n : Int} (h : U64 n) : (uintB n).length ≤ 10 := numB_le (by have := h.1; have := h.2; omega)
theorem uintLaw' (n : Int) (hn : U64 n) (l : List UInt8) (a : Option Addr) (c : Nat) (H : AHeap) (hs : SlA H encB 1 a l) (hl : l.length < 3000000) :
    Sound Tryz.prog 76 [.slice a l.length c, .int .u64 n] H fun v H' => H <+: H' ∧ Own H.length H' encB 1 v (l ++ uintB n) := by
  obtain ⟨k, rfl⟩ := Int.eq_ofNat_of_zero_le hn.1
  have h := uintLaw k (by have := hn.2; omega) l a c H hs hl
  rw [uintB, Int.toNat_natCast]
  exact h
theorem readUint' (n : Int) (hn : U64 n) (rest : List UInt8) {p : Nat} {H : AHeap} (hr : ReadAt H p (uintB n ++ rest)) (hl : rest.length < 3000000) :
    Sound Tryz.prog 136 [ptrV p] H fun v H' => v = .int .u64 n ∧ Only p H H' ∧ ReadAt H' p rest := by
  obtain ⟨k, rfl⟩ := Int.eq_ofNat_of_zero_le hn.1
  rw [uintB, Int.toNat_natCast] at hr
  exact readUint k (by have := hn.2; omega) rest hr hl
theorem flatLe {α : Type} (f : α → List UInt8) (k : Nat) : ∀ l : List α, (∀ x ∈ l, (f x).length ≤ k) → (l.flatMap f).length ≤ k * l.length
  | [], _ => by simp
  | x :: l, h => by
    have h1 := h x (by simp)
    have h2 := flatLe f k l (fun y hy => h y (by simp [hy]))
    simp only [List.flatMap_cons, List.length_append, List.length_cons, Nat.mul_add, Nat.mul_one]; omega
structure St where
  epoch : Int
  term : Int
  leader : Int
  metas : List Meta
  offs : List Int
structure St.Ok (s : St) : Prop where
  epoch : N63 s.epoch
  term : N63 s.term
  leader : N63 s.leader
  metas : ∀ m ∈ s.metas, m.Ok
  offs : ∀ n ∈ s.offs, U64 n
  len : s.metas.length ≤ 3000
  lenO : s.offs.length ≤ 8
def St.B (s : St) : List UInt8 := [s.epoch, s.term, s.leader, (s.offs.length : Int)].flatMap intB ++ (s.offs.flatMap uintB ++ s.metas.flatMap Meta.B)
abbrev stC (s : St) (am ao : Option Addr) (cm co : Nat) : List Value := [.int .i64 s.epoch, .int .i64 s.term, .int .i64 s.leader, .slice am s.metas.length cm, .slice ao s.offs.length co]
theorem stateBytes (s : St) (hs : s.Ok) (am ao : Option Addr) (cm co : Nat) (H : AHeap) (h1 : SlA H Meta.cells 8 am s.metas) (h2 : SlA H encU 1 ao s.offs) :
    Sound Tryz.prog 83 [.agg (stC s am ao cm co).toArray] H fun v H' => H <+: H' ∧ Own H.length H' encB 1 v s.B := by
  refine Sound.of_body (rs := [.tmp 2]) mixed Tryz.func83 rfl (by kernel_rfl) rfl (by kernel_rfl) ?_
  have p0 : H <+: H ++ [AObj.row (stC s am ao cm co) 5 true, AObj.row [.int .i64 s.epoch, .int .i64 s.term, .int .i64 s.leader, .int .i64 (s.offs.length : Int)] 1 true] := List.prefix_append _ _
  have b0 := get_end H (AObj.row (stC s am ao cm co) 5 true) [AObj.row [.int .i64 s.epoch, .int .i64 s.term, .int .i64 s.leader, .int .i64 (s.offs.length : Int)] 1 true]
  have c0 := get_end1 H (AObj.row (stC s am ao cm co) 5 true) (AObj.row [.int .i64 s.epoch, .int .i64 s.term, .int .i64 s.leader, .int .i64 (s.offs.length : Int)] 1 true) []
  have hnum : ∀ n ∈ ([s.epoch, s.term, s.leader, (s.offs.length : Int)] : List Int), N63 n := by
    intro n hn
    simp only [List.mem_cons, List.not_mem_nil, or_false] at hn
    rcases hn with rfl | rfl | rfl | rfl
    · exact hs.epoch
    · exact hs.term
    · exact hs.leader
    · have := hs.lenO; exact ⟨by omega, by omega⟩
  have hlen0 := ints_le _ hnum
  simp only [List.length_cons, List.length_nil] at hlen0
  simp -dsimp only [go_sem, ↓reduceIte, Nat.reduceEqDiff, Nat.reduceAdd, Nat.reduceMul, Nat.reduceSub, Nat.reduceLeDiff, Nat.reduceLT]
  refine SoundP_of (intsLaw [s.epoch, s.term, s.leader, (s.offs.length : Int)] hnum _ 4 _ (sliceI [s.epoch, s.term, s.leader, (s.offs.length : Int)] c0) (by simp)) ?_
  rintro v1 H1 ⟨p1, o1⟩
  have hlH := pre_len p0
  generalize H ++ [AObj.row (stC s am ao cm co) 5 true, AObj.row [.int .i64 s.epoch, .int .i64 s.term, .int .i64 s.leader, .int .i64 (s.offs.length : Int)] 1 true] = HB at *
  have b1 := pre_get p1 b0
  rw [St.B]
  generalize ([s.epoch, s.term, s.leader, (s.offs.length : Int)] : List Int).flatMap intB = B0 at *
  have hlO := hs.lenO
  have hlM := hs.len
  have offsLe : ∀ i, ((s.offs.take i).flatMap uintB).length ≤ 80 := fun i => by
    have h1 := flatLe uintB 10 (s.offs.take i) (fun x hx => uintB_le (hs.offs x (List.mem_of_mem_take hx)))
    have h2 : (s.offs.take i).length ≤ 8 := by rw [List.length_take]; omega
    omega
  have metaLe : ∀ i, ((s.metas.take i).flatMap Meta.B).length ≤ 426000 := fun i => by
    have h1 := flatLe Meta.B 142 (s.metas.take i) (fun x hx => Meta.B_le (hs.metas x (List.mem_of_mem_take hx)))
    have h2 : (s.metas.take i).length ≤ 3000 := by rw [List.length_take]; omega
    omega
  simp -dsimp only [go_sem, ↓reduceIte, Nat.reduceEqDiff, Nat.reduceAdd, Nat.reduceMul, Nat.reduceSub, Nat.reduceLeDiff, Nat.reduceLT, b1]
  refine aloop_join (fun T H' => ∃ v, HB <+: H' ∧ Own HB.length H' encB 1 v (B0 ++ s.offs.flatMap uintB) ∧ T 1 = ptrV H.length ∧ T 3 = v)
    (fun n T H' => ∃ i v, n = s.offs.length - i ∧ i ≤ s.offs.length ∧ HB <+: H' ∧ Own HB.length H' encB 1 v (B0 ++ (s.offs.take i).flatMap uintB) ∧ T 1 = ptrV H.length ∧ T 3 = v ∧ T 20 = .slice ao s.offs.length co ∧ T 21 = .int .i64 s.offs.length ∧ T 22 = .int .i64 (i : Nat)) (n := s.offs.length) ?_ ?_ ?_
  · refine ⟨0, v1, ?_⟩
    simp -dsimp only [go_sem, ↓reduceIte, Nat.reduceEqDiff, Nat.reduceAdd, Nat.reduceMul, Nat.reduceSub, Nat.reduceLeDiff, Nat.reduceLT]
    exact ⟨rfl, Nat.zero_le _, p1, by simpa using o1, rfl⟩
  · rintro n T H' ⟨i, v, rfl, hi, hp, ho, t1, t3, t20, t21, t22⟩
    simp -dsimp only [go_sem, ↓reduceIte, Nat.reduceEqDiff, Nat.reduceAdd, Nat.reduceMul, Nat.reduceSub, Nat.reduceLeDiff, Nat.reduceLT, t1, t3, t20, t21, t22]
    refine acondP_of (fun h => ?_) (fun h => ?_)
    · simp at h
      obtain ⟨x, hx⟩ := get_ex h
      obtain ⟨id, off, rfl, hat⟩ := (h2.pre (p0.trans hp)).at (by omega)
      have hU := hs.offs x (List.mem_of_getElem? hx)
      have hlx := uintB_le hU
      have hle := offsLe i
      simp -dsimp only [go_sem, ↓reduceIte, Nat.reduceEqDiff, Nat.reduceAdd, Nat.reduceMul, Nat.reduceSub, Nat.reduceLeDiff, Nat.reduceLT, t1, t3, t20, t21, t22, inRange h, rowLoad_one0 (hat i x hx)]
      refine SoundP_of (uintLaw' x hU [] none 0 H' (SlA.nil _ _ _ _) (by simp)) ?_
      rintro w H2 ⟨p2, o2⟩
      obtain ⟨a2, c2, rfl, sl2⟩ := o2.sl (fun _ => rfl)
      have q2 := hp.trans p2
      obtain ⟨v3, H3, e3, ap3⟩ := appL (c := c2) (ho.pre p2) (pre_len q2) sl2 (by rw [List.length_append]; omega) (by rw [List.nil_append]; omega)
      rw [List.nil_append] at e3 ap3
      simp -dsimp only [go_sem, ↓reduceIte, Nat.reduceEqDiff, Nat.reduceAdd, Nat.reduceMul, Nat.reduceSub, Nat.reduceLeDiff, Nat.reduceLT, t1, t3, t20, t21, t22, e3, wrS (show i < 4611686018427387904 by omega)]
      exact ⟨_, by omega, i + 1, v3, rfl, h, ap3.pre q2 (ho.pre p2), by rw [List.take_add_one, hx, List.flatMap_append, ← List.append_assoc]; simpa using ap3.own, rfl, rfl⟩
    · simp at h
      have hil : s.offs.take i = s.offs := List.take_of_length_le h
      rw [hil] at ho
      simp -dsimp only [go_sem, ↓reduceIte, Nat.reduceEqDiff, Nat.reduceAdd, Nat.reduceMul, Nat.reduceSub, Nat.reduceLeDiff, Nat.reduceLT, t1, t3, t20, t21, t22]
      exact ⟨v, hp, ho, rfl⟩
  · rintro T H2 ⟨v2, p2, o2, t1, t3⟩
    have b2 := pre_get p2 b0
    have hB1 : (B0 ++ s.offs.flatMap uintB).length ≤ 200 := by have := offsLe s.offs.length; rw [List.take_length] at this; rw [List.length_append]; omega
    rw [← List.append_assoc]
    generalize B0 ++ s.offs.flatMap uintB = B1 at *
    simp -dsimp only [go_sem, ↓reduceIte, Nat.reduceEqDiff, Nat.reduceAdd, Nat.reduceMul, Nat.reduceSub, Nat.reduceLeDiff, Nat.reduceLT, t1, t3, b2]
    refine aloopP_of (fun n T H' => ∃ i v, n = s.metas.length - i ∧ i ≤ s.metas.length ∧ HB <+: H' ∧ Own HB.length H' encB 1 v (B1 ++ (s.metas.take i).flatMap Meta.B) ∧ T 3 = v ∧ T 32 = .slice am s.metas.length cm ∧ T 33 = .int .i64 s.metas.length ∧ T 34 = .int .i64 (i : Nat)) (n := s.metas.length) ?_ ?_
    · refine ⟨0, v2, ?_⟩
      simp -dsimp only [go_sem, ↓reduceIte, Nat.reduceEqDiff, Nat.reduceAdd, Nat.reduceMul, Nat.reduceSub, Nat.reduceLeDiff, Nat.reduceLT, t1, t3]
      exact ⟨rfl, Nat.zero_le _, p2, by simpa using o2, rfl⟩
    · rintro n T H' ⟨i, v, rfl, hi, hp, ho, t3, t32, t33, t34⟩
      simp -dsimp only [go_sem, ↓reduceIte, Nat.reduceEqDiff, Nat.reduceAdd, Nat.reduceMul, Nat.reduceSub, Nat.reduceLeDiff, Nat.reduceLT, t3, t32, t33, t34]
      refine acondP_of (fun h => ?_) (fun h => ?_)
      · simp at h
        obtain ⟨x, hx⟩ := get_ex h
        obtain ⟨id, off, rfl, hat⟩ := (h1.pre (p0.trans hp)).at (by omega)
        have hM := hs.metas x (List.mem_of_getElem? hx)
        have hlx := Meta.B_le hM
        have hle := metaLe i
        simp -dsimp only [go_sem, ↓reduceIte, Nat.reduceEqDiff, Nat.reduceAdd, Nat.reduceMul, Nat.reduceSub, Nat.reduceLeDiff, Nat.reduceLT, t3, t32, t33, t34, inRange h, rowLoad_whole (hat i x hx)]
        have pm := List.prefix_append H' [AObj.row x.cells 8 true]
        refine SoundP_of (metaBytes x hM _) ?_
        rintro w H3 ⟨p3, o3⟩
        obtain ⟨a3, c3, rfl, sl3⟩ := o3.sl (fun _ => rfl)
        have q3 := hp.trans (pm.trans p3)
        have ho3 := ho.pre (pm.trans p3)
        obtain ⟨v4, H4, e4, ap4⟩ := appL (c := c3) ho3 (pre_len q3) sl3 (by rw [List.length_append]; omega) (by omega)
        simp -dsimp only [go_sem, ↓reduceIte, Nat.reduceEqDiff, Nat.reduceAdd, Nat.reduceMul, Nat.reduceSub, Nat.reduceLeDiff, Nat.reduceLT, t3, t32, t33, t34, e4, wrS (show i < 4611686018427387904 by omega)]
        exact ⟨_, by omega, i + 1, v4, rfl, h, ap4.pre q3 ho3, by rw [List.take_add_one, hx, List.flatMap_append, ← List.append_assoc]; simpa using ap4.own, rfl, rfl⟩
      · simp at h
        have hil : s.metas.take i = s.metas := List.take_of_length_le h
        rw [hil] at ho
        simp -dsimp only [go_sem, ↓reduceIte, Nat.reduceEqDiff, Nat.reduceAdd, Nat.reduceMul, Nat.reduceSub, Nat.reduceLeDiff, Nat.reduceLT, t3, t32, t33, t34]
        exact ⟨p0.trans hp, ho.mono hlH⟩
structure Move where
  stream : Int
  from_ : Int
  to_ : Int
deriving DecidableEq
abbrev Move.cells (m : Move) : List Value := [.int .i64 m.stream, .int .u64 m.from_, .int .u64 m.to_]
structure Move.Ok (m : Move) : Prop where
  stream : N63 m.stream
  to_ : U64 m.to_
def Move.B (m : Move) : List UInt8 := intB m.stream ++ uintB m.to_
theorem Move.B_le {m : Move} (h : m.Ok) : m.B.length ≤ 20 := by
  have h1 := intB_le h.stream
  have h2 := uintB_le h.to_
  simp only [Move.B, List.length_append]; omega
structure Txn where
  epoch : Int
  term : Int
  add : List Meta
  drop : List Seg
  moves : List Move
  wf : Int
  wt : Int
structure Txn.Ok (t : Txn) : Prop where
  add : ∀ m ∈ t.add, m.Ok
  drop : ∀ x ∈ t.drop, x.Ok
  moves : ∀ m ∈ t.moves, m.Ok
  lenA : t.add.length ≤ 3000
  lenD : t.drop.length ≤ 3000
  lenM : t.moves.length ≤ 8
def Txn.B (t : Txn) : List UInt8 := [1, (t.drop.length : Int), (t.moves.length : Int)].flatMap intB ++ (t.drop.flatMap Seg.B ++ (t.moves.flatMap Move.B ++ t.add.flatMap Meta.B))
abbrev txC (t : Txn) (aa ad am : Option Addr) (ca cd cm : Nat) : List Value := [.int .i64 t.epoch, .int .i64 t.term, .slice aa t.add.length ca, .slice ad t.drop.length cd, .slice am t.moves.length cm, .int .i64 t.wf, .int .i64 t.wt]
end Go.Proofs.YtekpdopbiklkfaaGreatDoor
end
section
set_option linter.unusedVariables false
set_option linter.unusedSimpArgs false
namespace Go.Proofs.YtekpdopbiklkfaaGreatDoor
open Go Go.AW
set_option linter.unusedSimpArgs false
set_option maxRecDepth 20000
set_option maxHeartbeats 1000000 in
theorem txnBytes (t : Txn) (ht : t.Ok) (aa ad am : Option Addr) (ca cd cm : Nat) (H : AHeap) (h1 : SlA H Meta.cells 8 aa t.add) (h2 : SlA H Seg.cells 5 ad t.drop) (h3 : SlA H Move.cells 3 am t.moves) :
    Sound Tryz.prog 43 [.agg (txC t aa ad am ca cd cm).toArray] H fun v H' => H <+: H' ∧ Own H.length H' encB 1 v t.B := by
  refine Sound.of_body (rs := [.tmp 2]) mixed Tryz.func43 rfl (by kernel_rfl) rfl (by kernel_rfl) ?_
  have p0 : H <+: H ++ [AObj.row (txC t aa ad am ca cd cm) 7 true, AObj.row [.int .i64 1, .int .i64 (t.drop.length : Int), .int .i64 (t.moves.length : Int)] 1 true] := List.prefix_append _ _
  have b0 := get_end H (AObj.row (txC t aa ad am ca cd cm) 7 true) [AObj.row [.int .i64 1, .int .i64 (t.drop.length : Int), .int .i64 (t.moves.length : Int)] 1 true]
  have c0 := get_end1 H (AObj.row (txC t aa ad am ca cd cm) 7 true) (AObj.row [.int .i64 1, .int .i64 (t.drop.length : Int), .int .i64 (t.moves.length : Int)] 1 true) []
  have hlA := ht.lenA
  have hlD := ht.lenD
  have hlM := ht.lenM
  have hnum : ∀ n ∈ ([1, (t.drop.length : Int), (t.moves.length : Int)] : List Int), N63 n := by
    intro n hn
    simp only [List.mem_cons, List.not_mem_nil, or_false] at hn
    rcases hn with rfl | rfl | rfl
    · exact ⟨by omega, by omega⟩
    · exact ⟨by omega, by omega⟩
    · exact ⟨by omega, by omega⟩
  have hlen0 := ints_le _ hnum
  simp only [List.length_cons, List.length_nil] at hlen0
  simp -dsimp only [go_sem, ↓reduceIte, Nat.reduceEqDiff, Nat.reduceAdd, Nat.reduceMul, Nat.reduceSub, Nat.reduceLeDiff, Nat.reduceLT]
  refine SoundP_of (intsLaw [1, (t.drop.length : Int), (t.moves.length : Int)] hnum _ 3 _ (sliceI [1, (t.drop.length : Int), (t.moves.length : Int)] c0) (by simp)) ?_
  rintro v1 H1 ⟨p1, o1⟩
  have hlH := pre_len p0
  generalize H ++ [AObj.row (txC t aa ad am ca cd cm) 7 true, AObj.row [.int .i64 1, .int .i64 (t.drop.length : Int), .int .i64 (t.moves.length : Int)] 1 true] = HB at *
  have b1 := pre_get p1 b0
  rw [Txn.B]
  generalize ([1, (t.drop.length : Int), (t.moves.length : Int)] : List Int).flatMap intB = B0 at *
  have dropLe : ∀ i, ((t.drop.take i).flatMap Seg.B).length ≤ 150000 := fun i => by
    have h1 := flatLe Seg.B 50 (t.drop.take i) (fun x hx => Seg.B_le (ht.drop x (List.mem_of_mem_take hx)))
    have h2 : (t.drop.take i).length ≤ 3000 := by rw [List.length_take]; omega
    omega
  have moveLe : ∀ i, ((t.moves.take i).flatMap Move.B).length ≤ 160 := fun i => by
    have h1 := flatLe Move.B 20 (t.moves.take i) (fun x hx => Move.B_le (ht.moves x (List.mem_of_mem_take hx)))
    have h2 : (t.moves.take i).length ≤ 8 := by rw [List.length_take]; omega
    omega
  have metaLe : ∀ i, ((t.add.take i).flatMap Meta.B).length ≤ 426000 := fun i => by
    have h1 := flatLe Meta.B 142 (t.add.take i) (fun x hx => Meta.B_le (ht.add x (List.mem_of_mem_take hx)))
    have h2 : (t.add.take i).length ≤ 3000 := by rw [List.length_take]; omega
    omega
  simp -dsimp only [go_sem, ↓reduceIte, Nat.reduceEqDiff, Nat.reduceAdd, Nat.reduceMul, Nat.reduceSub, Nat.reduceLeDiff, Nat.reduceLT, b1]
  refine aloop_join (fun T H' => ∃ v, HB <+: H' ∧ Own HB.length H' encB 1 v (B0 ++ t.drop.flatMap Seg.B) ∧ T 1 = ptrV H.length ∧ T 3 = v)
    (fun n T H' => ∃ i v, n = t.drop.length - i ∧ i ≤ t.drop.length ∧ HB <+: H' ∧ Own HB.length H' encB 1 v (B0 ++ (t.drop.take i).flatMap Seg.B) ∧ T 1 = ptrV H.length ∧ T 3 = v ∧ T 19 = .slice ad t.drop.length cd ∧ T 20 = .int .i64 t.drop.length ∧ T 21 = .int .i64 (i : Nat)) (n := t.drop.length) ?_ ?_ ?_
  · refine ⟨0, v1, ?_⟩
    simp -dsimp only [go_sem, ↓reduceIte, Nat.reduceEqDiff, Nat.reduceAdd, Nat.reduceMul, Nat.reduceSub, Nat.reduceLeDiff, Nat.reduceLT]
    exact ⟨rfl, Nat.zero_le _, p1, by simpa using o1, rfl⟩
  · rintro n T H' ⟨i, v, rfl, hi, hp, ho, t1, t3, t19, t20, t21⟩
    simp -dsimp only [go_sem, ↓reduceIte, Nat.reduceEqDiff, Nat.reduceAdd, Nat.reduceMul, Nat.reduceSub, Nat.reduceLeDiff, Nat.reduceLT, t1, t3, t19, t20, t21]
    refine acondP_of (fun h => ?_) (fun h => ?_)
    · simp at h
      obtain ⟨x, hx⟩ := get_ex h
      obtain ⟨id, off, rfl, hat⟩ := (h2.pre (p0.trans hp)).at (by omega)
      have hS := ht.drop x (List.mem_of_getElem? hx)
      have hlx := Seg.B_le hS
      have hle := dropLe i
      simp -dsimp only [go_sem, ↓reduceIte, Nat.reduceEqDiff, Nat.reduceAdd, Nat.reduceMul, Nat.reduceSub, Nat.reduceLeDiff, Nat.reduceLT, t1, t3, t19, t20, t21, inRange h, rowLoad_whole (hat i x hx)]
      have pm := List.prefix_append H' [AObj.row x.cells 5 true]
      refine SoundP_of (segBytes x hS _) ?_
      rintro w H3 ⟨p3, o3⟩
      obtain ⟨a3, c3, rfl, sl3⟩ := o3.sl (fun _ => rfl)
      have q3 := hp.trans (pm.trans p3)
      have ho3 := ho.pre (pm.trans p3)
      obtain ⟨v4, H4, e4, ap4⟩ := appL (c := c3) ho3 (pre_len q3) sl3 (by rw [List.length_append]; omega) (by omega)
      simp -dsimp only [go_sem, ↓reduceIte, Nat.reduceEqDiff, Nat.reduceAdd, Nat.reduceMul, Nat.reduceSub, Nat.reduceLeDiff, Nat.reduceLT, t1, t3, t19, t20, t21, e4, wrS (show i < 4611686018427387904 by omega)]
      exact ⟨_, by omega, i + 1, v4, rfl, h, ap4.pre q3 ho3, by rw [List.take_add_one, hx, List.flatMap_append, ← List.append_assoc]; simpa using ap4.own, rfl, rfl⟩
    · simp at h
      have hil : t.drop.take i = t.drop := List.take_of_length_le h
      rw [hil] at ho
      simp -dsimp only [go_sem, ↓reduceIte, Nat.reduceEqDiff, Nat.reduceAdd, Nat.reduceMul, Nat.reduceSub, Nat.reduceLeDiff, Nat.reduceLT, t1, t3, t19, t20, t21]
      exact ⟨v, hp, ho, rfl⟩
  rintro T2 H2 ⟨v2, p2, o2, t1, t3⟩
  have b2 := pre_get p2 b0
  have hB1 : (B0 ++ t.drop.flatMap Seg.B).length ≤ 150030 := by have := dropLe t.drop.length; rw [List.take_length] at this; rw [List.length_append]; omega
  rw [← List.append_assoc]
  generalize B0 ++ t.drop.flatMap Seg.B = B1 at *
  simp -dsimp only [go_sem, ↓reduceIte, Nat.reduceEqDiff, Nat.reduceAdd, Nat.reduceMul, Nat.reduceSub, Nat.reduceLeDiff, Nat.reduceLT, t1, t3, b2]
  refine aloop_join (fun T H' => ∃ v, HB <+: H' ∧ Own HB.length H' encB 1 v (B1 ++ t.moves.flatMap Move.B) ∧ T 1 = ptrV H.length ∧ T 3 = v)
    (fun n T H' => ∃ i v, n = t.moves.length - i ∧ i ≤ t.moves.length ∧ HB <+: H' ∧ Own HB.length H' encB 1 v (B1 ++ (t.moves.take i).flatMap Move.B) ∧ T 1 = ptrV H.length ∧ T 3 = v ∧ T 31 = .slice am t.moves.length cm ∧ T 32 = .int .i64 t.moves.length ∧ T 33 = .int .i64 (i : Nat)) (n := t.moves.length) ?_ ?_ ?_
  · refine ⟨0, v2, ?_⟩
    simp -dsimp only [go_sem, ↓reduceIte, Nat.reduceEqDiff, Nat.reduceAdd, Nat.reduceMul, Nat.reduceSub, Nat.reduceLeDiff, Nat.reduceLT, t1, t3]
    exact ⟨rfl, Nat.zero_le _, p2, by simpa using o2, rfl⟩
  · rintro n T H' ⟨i, v, rfl, hi, hp, ho, t1, t3, t31, t32, t33⟩
    simp -dsimp only [go_sem, ↓reduceIte, Nat.reduceEqDiff, Nat.reduceAdd, Nat.reduceMul, Nat.reduceSub, Nat.reduceLeDiff, Nat.reduceLT, t1, t3, t31, t32, t33]
    refine acondP_of (fun h => ?_) (fun h => ?_)
    · simp at h
      obtain ⟨x, hx⟩ := get_ex h
      obtain ⟨id, off, rfl, hat⟩ := (h3.pre (p0.trans hp)).at (by omega)
      have hS := ht.moves x (List.mem_of_getElem? hx)
      have hlx := Move.B_le hS
      have hle := moveLe i
      simp -dsimp only [go_sem, ↓reduceIte, Nat.reduceEqDiff, Nat.reduceAdd, Nat.reduceMul, Nat.reduceSub, Nat.reduceLeDiff, Nat.reduceLT, t1, t3, t31, t32, t33, inRange h, rowLoad_whole (hat i x hx)]
      refine adrawnP_of6 [(0, 0), (1, 0), (2, 0), (5, 0), (6, 0), (3, 0), (4, 2), (7, 2), (8, 0), (9, 0)] (by kernel_rfl) ?_
      have pX : H' ++ [AObj.row x.cells 3 true] <+: H' ++ [AObj.row x.cells 3 true, AObj.row [.int .i64 x.stream] 1 true] := ⟨[AObj.row [.int .i64 x.stream] 1 true], by simp⟩
      have pY : H' <+: H' ++ [AObj.row x.cells 3 true, AObj.row [.int .i64 x.stream] 1 true] := List.prefix_append _ _
      have cY := get_end1 H' (AObj.row x.cells 3 true) (AObj.row [.int .i64 x.stream] 1 true) []
      simp -dsimp only [go_sem, ↓reduceIte, Nat.reduceEqDiff, Nat.reduceAdd, Nat.reduceMul, Nat.reduceSub, Nat.reduceLeDiff, Nat.reduceLT, t1, t3, t31, t32, t33]
      refine SoundP_of (intsLaw [x.stream] (by intro n hn; rw [List.mem_singleton.1 hn]; exact hS.stream) _ 1 _ (sliceI [x.stream] cY) (by simp)) ?_
      rintro w1 G1 ⟨g1, u1⟩
      have r1 := pX.trans g1
      refine grown2 r1 ?_
      obtain ⟨a1, c1, rfl, sl1⟩ := u1.sl (fun _ => rfl)
      have hi1 := intB_le hS.stream
      have es : ([x.stream] : List Int).flatMap intB = intB x.stream := by simp
      rw [es] at u1 sl1
      simp only [es]
      generalize hI : intB x.stream = I1 at *
      simp -dsimp only [go_sem, ↓reduceIte, Nat.reduceEqDiff, Nat.reduceAdd, Nat.reduceMul, Nat.reduceSub, Nat.reduceLeDiff, Nat.reduceLT, t1, t3, t31, t32, t33]
      refine SoundP_of (uintLaw' x.to_ hS.to_ I1 a1 c1 G1 sl1 (by omega)) ?_
      rintro w2 G2 ⟨g2, u2⟩
      refine grown2 (r1.trans g2) ?_
      obtain ⟨a2, c2, rfl, sl2⟩ := u2.sl (fun _ => rfl)
      have q2 := hp.trans (pY.trans (g1.trans g2))
      have ho2 := ho.pre (pY.trans (g1.trans g2))
      have eM : I1 ++ uintB x.to_ = x.B := by rw [Move.B, hI]
      rw [eM] at u2 sl2
      simp only [eM]
      obtain ⟨v4, H4, e4, ap4⟩ := appL (c := c2) ho2 (pre_len q2) sl2 (by rw [List.length_append]; omega) (by omega)
      simp -dsimp only [go_sem, ↓reduceIte, Nat.reduceEqDiff, Nat.reduceAdd, Nat.reduceMul, Nat.reduceSub, Nat.reduceLeDiff, Nat.reduceLT, t1, t3, t31, t32, t33, e4, wrS (show i < 4611686018427387904 by omega)]
      exact ⟨_, by omega, i + 1, v4, rfl, h, ap4.pre q2 ho2, by rw [List.take_add_one, hx, List.flatMap_append, ← List.append_assoc]; simpa using ap4.own, rfl, rfl⟩
    · simp at h
      have hil : t.moves.take i = t.moves := List.take_of_length_le h
      rw [hil] at ho
      simp -dsimp only [go_sem, ↓reduceIte, Nat.reduceEqDiff, Nat.reduceAdd, Nat.reduceMul, Nat.reduceSub, Nat.reduceLeDiff, Nat.reduceLT, t1, t3, t31, t32, t33]
      exact ⟨v, hp, ho, rfl⟩
  rintro T3 H3 ⟨v3, p3, o3, t1, t3⟩
  have b3 := pre_get p3 b0
  have hB2 : (B1 ++ t.moves.flatMap Move.B).length ≤ 150200 := by have := moveLe t.moves.length; rw [List.take_length] at this; rw [List.length_append]; omega
  rw [← List.append_assoc]
  generalize B1 ++ t.moves.flatMap Move.B = B2 at *
  simp -dsimp only [go_sem, ↓reduceIte, Nat.reduceEqDiff, Nat.reduceAdd, Nat.reduceMul, Nat.reduceSub, Nat.reduceLeDiff, Nat.reduceLT, t1, t3, b3]
  refine aloopP_of (fun n T H' => ∃ i v, n = t.add.length - i ∧ i ≤ t.add.length ∧ HB <+: H' ∧ Own HB.length H' encB 1 v (B2 ++ (t.add.take i).flatMap Meta.B) ∧ T 3 = v ∧ T 48 = .slice aa t.add.length ca ∧ T 49 = .int .i64 t.add.length ∧ T 50 = .int .i64 (i : Nat)) (n := t.add.length) ?_ ?_
  · refine ⟨0, v3, ?_⟩
    simp -dsimp only [go_sem, ↓reduceIte, Nat.reduceEqDiff, Nat.reduceAdd, Nat.reduceMul, Nat.reduceSub, Nat.reduceLeDiff, Nat.reduceLT, t1, t3]
    exact ⟨rfl, Nat.zero_le _, p3, by simpa using o3, rfl⟩
  · rintro n T H' ⟨i, v, rfl, hi, hp, ho, t3, t48, t49, t50⟩
    simp -dsimp only [go_sem, ↓reduceIte, Nat.reduceEqDiff, Nat.reduceAdd, Nat.reduceMul, Nat.reduceSub, Nat.reduceLeDiff, Nat.reduceLT, t3, t48, t49, t50]
    refine acondP_of (fun h => ?_) (fun h => ?_)
    · simp at h
      obtain ⟨x, hx⟩ := get_ex h
      obtain ⟨id, off, rfl, hat⟩ := (h1.pre (p0.trans hp)).at (by omega)
      have hM := ht.add x (List.mem_of_getElem? hx)
      have hlx := Meta.B_le hM
      have hle := metaLe i
      simp -dsimp only [go_sem, ↓reduceIte, Nat.reduceEqDiff, Nat.reduceAdd, Nat.reduceMul, Nat.reduceSub, Nat.reduceLeDiff, Nat.reduceLT, t3, t48, t49, t50, inRange h, rowLoad_whole (hat i x hx)]
      have pm := List.prefix_append H' [AObj.row x.cells 8 true]
      refine SoundP_of (metaBytes x hM _) ?_
      rintro w H4 ⟨p4, o4⟩
      obtain ⟨a4, c4, rfl, sl4⟩ := o4.sl (fun _ => rfl)
      have q4 := hp.trans (pm.trans p4)
      have ho4 := ho.pre (pm.trans p4)
      obtain ⟨v5, H5, e5, ap5⟩ := appL (c := c4) ho4 (pre_len q4) sl4 (by rw [List.length_append]; omega) (by omega)
      simp -dsimp only [go_sem, ↓reduceIte, Nat.reduceEqDiff, Nat.reduceAdd, Nat.reduceMul, Nat.reduceSub, Nat.reduceLeDiff, Nat.reduceLT, t3, t48, t49, t50, e5, wrS (show i < 4611686018427387904 by omega)]
      exact ⟨_, by omega, i + 1, v5, rfl, h, ap5.pre q4 ho4, by rw [List.take_add_one, hx, List.flatMap_append, ← List.append_assoc]; simpa using ap5.own, rfl, rfl⟩
    · simp at h
      have hil : t.add.take i = t.add := List.take_of_length_le h
      rw [hil] at ho
      simp -dsimp only [go_sem, ↓reduceIte, Nat.reduceEqDiff, Nat.reduceAdd, Nat.reduceMul, Nat.reduceSub, Nat.reduceLeDiff, Nat.reduceLT, t3, t48, t49, t50]
      exact ⟨p0.trans hp, ho.mono hlH⟩
end Go.Proofs.YtekpdopbiklkfaaGreatDoor
end
section
set_option linter.unusedVariables false
set_option linter.unusedSimpArgs false
namespace Go.AW
open Go
variable {P : Program}
theorem Rel.toX {ρ : Ren} {H : AHeap} {F : Frm} {w : World} (hR : Rel ρ H F w) {id : Nat} {l : Loc} {cs : List Value} {k m ext : Nat} (hl : ρ id = some l) (h : H[id]? = some (.row cs k true)) (hm : m ≤ cs.length) (he : l.base + m + ext ≤ l.csz) :
    Rel ρ (H.set id (.rowx (cs.take m) k ext)) F w := by
  obtain ⟨arr, e, fz, o1, o2, o3, o4, o5⟩ := hR.obj _ _ _ hl h
  obtain ⟨p1, p2, p3, p4, p5⟩ := o4 rfl
  have hb : l.blk < w.heap.size := by
    rcases Nat.lt_or_ge l.blk w.heap.size with h' | h'
    · exact h'
    · simp [Array.getElem?_eq_none h'] at o1
  have hw : ({ w with heap := w.heap.setIfInBounds l.blk (.cells arr e fz) } : World) = w := by
    have : w.heap.setIfInBounds l.blk (.cells arr e fz) = w.heap := by
      apply Array.ext_getElem?
      intro i
      by_cases hi : l.blk = i
      · subst hi
        rw [Array.getElem?_setIfInBounds_self_of_lt hb, o1]
      · rw [Array.getElem?_setIfInBounds_ne hi]
    rw [this]
  have := hR.turn (o2 := .rowx (cs.take m) k ext) (O2 := .cells arr e fz) hl h rfl ⟨arr, e, fz, rfl, by rw [List.length_take, Nat.min_eq_left hm, ← p2]; exact he, fun i v v' hv hv' => by
    rw [List.getElem?_take] at hv
    split at hv
    · exact o3 i v v' hv hv'
    · simp at hv, p1, p2, p3, p4, p5⟩
  rwa [hw] at this
theorem Sound.cap {f : FuncId} {id n k : Nat} {args cs : List Value} {H : AHeap} {K : Value → AHeap → Prop} (hrow : H[id]? = some (.row cs k true)) (hn : 0 < n) (hcs : n * k ≤ cs.length)
    (h : ∀ c, n ≤ c → Sound P f (.slice (some ⟨id, 0, none⟩) n c :: args) H (fun v H2 => K v H2 ∨ ∃ m, m ≤ c ∧ v = .slice (some ⟨id, 0, none⟩) m c ∧ K (.slice (some ⟨id, 0, none⟩) m 0) H2) ∨
      Sound P f (.slice (some ⟨id, 0, none⟩) n c :: args) (H.set id (.rowx (cs.take (n * k)) k ((c - n) * k))) (fun v H2 => K v H2 ∨ ∃ m, m ≤ c ∧ v = .slice (some ⟨id, 0, none⟩) m c ∧ K (.slice (some ⟨id, 0, none⟩) m 0) H2)) :
    Sound P f (.slice (some ⟨id, 0, none⟩) n 0 :: args) H K := by
  refine ⟨by rcases h n (Nat.le_refl _) with h | h <;> exact h.1, fun ρ F w args' hR hv => ?_⟩
  obtain ⟨hlen, hvs⟩ := hv
  cases args' with
  | nil => simp at hlen
  | cons s' rest =>
    have hs := hvs 0 _ s' rfl rfl
    have hrest : VRs ρ args rest := ⟨by simpa using hlen, fun i u u' hu hu' => hvs (i + 1) u u' (by simpa using hu) (by simpa using hu')⟩
    generalize hx : Value.slice (some ⟨id, 0, none⟩) n 0 = x at hs
    cases hs with
    | sliceU hl hn' hb =>
      rename_i id' off n' c' l
      simp only [Value.slice.injEq, Option.some.injEq, Addr.mk.injEq, and_true] at hx
      obtain ⟨⟨rfl, rfl⟩, rfl⟩ := hx
      have hc : 0 < c' := by omega
      have hv2 : VRs ρ (.slice (some ⟨id, 0, none⟩) n c' :: args) (.slice (some ⟨l.blk, l.base + 0, none⟩) n c' :: rest) := ⟨by simpa using hlen, fun i u u' hu hu' => by
        cases i with
        | zero => simp at hu hu'; subst hu hu'; exact .slice hl hc hn'
        | succ i => exact hrest.2 i u u' (by simpa using hu) (by simpa using hu')⟩
      have fin : ∀ e w', (∃ v v' H' ρ', e = Ending.returned v' ∧ (K v H' ∨ ∃ m, m ≤ c' ∧ v = .slice (some ⟨id, 0, none⟩) m c' ∧ K (.slice (some ⟨id, 0, none⟩) m 0) H') ∧ Rel ρ' H' F w' ∧ Ext H ρ ρ' ∧ H.length ≤ H'.length ∧ VR ρ' v v') →
          ∃ v v' H' ρ', e = Ending.returned v' ∧ K v H' ∧ Rel ρ' H' F w' ∧ Ext H ρ ρ' ∧ H.length ≤ H'.length ∧ VR ρ' v v' := by
        rintro e w' ⟨v, v', H', ρ', rfl, hk, r1, r2, r3, r4⟩
        rcases hk with hk | ⟨m, hm, rfl, hk⟩
        · exact ⟨v, v', H', ρ', rfl, hk, r1, r2, r3, r4⟩
        · refine ⟨_, v', H', ρ', rfl, hk, r1, r2, r3, ?_⟩
          have hl' : ρ' id = some l := by rw [r2 id (hR.dom _ _ hl)]; exact hl
          generalize hy : Value.slice (some ⟨id, 0, none⟩) m c' = y at r4
          cases r4 with
          | slice hl2 hc2 hn2 =>
            simp only [Value.slice.injEq, Option.some.injEq, Addr.mk.injEq, and_true] at hy
            obtain ⟨⟨rfl, rfl⟩, rfl, rfl⟩ := hy
            rw [hl'] at hl2; cases hl2
            exact .sliceU hl' hn2 hb
          | sliceU hl2 hn2 hb2 => simp only [Value.slice.injEq] at hy; omega
          | sliceZ id2 off2 a2 => simp only [Value.slice.injEq] at hy; omega
          | sliceE a2 => simp [Go.AW.emp] at hy
          | _ => simp at hy
      rcases h c' hn' with h | h
      · exact (h.2 ρ F w _ hR hv2).mono fin
      · obtain ⟨arr, e, fz, o1, o2, o3, o4, o5⟩ := hR.obj _ _ _ hl hrow
        obtain ⟨p1, p2, p3, p4, p5⟩ := o4 rfl
        have hR2 := hR.toX (m := n * k) (ext := (c' - n) * k) hl hrow hcs (by
          rw [p1] at hb
          have : n * k + (c' - n) * k = c' * k := by rw [← Nat.add_mul]; congr 1; omega
          omega)
        refine (h.2 ρ F w _ hR2 hv2).mono fun e w' ⟨v, v', H', ρ', g1, g2, g3, g4, g5, g6⟩ => fin e w' ⟨v, v', H', ρ', g1, g2, g3, fun i hi => g4 i (by simpa using hi), by simpa using g5, g6⟩
    | sliceZ id2 off2 a2 => simp only [Value.slice.injEq] at hx; omega
    | slice hl hc hn' => simp only [Value.slice.injEq] at hx; omega
    | sliceE a2 => simp [Go.AW.emp] at hx
    | _ => simp at hx
theorem Sound.forget {f : FuncId} {id n c k : Nat} {args cs : List Value} {H : AHeap} {K : Value → AHeap → Prop} (hrow : H[id]? = some (.row cs k true)) (hcs : c * k ≤ cs.length)
    (h : Sound P f (.slice (some ⟨id, 0, none⟩) n 0 :: args) H K) : Sound P f (.slice (some ⟨id, 0, none⟩) n c :: args) H K := by
  refine ⟨h.1, fun ρ F w args' hR hv => h.2 ρ F w args' hR ?_⟩
  obtain ⟨hlen, hvs⟩ := hv
  refine ⟨by simpa using hlen, fun i u u' hu hu' => ?_⟩
  cases i with
  | succ i => exact hvs (i + 1) u u' (by simpa using hu) hu'
  | zero =>
    simp at hu; subst hu
    have hs := hvs 0 _ u' rfl hu'
    generalize hx : Value.slice (some ⟨id, 0, none⟩) n c = x at hs
    cases hs with
    | slice hl hc hn' =>
      simp only [Value.slice.injEq, Option.some.injEq, Addr.mk.injEq, and_true] at hx
      obtain ⟨⟨rfl, rfl⟩, rfl, rfl⟩ := hx
      obtain ⟨arr, e, fz, o1, o2, o3, o4, o5⟩ := hR.obj _ _ _ hl hrow
      obtain ⟨p1, p2, p3, p4, p5⟩ := o4 rfl
      exact .sliceU hl hn' (by rw [p1, p2]; omega)
    | sliceU hl hn' hb =>
      simp only [Value.slice.injEq, Option.some.injEq, Addr.mk.injEq, and_true] at hx
      obtain ⟨⟨rfl, rfl⟩, rfl, -⟩ := hx
      exact .sliceU hl hn' hb
    | sliceZ id2 off2 a2 =>
      simp only [Value.slice.injEq, Option.some.injEq, Addr.mk.injEq, and_true] at hx
      obtain ⟨⟨rfl, rfl⟩, rfl, -⟩ := hx
      exact .sliceZ _ _ _
    | sliceE a2 => simp [Go.AW.emp] at hx
    | _ => simp at hx
def ownK (o : AObj) (k : Nat) : Prop := (∃ cs, o = .row cs k true ∧ 0 < cs.length) ∨ ∃ cs ext, o = .rowx cs k ext ∧ 0 < cs.length
theorem ownK_at {ρ : Ren} {F : Nat → Option Obj} {l : Loc} {O : Option Obj} {o : AObj} {k : Nat} (h : ObjAt ρ F l O o) (ho : ownK o k) (hk : k ≠ 1) : ∃ arr e fz, O = some (.cells arr e fz) ∧ 0 < arr.size ∧ fz.2 ≤ fz.1 := by
  rcases ho with ⟨cs, rfl, hl⟩ | ⟨cs, ext, rfl, hl⟩
  · obtain ⟨arr, e, fz, o1, o2, o3, o4, o5⟩ := h
    exact ⟨arr, e, fz, o1, by omega, (o4 rfl).2.2.2.1 hk⟩
  · obtain ⟨arr, e, fz, o1, o2, o3, o4, o5, o6, o7, o8⟩ := h
    exact ⟨arr, e, fz, o1, by omega, o7 hk⟩
theorem ownK_own {o : AObj} {k : Nat} (ho : ownK o k) : isOwn o = true := by
  rcases ho with ⟨cs, rfl, _⟩ | ⟨cs, ext, rfl, _⟩ <;> rfl
theorem overlaps_apart {f : FuncId} {fn : Func} {tS tR e : TypeId} {k : Nat} (hf : P.funcs[f]? = some fn) (hname : (fn.name == "runtime.NumGoroutine") = false) (hb : fn.body.isNone = true) (hn : Extern.findNext fn = none)
    (he : Extern.find fn = some (Extern.SlicesOverlaps.overlaps #[tS, tS] #[tR])) (ht : P.underlying tS = some (.slice e)) (hz : szT P e = some k) (hk : k ≠ 1)
    {H : AHeap} {i1 i2 o1 o2 n1 n2 c1 c2 : Nat} {p1 p2 : AObj} (h1 : H[i1]? = some p1) (h2 : H[i2]? = some p2) (w1 : ownK p1 k) (w2 : ownK p2 k) (hne : i1 ≠ i2) (m1 : 0 < n1) (m2 : 0 < n2) :
    SoundX P f [.slice (some ⟨i1, o1, none⟩) n1 c1, .slice (some ⟨i2, o2, none⟩) n2 c2] H fun v H' => v = .bool false ∧ H' = H := by
  intro ρ F w args' hR hv
  obtain ⟨hlen, hvs⟩ := hv
  obtain ⟨x, y, rfl⟩ : ∃ x y, args' = [x, y] := by
    match args', hlen with
    | [x, y], _ => exact ⟨x, y, rfl⟩
  obtain ⟨l1, c1', hl1, rfl, _⟩ := slice_inv (hvs 0 _ x rfl rfl) rfl m1
  obtain ⟨l2, c2', hl2, rfl, _⟩ := slice_inv (hvs 1 _ y rfl rfl) rfl m2
  obtain ⟨arr1, e1, fz1, q1, q2, q3⟩ := ownK_at (hR.obj _ _ _ hl1 h1) w1 hk
  obtain ⟨arr2, e2, fz2, r1, r2, r3⟩ := ownK_at (hR.obj _ _ _ hl2 h2) w2 hk
  have hblk := hR.sep i1 i2 l1 l2 p1 p2 hl1 hl2 h1 h2 hne (ownK_own w1) (ownK_own w2)
  have fr : ∀ o, w.frozen? ⟨l1.blk, o, none⟩ = false := fun o => by
    simp only [World.frozen?, q1]
    simp; omega
  refine .inr ⟨.bool false, w, ?_, .bool false, H, ρ, ⟨rfl, rfl⟩, hR, Ext.refl _ _, Nat.le_refl _, .bool _⟩
  rw [run_callFunc_extern hf hname hb hn he]
  have := Lib.run_overlaps_apart (P := P) w tS tR e ht k (fun w => run_sizeOf hz) ⟨l1.blk, l1.base + o1, none⟩ ⟨l2.blk, l2.base + o2, none⟩ n1 c1' n2 c2' hblk e1 e2 arr1.size arr2.size (by simp [World.shape?, q1]) (by simp [World.shape?, r1]) (by omega) (fr _) (fr _)
  rw [this]
  rfl
section
variable {T : Tm} {d : Option Tmp} {ty : TypeId} {pos : String} {aft : Array Edge} {gd : Option (Nat × Bool)} {H : AHeap} {K : Value → AHeap → Prop}
theorem aop_max3 (x y z : Operand) (ts : Array TypeId) : aop P T ⟨d, .call { callee := .builtin .max, args := #[x, y, z], argTypes := ts }, ty, pos, aft, gd⟩ H K = abind (aev T x) (fun x => abind (aev T y) (fun y => abind (aev T z) (fun z => bindP (afold amax2 [x, y, z]) (fun v => K v H) (tk _)) (tk _)) (tk _)) (tk _) := (rfl)
theorem aop_min3 (x y z : Operand) (ts : Array TypeId) : aop P T ⟨d, .call { callee := .builtin .min, args := #[x, y, z], argTypes := ts }, ty, pos, aft, gd⟩ H K = abind (aev T x) (fun x => abind (aev T y) (fun y => abind (aev T z) (fun z => bindP (afold amin2 [x, y, z]) (fun v => K v H) (tk _)) (tk _)) (tk _)) (tk _) := (rfl)
end
theorem amin3_int (k : IntKind) (a b c : Int) : afold amin2 [.int k a, .int k b, .int k c] = some (.int k (min a (min b c))) := by
  unfold afold
  rw [amin2_int, Option.bind_some, afold_two, amin2_int]
  congr 2
  split <;> split <;> omega
theorem amax3_int (k : IntKind) (a b c : Int) : afold amax2 [.int k a, .int k b, .int k c] = some (.int k (max a (max b c))) := by
  unfold afold
  rw [amax2_int, Option.bind_some, afold_two, amax2_int]
  congr 2
  split <;> split <;> omega
attribute [go_sem ↓] aop_max3 aop_min3
attribute [go_sem] amin3_int amax3_int
theorem copy_row {H : AHeap} {h off n c m k t tx e : Nat} {cs news : List Value} {x : Value} (he : elemT P t = some e) (hk : szT P e = some k) (hrow : H[h]? = some (.row cs k true)) (hs : asrc P H k tx x = some (m, news)) (hpos : 0 < min m n)
    (hfit : off + min m n * k ≤ cs.length) (hlen : news.length = m * k) (hone : news.all oneCell = true) :
    acopy2 P H t tx (.slice (some ⟨h, off, none⟩) n c) x = some (.int .i64 (min m n : Nat), H.set h (.row (cs.take off ++ news.take (min m n * k) ++ cs.drop (off + min m n * k)) k true)) := by
  have hx : isX H (.slice (some ⟨h, off, none⟩) n c) = false := by simp [isX, hrow]
  have hl : (news.take (min m n * k)).length = min m n * k := by
    rw [List.length_take, hlen, Nat.min_eq_left (Nat.mul_le_mul_right _ (Nat.min_le_left _ _))]
  have ho : (news.take (min m n * k)).all oneCell = true := List.all_eq_true.2 fun v hv => List.all_eq_true.1 hone v (List.mem_of_mem_take hv)
  simp only [acopy2, hx, Bool.false_eq_true, if_false, acopy, he, hk, hs, Option.bind_some, if_neg (show ¬ min m n = 0 by omega), astore, hrow, hl, ho, Bool.and_true, decide_eq_true_eq]
  rw [if_pos hfit]
  rfl
theorem copy_rowX {H : AHeap} {h off b n m c c2 k t tx e e2 ext : Nat} {cs : List Value} (he : elemT P t = some e) (he2 : elemT P tx = some e2) (hk : szT P e = some k) (hrow : H[h]? = some (.rowx cs k ext)) (hpos : 0 < min m n)
    (h1 : b + min m n * k ≤ cs.length) (h2 : off ≤ cs.length) (h3 : off + min m n * k ≤ cs.length + ext) (hone : cs.all oneCell = true) :
    acopy2 P H t tx (.slice (some ⟨h, off, none⟩) n c) (.slice (some ⟨h, b, none⟩) m c2) = some (.int .i64 (min m n : Nat), H.set h (.row (cs.take off ++ (cs.drop b).take (min m n * k) ++ cs.drop (off + min m n * k)) k true)) := by
  have hx : isX H (.slice (some ⟨h, off, none⟩) n c) = true := by simp [isX, hrow]
  have ho : ((cs.drop b).take (min m n * k)).all oneCell = true := List.all_eq_true.2 fun v hv => List.all_eq_true.1 hone v (List.mem_of_mem_drop (List.mem_of_mem_take hv))
  simp only [acopy2, hx, if_true, acopyX, he, he2, hk, Option.bind_some, hrow]
  rw [if_pos ⟨trivial, trivial, trivial, trivial, hpos, h1, h2, h3, ho⟩]
theorem append_zeros {H : AHeap} {id i c m k t tx e bt : Nat} {ik : IntKind} {old : List Value} {z : Value} (hu : P.underlying t = some (.slice e)) (he : elemT P t = some e) (htx : P.underlying tx = some (.int ik))
    (hi : ∃ i, P.info? e = some i ∧ i.zero = some z ∧ i.size = k ∧ i.bytes = bt) (hz : z.cells.size = k) (hp : plainV 100 z = true) (hk0 : 0 < k) (hb : bt ≤ 100000)
    (hold : aload H ⟨id, 0, none⟩ (i * k) = some old) (hc : 0 < c) (hm : 0 < m) (hcm : c < i + m) (hbig : i + m < 1000000) :
    ∃ Z : List Value, Z.length = m * k ∧ aappend P H t tx (.slice (some ⟨id, 0, none⟩) i c) (.int .i64 (m : Nat)) = some (.slice (some ⟨H.length, 0, none⟩) (i + m) 0, H ++ [.row (old ++ Z) k true]) := by
  obtain ⟨inf, hi1, hi2, hi3, hi4⟩ := hi
  refine ⟨(Builtin.zeroCells z.cells m).toList, by simp [Builtin.zeroCells, hz], ?_⟩
  have h0 : aappend0 P H t tx (.slice (some ⟨id, 0, none⟩) i c) (.int .i64 (m : Nat)) = none := by
    simp [aappend0, he, hi1, hi2, asrc, htx]
  have hmul : (i + m) * bt ≤ 1000000 * 100000 := Nat.mul_le_mul (by omega) hb
  simp only [aappend, h0, aappendZ, he, hi1, hi2, htx, hi3, hi4, Option.bind_some, Int.toNat_natCast]
  rw [if_pos ⟨hk0, hz, hp, trivial, hc, by omega, hcm, by omega, by omega⟩, hold]
  rfl
theorem append_none {H : AHeap} {a : Addr} {i c k t tx e bt : Nat} {x z : Value} {news : List Value} (he : elemT P t = some e) (hi : ∃ i, P.info? e = some i ∧ i.zero = some z ∧ i.size = k ∧ i.bytes = bt) (hz : z.cells.size = k) (hk0 : 0 < k) (hb : bt ≤ 100000) (hs : asrc P H k tx x = some (0, news)) (hbig : i < 1000000) :
    aappend P H t tx (.slice (some a) i c) x = some (.slice (some a) i c, H) := by
  obtain ⟨inf, hi1, hi2, hi3, hi4⟩ := hi
  have hmul : i * bt ≤ 1000000 * 100000 := Nat.mul_le_mul (by omega) hb
  have h0 : aappend0 P H t tx (.slice (some a) i c) x = some (.slice (some a) i c, H) := by
    simp only [aappend0, he, hi1, hi2, Option.bind_some, hi3, hi4, hs, Nat.add_zero]
    rw [if_pos ⟨hk0, hz, by omega, by omega⟩, if_pos trivial]
  simp only [aappend, h0]
theorem append_room {H : AHeap} {id off i c m k t tx e bt : Nat} {x z : Value} {cs news : List Value} (he : elemT P t = some e) (hi : ∃ i, P.info? e = some i ∧ i.zero = some z ∧ i.size = k ∧ i.bytes = bt) (hz : z.cells.size = k) (hk0 : 0 < k) (hb : bt ≤ 100000)
    (hrow : H[id]? = some (.row cs k true)) (hs : asrc P H k tx x = some (m, news)) (hlen : news.length = m * k) (hone : news.all oneCell = true) (hm : 0 < m) (hc : 0 < c) (hroom : i + m ≤ c) (hfit : off + i * k + m * k ≤ cs.length) (hbig : i + m < 1000000) :
    aappend P H t tx (.slice (some ⟨id, off, none⟩) i c) x = some (.slice (some ⟨id, off, none⟩) (i + m) c, H.set id (.row (cs.take (off + i * k) ++ news ++ cs.drop (off + i * k + m * k)) k true)) := by
  obtain ⟨inf, hi1, hi2, hi3, hi4⟩ := hi
  have hmul : (i + m) * bt ≤ 1000000 * 100000 := Nat.mul_le_mul (by omega) hb
  have h0 : aappend0 P H t tx (.slice (some ⟨id, off, none⟩) i c) x = some (.slice (some ⟨id, off, none⟩) (i + m) c, H.set id (.row (cs.take (off + i * k) ++ news ++ cs.drop (off + i * k + m * k)) k true)) := by
    simp only [aappend0, he, hi1, hi2, Option.bind_some, hi3, hi4, hs]
    rw [if_pos ⟨hk0, hz, by omega, by omega⟩, if_neg (by omega)]
    simp only [Option.isSome_none, Bool.false_eq_true, if_false]
    rw [if_neg (by omega), if_pos hroom]
    simp only [add_none, astore, hrow, hone, Bool.and_true, hlen]
    rw [if_pos (by simpa using hfit)]
    rfl
  simp only [aappend, h0]
end Go.AW
end
section
set_option linter.unusedVariables false
set_option linter.unusedSimpArgs false
namespace Go.Proofs.YtekpdopbiklkfaaGreatDoor
open Go Go.AW
set_option linter.unusedSimpArgs false
set_option maxRecDepth 20000
attribute [go_sem] Seg.cells Seg.val
theorem isNaN_i64 (a : Int) (H : AHeap) : Sound Tryz.prog 177 [.int .i64 a] H fun v H' => v = .bool false ∧ H' = H := by
  refine Sound.of_body (rs := [.tmp 2]) mixed Tryz.func177 rfl (by kernel_rfl) rfl (by kernel_rfl) ?_
  simp -dsimp only [go_sem, ↓reduceIte, Nat.reduceEqDiff, Nat.reduceAdd, Nat.reduceMul, Nat.reduceSub, Nat.reduceLeDiff, Nat.reduceLT]
  simp
theorem isNaN_int (a : Int) (H : AHeap) : Sound Tryz.prog 178 [.int .i64 a] H fun v H' => v = .bool false ∧ H' = H := by
  refine Sound.of_body (rs := [.tmp 2]) mixed Tryz.func178 rfl (by kernel_rfl) rfl (by kernel_rfl) ?_
  simp -dsimp only [go_sem, ↓reduceIte, Nat.reduceEqDiff, Nat.reduceAdd, Nat.reduceMul, Nat.reduceSub, Nat.reduceLeDiff, Nat.reduceLT]
  simp
def cmpZ (a b : Int) : Int := if a < b then -1 else if b < a then 1 else 0
theorem compare_i64 (a b : Int) (H : AHeap) : Sound Tryz.prog 144 [.int .i64 a, .int .i64 b] H fun v H' => v = .int .i64 (cmpZ a b) ∧ H' = H := by
  refine Sound.of_body (rs := [.tmp 4]) mixed Tryz.func144 rfl (by kernel_rfl) rfl (by kernel_rfl) ?_
  simp -dsimp only [go_sem, ↓reduceIte, Nat.reduceEqDiff, Nat.reduceAdd, Nat.reduceMul, Nat.reduceSub, Nat.reduceLeDiff, Nat.reduceLT]
  refine SoundP_of (isNaN_i64 a H) ?_
  rintro v H' ⟨rfl, rfl⟩
  simp -dsimp only [go_sem, ↓reduceIte, Nat.reduceEqDiff, Nat.reduceAdd, Nat.reduceMul, Nat.reduceSub, Nat.reduceLeDiff, Nat.reduceLT]
  refine SoundP_of (isNaN_i64 b _) ?_
  rintro v H' ⟨rfl, rfl⟩
  simp -dsimp only [go_sem, ↓reduceIte, Nat.reduceEqDiff, Nat.reduceAdd, Nat.reduceMul, Nat.reduceSub, Nat.reduceLeDiff, Nat.reduceLT]
  refine acondP_of (fun h => ?_) (fun h => ?_)
  · simp -dsimp only [go_sem, ↓reduceIte, Nat.reduceEqDiff, Nat.reduceAdd, Nat.reduceMul, Nat.reduceSub, Nat.reduceLeDiff, Nat.reduceLT]
    simp at h; simp [cmpZ, h]
  · simp -dsimp only [go_sem, ↓reduceIte, Nat.reduceEqDiff, Nat.reduceAdd, Nat.reduceMul, Nat.reduceSub, Nat.reduceLeDiff, Nat.reduceLT]
    simp at h
    refine acondP_of (fun h' => ?_) (fun h' => ?_)
    · simp -dsimp only [go_sem, ↓reduceIte, Nat.reduceEqDiff, Nat.reduceAdd, Nat.reduceMul, Nat.reduceSub, Nat.reduceLeDiff, Nat.reduceLT]
      simp at h'; simp [cmpZ, h', Int.not_lt.2 h]
    · simp -dsimp only [go_sem, ↓reduceIte, Nat.reduceEqDiff, Nat.reduceAdd, Nat.reduceMul, Nat.reduceSub, Nat.reduceLeDiff, Nat.reduceLT]
      simp at h'; simp [cmpZ, Int.not_lt.2 h, Int.not_lt.2 h']
theorem compare_int (a b : Int) (H : AHeap) : Sound Tryz.prog 145 [.int .i64 a, .int .i64 b] H fun v H' => v = .int .i64 (cmpZ a b) ∧ H' = H := by
  refine Sound.of_body (rs := [.tmp 4]) mixed Tryz.func145 rfl (by kernel_rfl) rfl (by kernel_rfl) ?_
  simp -dsimp only [go_sem, ↓reduceIte, Nat.reduceEqDiff, Nat.reduceAdd, Nat.reduceMul, Nat.reduceSub, Nat.reduceLeDiff, Nat.reduceLT]
  refine SoundP_of (isNaN_int a H) ?_
  rintro v H' ⟨rfl, rfl⟩
  simp -dsimp only [go_sem, ↓reduceIte, Nat.reduceEqDiff, Nat.reduceAdd, Nat.reduceMul, Nat.reduceSub, Nat.reduceLeDiff, Nat.reduceLT]
  refine SoundP_of (isNaN_int b _) ?_
  rintro v H' ⟨rfl, rfl⟩
  simp -dsimp only [go_sem, ↓reduceIte, Nat.reduceEqDiff, Nat.reduceAdd, Nat.reduceMul, Nat.reduceSub, Nat.reduceLeDiff, Nat.reduceLT]
  refine acondP_of (fun h => ?_) (fun h => ?_)
  · simp -dsimp only [go_sem, ↓reduceIte, Nat.reduceEqDiff, Nat.reduceAdd, Nat.reduceMul, Nat.reduceSub, Nat.reduceLeDiff, Nat.reduceLT]
    simp at h; simp [cmpZ, h]
  · simp -dsimp only [go_sem, ↓reduceIte, Nat.reduceEqDiff, Nat.reduceAdd, Nat.reduceMul, Nat.reduceSub, Nat.reduceLeDiff, Nat.reduceLT]
    simp at h
    refine acondP_of (fun h' => ?_) (fun h' => ?_)
    · simp -dsimp only [go_sem, ↓reduceIte, Nat.reduceEqDiff, Nat.reduceAdd, Nat.reduceMul, Nat.reduceSub, Nat.reduceLeDiff, Nat.reduceLT]
      simp at h'; simp [cmpZ, h', Int.not_lt.2 h]
    · simp -dsimp only [go_sem, ↓reduceIte, Nat.reduceEqDiff, Nat.reduceAdd, Nat.reduceMul, Nat.reduceSub, Nat.reduceLeDiff, Nat.reduceLT]
      simp at h'; simp [cmpZ, Int.not_lt.2 h, Int.not_lt.2 h']
def orZ : List Int → Int
  | [] => 0
  | x :: l => if x ≠ 0 then x else orZ l
theorem or_int (l : List Int) (a : Option Addr) (c : Nat) (H : AHeap) (hs : SlA H encI 1 a l) (hl : l.length < 1000) :
    Sound Tryz.prog 143 [.slice a l.length c] H fun v H' => v = .int .i64 (orZ l) ∧ H' = H := by
  refine Sound.of_body (rs := [.tmp 2]) mixed Tryz.func143 rfl (by kernel_rfl) rfl (by kernel_rfl) ?_
  simp -dsimp only [go_sem, ↓reduceIte, Nat.reduceEqDiff, Nat.reduceAdd, Nat.reduceMul, Nat.reduceSub, Nat.reduceLeDiff, Nat.reduceLT]
  refine aloopP_of (fun n T H' => ∃ i, n = l.length - i ∧ i ≤ l.length ∧ H' = H ∧ T 3 = .int .i64 0 ∧ T 6 = .slice a l.length c ∧ T 7 = .int .i64 l.length ∧ T 8 = .int .i64 i ∧ orZ l = orZ (l.drop i)) (n := l.length) ?_ ?_
  · refine ⟨0, ?_⟩
    simp -dsimp only [go_sem, ↓reduceIte, Nat.reduceEqDiff, Nat.reduceAdd, Nat.reduceMul, Nat.reduceSub, Nat.reduceLeDiff, Nat.reduceLT]
    simp
  · rintro n T H' ⟨i, rfl, hi, rfl, h3, h6, h7, h8, ho⟩
    simp -dsimp only [go_sem, ↓reduceIte, Nat.reduceEqDiff, Nat.reduceAdd, Nat.reduceMul, Nat.reduceSub, Nat.reduceLeDiff, Nat.reduceLT, h3, h6, h7, h8]
    refine acondP_of (fun h => ?_) (fun h => ?_)
    · simp at h
      obtain ⟨x, hx⟩ := get_ex h
      obtain ⟨id, off, rfl, hat⟩ := hs.at (by omega)
      simp -dsimp only [go_sem, ↓reduceIte, Nat.reduceEqDiff, Nat.reduceAdd, Nat.reduceMul, Nat.reduceSub, Nat.reduceLeDiff, Nat.reduceLT, h3, h6, h7, h8, inRange h, rowLoad_one0 (hat i x hx)]
      refine acondP_of (fun h' => ?_) (fun h' => ?_)
      · simp -dsimp only [go_sem, ↓reduceIte, Nat.reduceEqDiff, Nat.reduceAdd, Nat.reduceMul, Nat.reduceSub, Nat.reduceLeDiff, Nat.reduceLT, h3, h6, h7, h8]
        simp at h'
        simp [ho, drop_get hx, orZ, h']
      · simp -dsimp only [go_sem, ↓reduceIte, Nat.reduceEqDiff, Nat.reduceAdd, Nat.reduceMul, Nat.reduceSub, Nat.reduceLeDiff, Nat.reduceLT, h3, h6, h7, h8, wrS (show i < 4611686018427387904 by omega)]
        simp at h'
        refine ⟨_, ?_, i + 1, rfl, h, ?_⟩
        · omega
        · simp [ho, drop_get hx, orZ, h']
    · simp at h
      simp -dsimp only [go_sem, ↓reduceIte, Nat.reduceEqDiff, Nat.reduceAdd, Nat.reduceMul, Nat.reduceSub, Nat.reduceLeDiff, Nat.reduceLT, h3, h6, h7, h8]
      obtain rfl : i = l.length := by omega
      simp [ho, orZ]
def cmpSeg (a b : Seg) : Int := orZ [cmpZ a.f b.f, cmpZ a.t b.t, cmpZ a.v b.v, cmpZ a.p b.p]
theorem orderLaw (a b : Seg) (H : AHeap) : Sound Tryz.prog 107 [a.val, b.val] H fun v H' => v = .int .i64 (cmpSeg a b) ∧ H <+: H' := by
  refine Sound.of_body (rs := [.tmp 4]) mixed Tryz.func107 rfl (by kernel_rfl) rfl (by kernel_rfl) ?_
  simp -dsimp only [go_sem, ↓reduceIte, Nat.reduceEqDiff, Nat.reduceAdd, Nat.reduceMul, Nat.reduceSub, Nat.reduceLeDiff, Nat.reduceLT]
  refine adrawnP_of2 [(0, false), (1, false), (2, false), (3, false), (4, false), (5, false), (7, false), (8, false), (9, false), (10, false), (11, false), (12, false), (14, false), (15, false), (16, false), (17, false), (19, false), (20, false), (21, false), (22, false), (6, true), (13, true), (18, true), (23, false), (24, false), (25, false), (26, false)] (by kernel_rfl) ?_
  simp -dsimp only [go_sem, ↓reduceIte, Nat.reduceEqDiff, Nat.reduceAdd, Nat.reduceMul, Nat.reduceSub, Nat.reduceLeDiff, Nat.reduceLT]
  refine SoundP_of (compare_i64 _ _ _) ?_
  rintro v H' ⟨rfl, rfl⟩
  simp -dsimp only [go_sem, ↓reduceIte, Nat.reduceEqDiff, Nat.reduceAdd, Nat.reduceMul, Nat.reduceSub, Nat.reduceLeDiff, Nat.reduceLT]
  refine SoundP_of (compare_i64 _ _ _) ?_
  rintro v H' ⟨rfl, rfl⟩
  simp -dsimp only [go_sem, ↓reduceIte, Nat.reduceEqDiff, Nat.reduceAdd, Nat.reduceMul, Nat.reduceSub, Nat.reduceLeDiff, Nat.reduceLT]
  refine SoundP_of (compare_int _ _ _) ?_
  rintro v H' ⟨rfl, rfl⟩
  simp -dsimp only [go_sem, ↓reduceIte, Nat.reduceEqDiff, Nat.reduceAdd, Nat.reduceMul, Nat.reduceSub, Nat.reduceLeDiff, Nat.reduceLT]
  refine SoundP_of (compare_int _ _ _) ?_
  rintro v H' ⟨rfl, rfl⟩
  simp -dsimp only [go_sem, ↓reduceIte, Nat.reduceEqDiff, Nat.reduceAdd, Nat.reduceMul, Nat.reduceSub, Nat.reduceLeDiff, Nat.reduceLT]
  refine SoundP_of (or_int [cmpZ a.f b.f, cmpZ a.t b.t, cmpZ a.v b.v, cmpZ a.p b.p] _ _ _ (SlA.ofRow (get_end2 _ _ _ _ _) rfl fun _ => rfl) (by simp)) ?_
  rintro v H' ⟨rfl, rfl⟩
  simp -dsimp only [go_sem, ↓reduceIte, Nat.reduceEqDiff, Nat.reduceAdd, Nat.reduceMul, Nat.reduceSub, Nat.reduceLeDiff, Nat.reduceLT]
  exact ⟨rfl, List.prefix_append _ _⟩
def mayB (s : Seg) : Bool := decide (0 ≤ s.f) && (decide (s.f < s.t) && (decide (s.t ≤ 1099511627776) && (decide (0 ≤ s.v) && (decide (0 ≤ s.p) && decide (0 ≤ s.c)))))
theorem segmentLaw (s : Seg) (H : AHeap) : Sound Tryz.prog 104 [s.val] H fun v H' => v = .bool (mayB s) ∧ H <+: H' := by
  refine Sound.of_body (rs := [.tmp 2]) mixed Tryz.func104 rfl (by kernel_rfl) rfl (by kernel_rfl) ?_
  simp -dsimp only [go_sem, ↓reduceIte, Nat.reduceEqDiff, Nat.reduceAdd, Nat.reduceMul, Nat.reduceSub, Nat.reduceLeDiff, Nat.reduceLT]
  cases h1 : decide (0 ≤ s.f) with
  | false =>
    simp -dsimp only [go_sem, ↓reduceIte, Nat.reduceEqDiff, Nat.reduceAdd, Nat.reduceMul, Nat.reduceSub, Nat.reduceLeDiff, Nat.reduceLT, h1]
    simp [mayB, h1]
  | true =>
    cases h2 : decide (s.f < s.t) with
    | false =>
      simp -dsimp only [go_sem, ↓reduceIte, Nat.reduceEqDiff, Nat.reduceAdd, Nat.reduceMul, Nat.reduceSub, Nat.reduceLeDiff, Nat.reduceLT, h1, h2]
      simp [mayB, h2]
    | true =>
      cases h3 : decide (s.t ≤ 1099511627776) with
      | false =>
        simp -dsimp only [go_sem, ↓reduceIte, Nat.reduceEqDiff, Nat.reduceAdd, Nat.reduceMul, Nat.reduceSub, Nat.reduceLeDiff, Nat.reduceLT, h1, h2, h3]
        simp only [mayB, h3, Bool.false_and, Bool.and_false]; simp
      | true =>
        simp -dsimp only [go_sem, ↓reduceIte, Nat.reduceEqDiff, Nat.reduceAdd, Nat.reduceMul, Nat.reduceSub, Nat.reduceLeDiff, Nat.reduceLT, h1, h2, h3]
        have e : decide (0 ≤ min s.v (min s.p s.c)) = (decide (0 ≤ s.v) && (decide (0 ≤ s.p) && decide (0 ≤ s.c))) := by rw [Bool.eq_iff_iff]; simp; omega
        rw [e]
        simp only [mayB, h1, h2, h3, Bool.true_and]; simp
end Go.Proofs.YtekpdopbiklkfaaGreatDoor
end
