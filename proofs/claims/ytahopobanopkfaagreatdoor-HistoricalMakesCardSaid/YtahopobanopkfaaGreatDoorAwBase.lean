/-
  AW: drawn regions whose effects keep what lay there when the region began.
-/
import Derived.Test.YtahopobanopkfaaGreatDoorAwPre
set_option linter.unusedVariables false
set_option linter.unusedSimpArgs false
namespace Go.AW
open Go
variable {P : Program}

/-- good: what was read ahead of all effects and of all that is made, or looks at no memory -/
def mkPlan3 (P : Program) (an : List Nat) (ops : Array Oper) : List (Nat × Bool) → List Nat → List Nat → Bool → Option (List (Nat × List Nat))
  | [], _, _, _ => some []
  | (i, b) :: is, seen, good, fresh =>
    match ops[i]? with
    | none => none
    | some o =>
      match cls P o with
      | .eff =>
        let chk := seen.filter fun j => !(an.getD i 0).testBit j
        if chk.all (fun j => good.contains j && (b || freeAt ops j)) then (mkPlan3 P an ops is (i :: seen) good false).map ((i, chk) :: ·) else none
      | .read => (mkPlan3 P an ops is (i :: seen) (if fresh || freeAt ops i then i :: good else good) fresh).map ((i, []) :: ·)
      | .alloc => (mkPlan3 P an ops is (i :: seen) good false).map ((i, []) :: ·)
def planOk3 (P : Program) (ops : Array Oper) (order : List (Nat × Bool)) : Bool :=
  match mkPlan3 P (ancs ops) ops order [] [] true with
  | some plan => planOk P ops plan
  | none => false
def adraw3 (P : Program) (l : List Oper) (K : Tm → AHeap → Prop) (B : AHeap) : List (Nat × Bool) → Tm → AHeap → Prop
  | [], T, H => K T H
  | (i, b) :: is, T, H => bindO (opAt l i) fun o => bindO (aguard l.toArray T o) fun g =>
      acond g (aop P T o H fun v H' => (b = true → B <+: H') ∧ adraw3 P l K B is (T.put o.dst v) H') (adraw3 P l K B is (T.put o.dst undef) H)
theorem adraw_of3 {l : List Oper} {an : List Nat} {K : Tm → AHeap → Prop} {B : AHeap} : ∀ (is : List (Nat × Bool)) (seen good : List Nat) (fresh : Bool) (plan : List (Nat × List Nat)) (recs : List Rec) (T : Tm) (H : AHeap),
    mkPlan3 P an l.toArray is seen good fresh = some plan → (∀ r ∈ recs, r.i ∈ seen) → (∀ i ∈ good, i ∈ seen) → (∀ r ∈ recs, r.i ∈ good → recheck P l.toArray B r) → (fresh = true → H = B) → (∀ i ∈ is.map Prod.fst, i ∉ seen) → (is.map Prod.fst).Nodup → adraw3 P l K B is T H → adraw P l.toArray K plan recs T H
  | [], _, _, _, plan, recs, T, H, hp, _, _, _, _, _, _, h => by
    simp only [mkPlan3, Option.some.injEq] at hp
    subst hp
    exact h
  | (i, b) :: is, seen, good, fresh, plan, recs, T, H, hp, hs, hgs, hg, hfr, hn, hnd, h => by
    simp only [adraw3] at h
    obtain ⟨o, ho, h1⟩ := bindO_iff.1 h
    rw [opAt_eq] at ho
    have ho' : l.toArray[i]? = some o := by simpa using ho
    simp only [mkPlan3, ho'] at hp
    have hi : i ∉ seen := hn i (by simp)
    simp only [List.map_cons, List.nodup_cons] at hnd
    have hn' : ∀ j ∈ is.map Prod.fst, j ∉ i :: seen := fun j hj hm => by
      rcases List.mem_cons.1 hm with rfl | hm
      · exact hnd.1 hj
      · exact hn j (by simp at hj ⊢; exact .inr hj) hm
    have hig : i ∉ good := fun q => hi (hgs i q)
    have seen' : ∀ rec : Rec, rec.i = i → ∀ r ∈ rec :: recs, r.i ∈ i :: seen := fun rec e r hr => by
      rcases List.mem_cons.1 hr with rfl | hr
      · rw [e]; exact List.mem_cons_self ..
      · exact List.mem_cons_of_mem _ (hs r hr)
    have good1 : ∀ j ∈ good, j ∈ i :: seen := fun j hj => List.mem_cons_of_mem _ (hgs j hj)
    cases hc : cls P o with
    | eff =>
      simp only [hc] at hp
      split at hp
      · rename_i q
        simp only [Option.map_eq_some_iff] at hp
        obtain ⟨pl, hp, rfl⟩ := hp
        simp only [adraw]
        refine bindO_iff.2 ⟨o, ho', bindO_mono h1 fun g hgd => acond_mono hgd (fun hq => ?_) (fun hq => ?_)⟩
        · simp only [hc]
          refine aop_mono (fun v H' ⟨h3, h4⟩ => ⟨?_, ?_⟩) hq
          · refine rechecks_of fun r hr hj => ?_
            have q1 := List.all_eq_true.1 q _ hj
            simp only [Bool.and_eq_true, Bool.or_eq_true] at q1
            have hr1 := hg r hr (by simpa using q1.1)
            rcases q1.2 with q2 | q2
            · exact recheck_pre (h3 q2) hr1
            · exact recheck_free q2 hr1
          · exact adraw_of3 is (i :: seen) good false pl recs _ _ hp (fun r hr => List.mem_cons_of_mem _ (hs r hr)) good1 hg (fun q => by cases q) hn' hnd.2 h4
        · simp only [hc]
          exact adraw_of3 is (i :: seen) good false pl recs _ _ hp (fun r hr => List.mem_cons_of_mem _ (hs r hr)) good1 hg (fun q => by cases q) hn' hnd.2 hq
      · cases hp
    | read =>
      simp only [hc, Option.map_eq_some_iff] at hp
      obtain ⟨pl, hp, rfl⟩ := hp
      simp only [adraw]
      have gsub : ∀ j ∈ (if fresh || freeAt l.toArray i then i :: good else good), j ∈ i :: seen := fun j hj => by
        split at hj
        · rcases List.mem_cons.1 hj with rfl | hj
          · exact List.mem_cons_self ..
          · exact good1 j hj
        · exact good1 j hj
      have old : ∀ rec : Rec, rec.i = i → ((fresh || freeAt l.toArray i) = true → recheck P l.toArray B rec) → ∀ r ∈ rec :: recs, r.i ∈ (if fresh || freeAt l.toArray i then i :: good else good) → recheck P l.toArray B r := fun rec e hrec r hr hj => by
        rcases List.mem_cons.1 hr with rfl | hr
        · split at hj
          · rename_i q; exact hrec q
          · rw [e] at hj; exact absurd hj hig
        · split at hj
          · rcases List.mem_cons.1 hj with q | hj
            · exact absurd (hs r hr) (q ▸ hi)
            · exact hg r hr hj
          · exact hg r hr hj
      refine bindO_iff.2 ⟨o, ho', bindO_mono h1 fun g hgd => acond_mono hgd (fun hq => ?_) (fun hq => ?_)⟩
      · simp only [hc]
        have := aop_read hc hq
        obtain ⟨v, hv, hv2⟩ := bindO_iff.1 this
        refine bindO_iff.2 ⟨v, hv, ?_⟩
        have hrec : recheck P l.toArray H ⟨i, T, v, none, false⟩ := by simp only [recheck, ho']; exact hv
        refine adraw_of3 is (i :: seen) _ fresh pl _ _ _ hp (seen' _ rfl) gsub (old _ rfl fun q => ?_) hfr hn' hnd.2 hv2.2
        rw [Bool.or_eq_true] at q
        rcases q with q | q
        · rw [← hfr q]; exact hrec
        · exact recheck_free q hrec
      · simp only [hc]
        exact adraw_of3 is (i :: seen) _ fresh pl _ _ _ hp (seen' _ rfl) gsub (old _ rfl fun q => by simp only [recheck]) hfr hn' hnd.2 hq
    | alloc =>
      simp only [hc, Option.map_eq_some_iff] at hp
      obtain ⟨pl, hp, rfl⟩ := hp
      simp only [adraw]
      have old : ∀ rec : Rec, rec.i = i → ∀ r ∈ rec :: recs, r.i ∈ good → recheck P l.toArray B r := fun rec e r hr hj => by
        rcases List.mem_cons.1 hr with rfl | hr
        · rw [e] at hj; exact absurd hj hig
        · exact hg r hr hj
      refine bindO_iff.2 ⟨o, ho', bindO_mono h1 fun g hgd => acond_mono hgd (fun hq => ?_) (fun hq => ?_)⟩
      · simp only [hc]
        have := aop_alloc' hc hq
        obtain ⟨p, hv, hv2⟩ := bindO_iff.1 this
        exact bindO_iff.2 ⟨p, hv, adraw_of3 is (i :: seen) good false pl _ _ _ hp (seen' _ rfl) good1 (old _ rfl) (fun q => by cases q) hn' hnd.2 hv2.2⟩
      · simp only [hc]
        exact adraw_of3 is (i :: seen) good false pl _ _ _ hp (seen' _ rfl) good1 (old _ rfl) (fun q => by cases q) hn' hnd.2 hq

theorem adrawnP_of3 {l : List Oper} {K : Tm → AHeap → Prop} {T : Tm} {H : AHeap} {t1 : Tok l.toArray} {t2 : Tok K} {t3 : Tok T} {t4 : Tok H} (order : List (Nat × Bool)) (hp : (planOk3 P l.toArray order && decide ((order.map Prod.fst).Nodup)) = true)
    (h : adraw3 P l K H order T H) : adrawnP P l.toArray K T H t1 t2 t3 t4 := by
  simp only [Bool.and_eq_true, decide_eq_true_eq] at hp
  obtain ⟨hp, hnd⟩ := hp
  unfold planOk3 at hp
  split at hp
  · rename_i plan hm
    exact ⟨plan, hp, adraw_of3 order [] [] true plan [] T H hm (fun r hr => by simp at hr) (fun r hr => by simp at hr) (fun r hr => by simp at hr) (fun _ => rfl) (fun r hr => by simp) hnd h⟩
  · cases hp

def adstep3 (P : Program) (l : List Oper) (K : Tm → AHeap → Prop) (B : AHeap) (b : Bool) (is : List (Nat × Bool)) (T : Tm) (H : AHeap) (o : Oper) : Prop :=
  bindO (aguard l.toArray T o) fun g => acond g (aop P T o H fun v H' => (b = true → B <+: H') ∧ adraw3 P l K B is (T.put o.dst v) H') (adraw3 P l K B is (T.put o.dst undef) H)
theorem grown_app (b : Bool) (H L : AHeap) (A : Prop) (t : Tok A) : grown b H (H ++ L) A t = A := by simp [grown]
section
variable (P : Program) (l : List Oper) (K : Tm → AHeap → Prop) (B : AHeap) (T : Tm) (H : AHeap) (b : Bool)
theorem adraw3_nil : adraw3 P l K B [] T H = K T H := (rfl)
def adopen3 (os : List Oper) (i : Nat) (is : List (Nat × Bool)) : Prop := bindO (opAt os i) fun o => adstep3 P l K B b is T H o
theorem adraw3_cons (i : Nat) (is : List (Nat × Bool)) : adraw3 P l K B ((i, b) :: is) T H = adopen3 P l K B T H b l i is := (rfl)
theorem adopen3_zero (o : Oper) (os : List Oper) (is : List (Nat × Bool)) : adopen3 P l K B T H b (o :: os) 0 is = adstep3 P l K B b is T H o := (rfl)
theorem adopen3_succ (o : Oper) (os : List Oper) (i : Nat) (is : List (Nat × Bool)) : adopen3 P l K B T H b (o :: os) (i + 1) is = adopen3 P l K B T H b os i is := (rfl)
theorem adstep3_none (is : List (Nat × Bool)) (d : Option Tmp) (op : Op) (ty : TypeId) (pos : String) (aft : Array Edge) :
    adstep3 P l K B b is T H ⟨d, op, ty, pos, aft, none⟩ = aop P T ⟨d, op, ty, pos, aft, none⟩ H fun v H' => grown b B H' (adraw3 P l K B is (T.put d v) H') (tk _) := (rfl)
theorem adstep3_some (is : List (Nat × Bool)) (d : Option Tmp) (op : Op) (ty : TypeId) (pos : String) (aft : Array Edge) (g : Nat × Bool) :
    adstep3 P l K B b is T H ⟨d, op, ty, pos, aft, some g⟩ = bindP (aguard l.toArray T ⟨d, op, ty, pos, aft, some g⟩) (fun q => acondP q (aop P T ⟨d, op, ty, pos, aft, some g⟩ H fun v H' => grown b B H' (adraw3 P l K B is (T.put d v) H') (tk _)) (adraw3 P l K B is (T.put d undef) H) (tk _) (tk _)) (tk _) := (rfl)
end
attribute [go_sem ↓] adraw3_nil adraw3_cons adopen3_zero adopen3_succ adstep3_none adstep3_some
attribute [go_sem] grown_app

end Go.AW
