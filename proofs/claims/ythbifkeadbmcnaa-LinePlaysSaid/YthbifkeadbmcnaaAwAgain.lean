/-
  AW: drawn regions whose reads are looked at again behind an effect.
-/
import Derived.Test.YthbifkeadbmcnaaAwBase
set_option linter.unusedVariables false
set_option linter.unusedSimpArgs false
namespace Go.AW
open Go
variable {P : Program}

/-- 0: as it is; 1: a read that is kept in mind; 2: an effect behind which these are looked at again -/
def mkPlan4 (P : Program) (an : List Nat) (ops : Array Oper) : List (Nat × Nat) → List Nat → List Nat → Option (List (Nat × List Nat))
  | [], _, _ => some []
  | (i, k) :: is, seen, rd =>
    match ops[i]? with
    | none => none
    | some o =>
      match cls P o with
      | .eff =>
        let chk := seen.filter fun j => !(an.getD i 0).testBit j
        if chk.all rd.contains && (chk.isEmpty || k == 2) then (mkPlan4 P an ops is (i :: seen) rd).map ((i, chk) :: ·) else none
      | .read => (mkPlan4 P an ops is (i :: seen) (if k == 1 then i :: rd else rd)).map ((i, []) :: ·)
      | .alloc => if k == 1 then none else (mkPlan4 P an ops is (i :: seen) rd).map ((i, []) :: ·)
def planOk4 (P : Program) (ops : Array Oper) (order : List (Nat × Nat)) : Bool :=
  match mkPlan4 P (ancs ops) ops order [] [] with
  | some plan => planOk P ops plan
  | none => false
def recAt (P : Program) (H : AHeap) (T : Tm) (v : Value) (os : List Oper) (i : Nat) : Prop := bindO (opAt os i) fun o => aop P T o H fun v' _ => v' = v
def again4 (P : Program) (l : List Oper) (H : AHeap) : List (Nat × Tm × Value) → Prop
  | [] => True
  | (i, T, v) :: rs => recAt P H T v l i ∧ again4 P l H rs
def recq (k i : Nat) (T : Tm) (v : Value) (recs : List (Nat × Tm × Value)) : List (Nat × Tm × Value) := if k = 1 then (i, T, v) :: recs else recs
def adraw4 (P : Program) (l : List Oper) (K : Tm → AHeap → Prop) : List (Nat × Nat) → List (Nat × Tm × Value) → Tm → AHeap → Prop
  | [], _, T, H => K T H
  | (i, k) :: is, recs, T, H => bindO (opAt l i) fun o => bindO (aguard l.toArray T o) fun g =>
      acond g (aop P T o H fun v H' => (k = 2 → again4 P l H' recs) ∧ adraw4 P l K is (recq k i T v recs) (T.put o.dst v) H') (adraw4 P l K is recs (T.put o.dst undef) H)
theorem again_mem {l : List Oper} {H : AHeap} : ∀ {rs : List (Nat × Tm × Value)}, again4 P l H rs → ∀ r ∈ rs, recAt P H r.2.1 r.2.2 l r.1
  | (i, T, v) :: rs, h, r, hr => by
    rcases List.mem_cons.1 hr with rfl | hr
    · exact h.1
    · exact again_mem h.2 r hr
theorem adraw_of4 {l : List Oper} {an : List Nat} {K : Tm → AHeap → Prop} : ∀ (is : List (Nat × Nat)) (seen rd : List Nat) (plan : List (Nat × List Nat)) (recs : List Rec) (rs : List (Nat × Tm × Value)) (T : Tm) (H : AHeap),
    mkPlan4 P an l.toArray is seen rd = some plan → (∀ r ∈ recs, r.i ∈ seen) → (∀ i ∈ rd, i ∈ seen ∧ ∃ o, l.toArray[i]? = some o ∧ cls P o = .read) → (∀ r ∈ recs, r.i ∈ rd → r.skip = true ∨ (r.id = none ∧ (r.i, r.T, r.v) ∈ rs)) → (∀ i ∈ is.map Prod.fst, i ∉ seen) → (is.map Prod.fst).Nodup → adraw4 P l K is rs T H → adraw P l.toArray K plan recs T H
  | [], _, _, plan, recs, rs, T, H, hp, _, _, _, _, _, h => by
    simp only [mkPlan4, Option.some.injEq] at hp
    subst hp
    exact h
  | (i, k) :: is, seen, rd, plan, recs, rs, T, H, hp, hs, hrd, hg, hn, hnd, h => by
    simp only [adraw4] at h
    obtain ⟨o, ho, h1⟩ := bindO_iff.1 h
    rw [opAt_eq] at ho
    have ho' : l.toArray[i]? = some o := by simpa using ho
    simp only [mkPlan4, ho'] at hp
    have hi : i ∉ seen := hn i (by simp)
    simp only [List.map_cons, List.nodup_cons] at hnd
    have hn' : ∀ j ∈ is.map Prod.fst, j ∉ i :: seen := fun j hj hm => by
      rcases List.mem_cons.1 hm with rfl | hm
      · exact hnd.1 hj
      · exact hn j (by simp at hj ⊢; exact .inr hj) hm
    have hird : i ∉ rd := fun q => hi (hrd i q).1
    have hs' : ∀ r ∈ recs, r.i ∈ i :: seen := fun r hr => List.mem_cons_of_mem _ (hs r hr)
    have hrd' : ∀ j ∈ rd, j ∈ i :: seen ∧ ∃ o, l.toArray[j]? = some o ∧ cls P o = .read := fun j hj => ⟨List.mem_cons_of_mem _ (hrd j hj).1, (hrd j hj).2⟩
    have seen' : ∀ rec : Rec, rec.i = i → ∀ r ∈ rec :: recs, r.i ∈ i :: seen := fun rec e r hr => by
      rcases List.mem_cons.1 hr with rfl | hr
      · rw [e]; exact List.mem_cons_self ..
      · exact hs' r hr
    cases hc : cls P o with
    | eff =>
      simp only [hc] at hp
      split at hp
      · rename_i q
        simp only [Option.map_eq_some_iff] at hp
        obtain ⟨pl, hp, rfl⟩ := hp
        have hk1 : k ≠ 1 ∨ True := .inr trivial
        simp only [adraw]
        refine bindO_iff.2 ⟨o, ho', bindO_mono h1 fun g hgd => acond_mono hgd (fun hq => ?_) (fun hq => ?_)⟩
        · simp only [hc]
          simp only [Bool.and_eq_true, List.all_eq_true, Bool.or_eq_true, beq_iff_eq] at q
          refine aop_mono (fun v H' ⟨h3, h4⟩ => ⟨?_, ?_⟩) hq
          · refine rechecks_of fun r hr hj => ?_
            have hjr := q.1 r.i hj
            have hk : k = 2 := by
              rcases q.2 with q2 | q2
              · rw [List.isEmpty_iff] at q2; rw [q2] at hj; cases hj
              · exact q2
            have hjr : r.i ∈ rd := by simpa using hjr
            obtain ⟨_, p, hp1, hp2⟩ := hrd r.i hjr
            rcases hg r hr hjr with h5 | ⟨h5, h6⟩
            · simp only [recheck, h5]
            · have h7 := again_mem (h3 hk) _ h6
              unfold recAt at h7
              obtain ⟨o2, ho2, h8⟩ := bindO_iff.1 h7
              rw [opAt_eq] at ho2
              have ho2' : l.toArray[r.i]? = some o2 := by simpa using ho2
              rw [ho2'] at hp1
              cases hp1
              obtain ⟨v2, hv2, h9⟩ := bindO_iff.1 (aop_read hp2 h8)
              cases hsk : r.skip with
              | true => simp only [recheck, hsk]
              | false =>
                simp only [recheck, hsk, ho2', h5]
                rw [hv2, h9]
          · refine adraw_of4 is (i :: seen) rd pl recs _ _ _ hp hs' hrd' (fun r hr hj => ?_) hn' hnd.2 h4
            rcases hg r hr hj with h5 | ⟨h5, h6⟩
            · exact .inl h5
            · refine .inr ⟨h5, ?_⟩
              unfold recq
              split
              · exact List.mem_cons_of_mem _ h6
              · exact h6
        · simp only [hc]
          exact adraw_of4 is (i :: seen) rd pl recs _ _ _ hp hs' hrd' hg hn' hnd.2 hq
      · cases hp
    | read =>
      simp only [hc, Option.map_eq_some_iff] at hp
      obtain ⟨pl, hp, rfl⟩ := hp
      simp only [adraw]
      have rd2 : ∀ j ∈ (if k == 1 then i :: rd else rd), j ∈ i :: seen ∧ ∃ o, l.toArray[j]? = some o ∧ cls P o = .read := fun j hj => by
        split at hj
        · rcases List.mem_cons.1 hj with rfl | hj
          · exact ⟨List.mem_cons_self .., o, ho', hc⟩
          · exact hrd' j hj
        · exact hrd' j hj
      have old : ∀ rec : Rec, ∀ rs' : List (Nat × Tm × Value), rec.i = i → (∀ x ∈ rs, x ∈ rs') → (k = 1 → rec.skip = true ∨ (rec.id = none ∧ (rec.i, rec.T, rec.v) ∈ rs')) →
          ∀ r ∈ rec :: recs, r.i ∈ (if k == 1 then i :: rd else rd) → r.skip = true ∨ (r.id = none ∧ (r.i, r.T, r.v) ∈ rs') := fun rec rs' e hsub hrec r hr hj => by
        rcases List.mem_cons.1 hr with rfl | hr
        · split at hj
          · rename_i q; exact hrec (by simpa using q)
          · rw [e] at hj; exact absurd hj hird
        · have hj' : r.i ∈ rd := by
            split at hj
            · rcases List.mem_cons.1 hj with q | hj
              · exact absurd (hs r hr) (q ▸ hi)
              · exact hj
            · exact hj
          rcases hg r hr hj' with h5 | ⟨h5, h6⟩
          · exact .inl h5
          · exact .inr ⟨h5, hsub _ h6⟩
      refine bindO_iff.2 ⟨o, ho', bindO_mono h1 fun g hgd => acond_mono hgd (fun hq => ?_) (fun hq => ?_)⟩
      · simp only [hc]
        have := aop_read hc hq
        obtain ⟨v, hv, hv2⟩ := bindO_iff.1 this
        refine bindO_iff.2 ⟨v, hv, ?_⟩
        refine adraw_of4 is (i :: seen) _ pl _ _ _ _ hp (seen' _ rfl) rd2 (old _ _ rfl (fun x hx => ?_) fun q => .inr ⟨rfl, ?_⟩) hn' hnd.2 hv2.2
        · unfold recq
          split
          · exact List.mem_cons_of_mem _ hx
          · exact hx
        · unfold recq
          rw [if_pos q]
          exact List.mem_cons_self ..
      · simp only [hc]
        exact adraw_of4 is (i :: seen) _ pl _ _ _ _ hp (seen' _ rfl) rd2 (old _ _ rfl (fun x hx => hx) fun q => .inl rfl) hn' hnd.2 hq
    | alloc =>
      simp only [hc] at hp
      split at hp
      · cases hp
      rename_i hk
      simp only [Option.map_eq_some_iff] at hp
      obtain ⟨pl, hp, rfl⟩ := hp
      simp only [adraw]
      have old : ∀ rec : Rec, ∀ rs' : List (Nat × Tm × Value), rec.i = i → (∀ x ∈ rs, x ∈ rs') → ∀ r ∈ rec :: recs, r.i ∈ rd → r.skip = true ∨ (r.id = none ∧ (r.i, r.T, r.v) ∈ rs') := fun rec rs' e hsub r hr hj => by
        rcases List.mem_cons.1 hr with rfl | hr
        · rw [e] at hj; exact absurd hj hird
        · rcases hg r hr hj with h5 | ⟨h5, h6⟩
          · exact .inl h5
          · exact .inr ⟨h5, hsub _ h6⟩
      refine bindO_iff.2 ⟨o, ho', bindO_mono h1 fun g hgd => acond_mono hgd (fun hq => ?_) (fun hq => ?_)⟩
      · simp only [hc]
        have := aop_alloc' hc hq
        obtain ⟨p, hv, hv2⟩ := bindO_iff.1 this
        refine bindO_iff.2 ⟨p, hv, adraw_of4 is (i :: seen) rd pl _ _ _ _ hp (seen' _ rfl) hrd' (old _ _ rfl fun x hx => ?_) hn' hnd.2 hv2.2⟩
        unfold recq
        split
        · exact List.mem_cons_of_mem _ hx
        · exact hx
      · simp only [hc]
        exact adraw_of4 is (i :: seen) rd pl _ _ _ _ hp (seen' _ rfl) hrd' (old _ _ rfl fun x hx => hx) hn' hnd.2 hq

theorem adrawnP_of4 {l : List Oper} {K : Tm → AHeap → Prop} {T : Tm} {H : AHeap} {t1 : Tok l.toArray} {t2 : Tok K} {t3 : Tok T} {t4 : Tok H} (order : List (Nat × Nat)) (hp : (planOk4 P l.toArray order && decide ((order.map Prod.fst).Nodup)) = true)
    (h : adraw4 P l K order [] T H) : adrawnP P l.toArray K T H t1 t2 t3 t4 := by
  simp only [Bool.and_eq_true, decide_eq_true_eq] at hp
  obtain ⟨hp, hnd⟩ := hp
  unfold planOk4 at hp
  split at hp
  · rename_i plan hm
    exact ⟨plan, hp, adraw_of4 order [] [] plan [] [] T H hm (fun r hr => by simp at hr) (fun r hr => by simp at hr) (fun r hr => by simp at hr) (fun r hr => by simp) hnd h⟩
  · cases hp

def againP (k : Nat) (A B : Prop) (_ : Tok B) : Prop := (k = 2 → A) ∧ B
theorem againP_zero (A B : Prop) (t : Tok B) : againP 0 A B t = B := by simp [againP]
theorem againP_one (A B : Prop) (t : Tok B) : againP 1 A B t = B := by simp [againP]
theorem again_of {A B : Prop} {t : Tok B} (h : A) (hb : B) : againP 2 A B t := ⟨fun _ => h, hb⟩
theorem recq_zero (i : Nat) (T : Tm) (v : Value) (recs : List (Nat × Tm × Value)) : recq 0 i T v recs = recs := (rfl)
theorem recq_one (i : Nat) (T : Tm) (v : Value) (recs : List (Nat × Tm × Value)) : recq 1 i T v recs = (i, T, v) :: recs := (rfl)
theorem recq_two (i : Nat) (T : Tm) (v : Value) (recs : List (Nat × Tm × Value)) : recq 2 i T v recs = recs := (rfl)
def adstep4 (P : Program) (l : List Oper) (K : Tm → AHeap → Prop) (recs : List (Nat × Tm × Value)) (i k : Nat) (is : List (Nat × Nat)) (T : Tm) (H : AHeap) (o : Oper) : Prop :=
  bindO (aguard l.toArray T o) fun g => acond g (aop P T o H fun v H' => (k = 2 → again4 P l H' recs) ∧ adraw4 P l K is (recq k i T v recs) (T.put o.dst v) H') (adraw4 P l K is recs (T.put o.dst undef) H)
section
variable (P : Program) (l : List Oper) (K : Tm → AHeap → Prop) (recs : List (Nat × Tm × Value)) (T : Tm) (H : AHeap) (i k : Nat)
theorem adraw4_nil : adraw4 P l K [] recs T H = K T H := (rfl)
def adopen4 (os : List Oper) (j : Nat) (is : List (Nat × Nat)) : Prop := bindO (opAt os j) fun o => adstep4 P l K recs i k is T H o
theorem adraw4_cons (is : List (Nat × Nat)) : adraw4 P l K ((i, k) :: is) recs T H = adopen4 P l K recs T H i k l i is := (rfl)
theorem adopen4_zero (o : Oper) (os : List Oper) (is : List (Nat × Nat)) : adopen4 P l K recs T H i k (o :: os) 0 is = adstep4 P l K recs i k is T H o := (rfl)
theorem adopen4_succ (o : Oper) (os : List Oper) (j : Nat) (is : List (Nat × Nat)) : adopen4 P l K recs T H i k (o :: os) (j + 1) is = adopen4 P l K recs T H i k os j is := (rfl)
theorem adstep4_none (is : List (Nat × Nat)) (d : Option Tmp) (op : Op) (ty : TypeId) (pos : String) (aft : Array Edge) :
    adstep4 P l K recs i k is T H ⟨d, op, ty, pos, aft, none⟩ = aop P T ⟨d, op, ty, pos, aft, none⟩ H fun v H' => againP k (again4 P l H' recs) (adraw4 P l K is (recq k i T v recs) (T.put d v) H') (tk _) := (rfl)
theorem adstep4_some (is : List (Nat × Nat)) (d : Option Tmp) (op : Op) (ty : TypeId) (pos : String) (aft : Array Edge) (g : Nat × Bool) :
    adstep4 P l K recs i k is T H ⟨d, op, ty, pos, aft, some g⟩ = bindP (aguard l.toArray T ⟨d, op, ty, pos, aft, some g⟩) (fun q => acondP q (aop P T ⟨d, op, ty, pos, aft, some g⟩ H fun v H' => againP k (again4 P l H' recs) (adraw4 P l K is (recq k i T v recs) (T.put d v) H') (tk _)) (adraw4 P l K is recs (T.put d undef) H) (tk _) (tk _)) (tk _) := (rfl)
theorem again4_nil : again4 P l H [] = True := (rfl)
theorem again4_cons (T' : Tm) (v : Value) (rs : List (Nat × Tm × Value)) : again4 P l H ((i, T', v) :: rs) = (recAt P H T' v l i ∧ again4 P l H rs) := (rfl)
theorem recAt_zero (v : Value) (o : Oper) (os : List Oper) : recAt P H T v (o :: os) 0 = aop P T o H fun v' _ => v' = v := (rfl)
theorem recAt_succ (v : Value) (o : Oper) (os : List Oper) : recAt P H T v (o :: os) (i + 1) = recAt P H T v os i := (rfl)
end
attribute [go_sem ↓] adraw4_nil adraw4_cons adopen4_zero adopen4_succ adstep4_none adstep4_some
attribute [go_sem] againP_zero againP_one recq_zero recq_one recq_two again4_nil again4_cons recAt_zero recAt_succ

end Go.AW
