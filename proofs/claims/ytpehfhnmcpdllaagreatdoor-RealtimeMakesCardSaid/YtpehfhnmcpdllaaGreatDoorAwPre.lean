/-
  AW, part 26: what was read of a heap is read of each heap that it has grown to; drawn regions with calls that only let the heap grow. AW, part 27: literals of structs, arrays and slices, as lists.
-/
import Derived.Test.YtpehfhnmcpdllaaGreatDoorAwHeap
set_option linter.unusedVariables false
set_option linter.unusedSimpArgs false
namespace Go.AW
open Go
variable {P : Program}

theorem aloadT_pre {H H' : AHeap} (h : H <+: H') {t : TypeId} {x v : Value} (hl : aloadT P H t x = some v) : aloadT P H' t x = some v := by
  unfold aloadT at hl ⊢
  split at hl
  · rename_i a
    cases hg : aggT P t with
    | none => simp [hg] at hl
    | some g =>
      cases g with
      | true =>
        cases hs : szT P t with
        | none => simp [hg, hs] at hl
        | some n =>
          simp only [hg, hs, Option.bind_some, Option.map_eq_some_iff] at hl ⊢
          obtain ⟨cs, h1, h2⟩ := hl
          exact ⟨cs, aload_pre h h1, h2⟩
      | false =>
        simp only [hg, Option.bind_some, Option.bind_eq_some_iff] at hl ⊢
        obtain ⟨cs, h1, h2⟩ := hl
        exact ⟨cs, aload_pre h h1, h2⟩
  · cases hl

theorem ownRow_pre {H H' : AHeap} (h : H <+: H') {id : Nat} (ho : ownRow H id = true) : ownRow H' id = true := by
  unfold ownRow at ho ⊢
  split at ho
  · rename_i q; rw [pre_get h q]; exact ho
  · cases ho
theorem rowOf_pre {H H' : AHeap} (h : H <+: H') {id k : Nat} (ho : rowOf H id k = true) : rowOf H' id k = true := by
  unfold rowOf at ho ⊢
  split at ho
  · rename_i q; rw [pre_get h q]; exact ho
  · cases ho

theorem aeq_pre {H H' : AHeap} (h : H <+: H') : ∀ (d : Nat) (t : TypeId) (x y : Value) (b : Bool), aeq P H d t x y = some b → aeq P H' d t x y = some b := by
  intro d
  induction d with
  | zero => intro t x y b hb; simp [aeq] at hb
  | succ d ih =>
    intro t x y b hb
    have fold : ∀ (fs : List Field) (xs ys : Array Value) (b : Bool),
        fs.foldr (fun f r => if f.name ≠ "_" then (match apart P f.type xs f.offset, apart P f.type ys f.offset with
          | some u, some v => match aeq P H d f.type u v with | some true => r | some false => some false | none => none
          | _, _ => none) else r) (some true) = some b →
        fs.foldr (fun f r => if f.name ≠ "_" then (match apart P f.type xs f.offset, apart P f.type ys f.offset with
          | some u, some v => match aeq P H' d f.type u v with | some true => r | some false => some false | none => none
          | _, _ => none) else r) (some true) = some b := by
      intro fs xs ys
      induction fs with
      | nil => intro b hb; exact hb
      | cons f fs ihf =>
        intro b hb
        simp only [List.foldr_cons] at hb ⊢
        split at hb
        · rename_i q
          rw [if_pos q]
          split at hb
          · rename_i u v hu hv
            split at hb
            · rename_i e; simp only [ih _ _ _ _ e]; exact ihf b hb
            · rename_i e; simp only [ih _ _ _ _ e]; exact hb
            · cases hb
          · cases hb
        · rename_i q
          rw [if_neg q]
          exact ihf b hb
    unfold aeq at hb ⊢
    split at hb <;> try exact hb
    · rename_i e a c hu
      split at hb
      · rename_i k hs
        split at hb
        · rename_i q
          simp only [Bool.and_eq_true] at q
          rw [if_pos (by simp only [Bool.and_eq_true]; exact ⟨⟨q.1.1, ownRow_pre h q.1.2⟩, ownRow_pre h q.2⟩)]
          exact hb
        · cases hb
      · cases hb
    · rename_i tx vx ty vy hu
      split at hb
      · rename_i q; rw [if_pos q]; exact hb
      · rename_i q
        rw [if_neg q]
        split at hb
        · rename_i i hi
          split at hb
          · rename_i q; rw [if_pos q]; exact ih _ _ _ _ hb
          · cases hb
        · cases hb
    · rename_i fields xs ys hu
      split at hb
      · cases hb
      · rename_i q
        rw [if_neg q]
        exact fold _ _ _ _ hb

theorem abin_pre {H H' : AHeap} (h : H <+: H') {op : BinOp} {t : TypeId} {xo yo : Operand} {x y v : Value} (hl : abin P H op t xo yo x y = some v) : abin P H' op t xo yo x y = some v := by
  unfold abin at hl ⊢
  split at hl <;> try exact hl
  · split at hl
    · simp only [Option.map_eq_some_iff] at hl
      obtain ⟨b, h1, h2⟩ := hl
      rename_i q
      rw [if_pos q, aeq_pre h _ _ _ _ _ h1]
      simp [h2]
    · cases hl
  · split at hl
    · simp only [Option.map_eq_some_iff] at hl
      obtain ⟨b, h1, h2⟩ := hl
      rename_i q
      rw [if_pos q, aeq_pre h _ _ _ _ _ h1]
      simp [h2]
    · cases hl

theorem entriesOf_pre {H H' : AHeap} (h : H <+: H') {m : Value} {es : Array MapEntry} (hl : entriesOf H m = some es) : entriesOf H' m = some es := by
  unfold entriesOf at hl ⊢
  split at hl <;> try exact hl
  split at hl
  · rename_i q; rw [pre_get h q]; exact hl
  · cases hl
theorem alookup_pre {H H' : AHeap} (h : H <+: H') {t : TypeId} {m k v : Value} {ok : Bool} (hl : alookup P H t m k ok = some v) : alookup P H' t m k ok = some v := by
  unfold alookup at hl ⊢
  cases hm : mapT P t with
  | none => simp [hm] at hl
  | some p =>
    simp only [hm, Option.bind_some] at hl ⊢
    cases he : entriesOf H m with
    | none => simp [he] at hl
    | some es => rw [entriesOf_pre h he]; rw [he] at hl; exact hl
theorem alen_pre {H H' : AHeap} (h : H <+: H') {t : TypeId} {m v : Value} (hl : alen P H t m = some v) : alen P H' t m = some v := by
  unfold alen at hl ⊢
  split at hl <;> try exact hl
  simp only [Option.map_eq_some_iff] at hl ⊢
  obtain ⟨es, h1, h2⟩ := hl
  exact ⟨es, entriesOf_pre h h1, h2⟩
theorem mapIterOf_pre {H H' : AHeap} (h : H <+: H') {v : Value} {p} (hl : mapIterOf H v = some p) : mapIterOf H' v = some p := by
  unfold mapIterOf at hl ⊢
  split at hl
  · split at hl
    · rename_i q; rw [pre_get h q]; exact hl
    · cases hl
  · cases hl
theorem aentry_pre {H H' : AHeap} (h : H <+: H') {it v : Value} (hl : aentry H it = some v) : aentry H' it = some v := by
  unfold aentry at hl ⊢
  cases hm : mapIterOf H it with
  | none => simp [hm] at hl
  | some p =>
    obtain ⟨r, m, s, sn, la⟩ := p
    rw [mapIterOf_pre h hm]
    simp only [hm, Option.bind_some] at hl ⊢
    cases m with
    | none => exact hl
    | some m =>
      simp only at hl ⊢
      split at hl
      · rename_i q; rw [pre_get h q]; exact hl
      · cases hl
theorem aToStr_pre {H H' : AHeap} (h : H <+: H') {x v : Value} (hl : aToStr H x = some v) : aToStr H' x = some v := by
  unfold aToStr at hl ⊢
  split at hl <;> try exact hl
  rename_i a n _
  split at hl
  · rename_i q; rw [if_pos q]; exact hl
  · rename_i q
    rw [if_neg q]
    simp only [Option.bind_eq_some_iff] at hl ⊢
    obtain ⟨cs, h1, h2⟩ := hl
    exact ⟨cs, aload_pre h h1, h2⟩
theorem aslice_pre {H H' : AHeap} (h : H <+: H') {t : TypeId} {x v : Value} {lo hi mx : Option Value} (hl : aslice P H t x lo hi mx = some v) : aslice P H' t x lo hi mx = some v := by
  unfold aslice at hl ⊢
  split at hl <;> try exact hl
  simp only [Option.bind_eq_some_iff] at hl ⊢
  obtain ⟨k, h0, hl⟩ := hl
  refine ⟨k, h0, ?_⟩
  split at hl <;> try exact hl
  simp only [Option.bind_eq_some_iff] at hl ⊢
  obtain ⟨p, h1, q, h2, hl⟩ := hl
  refine ⟨p, h1, q, h2, ?_⟩
  split at hl <;> try exact hl
  split at hl
  · rename_i c; rw [if_pos c]; exact hl
  · rename_i c
    rw [if_neg c]
    split at hl
    · rename_i c'
      rw [if_pos c']
      split at hl
      · rename_i c2; rw [if_pos (rowOf_pre h c2)]; exact hl
      · cases hl
    · rename_i c'; rw [if_neg c']; exact hl

theorem aread_pre {H H' : AHeap} (h : H <+: H') {T : Tm} {o : Oper} {v : Value} (hl : aread P T o H = some v) : aread P T o H' = some v := by
  unfold aread at hl ⊢
  split at hl <;> try exact hl
  · exact abin_pre h hl
  · split at hl <;> try exact hl
    split at hl
    · simp only [if_true]; exact aToStr_pre h hl
    · cases hl
  · exact aslice_pre h hl
  · exact aloadT_pre h hl
  · exact alookup_pre h hl
  · exact aentry_pre h hl
  · split at hl
    · exact alen_pre h hl
    · cases hl

theorem recheck_pre {ops : Array Oper} {H H' : AHeap} (h : H <+: H') {r : Rec} (hr : recheck P ops H r) : recheck P ops H' r := by
  unfold recheck at hr ⊢
  split
  · trivial
  · rename_i o hs ho
    simp only [hs, ho] at hr
    split at hr
    · exact aread_pre h hr
    · exact bindO_mono hr fun p hp => pre_get h hp
  · rename_i hs ho; simp only [hs, ho] at hr

/-! ### drawn regions: 'true': this effect lets the heap grow, and no more -/
/-- operations that don't look at memory -/
def freeOp (o : Oper) : Bool :=
  match o.op with
  | .move _ | .assign _ | .pick .. | .nilCheck _ | .unOp .. | .makeInterface .. | .makeFunc .. | .field .. | .index .. | .fieldAddr .. | .indexAddr .. | .build .. | .extract .. => true
  | _ => false
def freeAt (ops : Array Oper) (j : Nat) : Bool := match ops[j]? with | some o => freeOp o | none => false
theorem recheck_free {ops : Array Oper} {H H' : AHeap} {r : Rec} (hf : freeAt ops r.i = true) (h : recheck P ops H r) : recheck P ops H' r := by
  unfold recheck at h ⊢
  split
  · trivial
  · rename_i o hs ho
    simp only [hs, ho] at h
    simp only [freeAt, ho] at hf
    have e : aread P r.T o H' = aread P r.T o H := by
      obtain ⟨d, op, ty, pos, aft, gd⟩ := o
      cases op <;> first | rfl | simp [freeOp] at hf
    split
    · rename_i hid
      simp only [hid] at h
      rw [e]; exact h
    · rename_i hid
      simp only [hid] at h
      obtain ⟨p, hp, _⟩ := bindO_iff.1 h
      obtain ⟨d, op, ty, pos, aft, gd⟩ := o
      cases op <;> first | (simp [aalloc] at hp; done) | simp [freeOp] at hf
  · rename_i hs ho; simp only [hs, ho] at h
def mkPlan (P : Program) (an : List Nat) (ops : Array Oper) : List (Nat × Bool) → List Nat → List Nat → Option (List (Nat × List Nat))
  | [], _, _ => some []
  | (i, b) :: is, seen, good =>
    match ops[i]? with
    | none => none
    | some o =>
      if cls P o = .eff then
        let chk := seen.filter fun j => !(an.getD i 0).testBit j
        if b then (if chk.all good.contains then (mkPlan P an ops is (i :: seen) good).map ((i, chk) :: ·) else none)
        else (if chk.all (fun j => good.contains j && freeAt ops j) then (mkPlan P an ops is (i :: seen) (good.filter (freeAt ops))).map ((i, chk) :: ·) else none)
      else (mkPlan P an ops is (i :: seen) (i :: good)).map ((i, []) :: ·)

def planOk2 (P : Program) (ops : Array Oper) (order : List (Nat × Bool)) : Bool :=
  match mkPlan P (ancs ops) ops order [] [] with
  | some plan => planOk P ops plan
  | none => false

def adraw2 (P : Program) (l : List Oper) (K : Tm → AHeap → Prop) : List (Nat × Bool) → Tm → AHeap → Prop
  | [], T, H => K T H
  | (i, b) :: is, T, H => bindO (opAt l i) fun o => bindO (aguard l.toArray T o) fun g =>
      acond g (aop P T o H fun v H' => (b = true → H <+: H') ∧ adraw2 P l K is (T.put o.dst v) H') (adraw2 P l K is (T.put o.dst undef) H)

theorem rechecks_of {ops : Array Oper} {H : AHeap} {chk : List Nat} : ∀ {rs : List Rec}, (∀ r ∈ rs, r.i ∈ chk → recheck P ops H r) → rechecks P ops H chk rs
  | [], _ => trivial
  | r :: rs, h => ⟨by
      split
      · rename_i q; exact h r (List.mem_cons_self ..) (by simpa using q)
      · trivial, rechecks_of fun r' hr => h r' (List.mem_cons_of_mem _ hr)⟩

theorem adraw_of2 {l : List Oper} {an : List Nat} {K : Tm → AHeap → Prop} : ∀ (is : List (Nat × Bool)) (seen good : List Nat) (plan : List (Nat × List Nat)) (recs : List Rec) (T : Tm) (H : AHeap),
    mkPlan P an l.toArray is seen good = some plan → (∀ r ∈ recs, r.i ∈ seen) → (∀ i ∈ good, i ∈ seen) → (∀ r ∈ recs, r.i ∈ good → recheck P l.toArray H r) → (∀ i ∈ is.map Prod.fst, i ∉ seen) → (is.map Prod.fst).Nodup → adraw2 P l K is T H → adraw P l.toArray K plan recs T H
  | [], _, _, plan, recs, T, H, hp, _, _, _, _, _, h => by
    simp only [mkPlan, Option.some.injEq] at hp
    subst hp
    exact h
  | (i, b) :: is, seen, good, plan, recs, T, H, hp, hs, hgs, hg, hn, hnd, h => by
    simp only [adraw2] at h
    obtain ⟨o, ho, h1⟩ := bindO_iff.1 h
    rw [opAt_eq] at ho
    have ho' : l.toArray[i]? = some o := by simpa using ho
    simp only [mkPlan, ho'] at hp
    have hi : i ∉ seen := hn i (by simp)
    simp only [List.map_cons, List.nodup_cons] at hnd
    have hn' : ∀ j ∈ is.map Prod.fst, j ∉ i :: seen := fun j hj hm => by
      rcases List.mem_cons.1 hm with rfl | hm
      · exact hnd.1 hj
      · exact hn j (by simp at hj ⊢; exact .inr hj) hm
    by_cases hc : cls P o = .eff
    · rw [if_pos hc] at hp
      cases b with
      | true =>
        simp only [if_true] at hp
        split at hp
        · rename_i q
          simp only [Option.map_eq_some_iff] at hp
          obtain ⟨pl, hp, rfl⟩ := hp
          simp only [adraw]
          refine bindO_iff.2 ⟨o, ho', bindO_mono h1 fun g hgd => acond_mono hgd (fun hq => ?_) (fun hq => ?_)⟩
          · simp only [hc]
            refine aop_mono (fun v H' ⟨h3, h4⟩ => ⟨?_, ?_⟩) hq
            · refine rechecks_of fun r hr hj => recheck_pre (h3 rfl) (hg r hr ?_)
              have := List.all_eq_true.1 q _ hj
              simpa using this
            · exact adraw_of2 is (i :: seen) good pl recs _ _ hp (fun r hr => List.mem_cons_of_mem _ (hs r hr)) (fun j hj => List.mem_cons_of_mem _ (hgs j hj)) (fun r hr hj => recheck_pre (h3 rfl) (hg r hr hj)) hn' hnd.2 h4
          · simp only [hc]
            exact adraw_of2 is (i :: seen) good pl recs _ _ hp (fun r hr => List.mem_cons_of_mem _ (hs r hr)) (fun j hj => List.mem_cons_of_mem _ (hgs j hj)) hg hn' hnd.2 hq
        · cases hp
      | false =>
        simp only [Bool.false_eq_true, if_false] at hp
        split at hp
        · rename_i q
          simp only [Option.map_eq_some_iff] at hp
          obtain ⟨pl, hp, rfl⟩ := hp
          simp only [adraw]
          have gf : ∀ j ∈ good.filter (freeAt l.toArray), j ∈ good ∧ freeAt l.toArray j = true := fun j hj => List.mem_filter.1 hj
          refine bindO_iff.2 ⟨o, ho', bindO_mono h1 fun g hgd => acond_mono hgd (fun hq => ?_) (fun hq => ?_)⟩
          · simp only [hc]
            refine aop_mono (fun v H' ⟨_, h4⟩ => ⟨?_, ?_⟩) hq
            · refine rechecks_of fun r hr hj => ?_
              have := List.all_eq_true.1 q _ hj
              simp only [Bool.and_eq_true] at this
              exact recheck_free this.2 (hg r hr (by simpa using this.1))
            · exact adraw_of2 is (i :: seen) _ pl recs _ _ hp (fun r hr => List.mem_cons_of_mem _ (hs r hr)) (fun j hj => List.mem_cons_of_mem _ (hgs j (gf j hj).1)) (fun r hr hj => recheck_free (gf _ hj).2 (hg r hr (gf _ hj).1)) hn' hnd.2 h4
          · simp only [hc]
            exact adraw_of2 is (i :: seen) _ pl recs _ _ hp (fun r hr => List.mem_cons_of_mem _ (hs r hr)) (fun j hj => List.mem_cons_of_mem _ (hgs j (gf j hj).1)) (fun r hr hj => hg r hr (gf _ hj).1) hn' hnd.2 hq
        · cases hp
    · rw [if_neg hc] at hp
      simp only [Option.map_eq_some_iff] at hp
      obtain ⟨pl, hp, rfl⟩ := hp
      simp only [adraw]
      have old : ∀ {H' : AHeap}, H <+: H' → ∀ r ∈ recs, r.i ∈ i :: good → recheck P l.toArray H' r := fun hpre r hr hj => by
        rcases List.mem_cons.1 hj with rfl | hj
        · exact absurd (hs r hr) hi
        · exact recheck_pre hpre (hg r hr hj)
      refine bindO_iff.2 ⟨o, ho', bindO_mono h1 fun g hgd => acond_mono hgd (fun hq => ?_) (fun hq => ?_)⟩
      · cases hcl : cls P o with
        | eff => exact absurd hcl hc
        | read =>
          simp only
          have := aop_read hcl hq
          obtain ⟨v, hv, hv2⟩ := bindO_iff.1 this
          refine bindO_iff.2 ⟨v, hv, ?_⟩
          refine adraw_of2 is (i :: seen) (i :: good) pl _ _ _ hp (fun r hr => ?_) (fun j hj => ?_) (fun r hr hj => ?_) hn' hnd.2 hv2.2
          · rcases List.mem_cons.1 hr with rfl | hr
            · exact List.mem_cons_self ..
            · exact List.mem_cons_of_mem _ (hs r hr)
          · rcases List.mem_cons.1 hj with rfl | hj
            · exact List.mem_cons_self ..
            · exact List.mem_cons_of_mem _ (hgs j hj)
          · rcases List.mem_cons.1 hr with rfl | hr
            · simp only [recheck, ho']; exact hv
            · exact old (List.prefix_refl _) r hr hj
        | alloc =>
          simp only
          have := aop_alloc' hcl hq
          obtain ⟨p, hv, hv2⟩ := bindO_iff.1 this
          refine bindO_iff.2 ⟨p, hv, ?_⟩
          refine adraw_of2 is (i :: seen) (i :: good) pl _ _ _ hp (fun r hr => ?_) (fun j hj => ?_) (fun r hr hj => ?_) hn' hnd.2 hv2.2
          · rcases List.mem_cons.1 hr with rfl | hr
            · exact List.mem_cons_self ..
            · exact List.mem_cons_of_mem _ (hs r hr)
          · rcases List.mem_cons.1 hj with rfl | hj
            · exact List.mem_cons_self ..
            · exact List.mem_cons_of_mem _ (hgs j hj)
          · rcases List.mem_cons.1 hr with rfl | hr
            · simp only [recheck, ho']; exact bindO_iff.2 ⟨p, hv, by simp⟩
            · exact old (pre_add _ _) r hr hj
      · have skp : ∀ rec : Rec, rec.i = i → rec.skip = true → adraw P l.toArray K pl (rec :: recs) (T.put o.dst undef) H := fun rec e1 e2 => by
          refine adraw_of2 is (i :: seen) (i :: good) pl _ _ _ hp (fun r hr => ?_) (fun j hj => ?_) (fun r hr hj => ?_) hn' hnd.2 hq
          · rcases List.mem_cons.1 hr with rfl | hr
            · rw [e1]; exact List.mem_cons_self ..
            · exact List.mem_cons_of_mem _ (hs r hr)
          · rcases List.mem_cons.1 hj with rfl | hj
            · exact List.mem_cons_self ..
            · exact List.mem_cons_of_mem _ (hgs j hj)
          · rcases List.mem_cons.1 hr with rfl | hr
            · simp only [recheck, e2]
            · exact old (List.prefix_refl _) r hr hj
        cases hcl : cls P o with
        | eff => exact absurd hcl hc
        | read => exact skp _ rfl rfl
        | alloc => exact skp _ rfl rfl

theorem adrawnP_of2 {l : List Oper} {K : Tm → AHeap → Prop} {T : Tm} {H : AHeap} {t1 : Tok l.toArray} {t2 : Tok K} {t3 : Tok T} {t4 : Tok H} (order : List (Nat × Bool)) (hp : (planOk2 P l.toArray order && decide ((order.map Prod.fst).Nodup)) = true)
    (h : adraw2 P l K order T H) : adrawnP P l.toArray K T H t1 t2 t3 t4 := by
  simp only [Bool.and_eq_true, decide_eq_true_eq] at hp
  obtain ⟨hp, hnd⟩ := hp
  unfold planOk2 at hp
  split at hp
  · rename_i plan hm
    exact ⟨plan, hp, adraw_of2 order [] [] plan [] T H hm (fun r hr => by simp at hr) (fun r hr => by simp at hr) (fun r hr => by simp at hr) (fun r hr => by simp) hnd h⟩
  · cases hp

def adstep2 (P : Program) (l : List Oper) (K : Tm → AHeap → Prop) (b : Bool) (is : List (Nat × Bool)) (T : Tm) (H : AHeap) (o : Oper) : Prop :=
  bindO (aguard l.toArray T o) fun g => acond g (aop P T o H fun v H' => (b = true → H <+: H') ∧ adraw2 P l K is (T.put o.dst v) H') (adraw2 P l K is (T.put o.dst undef) H)
def grown (b : Bool) (H H' : AHeap) (A : Prop) (_ : Tok A) : Prop := (b = true → H <+: H') ∧ A
theorem grown_false (H H' : AHeap) (A : Prop) (t : Tok A) : grown false H H' A t = A := by simp [grown]
theorem grown_of {H H' : AHeap} {A : Prop} {t : Tok A} (h : H <+: H') (ha : A) : grown true H H' A t := ⟨fun _ => h, ha⟩
theorem grown_any {b : Bool} {H H' : AHeap} {A : Prop} {t : Tok A} (h : H <+: H') (ha : A) : grown b H H' A t := ⟨fun _ => h, ha⟩
theorem grown_refl (b : Bool) (H : AHeap) (A : Prop) (t : Tok A) : grown b H H A t = A := by simp [grown]
section
variable (P : Program) (l : List Oper) (K : Tm → AHeap → Prop) (T : Tm) (H : AHeap) (b : Bool)
theorem adraw2_nil : adraw2 P l K [] T H = K T H := (rfl)
def adopen2 (os : List Oper) (i : Nat) (is : List (Nat × Bool)) : Prop := bindO (opAt os i) fun o => adstep2 P l K b is T H o
theorem adraw2_cons (i : Nat) (is : List (Nat × Bool)) : adraw2 P l K ((i, b) :: is) T H = adopen2 P l K T H b l i is := (rfl)
theorem adopen2_zero (o : Oper) (os : List Oper) (is : List (Nat × Bool)) : adopen2 P l K T H b (o :: os) 0 is = adstep2 P l K b is T H o := (rfl)
theorem adopen2_succ (o : Oper) (os : List Oper) (i : Nat) (is : List (Nat × Bool)) : adopen2 P l K T H b (o :: os) (i + 1) is = adopen2 P l K T H b os i is := (rfl)
theorem adstep2_none (is : List (Nat × Bool)) (d : Option Tmp) (op : Op) (ty : TypeId) (pos : String) (aft : Array Edge) :
    adstep2 P l K b is T H ⟨d, op, ty, pos, aft, none⟩ = aop P T ⟨d, op, ty, pos, aft, none⟩ H fun v H' => grown b H H' (adraw2 P l K is (T.put d v) H') (tk _) := (rfl)
theorem adstep2_some (is : List (Nat × Bool)) (d : Option Tmp) (op : Op) (ty : TypeId) (pos : String) (aft : Array Edge) (g : Nat × Bool) :
    adstep2 P l K b is T H ⟨d, op, ty, pos, aft, some g⟩ = bindP (aguard l.toArray T ⟨d, op, ty, pos, aft, some g⟩) (fun q => acondP q (aop P T ⟨d, op, ty, pos, aft, some g⟩ H fun v H' => grown b H H' (adraw2 P l K is (T.put d v) H') (tk _)) (adraw2 P l K is (T.put d undef) H) (tk _) (tk _)) (tk _) := (rfl)
end
attribute [go_sem ↓] adraw2_nil adraw2_cons adopen2_zero adopen2_succ adstep2_none adstep2_some
attribute [go_sem] grown_false grown_refl

end Go.AW
namespace Go.AW
open Go
variable {P : Program}

/-- the parts laid over some cells -/
def fillF (place : Nat → Option (Nat × Nat)) (cells : List Value) : List (Nat × Value) → Option (List Value)
  | [] => some cells
  | (i, v) :: r => (place i).bind fun p => if v.cells.size = p.2 ∧ p.1 + p.2 ≤ cells.length then fillF place (cells.take p.1 ++ v.cells.toList ++ cells.drop (p.1 + p.2)) r else none

theorem setMany_list : ∀ (vs : List Value) (off n : Nat) (c : Array Value), off + n + vs.length ≤ c.size →
    ((vs.zipIdx n).foldl (fun cs (x : Value × Nat) => cs.setIfInBounds (off + x.2) x.1) c).toList = c.toList.take (off + n) ++ vs ++ c.toList.drop (off + n + vs.length)
  | [], off, n, c, h => by simp
  | v :: vs, off, n, c, h => by
    simp only [List.zipIdx_cons, List.foldl_cons]
    rw [setMany_list vs off (n + 1) _ (by simp at h ⊢; omega)]
    have hlt : off + n < c.toList.length := by simp at h ⊢; omega
    simp only [Array.toList_setIfInBounds, List.length_cons]
    rw [show off + (n + 1) = (off + n) + 1 by omega, List.take_add_one, List.getElem?_set_self hlt, List.take_set_of_le (Nat.le_refl _)]
    rw [List.drop_set_of_lt (by omega)]
    simp only [Option.toList_some, List.append_assoc, List.cons_append, List.nil_append]
    rw [show off + n + 1 + vs.length = off + n + (vs.length + 1) by omega]

theorem fill_eq (place : Nat → Option (Nat × Nat)) : ∀ (ps : List (Nat × Value)) (c : Array Value), Instr.fill place c ps = (fillF place c.toList ps).map List.toArray
  | [], c => by simp [Instr.fill, fillF]
  | (i, v) :: r, c => by
    unfold Instr.fill fillF
    cases hp : place i with
    | none => simp
    | some p =>
      obtain ⟨off, n⟩ := p
      simp only [Option.bind_some]
      by_cases h : v.cells.size = n ∧ off + n ≤ c.toList.length
      · rw [if_pos h, if_neg (by simp only [Array.length_toList] at h; simp; omega)]
        rw [fill_eq place r]
        have e : (v.cells.zipIdx.foldl (fun cs x => cs.setIfInBounds (off + x.2) x.1) c) = ((v.cells.toList.zipIdx 0).foldl (fun cs (x : Value × Nat) => cs.setIfInBounds (off + x.2) x.1) c) := by
          rw [← Array.foldl_toList, Array.toList_zipIdx]
        have hs := setMany_list v.cells.toList off 0 c (by simp at h ⊢; omega)
        have hsz : v.cells.toList.length = n := by simpa using h.1
        rw [Nat.add_zero, hsz] at hs
        rw [← hs]
        simp only [e]
      · rw [if_neg h, if_pos (by
          simp only [Array.length_toList] at h
          simp only [ne_eq, Bool.or_eq_true, decide_eq_true_eq]
          by_cases h1 : v.cells.size = n
          · right; omega
          · left; exact h1)]
        simp

def slots (n k : Nat) (i : Nat) : Option (Nat × Nat) := if i < n then some (i * k, k) else none

/-- n zero elements -/
def zeros (z : List Value) : Nat → List Value
  | 0 => []
  | n + 1 => z ++ zeros z n
theorem zeros_len (z : List Value) (n : Nat) : (zeros z n).length = n * z.length := by
  induction n with
  | zero => simp [zeros]
  | succ n ih => simp [zeros, ih, Nat.add_mul]; omega
theorem zeros_get (z : List Value) (k : Nat) (hk : z.length = k) (hk0 : 0 < k) : ∀ (n i : Nat), i < n * k → (zeros z n)[i]? = z[i % k]?
  | 0, i, h => by simp at h
  | n + 1, i, h => by
    simp only [zeros]
    by_cases hi : i < k
    · rw [List.getElem?_append_left (by omega), Nat.mod_eq_of_lt hi]
    · rw [List.getElem?_append_right (by omega), hk, zeros_get z k hk hk0 n (i - k) (by rw [Nat.add_mul] at h; omega), Nat.mod_eq_sub_mod (a := i) (by omega)]
theorem range_zeros (z : Array Value) (n k : Nat) (hk : z.size = k) (hk0 : 0 < k) : ((Array.range (n * k)).map fun x => z[x % z.size]!).toList = zeros z.toList n := by
  apply List.ext_getElem?
  intro i
  by_cases hi : i < n * k
  · rw [zeros_get z.toList k (by simpa using hk) hk0 n i hi]
    have hm : i % k < z.size := by rw [hk]; exact Nat.mod_lt _ hk0
    simp [hi, hk]
    rw [Array.getElem?_eq_getElem hm, getElem!_pos z _ hm]
  · rw [List.getElem?_eq_none (by simp; omega), List.getElem?_eq_none (by rw [zeros_len]; simp [hk]; omega)]

/-- '[]T{..}', of a type whose elements are of k cells and begin as z -/
def bsRow (z : List Value) (k n : Nat) (ps : List (Nat × Value)) : Option AObj := if n * k ≤ 16777216 then (fillF (fun i => some (i * k, k)) (zeros z n) ps).map fun cs => .row cs k true else none

theorem bs_eq {T : Tm} {d : Option Tmp} {ty : TypeId} {pos : String} {aft : Array Edge} {gd : Option (Nat × Bool)} {t e k : Nat} {z : Value} (he : elemT P t = some e) (hs : szT P e = some k) (hz : zeroT P e = some z) (hp : plainV 100 z = true) (hzs : z.cells.size = k) (hk : 0 < k) (n : Nat) (ps : Array (Nat × Operand)) :
    aalloc P T ⟨d, .buildSlice t n ps, ty, pos, aft, gd⟩ = (bsRow z.cells.toList k n (ps.toList.map fun p => (p.1, aev T p.2))).map fun o => (o, fun id => .slice (some ⟨id, 0, none⟩) n n) := by
  simp only [aalloc, he, hs, hz, Option.bind_some, bsRow]
  by_cases hn : n * k ≤ 2 ^ 24
  · rw [if_pos ⟨hn, hk, hp, hzs⟩, if_pos (by simpa using hn), fill_eq, range_zeros _ _ _ hzs hk]
    cases fillF (fun i => some (i * k, k)) (zeros z.cells.toList n) (ps.toList.map fun p => (p.1, aev T p.2)) <;> simp
  · rw [if_neg (fun h => hn h.1), if_neg (by simpa using hn)]; simp

theorem bd_eq {t : Nat} {z : Value} {fs : Array Field} {pl : List (Nat × Nat)} (hz : zeroT P t = some z) (hp : plainV 100 z = true) (hu : P.underlying t = some (.struct fs))
    (hpl : mapOpt (fun (f : Field) => (szT P f.type).map fun n => (f.offset, n)) fs.toList = some pl) (ps : List (Nat × Value)) :
    abuild P t ps = (fillF (fun i => pl[i]?) z.cells.toList ps).map fun cs => .agg cs.toArray := by
  simp only [abuild, hz, Option.bind_some, hp, if_true, hu, hpl, fill_eq, Option.map_map]
  rfl

/-! as walks ask them -/
theorem fillF_nil (place : Nat → Option (Nat × Nat)) (cs : List Value) : fillF place cs [] = some cs := (rfl)
theorem fillF_cons (place : Nat → Option (Nat × Nat)) (cs : List Value) (i : Nat) (v : Value) (r : List (Nat × Value)) :
    fillF place cs ((i, v) :: r) = (place i).bind fun p => if v.cells.size = p.2 ∧ p.1 + p.2 ≤ cs.length then fillF place (cs.take p.1 ++ v.cells.toList ++ cs.drop (p.1 + p.2)) r else none := (rfl)
theorem bsRow_eq (z : List Value) (k n : Nat) (ps : List (Nat × Value)) : bsRow z k n ps = if n * k ≤ 16777216 then (fillF (fun i => some (i * k, k)) (zeros z n) ps).map fun cs => .row cs k true else none := (rfl)
theorem zeros_zero (z : List Value) : zeros z 0 = [] := (rfl)
theorem zeros_succ (z : List Value) (n : Nat) : zeros z (n + 1) = z ++ zeros z n := (rfl)
theorem oneCell_int (k : IntKind) (n : Int) : oneCell (.int k n) = true := (rfl)
theorem oneCell_bool (b : Bool) : oneCell (.bool b) = true := (rfl)
theorem oneCell_string (b : ByteArray) : oneCell (.string b) = true := (rfl)
theorem oneCell_slice (a : Option Addr) (n c : Nat) : oneCell (.slice a n c) = true := (rfl)
theorem oneCell_pointer (a : Option Addr) : oneCell (.pointer a) = true := (rfl)
theorem oneCell_map (a : Option Nat) : oneCell (.map a) = true := (rfl)
attribute [go_sem] fillF_nil fillF_cons bsRow_eq zeros_zero zeros_succ List.take_zero List.take_succ_cons List.drop_zero List.drop_succ_cons List.take_nil List.drop_nil and_self and_true true_and List.toList_toArray Nat.le_refl List.all_cons List.all_nil Bool.and_true Bool.and_self oneCell_int oneCell_bool oneCell_string oneCell_slice oneCell_pointer oneCell_map

end Go.AW
