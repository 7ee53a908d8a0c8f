/-
  Parts of the proof, joined: AwDraw, AwUse.
-/
import Derived.LoopN
import Derived.KernelRfl
import Derived.Attr
import Derived.Test.YtekpdopbiklkfaaGreatDoorPf04
section
set_option linter.unusedVariables false
set_option linter.unusedSimpArgs false
namespace Go.AW
open Go
variable {P : Program}
def Direct (ops : Array Oper) (i j : Nat) : Prop := ∃ o, ops[i]? = some o ∧ ∃ e ∈ o.after.toList, Region.binds .any e = true ∧ e.on = j
def Anc (ops : Array Oper) (i j : Nat) : Prop := ((ancs ops).getD i 0).testBit j = true
theorem fold_bit (acc : List Nat) : ∀ (l : List Edge) (j : Nat), (l.foldr (fun e s => if Region.binds .any e then s ||| 2 ^ e.on ||| acc.getD e.on 0 else s) 0).testBit j = true →
    ∃ e ∈ l, Region.binds .any e = true ∧ (e.on = j ∨ (acc.getD e.on 0).testBit j = true) := by
  intro l
  induction l with
  | nil => intro j h; simp at h
  | cons e l ih =>
    intro j h
    simp only [List.foldr_cons] at h
    split at h
    · rename_i hb
      rw [Nat.testBit_or, Nat.testBit_or, Bool.or_eq_true, Bool.or_eq_true] at h
      rcases h with (h | h) | h
      · obtain ⟨e', h1, h2⟩ := ih j h
        exact ⟨e', by simp [h1], h2⟩
      · rw [Nat.testBit_two_pow] at h
        exact ⟨e, by simp, hb, .inl (by simpa using h)⟩
      · exact ⟨e, by simp, hb, .inr h⟩
    · obtain ⟨e', h1, h2⟩ := ih j h
      exact ⟨e', by simp [h1], h2⟩
theorem ancBits_acc : ∀ (l : List Oper) (acc : List Nat), ∃ m, ancBits l acc = acc ++ m ∧ m.length = l.length := by
  intro l
  induction l with
  | nil => intro acc; exact ⟨[], by simp [ancBits], rfl⟩
  | cons o l ih =>
    intro acc
    obtain ⟨m, h1, h2⟩ := ih (acc ++ [o.after.toList.foldr (fun e s => if Region.binds .any e then s ||| 2 ^ e.on ||| acc.getD e.on 0 else s) 0])
    exact ⟨_ :: m, by simp only [ancBits]; rw [h1, List.append_assoc]; rfl, by simp [h2]⟩
theorem ancBits_get : ∀ (l : List Oper) (acc : List Nat) (i : Nat) (o : Oper), l[i]? = some o → ∀ j, ((ancBits l acc).getD (acc.length + i) 0).testBit j = true →
    ∃ e ∈ o.after.toList, Region.binds .any e = true ∧ (e.on = j ∨ ((ancBits l acc).getD e.on 0).testBit j = true) := by
  intro l
  induction l with
  | nil => intro acc i o h; simp at h
  | cons p l ih =>
    intro acc i o h j hj
    cases i with
    | zero =>
      simp at h; subst h
      simp only [ancBits] at hj ⊢
      obtain ⟨m, h1, h2⟩ := ancBits_acc l (acc ++ [p.after.toList.foldr (fun e s => if Region.binds .any e then s ||| 2 ^ e.on ||| acc.getD e.on 0 else s) 0])
      rw [h1] at hj ⊢
      rw [Nat.add_zero, List.append_assoc, List.getD_eq_getElem?_getD, List.getElem?_append_right (Nat.le_refl _), Nat.sub_self] at hj
      simp only [List.cons_append, List.getElem?_cons_zero, Option.getD_some] at hj
      obtain ⟨e, h3, h4, h5⟩ := fold_bit acc _ j hj
      refine ⟨e, h3, h4, ?_⟩
      rcases h5 with h5 | h5
      · exact .inl h5
      · right
        have hlt : e.on < acc.length := by
          rcases Nat.lt_or_ge e.on acc.length with q | q
          · exact q
          · rw [List.getD_eq_getElem?_getD, List.getElem?_eq_none q] at h5; simp at h5
        rw [List.append_assoc, List.getD_eq_getElem?_getD, List.getElem?_append_left hlt, ← List.getD_eq_getElem?_getD]; exact h5
    | succ i =>
      simp only [ancBits] at hj ⊢
      refine ih _ i o (by simpa using h) j ?_
      rw [List.length_append, List.length_singleton, Nat.add_assoc, Nat.add_comm 1 i]; exact hj
theorem Anc.step {ops : Array Oper} {i j : Nat} {o : Oper} (ho : ops[i]? = some o) (h : Anc ops i j) : ∃ e ∈ o.after.toList, Region.binds .any e = true ∧ (e.on = j ∨ Anc ops e.on j) := by
  have := ancBits_get ops.toList [] i o (by rw [Array.getElem?_toList]; exact ho) j (by simpa [Anc, ancs] using h)
  exact this
def Back (ops : Array Oper) : Prop := ∀ i o, ops[i]? = some o → ∀ e ∈ o.after.toList, Region.binds .any e = true → e.on < i
theorem Anc.lt {ops : Array Oper} (hb : Back ops) : ∀ (i j : Nat), Anc ops i j → j < i ∧ i < ops.size := by
  intro i
  induction i using Nat.strongRecOn with
  | _ i ih =>
    intro j h
    have hi : i < ops.size := by
      rcases Nat.lt_or_ge i ops.size with q | q
      · exact q
      · exfalso
        obtain ⟨m, h1, h2⟩ := ancBits_acc ops.toList []
        unfold Anc ancs at h
        rw [h1, List.nil_append, List.getD_eq_getElem?_getD, List.getElem?_eq_none (by rw [h2]; simpa using q)] at h
        simp at h
    obtain ⟨e, h1, h2, h3⟩ := h.step (Array.getElem?_eq_getElem hi)
    have := hb i _ (Array.getElem?_eq_getElem hi) e h1 h2
    rcases h3 with h3 | h3
    · omega
    · have := (ih e.on this j h3).1; omega
theorem Anc.mem {ops : Array Oper} (hb : Back ops) (S : Nat → Prop) (hS : ∀ i, S i → ∀ j, Direct ops i j → S j) : ∀ (i : Nat), (∀ j, Direct ops i j → S j) → ∀ j, Anc ops i j → S j := by
  intro i
  induction i using Nat.strongRecOn with
  | _ i ih =>
    intro hd j h
    have hi := (h.lt hb).2
    obtain ⟨e, h1, h2, h3⟩ := h.step (Array.getElem?_eq_getElem hi)
    have hlt := hb i _ (Array.getElem?_eq_getElem hi) e h1 h2
    have hse : S e.on := hd _ ⟨_, Array.getElem?_eq_getElem hi, e, h1, h2, rfl⟩
    rcases h3 with h3 | h3
    · subst h3; exact hse
    · exact ih e.on hlt (hS _ hse) j h3
structure PlanFacts (P : Program) (ops : Array Oper) (n : Nat) : Prop where
  back : Back ops
  dst : ∀ (i j : Nat) (o p : Oper) (d : Nat), i ≠ j → ops[i]? = some o → ops[j]? = some p → o.dst = some d → p.dst ≠ some d
  looks : ∀ (i j : Nat) (o p : Oper) (d : Nat), i ≠ j → ops[i]? = some o → ops[j]? = some p → p.dst = some d → d ∈ looks ops o → Anc ops i j ∨ Anc ops j i
  ok : ∀ o ∈ ops.toList, operOk n o = true
theorem planOk_facts {ops : Array Oper} {plan : List (Nat × List Nat)} {n : Nat} (h : planOk P ops plan = true) (hops : ∀ o ∈ ops.toList, operOk n o = true) :
    PlanFacts P ops n ∧ plan.length = ops.size ∧ rowsOk P ops (ancs ops) plan [] = true := by
  simp only [planOk, Bool.and_eq_true] at h
  obtain ⟨⟨⟨⟨h1, h2⟩, h3⟩, h4⟩, _⟩ := h
  have lt : ∀ i o, ops[i]? = some o → i < ops.size := fun i o ho => by
    rcases Nat.lt_or_ge i ops.size with q | q
    · exact q
    · simp [Array.getElem?_eq_none q] at ho
  have pair : ∀ i j o p, i ≠ j → ops[i]? = some o → ops[j]? = some p → ∀ d, p.dst = some d → o.dst ≠ some d ∧ (d ∈ looks ops o → Anc ops i j ∨ Anc ops j i) := fun i j o p hij ho hp d hd => by
    have := List.all_eq_true.1 (List.all_eq_true.1 h3 i (List.mem_range.2 (lt i o ho))) j (List.mem_range.2 (lt j p hp))
    simp only [ho, hp, hd, Bool.or_eq_true, Bool.and_eq_true, beq_iff_eq, Bool.not_eq_true', bne_iff_ne, List.contains_eq_mem, decide_eq_false_iff_not] at this
    rcases this with e | ⟨e1, e2⟩
    · exact absurd e hij
    · refine ⟨e1, fun hm => ?_⟩
      rcases e2 with (e2 | e2) | e2
      · exact absurd hm e2
      · exact .inl e2
      · exact .inr e2
  refine ⟨⟨fun i o ho e he hb => ?_, fun i j o p d hij ho hp hd hd2 => ?_, fun i j o p d hij ho hp hd hm => (pair i j o p hij ho hp d hd).2 hm, hops⟩, by simpa using h1, h2⟩
  · have hm : (o, i) ∈ ops.toList.zipIdx := by
      rw [List.mem_zipIdx_iff_getElem?]; rw [Array.getElem?_toList]; exact ho
    have := List.all_eq_true.1 h4 (o, i) hm
    simp only at this
    have := Array.all_eq_true'.1 this e (Array.mem_toList_iff.1 he)
    simpa [hb] using this
  · exact (pair i j o p hij ho hp d hd2).1 hd
theorem rowsOk_cons {ops : Array Oper} {i : Nat} {chk : List Nat} {is : List (Nat × List Nat)} {seen : List Nat} (h : rowsOk P ops (ancs ops) ((i, chk) :: is) seen = true) (hb : Back ops) :
    i ∉ seen ∧ rowsOk P ops (ancs ops) is (i :: seen) = true ∧ ∃ o, ops[i]? = some o ∧ (∀ j, Anc ops i j → j ∈ seen) ∧
      ∀ j ∈ seen, ∃ p, ops[j]? = some p ∧ (Anc ops i j ∨ (cls P p ≠ .eff ∧ (cls P o ≠ .eff ∨ j ∈ chk))) := by
  simp only [rowsOk, Bool.and_eq_true] at h
  obtain ⟨⟨h1, h2⟩, h3⟩ := h
  refine ⟨by simpa using h1, h3, ?_⟩
  split at h2
  · simp at h2
  · rename_i o ho
    simp only [Bool.and_eq_true] at h2
    refine ⟨o, ho, fun j hj => ?_, fun j hj => ?_⟩
    · have hlt := hj.lt hb
      have := List.all_eq_true.1 h2.1 j (List.mem_range.2 (by omega))
      unfold Anc at hj
      rw [hj] at this
      simpa using this
    · have := List.all_eq_true.1 h2.2 j hj
      split at this
      · simp at this
      · rename_i p hp
        refine ⟨p, hp, ?_⟩
        simp only [Bool.or_eq_true, Bool.and_eq_true, bne_iff_ne, List.contains_eq_mem, decide_eq_true_eq] at this
        exact this
end Go.AW
namespace Go.AW
open Go
variable {P : Program} {ops : Array Oper} {n : Nat} {T0 : Tm} {ρ0 : Ren} {H0 : AHeap} {F : Frm} {ds : List Deferred}
def Wr (ops : Array Oper) (i t : Nat) : Prop := ∃ o, ops[i]? = some o ∧ o.dst = some t
structure RecOk (P : Program) (ops : Array Oper) (T0 T : Tm) (H : AHeap) (n0 : Nat) (ρ : Ren) (r : Rec) (o : Oper) : Prop where
  ta : ∀ t ∈ looks ops o, ∀ j, Wr ops j t → Anc ops r.i j → r.T t = T t
  tn : ∀ t ∈ looks ops o, (∀ j, Wr ops j t → ¬ Anc ops r.i j) → r.T t = T0 t
  guard : aguard ops r.T o = some (!r.skip)
  val : ∀ d, o.dst = some d → T d = r.v
  skip : r.skip = true → r.v = undef
  again : recheck P ops H r
  rd : r.skip = false → cls P o = .read → r.id = none
  al : r.skip = false → cls P o = .alloc → ∃ id ob mk, r.id = some id ∧ aalloc P r.T o = some (ob, mk) ∧ r.v = mk id ∧ ρ id = none ∧ n0 ≤ id
structure Inv (P : Program) (ops : Array Oper) (n : Nat) (ds : List Deferred) (T0 : Tm) (ρ0 : Ren) (H0 : AHeap) (F : Frm) (done : List Nat) (recs : List Rec) (T : Tm) (H : AHeap) (S : Nat → Prop) (ρ : Ren) (a : Act) (w : World) : Prop where
  sub : ∀ i, S i → i ∈ done
  effs : ∀ i o, i ∈ done → ops[i]? = some o → cls P o = .eff → S i
  size : a.tmps.size = n
  defers : a.defers = ds
  tin : ∀ t i, Wr ops i t → S i → VR ρ (T t) (a.tmps.getD t undef)
  tout : ∀ t, t < n → (∀ i, Wr ops i t → ¬ S i) → VR ρ (T0 t) (a.tmps.getD t undef)
  fresh : ∀ t, (∀ i ∈ done, ¬ Wr ops i t) → T t = T0 t
  closed : ∀ i ∈ done, ∀ j, Anc ops i j → j ∈ done
  recd : ∀ i o, i ∈ done → ops[i]? = some o → cls P o ≠ .eff → ¬ S i → ∃ r ∈ recs, r.i = i ∧ RecOk P ops T0 T H H0.length ρ r o
  rel : Rel ρ H F w
  ext : Ext H0 ρ0 ρ
  len : H0.length ≤ H.length
  ids : ∀ (r r' : Rec) (id : Nat), r ∈ recs → r' ∈ recs → r.id = some id → r'.id = some id → r.i = r'.i
  idlt : ∀ (r : Rec) (id : Nat), r ∈ recs → r.id = some id → id < H.length
theorem put_other {T : Tm} {d : Option Tmp} {v : Value} {t : Nat} (h : d ≠ some t) : T.put d v t = T t := by
  cases d with
  | none => rfl
  | some d => simp only [Tm.put]; rw [if_neg]; rintro rfl; exact h rfl
theorem put_same {T : Tm} {d : Nat} {v : Value} : T.put (some d) v d = v := by simp [Tm.put]
theorem Inv.wr (hf : PlanFacts P ops n) {i j t : Nat} (h1 : Wr ops i t) (h2 : Wr ops j t) : i = j := by
  obtain ⟨o, ho, hd⟩ := h1
  obtain ⟨p, hp, hd2⟩ := h2
  rcases Nat.decEq i j with h | h
  · exact absurd hd2 (hf.dst i j o p t h ho hp hd)
  · exact h
theorem Inv.look (hf : PlanFacts P ops n) {done : List Nat} {recs : List Rec} {T : Tm} {H : AHeap} {S : Nat → Prop} {ρ : Ren} {a : Act} {w : World} (h : Inv P ops n ds T0 ρ0 H0 F done recs T H S ρ a w)
    {i : Nat} {o : Oper} (ho : ops[i]? = some o) (hi : i ∉ done) {t : Nat} (ht : t ∈ looks ops o) (hn : ∀ j, Wr ops j t → ¬ Anc ops i j) : ∀ k ∈ done, ¬ Wr ops k t := by
  intro k hk ⟨p, hp, hd⟩
  have hne : i ≠ k := by rintro rfl; exact hi hk
  rcases hf.looks i k o p t hne ho hp hd ht with h1 | h1
  · exact hn k ⟨p, hp, hd⟩ h1
  · exact hi (h.closed k hk i h1)
theorem Inv.advance (hf : PlanFacts P ops n) {K : Tm → AHeap → Prop} {done : List Nat} {recs : List Rec} {T : Tm} {H : AHeap} {S : Nat → Prop} {ρ : Ren} {a : Act} {w : World} (h : Inv P ops n ds T0 ρ0 H0 F done recs T H S ρ a w)
    {i : Nat} {chk : List Nat} {is : List (Nat × List Nat)} (hr : rowsOk P ops (ancs ops) ((i, chk) :: is) done = true) {o : Oper} (ho : ops[i]? = some o) (hc : cls P o ≠ .eff) (hd : adraw P ops K ((i, chk) :: is) recs T H) :
    ∃ recs' T' H', adraw P ops K is recs' T' H' ∧ rowsOk P ops (ancs ops) is (i :: done) = true ∧ Inv P ops n ds T0 ρ0 H0 F (i :: done) recs' T' H' S ρ a w := by
  obtain ⟨hni, hr', o', ho', hanc, hrow⟩ := rowsOk_cons hr hf.back
  rw [ho] at ho'; cases ho'
  have hnS : ¬ S i := fun hs => hni (h.sub i hs)
  -- whatever is put down
  have key : ∀ (r : Rec) (v : Value) (H' : AHeap), r.i = i → r.T = T → r.v = v → HLe H H' → H.length ≤ H'.length → Rel ρ H' F w →
      aguard ops T o = some (!r.skip) → (r.skip = true → v = undef) → recheck P ops H' r → (r.skip = false → cls P o = .read → r.id = none) →
      (r.skip = false → cls P o = .alloc → ∃ id ob mk, r.id = some id ∧ aalloc P T o = some (ob, mk) ∧ v = mk id ∧ ρ id = none ∧ H0.length ≤ id) →
      (∀ id, r.id = some id → id = H.length ∧ H.length < H'.length) →
      Inv P ops n ds T0 ρ0 H0 F (i :: done) (r :: recs) (T.put o.dst v) H' S ρ a w := by
    intro r v H' hri hrT hrv hle hlen hrel hg hsk hre hrd hal hid
    have other : ∀ t j, Wr ops j t → j ≠ i → (T.put o.dst v) t = T t := fun t j ⟨p, hp, hd⟩ hne => put_other (hf.dst j i p o t hne hp ho hd)
    refine ⟨fun k hk => List.mem_cons_of_mem _ (h.sub k hk), fun k p hk hp hcp => ?_, h.size, h.defers, fun t k hw hk => ?_, h.tout, fun t ht => ?_, fun k hk j hj => ?_, fun k p hk hp hcp hSk => ?_, hrel, h.ext, by have := h.len; omega, fun r1 r2 id m1 m2 e1 e2 => ?_, fun r1 id m1 e1 => ?_⟩
    · rcases List.mem_cons.1 hk with rfl | hk2
      · rw [ho] at hp; cases hp; exact absurd hcp hc
      · exact h.effs k p hk2 hp hcp
    · rw [other t k hw (by rintro rfl; exact hnS hk)]; exact h.tin t k hw hk
    · have h1 := h.fresh t fun k hk => ht k (List.mem_cons_of_mem _ hk)
      rw [put_other]; exact h1
      intro e; exact ht i (by simp) ⟨o, ho, e⟩
    · rcases List.mem_cons.1 hk with rfl | hk2
      · exact List.mem_cons_of_mem _ (hanc j hj)
      · exact List.mem_cons_of_mem _ (h.closed k hk2 j hj)
    · rcases List.mem_cons.1 hk with rfl | hk2
      · rw [ho] at hp; cases hp
        refine ⟨r, by simp, hri, ?_, ?_, by rw [hrT]; exact hg, ?_, fun hs => by rw [hrv]; exact hsk hs, hre, hrd, by rw [hrT, hrv]; exact hal⟩
        · intro t _ j hw hj
          rw [hri] at hj
          rw [hrT, other t j hw (by rintro rfl; exact hni (hanc j hj))]
        · intro t ht hn'
          rw [hri] at hn'
          rw [hrT]; exact h.fresh t (h.look hf ho hni ht hn')
        · intro d hd'
          rw [hd', put_same, hrv]
      · obtain ⟨r', hr1, hr2, hr3⟩ := h.recd k p hk2 hp hcp hSk
        have hki : k ≠ i := by rintro rfl; exact hni hk2
        refine ⟨r', by simp [hr1], hr2, ?_, hr3.tn, hr3.guard, ?_, hr3.skip, ?_, hr3.rd, hr3.al⟩
        · intro t ht j hw hj
          rw [other t j hw (by rintro rfl; rw [hr2] at hj; exact hni (h.closed k hk2 _ hj))]
          exact hr3.ta t ht j hw hj
        · intro d hd'
          rw [other d k ⟨p, hp, hd'⟩ hki]; exact hr3.val d hd'
        · have h9 := hr3.again
          unfold recheck at h9 ⊢
          split at h9
          · trivial
          · split at h9
            · exact aread_mono hle h9
            · obtain ⟨q, hq, hq2⟩ := bindO_iff.1 h9
              exact bindO_iff.2 ⟨q, hq, hle _ _ hq2⟩
          · exact h9
    · rcases List.mem_cons.1 m1 with rfl | m3
      · rcases List.mem_cons.1 m2 with rfl | m4
        · rfl
        · have := (hid id e1).1; have := h.idlt _ _ m4 e2; omega
      · rcases List.mem_cons.1 m2 with rfl | m4
        · have := (hid id e2).1; have := h.idlt _ _ m3 e1; omega
        · exact h.ids _ _ _ m3 m4 e1 e2
    · rcases List.mem_cons.1 m1 with rfl | m3
      · have := hid id e1; omega
      · have := h.idlt _ _ m3 e1; omega
  simp only [adraw] at hd
  obtain ⟨o2, ho2, hd1⟩ := bindO_iff.1 hd
  rw [ho] at ho2; cases ho2
  obtain ⟨g, hg, hd2⟩ := bindO_iff.1 hd1
  cases g with
  | true =>
    rw [acond_true] at hd2
    cases hcl : cls P o with
    | eff => exact absurd hcl hc
    | read =>
      rw [hcl] at hd2
      obtain ⟨v, hv, hd3⟩ := bindO_iff.1 hd2
      refine ⟨_, _, _, hd3, hr', key ⟨i, T, v, none, false⟩ v H rfl rfl rfl (HLe.refl _) (Nat.le_refl _) h.rel hg (by simp) ?_ (fun _ _ => rfl) (fun _ q => by rw [hcl] at q; simp at q) (by simp)⟩
      simp only [recheck, ho]; exact hv
    | alloc =>
      rw [hcl] at hd2
      obtain ⟨⟨ob, mk⟩, hv, hd3⟩ := bindO_iff.1 hd2
      refine ⟨_, _, _, hd3, hr', key ⟨i, T, mk H.length, some H.length, false⟩ (mk H.length) (H ++ [ob]) rfl rfl rfl (HLe.more _ _) (by simp) (h.rel.more ob) hg (by simp) ?_ (fun _ q => by rw [hcl] at q; simp at q) (fun _ _ => ⟨H.length, ob, mk, rfl, hv, rfl, ?_, h.len⟩) (by simp)⟩
      · simp only [recheck, ho]; exact bindO_iff.2 ⟨_, hv, by simp⟩
      · cases hq : ρ H.length with
        | none => rfl
        | some m => have := h.rel.dom _ _ hq; omega
  | false =>
    rw [acond_false] at hd2
    have hd3 : adraw P ops K is (⟨i, T, undef, none, true⟩ :: recs) (T.put o.dst undef) H := by
      cases hcl : cls P o with
      | eff => exact absurd hcl hc
      | read => rw [hcl] at hd2; exact hd2
      | alloc => rw [hcl] at hd2; exact hd2
    exact ⟨_, _, _, hd3, hr', key ⟨i, T, undef, none, true⟩ undef H rfl rfl rfl (HLe.refl _) (Nat.le_refl _) h.rel hg (fun _ => rfl) (by simp [recheck]) (by simp) (by simp) (by simp)⟩
theorem looks_opd {o : Oper} {t : Nat} (h : Operand.tmp t ∈ o.op.operands) : t ∈ looks ops o := by
  unfold looks Oper.looksAt
  exact List.mem_append_left _ (List.mem_filterMap.2 ⟨.tmp t, Array.mem_toList_iff.2 h, rfl⟩)
theorem looks_guard {o : Oper} {j d : Nat} {want : Bool} (h : o.guard = some (j, want)) (hd : (ops[j]?).bind (·.dst) = some d) : d ∈ looks ops o := by
  unfold looks Oper.looksAt
  refine List.mem_append_right _ ?_
  rw [h]; simp only; rw [hd]; simp
theorem opds_of (hf : PlanFacts P ops n) {o : Oper} (ho : o ∈ ops.toList) {ρ : Ren} {T : Tm} {a : Act} (hs : a.tmps.size = n) (h : ∀ t ∈ looks ops o, t < n → VR ρ (T t) (a.tmps.getD t undef)) :
    (∀ x ∈ o.op.operands, VR ρ (aev T x) (a.eval x)) ∧ ∀ g, aguard ops T o = some g → Region.wanted o (yielded ops a.tmps) = g := by
  obtain ⟨_, oo⟩ := operOk_opd (hf.ok o ho)
  refine ⟨fun x hx => ?_, fun g hg => aguard_wanted (ρ := ρ) (fun j want d hgd hd => ?_) hg⟩
  · have hok := oo x hx
    cases x with
    | tmp t => exact h t (looks_opd hx) (by simpa [opdOk] using hok)
    | const v => exact (plain_refl 100 v hok).1
    | global g => exact .glob g
    | func f => exact .func _ rfl rfl (by simp) (by simp)
  · have hlt : d < n := by
      cases hj : ops[j]? with
      | none => rw [hj] at hd; simp at hd
      | some p =>
        rw [hj] at hd
        have hp : p ∈ ops.toList := by rw [← Array.getElem?_toList] at hj; exact List.mem_of_getElem? hj
        exact (operOk_opd (hf.ok p hp)).1 d (by simpa using hd)
    exact ⟨h d (looks_guard hgd hd) hlt, by rw [hs]; exact hlt⟩
theorem getD_put {a : Act} {d t : Nat} {v : Value} (hd : d < a.tmps.size) : (a.put (some d) v).tmps.getD t undef = if t = d then v else a.tmps.getD t undef := by
  simp only [Act.put]
  by_cases e : t = d
  · subst e; rw [if_pos rfl, Array.getD_eq_getD_getElem?, Array.getElem?_setIfInBounds_self_of_lt hd]; rfl
  · rw [if_neg e, Array.getD_eq_getD_getElem?, Array.getD_eq_getD_getElem?, Array.getElem?_setIfInBounds_ne (Ne.symm e)]
theorem Inv.perform (hf : PlanFacts P ops n) {done : List Nat} {recs : List Rec} {T : Tm} {H : AHeap} {S : Nat → Prop} {ρ : Ren} {a : Act} {w : World} (h : Inv P ops n ds T0 ρ0 H0 F done recs T H S ρ a w)
    (hS : ∀ i, S i → ∀ j, Anc ops i j → S j) {i : Nat} (hi : i ∈ done) (hni : ¬ S i) (hready : ∀ j, Anc ops i j → S j) (Q : Exit → Act → World → Prop) {o : Oper} (ho : ops[i]? = some o)
    {next : Act → World → Prop} (hnext : ∀ ρ' a' w', Inv P ops n ds T0 ρ0 H0 F done recs T H (fun k => S k ∨ k = i) ρ' a' w' → next a' w') : wpOp P ops Q i next a w := by
  have hmem : o ∈ ops.toList := by rw [← Array.getElem?_toList] at ho; exact List.mem_of_getElem? ho
  have hc : cls P o ≠ .eff := fun hc => hni (h.effs i o hi ho hc)
  obtain ⟨r, hr1, hr2, hr3⟩ := h.recd i o hi ho hc hni
  subst hr2
  obtain ⟨hopd, hgd⟩ := opds_of (T := r.T) (ρ := ρ) hf hmem h.size fun t ht hlt => by
    by_cases hex : ∃ j, Wr ops j t ∧ Anc ops r.i j
    · obtain ⟨j, hw, hj⟩ := hex
      rw [hr3.ta t ht j hw hj]; exact h.tin t j hw (hready j hj)
    · have hno : ∀ j, Wr ops j t → ¬ Anc ops r.i j := fun j hw hj => hex ⟨j, hw, hj⟩
      rw [hr3.tn t ht hno]
      refine h.tout t hlt fun k ⟨p, hp, hd⟩ hk => ?_
      have hne : r.i ≠ k := by rintro rfl; exact hni hk
      rcases hf.looks r.i k o p t hne ho hp hd ht with q | q
      · exact hno k ⟨p, hp, hd⟩ q
      · exact hni (hS k hk _ q)
  have hw := hgd _ hr3.guard
  -- whatever is put into the slot
  have key : ∀ (ρ' : Ren) (v' : Value) (w' : World), (∀ id l, ρ id = some l → ρ' id = some l) → VR ρ' r.v v' → Rel ρ' H F w' → Ext H0 ρ0 ρ' →
      (∀ r' id, r' ∈ recs → r'.i ≠ r.i → r'.id = some id → ρ id = none → ¬ S r'.i → (∃ p, ops[r'.i]? = some p ∧ RecOk P ops T0 T H H0.length ρ r' p) → ρ' id = none) → next (a.put o.dst v') w' := by
    intro ρ' v' w' hle hv hrel hext hid
    have hdn : ∀ d, o.dst = some d → d < a.tmps.size := fun d hd => by rw [h.size]; exact (operOk_opd (hf.ok o hmem)).1 d hd
    refine hnext ρ' _ w' ⟨fun k hk => ?_, fun k p hk hp hcp => .inl (h.effs k p hk hp hcp), ?_, ?_, fun t k hwr hk => ?_, fun t hlt ht => ?_, h.fresh, h.closed, fun k p hk hp hcp hSk => ?_, hrel, hext, h.len, h.ids, h.idlt⟩
    · rcases hk with hk | rfl
      · exact h.sub k hk
      · exact hi
    · cases hd : o.dst with
      | none => exact h.size
      | some d => simp [Act.put, h.size]
    · cases hd : o.dst with
      | none => exact h.defers
      | some d => exact h.defers
    · cases hd : o.dst with
      | none =>
        rcases hk with hk | rfl
        · exact (h.tin t k hwr hk).mono hle
        · obtain ⟨p, hp, hd'⟩ := hwr
          rw [ho] at hp; cases hp; rw [hd] at hd'; simp at hd'
      | some d =>
        rw [getD_put (hdn d hd)]
        by_cases e : t = d
        · subst e
          rw [if_pos rfl, hr3.val t hd]; exact hv
        · rw [if_neg e]
          rcases hk with hk | rfl
          · exact (h.tin t k hwr hk).mono hle
          · obtain ⟨p, hp, hd'⟩ := hwr
            rw [ho] at hp; cases hp; rw [hd] at hd'; cases hd'; exact absurd rfl e
    · have h1 := (h.tout t hlt fun k hwr hk => ht k hwr (.inl hk)).mono hle
      cases hd : o.dst with
      | none => exact h1
      | some d =>
        rw [getD_put (hdn d hd)]
        rw [if_neg (by rintro rfl; exact ht r.i ⟨o, ho, hd⟩ (.inr rfl))]; exact h1
    · have hSk' : ¬ S k := fun q => hSk (.inl q)
      have hki : k ≠ r.i := fun q => hSk (.inr q)
      obtain ⟨r', g1, g2, g3⟩ := h.recd k p hk hp hcp hSk'
      subst g2
      refine ⟨r', g1, rfl, g3.ta, g3.tn, g3.guard, g3.val, g3.skip, g3.again, g3.rd, fun q1 q2 => ?_⟩
      obtain ⟨id, ob, mk, e1, e2, e3, e4, e5⟩ := g3.al q1 q2
      exact ⟨id, ob, mk, e1, e2, e3, hid r' id g1 hki e1 e4 hSk' ⟨p, hp, g3⟩, e5⟩
  unfold wpOp
  simp only [ho, hw]
  cases hsk : r.skip with
  | true =>
    simp only [Bool.not_true, Bool.false_eq_true, if_false]
    refine key ρ undef w (fun _ _ h => h) (by rw [hr3.skip hsk]; exact VR.undef _) h.rel h.ext (fun r' id _ _ _ q _ _ => q)
  | false =>
    simp only [Bool.not_false, if_true]
    left
    have hag := hr3.again
    unfold recheck at hag
    rw [hsk, ho] at hag
    cases hcl : cls P o with
    | eff => exact absurd hcl hc
    | read =>
      rw [hr3.rd hsk hcl] at hag
      obtain ⟨v', g1, g2⟩ := sim_read h.rel hopd hag
      exact upon_read g1 (key ρ v' w (fun _ _ h => h) g2 h.rel h.ext (fun r' id _ _ _ q _ _ => q))
    | alloc =>
      obtain ⟨id, ob, mk, e1, e2, e3, e4, e5⟩ := hr3.al hsk hcl
      rw [e1] at hag
      obtain ⟨q, hq, hq2⟩ := bindO_iff.1 hag
      rw [e2] at hq; cases hq
      obtain ⟨O, l, v', g1, g2, g3, g4⟩ := sim_alloc (w := w) hopd e2
      have hlay := h.rel.lay e4 hq2 g1 (g3 _)
      refine upon_read g2 (key (ρ.put id l) v' _ (Ren.put_le _ e4) (by rw [e3]; exact g4 id) hlay (fun k hk => ?_) (fun r' id' hm hne he hnone hnS hex => ?_))
      · rw [Ren.put_other _ _ (by omega)]; exact h.ext k hk
      · -- two objects that are still to be laid have two numbers
        rw [Ren.put_other]
        · exact hnone
        · rintro rfl
          exact hne (h.ids _ _ _ hm hr1 he e1)
end Go.AW
namespace Go.AW
open Go
variable {P : Program} {ops : Array Oper} {n : Nat} {T0 : Tm} {ρ0 : Ren} {H0 : AHeap} {F : Frm} {ds : List Deferred}
theorem rechecks_mem {H : AHeap} {chk : List Nat} : ∀ {recs : List Rec}, rechecks P ops H chk recs → ∀ r ∈ recs, r.i ∈ chk → recheck P ops H r
  | [], _, r, hr, _ => by simp at hr
  | r0 :: rs, h, r, hr, hc => by
    simp only [rechecks] at h
    rcases List.mem_cons.1 hr with rfl | hr
    · have := h.1
      rwa [if_pos (by simpa using hc)] at this
    · exact rechecks_mem h.2 r hr hc
theorem Inv.turn (hf : PlanFacts P ops n) {K : Tm → AHeap → Prop} {done : List Nat} {recs : List Rec} {T : Tm} {H : AHeap} {S : Nat → Prop} {ρ : Ren} {a : Act} {w : World} (h : Inv P ops n ds T0 ρ0 H0 F done recs T H S ρ a w)
    (hS : ∀ i, S i → ∀ j, Anc ops i j → S j) {i : Nat} {chk : List Nat} {is : List (Nat × List Nat)} (hr : rowsOk P ops (ancs ops) ((i, chk) :: is) done = true) {o : Oper} (ho : ops[i]? = some o) (hc : cls P o = .eff)
    (hready : ∀ j, Anc ops i j → S j) (hd : adraw P ops K ((i, chk) :: is) recs T H) (Q : Exit → Act → World → Prop) {next : Act → World → Prop}
    (hnext : ∀ T' H' ρ' a' w', adraw P ops K is recs T' H' → rowsOk P ops (ancs ops) is (i :: done) = true → Inv P ops n ds T0 ρ0 H0 F (i :: done) recs T' H' (fun k => S k ∨ k = i) ρ' a' w' → next a' w') : wpOp P ops Q i next a w := by
  have hmem : o ∈ ops.toList := by rw [← Array.getElem?_toList] at ho; exact List.mem_of_getElem? ho
  obtain ⟨hni, hr', o', ho', hanc, hrow⟩ := rowsOk_cons hr hf.back
  rw [ho] at ho'; cases ho'
  have hnS : ¬ S i := fun hs => hni (h.sub i hs)
  obtain ⟨hopd, hgd⟩ := opds_of (T := T) (ρ := ρ) hf hmem h.size fun t ht hlt => by
    by_cases hex : ∃ j, Wr ops j t ∧ Anc ops i j
    · obtain ⟨j, hw, hj⟩ := hex
      exact h.tin t j hw (hready j hj)
    · have hno : ∀ j, Wr ops j t → ¬ Anc ops i j := fun j hw hj => hex ⟨j, hw, hj⟩
      rw [h.fresh t (h.look hf ho hni ht hno)]
      refine h.tout t hlt fun k ⟨p, hp, hd⟩ hk => ?_
      have hne : i ≠ k := by rintro rfl; exact hnS hk
      rcases hf.looks i k o p t hne ho hp hd ht with q | q
      · exact hno k ⟨p, hp, hd⟩ q
      · exact hnS (hS k hk _ q)
  -- behind it
  have key : ∀ (v v' : Value) (H' : AHeap) (ρ' : Ren) (w' : World), (∀ id l, ρ id = some l → ρ' id = some l) → VR ρ' v v' → Rel ρ' H' F w' → Ext H ρ ρ' → H.length ≤ H'.length →
      (∀ r ∈ recs, ¬ S r.i → (∃ p, ops[r.i]? = some p ∧ RecOk P ops T0 T H H0.length ρ r p) → r.i ∈ done → recheck P ops H' r) → adraw P ops K is recs (T.put o.dst v) H' → next (a.put o.dst v') w' := by
    intro v v' H' ρ' w' hle hv hrel hext hlen hre hd'
    have hdn : ∀ d, o.dst = some d → d < a.tmps.size := fun d hd => by rw [h.size]; exact (operOk_opd (hf.ok o hmem)).1 d hd
    have other : ∀ t j, Wr ops j t → j ≠ i → (T.put o.dst v) t = T t := fun t j ⟨p, hp, hd⟩ hne => put_other (hf.dst j i p o t hne hp ho hd)
    refine hnext _ H' ρ' _ w' hd' hr' ⟨fun k hk => ?_, fun k p hk hp hcp => ?_, ?_, ?_, fun t k hwr hk => ?_, fun t hlt ht => ?_, fun t ht => ?_, fun k hk j hj => ?_, fun k p hk hp hcp hSk => ?_, hrel, h.ext.trans hext h.len, by have := h.len; omega, h.ids, fun r id hm he => by have := h.idlt r id hm he; omega⟩
    · rcases hk with hk | rfl
      · exact List.mem_cons_of_mem _ (h.sub k hk)
      · simp
    · rcases List.mem_cons.1 hk with rfl | hk2
      · exact .inr rfl
      · exact .inl (h.effs k p hk2 hp hcp)
    · cases hd2 : o.dst with
      | none => exact h.size
      | some d => simp [Act.put, h.size]
    · cases hd2 : o.dst with
      | none => exact h.defers
      | some d => exact h.defers
    · rcases hk with hk | rfl
      · have hne : k ≠ i := by rintro rfl; exact hnS hk
        rw [other t k hwr hne]
        have h1 := (h.tin t k hwr hk).mono hle
        cases hd2 : o.dst with
        | none => exact h1
        | some d =>
          rw [getD_put (hdn d hd2), if_neg]
          · exact h1
          · rintro rfl
            obtain ⟨p, hp, hd3⟩ := hwr
            exact hf.dst k i p o t hne hp ho hd3 hd2
      · obtain ⟨p, hp, hd3⟩ := hwr
        rw [ho] at hp; cases hp
        rw [hd3, put_same, getD_put (hdn t hd3), if_pos rfl]; exact hv
    · have h1 := (h.tout t hlt fun k hwr hk => ht k hwr (.inl hk)).mono hle
      cases hd2 : o.dst with
      | none => exact h1
      | some d =>
        rw [getD_put (hdn d hd2), if_neg (by rintro rfl; exact ht i ⟨o, ho, hd2⟩ (.inr rfl))]; exact h1
    · have h1 := h.fresh t fun k hk => ht k (List.mem_cons_of_mem _ hk)
      rw [put_other]
      · exact h1
      · intro e; exact ht i (by simp) ⟨o, ho, e⟩
    · rcases List.mem_cons.1 hk with rfl | hk2
      · exact List.mem_cons_of_mem _ (hanc j hj)
      · exact List.mem_cons_of_mem _ (h.closed k hk2 j hj)
    · have hSk' : ¬ S k := fun q => hSk (.inl q)
      have hki : k ≠ i := fun q => hSk (.inr q)
      have hkd : k ∈ done := by
        rcases List.mem_cons.1 hk with rfl | hk2
        · exact absurd rfl hki
        · exact hk2
      obtain ⟨r, g1, g2, g3⟩ := h.recd k p hkd hp hcp hSk'
      subst g2
      have hre' := hre r g1 hSk' ⟨p, hp, g3⟩ hkd
      refine ⟨r, g1, rfl, fun t ht j hw hj => ?_, g3.tn, g3.guard, fun d hd2 => ?_, g3.skip, hre', g3.rd, fun q1 q2 => ?_⟩
      · rw [other t j hw (by rintro rfl; exact hni (h.closed _ hkd _ hj))]; exact g3.ta t ht j hw hj
      · rw [other d r.i ⟨p, hp, hd2⟩ hki]; exact g3.val d hd2
      · obtain ⟨id, ob, mk, e1, e2, e3, e4, e5⟩ := g3.al q1 q2
        have hlt : id < H.length := h.idlt r id g1 e1
        exact ⟨id, ob, mk, e1, e2, e3, by rw [hext id hlt]; exact e4, e5⟩
  simp only [adraw] at hd
  obtain ⟨o2, ho2, hd1⟩ := bindO_iff.1 hd
  rw [ho] at ho2; cases ho2
  obtain ⟨g, hg, hd2⟩ := bindO_iff.1 hd1
  unfold wpOp
  simp only [ho, hgd g hg]
  cases g with
  | true =>
    rw [acond_true, hc] at hd2
    simp only [if_true]
    left
    refine sim_aop h.rel hopd hd2 fun v v' H' ρ' w' ⟨hK1, hK2⟩ r1 r2 r3 r4 => key v v' H' ρ' w' (h.rel.ext r2) r4 r1 r2 r3 (fun r hm hnSr _ hrd => ?_) hK2
    obtain ⟨p, hp, hq⟩ := hrow r.i hrd
    rcases hq with hq | ⟨_, hq⟩
    · exact absurd (hready _ hq) hnSr
    · rcases hq with hq | hq
      · exact absurd hc hq
      · exact rechecks_mem hK1 r hm hq
  | false =>
    rw [acond_false, hc] at hd2
    simp only [Bool.false_eq_true, if_false]
    exact key undef undef H ρ w (fun _ _ h => h) (VR.undef _) h.rel (Ext.refl _ _) (Nat.le_refl _) (fun r hm _ ⟨p, _, hp⟩ _ => hp.again) hd2
def Lst (listed : Array Bool) (i : Nat) : Prop := listed[i]? = some true
theorem Inv.ready (hf : PlanFacts P ops n) {K : Tm → AHeap → Prop} (S : Nat → Prop) (hS : ∀ i, S i → ∀ j, Anc ops i j → S j) {i : Nat} (hni : ¬ S i) (hready : ∀ j, Anc ops i j → S j) {o : Oper} (ho : ops[i]? = some o) {a : Act} {w : World}
    (Q : Exit → Act → World → Prop) {next : Act → World → Prop}
    (hnext : ∀ done is recs T H ρ' a' w', adraw P ops K is recs T H → rowsOk P ops (ancs ops) is done = true → (∀ k, k < ops.size → k ∈ done ∨ k ∈ is.map (·.1)) → Inv P ops n ds T0 ρ0 H0 F done recs T H (fun k => S k ∨ k = i) ρ' a' w' → next a' w') :
    ∀ (is : List (Nat × List Nat)) (done : List Nat) (recs : List Rec) (T : Tm) (H : AHeap) (ρ : Ren), adraw P ops K is recs T H → rowsOk P ops (ancs ops) is done = true → (∀ k, k < ops.size → k ∈ done ∨ k ∈ is.map (·.1)) →
      Inv P ops n ds T0 ρ0 H0 F done recs T H S ρ a w → wpOp P ops Q i next a w := by
  intro is
  induction is with
  | nil =>
    intro done recs T H ρ hd hr hall hI
    have hlt : i < ops.size := by
      rcases Nat.lt_or_ge i ops.size with q | q
      · exact q
      · simp [Array.getElem?_eq_none q] at ho
    have hi : i ∈ done := by
      rcases hall i hlt with q | q
      · exact q
      · simp at q
    exact hI.perform hf hS hi hni hready Q ho fun ρ' a' w' hI' => hnext done [] recs T H ρ' a' w' hd hr hall hI'
  | cons row is ih =>
    intro done recs T H ρ hd hr hall hI
    obtain ⟨j, chk⟩ := row
    have hlt : i < ops.size := by
      rcases Nat.lt_or_ge i ops.size with q | q
      · exact q
      · simp [Array.getElem?_eq_none q] at ho
    by_cases hi : i ∈ done
    · exact hI.perform hf hS hi hni hready Q ho fun ρ' a' w' hI' => hnext done _ recs T H ρ' a' w' hd hr hall hI'
    · obtain ⟨hnj, hr', oj, hoj, hancj, hrow⟩ := rowsOk_cons hr hf.back
      have hall' : ∀ k, k < ops.size → k ∈ j :: done ∨ k ∈ is.map (·.1) := fun k hk => by
        rcases hall k hk with q | q
        · exact .inl (List.mem_cons_of_mem _ q)
        · simp only [List.map_cons, List.mem_cons] at q
          rcases q with rfl | q
          · exact .inl (by simp)
          · exact .inr q
      cases hcj : cls P oj with
      | eff =>
        by_cases hij : j = i
        · subst hij
          rw [ho] at hoj; cases hoj
          exact hI.turn hf hS hr ho hcj hready hd Q fun T' H' ρ' a' w' hd' hr2 hI' => hnext (j :: done) is recs T' H' ρ' a' w' hd' hr2 hall' hI'
        · -- i hangs on j
          exfalso
          have hmem : i ∈ is.map (·.1) := by
            rcases hall i hlt with q | q
            · exact absurd q hi
            · simp only [List.map_cons, List.mem_cons] at q
              rcases q with q | q
              · exact absurd q.symm hij
              · exact q
          have : ∀ (is : List (Nat × List Nat)) (seen : List Nat), rowsOk P ops (ancs ops) is seen = true → j ∈ seen → i ∈ is.map (·.1) → Anc ops i j := by
            intro is
            induction is with
            | nil => intro seen _ _ h; simp at h
            | cons row is ih2 =>
              intro seen hr2 hj hm
              obtain ⟨k, chk2⟩ := row
              obtain ⟨_, hr3, ok, hok, _, hrow2⟩ := rowsOk_cons hr2 hf.back
              simp only [List.map_cons, List.mem_cons] at hm
              rcases hm with rfl | hm
              · obtain ⟨p, hp, hq⟩ := hrow2 j hj
                rw [hoj] at hp; cases hp
                rcases hq with hq | ⟨hq, _⟩
                · exact hq
                · exact absurd hcj hq
              · exact ih2 _ hr3 (List.mem_cons_of_mem _ hj) hm
          have hanc := this is (j :: done) hr' (by simp) hmem
          exact hnj (hI.sub j (hready j hanc))
      | read =>
        obtain ⟨recs', T', H', hd', hr2, hI'⟩ := hI.advance hf hr hoj (by rw [hcj]; simp) hd
        exact ih _ _ _ _ _ hd' hr2 hall' hI'
      | alloc =>
        obtain ⟨recs', T', H', hd', hr2, hI'⟩ := hI.advance hf hr hoj (by rw [hcj]; simp) hd
        exact ih _ _ _ _ _ hd' hr2 hall' hI'
theorem Inv.finish (hf : PlanFacts P ops n) {K : Tm → AHeap → Prop} {done : List Nat} {recs : List Rec} {T : Tm} {H : AHeap} {S : Nat → Prop} {ρ : Ren} {a : Act} {w : World} (h : Inv P ops n ds T0 ρ0 H0 F done recs T H S ρ a w)
    (hall : ∀ k, k < ops.size → S k) {is : List (Nat × List Nat)} (hr : rowsOk P ops (ancs ops) is done = true) (hd : adraw P ops K is recs T H) : K T H ∧ TR ρ n ds T a := by
  cases is with
  | nil =>
    refine ⟨hd, h.size, h.defers, fun t ht => ?_⟩
    by_cases hex : ∃ i, Wr ops i t
    · obtain ⟨i, hw⟩ := hex
      refine h.tin t i hw (hall i ?_)
      obtain ⟨o, ho, _⟩ := hw
      rcases Nat.lt_or_ge i ops.size with q | q
      · exact q
      · simp [Array.getElem?_eq_none q] at ho
    · rw [h.fresh t fun i _ hw => hex ⟨i, hw⟩]
      exact h.tout t ht fun i hw _ => hex ⟨i, hw⟩
  | cons row is =>
    exfalso
    obtain ⟨j, chk⟩ := row
    obtain ⟨hnj, _, oj, hoj, _⟩ := rowsOk_cons hr hf.back
    refine hnj (h.sub j (hall j ?_))
    rcases Nat.lt_or_ge j ops.size with q | q
    · exact q
    · simp [Array.getElem?_eq_none q] at hoj
theorem mem_ready {listed : Array Bool} {i : Nat} (h : i ∈ Region.ready .any ops listed) : i < ops.size ∧ listed[i]? ≠ some true ∧ ∀ j, Direct ops i j → listed[j]? = some true := by
  unfold Region.ready at h
  rw [List.mem_filter, List.mem_range] at h
  obtain ⟨h1, h2⟩ := h
  simp only [Bool.and_eq_true, Bool.not_eq_true'] at h2
  obtain ⟨h3, h4⟩ := h2
  refine ⟨h1, fun q => ?_, fun j ⟨o, ho, e, he, hb, hj⟩ => ?_⟩
  · rw [Array.getD_eq_getD_getElem?, q] at h3; simp at h3
  · rw [ho] at h4
    simp only [Option.map_some, Option.getD_some] at h4
    have := Array.all_eq_true'.1 h4 e (Array.mem_toList_iff.1 he)
    simp only [hb, Bool.not_true, Bool.false_or] at this
    subst hj
    rw [Array.getD_eq_getD_getElem?] at this
    cases hq : listed[e.on]? with
    | none => rw [hq] at this; simp at this
    | some b => rw [hq] at this; simp at this; rw [this]
theorem ready_nil (hb : Back ops) {listed : Array Bool} (hsz : listed.size = ops.size) (h : Region.ready .any ops listed = []) : ∀ i, i < ops.size → listed[i]? = some true := by
  intro i
  induction i using Nat.strongRecOn with
  | _ i ih =>
    intro hi
    cases hl : listed[i]? with
    | none => have := Array.getElem?_eq_getElem (show i < listed.size by omega); rw [hl] at this; simp at this
    | some b =>
      cases b with
      | true => rfl
      | false =>
        exfalso
        have : i ∈ Region.ready .any ops listed := by
          unfold Region.ready
          rw [List.mem_filter, List.mem_range]
          refine ⟨hi, ?_⟩
          simp only [Bool.and_eq_true, Bool.not_eq_true']
          refine ⟨by rw [Array.getD_eq_getD_getElem?, hl]; rfl, ?_⟩
          rw [Array.getElem?_eq_getElem hi]
          simp only [Option.map_some, Option.getD_some]
          refine Array.all_eq_true'.2 fun e he => ?_
          cases hbe : Region.binds .any e with
          | false => simp
          | true =>
            have hlt := hb i _ (Array.getElem?_eq_getElem hi) e (Array.mem_toList_iff.2 he) hbe
            have := ih e.on hlt (by omega)
            rw [Array.getD_eq_getD_getElem?, this]; rfl
        rw [h] at this; simp at this
theorem count_set : ∀ {l : List Bool} {i : Nat}, l[i]? = some false → (l.set i true).countP (· == true) = l.countP (· == true) + 1
  | [], i, h => by simp at h
  | b :: l, 0, h => by simp at h; subst h; simp
  | b :: l, i + 1, h => by
    have := count_set (l := l) (i := i) (by simpa using h)
    simp only [List.set_cons_succ, List.countP_cons, this]
    omega
theorem Inv.any (hf : PlanFacts P ops n) {K : Tm → AHeap → Prop} {Q : Exit → Act → World → Prop}
    (hQ : ∀ (T : Tm) (H' : AHeap) (ρ' : Ren) (a : Act) (w' : World), K T H' → Rel ρ' H' F w' → Ext H0 ρ0 ρ' → H0.length ≤ H'.length → TR ρ' n ds T a → Q .normal a w') :
    ∀ (fuel : Nat) (listed : Array Bool) (is : List (Nat × List Nat)) (done : List Nat) (recs : List Rec) (T : Tm) (H : AHeap) (ρ : Ren) (a : Act) (w : World), listed.size = ops.size →
      (ops.size ≤ fuel + (listed.toList.countP (· == true))) →
      (∀ i, Lst listed i → ∀ j, Direct ops i j → Lst listed j) →
      adraw P ops K is recs T H → rowsOk P ops (ancs ops) is done = true → (∀ k, k < ops.size → k ∈ done ∨ k ∈ is.map (·.1)) →
      Inv P ops n ds T0 ρ0 H0 F done recs T H (Lst listed) ρ a w → wpAny P .any ops Q fuel listed a w := by
  intro fuel
  induction fuel with
  | zero =>
    intro listed is done recs T H ρ a w hsz hfuel hdir hd hr hall hI
    have full : ∀ k, k < ops.size → listed[k]? = some true := fun k hk => by
      have hcl : listed.toList.countP (· == true) ≤ listed.toList.length := List.countP_le_length
      have hlen : listed.toList.length = ops.size := by simpa using hsz
      have : listed.toList.countP (· == true) = listed.toList.length := by omega
      have := (List.countP_eq_length.1 this) listed[k] (by simp)
      rw [Array.getElem?_eq_getElem (by omega)]
      simpa using this
    refine ⟨?_, ?_⟩
    · cases hq : Region.ready .any ops listed with
      | nil => rfl
      | cons i l =>
        exfalso
        have := mem_ready (ops := ops) (listed := listed) (i := i) (by rw [hq]; simp)
        exact this.2.1 (full i this.1)
    · obtain ⟨h1, h2⟩ := hI.finish hf full hr hd
      exact hQ T H ρ a w h1 hI.rel hI.ext hI.len h2
  | succ fuel ih =>
    intro listed is done recs T H ρ a w hsz hfuel hdir hd hr hall hI
    have hS : ∀ i, Lst listed i → ∀ j, Anc ops i j → Lst listed j := fun i hi j hj => Anc.mem hf.back (Lst listed) hdir i (hdir i hi) j hj
    refine ⟨fun hq => ?_, fun i hi => ?_⟩
    · obtain ⟨h1, h2⟩ := hI.finish hf (ready_nil hf.back hsz hq) hr hd
      exact hQ T H ρ a w h1 hI.rel hI.ext hI.len h2
    · obtain ⟨h1, h2, h3⟩ := mem_ready hi
      have ho := Array.getElem?_eq_getElem h1
      refine Inv.ready (K := K) hf (Lst listed) hS (i := i) (fun q => h2 q) (fun j hj => Anc.mem hf.back (Lst listed) hdir i h3 j hj) ho Q (fun done' is' recs' T' H' ρ' a' w' hd' hr' hall' hI' => ?_) is done recs T H ρ hd hr hall hI
      have hset : ∀ k, Lst (listed.setIfInBounds i true) k ↔ (Lst listed k ∨ k = i) := fun k => by
        unfold Lst
        by_cases e : k = i
        · subst e; rw [Array.getElem?_setIfInBounds_self_of_lt (by omega)]; simp
        · rw [Array.getElem?_setIfInBounds_ne (Ne.symm e)]; simp [e]
      refine ih (listed.setIfInBounds i true) is' done' recs' T' H' ρ' a' w' (by simpa using hsz) ?_ (fun k hk j hj => ?_) hd' hr' hall' ?_
      · have : listed.toList.countP (· == true) + 1 ≤ (listed.setIfInBounds i true).toList.countP (· == true) := by
          rw [Array.toList_setIfInBounds]
          have hl : listed.toList[i]? = some false := by
            rw [Array.getElem?_toList]
            cases hq : listed[i]? with
            | none => have := Array.getElem?_eq_getElem (show i < listed.size by omega); rw [hq] at this; simp at this
            | some b => cases b with
              | true => exact absurd hq h2
              | false => rfl
          have := count_set hl
          omega
        omega
      · rcases (hset k).1 hk with hk | rfl
        · exact (hset j).2 (.inl (hdir k hk j hj))
        · exact (hset j).2 (.inl (h3 j hj))
      · have e : Lst (listed.setIfInBounds i true) = fun k => Lst listed k ∨ k = i := funext fun k => propext (hset k)
        rw [e]; exact hI'
end Go.AW
namespace Go.AW
open Go
variable {P : Program} {n : Nat} {F : Frm} {ds : List Deferred}
def QR (n : Nat) (ds : List Deferred) (F : Frm) (ρ : Ren) (H : AHeap) (Qa : Exit → Tm → AHeap → Prop) (Q : Exit → Act → World → Prop) : Prop :=
  ∀ (e : Exit) (T : Tm) (H' : AHeap) (ρ' : Ren) (a : Act) (w' : World), Qa e T H' → Rel ρ' H' F w' → Ext H ρ ρ' → H.length ≤ H'.length → TR ρ' n ds T a → Q e a w'
theorem QR.step {ρ ρ' : Ren} {H H' : AHeap} {Qa : Exit → Tm → AHeap → Prop} {Q : Exit → Act → World → Prop} (h : QR n ds F ρ H Qa Q) (hx : Ext H ρ ρ') (hl : H.length ≤ H'.length) : QR n ds F ρ' H' Qa Q :=
  fun e T H2 ρ2 a w hq hr hx2 hl2 ht => h e T H2 ρ2 a w hq hr (hx.trans hx2 hl) (by omega) ht
theorem pigeon : ∀ (n : Nat) (l : List Nat), l.Nodup → (∀ x ∈ l, x < n) → l.length ≤ n := by
  intro n
  induction n with
  | zero => intro l _ h; cases l with
    | nil => simp
    | cons x l => have := h x (by simp); omega
  | succ n ih =>
    intro l hn h
    by_cases hm : n ∈ l
    · have := ih (l.erase n) (hn.erase n) fun x hx => by
        have h1 := (hn.mem_erase_iff).1 hx
        have := h x h1.2
        have := h1.1
        omega
      rw [List.length_erase_of_mem hm] at this
      omega
    · have := ih l hn fun x hx => by
        have := h x hx
        have : x ≠ n := by rintro rfl; exact hm hx
        omega
      omega
theorem pigeon_all (n : Nat) (l : List Nat) (hn : l.Nodup) (h : ∀ x ∈ l, x < n) (hl : l.length = n) (k : Nat) (hk : k < n) : k ∈ l := by
  rcases Classical.em (k ∈ l) with q | q
  · exact q
  · have := pigeon n (k :: l) (List.nodup_cons.2 ⟨q, hn⟩) fun x hx => by
      rcases List.mem_cons.1 hx with rfl | hx
      · exact hk
      · exact h x hx
    simp at this; omega
theorem sim_any {ops : Array Oper} {plan : List (Nat × List Nat)} (hp : planOk P ops plan = true) (hops : ∀ o ∈ ops.toList, operOk n o = true)
    {ρ : Ren} {H : AHeap} {w : World} {T : Tm} {a : Act} {K : Tm → AHeap → Prop} {Q : Exit → Act → World → Prop} (hR : Rel ρ H F w) (hT : TR ρ n ds T a) (h : adraw P ops K plan [] T H)
    (hQ : ∀ (T : Tm) (H' : AHeap) (ρ' : Ren) (a : Act) (w' : World), K T H' → Rel ρ' H' F w' → Ext H ρ ρ' → H.length ≤ H'.length → TR ρ' n ds T a → Q .normal a w') : wpAny P .any ops Q ops.size (Array.replicate ops.size false) a { w with drawn := w.drawn + 1 } := by
  obtain ⟨hf, hlen, hrows⟩ := planOk_facts hp hops
  have nolst : ∀ i, ¬ Lst (Array.replicate ops.size false) i := fun i hi => by
    unfold Lst at hi
    rw [Array.getElem?_replicate] at hi
    split at hi <;> simp at hi
  -- each place stands in the plan
  have hall : ∀ k, k < ops.size → k ∈ ([] : List Nat) ∨ k ∈ plan.map (·.1) := by
    have nodup : ∀ (is : List (Nat × List Nat)) (seen : List Nat), rowsOk P ops (ancs ops) is seen = true → (∀ x ∈ is.map (·.1), x ∉ seen ∧ x < ops.size) ∧ (is.map (·.1)).Nodup := by
      intro is
      induction is with
      | nil => intro seen _; simp
      | cons row is ih =>
        intro seen hr
        obtain ⟨i, chk⟩ := row
        obtain ⟨h1, h2, o, ho, _⟩ := rowsOk_cons hr hf.back
        obtain ⟨h3, h4⟩ := ih _ h2
        refine ⟨fun x hx => ?_, ?_⟩
        · simp only [List.map_cons, List.mem_cons] at hx
          rcases hx with rfl | hx
          · refine ⟨h1, ?_⟩
            rcases Nat.lt_or_ge x ops.size with q | q
            · exact q
            · simp [Array.getElem?_eq_none q] at ho
          · exact ⟨fun q => (h3 x hx).1 (List.mem_cons_of_mem _ q), (h3 x hx).2⟩
        · simp only [List.map_cons, List.nodup_cons]
          exact ⟨fun q => (h3 i q).1 (by simp), h4⟩
    obtain ⟨h1, h2⟩ := nodup plan [] hrows
    intro k hk
    right
    exact pigeon_all ops.size _ h2 (fun x hx => (h1 x hx).2) (by simp [hlen]) k hk
  have hempty : ∀ i, Lst (Array.replicate ops.size false) i = False := fun i => propext ⟨nolst i, False.elim⟩
  refine Inv.any (K := K) (T0 := T) (ρ0 := ρ) (H0 := H) (F := F) hf hQ ops.size _ plan [] [] T H ρ a _ (by simp) (by omega) (fun i hi => absurd hi (nolst i)) h hrows hall ?_
  exact ⟨fun i hi => absurd hi (nolst i), fun i o hi => by simp at hi, hT.size, hT.defers, fun t i _ hi => absurd hi (nolst i), fun t ht _ => hT.vr t ht, fun t _ => rfl, fun i hi => by simp at hi,
    fun i o hi => by simp at hi, hR.drew 1, Ext.refl _ _, Nat.le_refl _, fun _ _ _ h => by simp at h, fun _ _ h => by simp at h⟩
theorem sim_draw (hm : P.follows .mixedOrders = true) {id : Nat} {ops : Array Oper} {plan : List (Nat × List Nat)} (hp : planOk P ops plan = true) (hops : ∀ o ∈ ops.toList, operOk n o = true)
    {ρ : Ren} {H : AHeap} {w : World} {T : Tm} {a : Act} {K : Tm → AHeap → Prop} {Q : Exit → Act → World → Prop} (hR : Rel ρ H F w) (hT : TR ρ n ds T a) (h : adraw P ops K plan [] T H)
    (hQ : ∀ (T : Tm) (H' : AHeap) (ρ' : Ren) (a : Act) (w' : World), K T H' → Rel ρ' H' F w' → Ext H ρ ρ' → H.length ≤ H'.length → TR ρ' n ds T a → Q .normal a w') : (Code.region id ops true).wp P Q a w :=
  wp_region_any hm (sim_any hp hops hR hT h hQ)
theorem sim_code (hm : P.follows .mixedOrders = true) : ∀ (c : Code), codeOk n c = true → ∀ {ρ : Ren} {H : AHeap} {w : World} {T : Tm} {a : Act} {Qa : Exit → Tm → AHeap → Prop} {Q : Exit → Act → World → Prop},
    awp P c Qa T H → Rel ρ H F w → TR ρ n ds T a → QR n ds F ρ H Qa Q → c.wp P Q a w := by
  intro c
  induction c with
  | skip => intro _ ρ H w T a Qa Q h hR hT hQ; exact wp_skip (hQ .normal T H ρ a w h hR (Ext.refl _ _) (Nat.le_refl _) hT)
  | label l => intro _ ρ H w T a Qa Q h hR hT hQ; exact wp_label (hQ .normal T H ρ a w h hR (Ext.refl _ _) (Nat.le_refl _) hT)
  | exit id => intro _ ρ H w T a Qa Q h hR hT hQ; exact wp_exit (hQ (.exit id) T H ρ a w h hR (Ext.refl _ _) (Nat.le_refl _) hT)
  | ret => intro _ ρ H w T a Qa Q h hR hT hQ; exact wp_ret (hQ .ret T H ρ a w h hR (Ext.refl _ _) (Nat.le_refl _) hT)
  | goto l => intro _ ρ H w T a Qa Q h; exact h.elim
  | scope c ih => intro _ ρ H w T a Qa Q h; exact h.elim
  | refuse s => intro _ ρ H w T a Qa Q h; exact h.elim
  | rangeFunc f ps x y => intro _ ρ H w T a Qa Q h; exact h.elim
  | region id ops draw =>
    intro hok ρ H w T a Qa Q h hR hT hQ
    have hops : ∀ o ∈ ops.toList, operOk n o = true := List.all_eq_true.1 (by simpa only [codeOk] using hok)
    cases draw with
    | false =>
      refine wp_region ?_
      have := sim_aops (P := P) (ρ := ρ) (H := H) (F := F) (Q := Q) (K := Qa .normal) hops (fun T' H' ρ' a' w' hk hr hx hl ht => hQ .normal T' H' ρ' a' w' hk hr hx hl ht) ops.toList 0 T H ρ a w (by simp) hR (Ext.refl _ _) (Nat.le_refl _) hT h
      simpa [List.range_eq_range'] using this
    | true =>
      obtain ⟨plan, hp, hd⟩ := h
      exact sim_draw hm hp hops hR hT hd fun T' H' ρ' a' w' hk hr hx hl ht => hQ .normal T' H' ρ' a' w' hk hr hx hl ht
  | seq x y ihx ihy =>
    intro hok ρ H w T a Qa Q h hR hT hQ
    simp only [codeOk, Bool.and_eq_true] at hok
    refine wp_seq (ihx hok.1 h hR hT fun e T' H' ρ' a' w' hq hr hx hl ht => ?_)
    cases e with
    | normal => exact ihy hok.2 hq hr ht (hQ.step hx hl)
    | exit id => exact hQ (.exit id) T' H' ρ' a' w' hq hr hx hl ht
    | goto l => exact hQ (.goto l) T' H' ρ' a' w' hq hr hx hl ht
    | ret => exact hQ .ret T' H' ρ' a' w' hq hr hx hl ht
    | panic ch => exact hQ (.panic ch) T' H' ρ' a' w' hq hr hx hl ht
    | outgrown => exact hQ .outgrown T' H' ρ' a' w' hq hr hx hl ht
  | cond c x y ihx ihy =>
    intro hok ρ H w T a Qa Q h hR hT hQ
    simp only [codeOk, Bool.and_eq_true] at hok
    obtain ⟨g, hg, h1⟩ := bindO_iff.1 h
    have hv := hT.eval hok.1.1
    have hb : a.eval c = .bool g := by
      unfold aboolv at hg
      split at hg
      · rename_i b hb; cases hg
        rw [hb] at hv; revert hv; generalize a.eval c = u; intro hv; cases hv; rfl
      · simp at hg
    cases g with
    | true => exact wp_cond_true hb (ihx hok.1.2 h1 hR hT hQ)
    | false => exact wp_cond_false hb (ihy hok.2 h1 hR hT hQ)
  | block id c ih =>
    intro hok ρ H w T a Qa Q h hR hT hQ
    refine wp_block (ih (by simpa only [codeOk] using hok) h hR hT fun e T' H' ρ' a' w' hq hr hx hl ht => ?_)
    cases e with
    | exit id' =>
      simp only [Exit.inBlock, Exit.inBlockA] at hq ⊢
      split
      · rename_i q; rw [if_pos q] at hq; exact hQ .normal T' H' ρ' a' w' hq hr hx hl ht
      · rename_i q; rw [if_neg q] at hq; exact hQ (.exit id') T' H' ρ' a' w' hq hr hx hl ht
    | normal => exact hQ .normal T' H' ρ' a' w' hq hr hx hl ht
    | goto l => exact hQ (.goto l) T' H' ρ' a' w' hq hr hx hl ht
    | ret => exact hQ .ret T' H' ρ' a' w' hq hr hx hl ht
    | panic ch => exact hQ (.panic ch) T' H' ρ' a' w' hq hr hx hl ht
    | outgrown => exact hQ .outgrown T' H' ρ' a' w' hq hr hx hl ht
  | loop c ih =>
    intro hok ρ H w T a Qa Q h hR hT hQ
    obtain ⟨m, hm'⟩ := h
    refine wp_loop_rounds m ?_
    have key : ∀ (m : Nat) (ρ1 : Ren) (H1 : AHeap) (w1 : World) (T1 : Tm) (a1 : Act), arounds (awp P c) Qa m T1 H1 → Rel ρ1 H1 F w1 → Ext H ρ ρ1 → H.length ≤ H1.length → TR ρ1 n ds T1 a1 → Code.rounds P c Q m a1 w1 := by
      intro m
      induction m with
      | zero => intro ρ1 H1 w1 T1 a1 h1; exact h1.elim
      | succ m ihm =>
        intro ρ1 H1 w1 T1 a1 h1 hR1 hx1 hl1 hT1
        rw [rounds_succ]
        refine ih (by simpa only [codeOk] using hok) h1 hR1 hT1 fun e T' H' ρ' a' w' hq hr hx hl ht => ?_
        cases e with
        | normal => exact ihm ρ' H' w' T' a' hq hr (hx1.trans hx hl1) (by omega) ht
        | exit id => exact hQ (.exit id) T' H' ρ' a' w' hq hr (hx1.trans hx hl1) (by omega) ht
        | goto l => exact hQ (.goto l) T' H' ρ' a' w' hq hr (hx1.trans hx hl1) (by omega) ht
        | ret => exact hQ .ret T' H' ρ' a' w' hq hr (hx1.trans hx hl1) (by omega) ht
        | panic ch => exact hQ (.panic ch) T' H' ρ' a' w' hq hr (hx1.trans hx hl1) (by omega) ht
        | outgrown => exact hQ .outgrown T' H' ρ' a' w' hq hr (hx1.trans hx hl1) (by omega) ht
    exact key m ρ H w T a hm' hR (Ext.refl _ _) (Nat.le_refl _) hT
def resOk (n : Nat) : ResultVar → Bool
  | .tmp t => decide (t < n)
  | .cell a _ => decide (a < n)
theorem loadT_var {ρ : Ren} {H : AHeap} {w : World} (hR : Rel ρ H F w) {t : TypeId} {x x' v : Value} (hx : VR ρ x x') (h : aloadT P H t x = some v) :
    ∃ v', (do loadVar t (← asAddr x') : Sem Value).run P w = .ok v' w ∧ VR ρ v v' := by
  obtain ⟨v', h1, h2⟩ := hR.loadT hx h
  refine ⟨v', ?_, h2⟩
  have : ∃ a', x' = .pointer (some a') := by
    unfold aloadT at h
    split at h
    · cases hx <;> exact ⟨_, rfl⟩
    · simp at h
  obtain ⟨a', rfl⟩ := this
  simpa [Instr.loadAt, Instr.sureAddr, asAddr] using h1
theorem sim_results {fn : Func} (hok : fn.results.toList.all (resOk n) = true) {ρ : Ren} {H : AHeap} {w : World} {T : Tm} {a : Act} {vs : List Value} (hR : Rel ρ H F w) (hT : TR ρ n ds T a)
    (h : aresults fn.results.toList P T H = some vs) : ∃ v', (results fn a.tmps).run P w = .ok v' w ∧ VR ρ (ares vs) v' := by
  have key : ∀ (l : List ResultVar) (vs : List Value), l.all (resOk n) = true → aresults l P T H = some vs →
      ∃ vs', (l.mapM fun
        | .tmp t => pure (a.tmps.getD t undef)
        | .cell x t => do loadVar t (← asAddr (a.tmps.getD x undef)) : Sem (List Value)).run P w = .ok vs' w ∧ VRs ρ vs vs' := by
    intro l
    induction l with
    | nil => intro vs _ h; simp [aresults] at h; subst h; exact ⟨[], rfl, VRs.nil⟩
    | cons r l ih =>
      intro vs hok h
      simp only [List.all_cons, Bool.and_eq_true] at hok
      cases r with
      | tmp t =>
        simp only [aresults] at h
        obtain ⟨vs0, h1, rfl⟩ := Option.map_eq_some_iff.1 h
        obtain ⟨vs', g1, g2⟩ := ih vs0 hok.2 h1
        refine ⟨a.tmps.getD t undef :: vs', ?_, VRs.cons (hT.vr t (by simpa [resOk] using hok.1)) g2⟩
        rw [List.mapM_cons, Sem.run_bind, Sem.run_pure, Result.andThen_ok, Sem.run_bind, g1]; rfl
      | cell x t =>
        simp only [aresults] at h
        obtain ⟨v, hv, h1⟩ := Option.bind_eq_some_iff.1 h
        obtain ⟨vs0, h2, rfl⟩ := Option.map_eq_some_iff.1 h1
        obtain ⟨vs', g1, g2⟩ := ih vs0 hok.2 h2
        obtain ⟨v', g3, g4⟩ := loadT_var hR (hT.vr x (by simpa [resOk] using hok.1)) hv
        refine ⟨v' :: vs', ?_, VRs.cons g4 g2⟩
        rw [List.mapM_cons, Sem.run_bind]
        simp only [g3, Result.andThen_ok]
        rw [Sem.run_bind, g1]; rfl
  obtain ⟨vs', g1, g2⟩ := key _ vs hok h
  have hm : (fn.results.mapM fun
        | .tmp t => pure (a.tmps.getD t undef)
        | .cell x t => do loadVar t (← asAddr (a.tmps.getD x undef)) : Sem (Array Value)).run P w = .ok vs'.toArray w := by
    rw [Array.mapM_eq_mapM_toList, Sem.run_map, g1]; rfl
  have hsz : vs.length = vs'.length := g2.1
  refine ⟨if h : vs'.toArray.size = 1 then vs'.toArray[0] else .tuple vs'.toArray, ?_, ?_⟩
  · unfold results
    rw [Sem.run_bind]
    exact congrArg (fun r : Result (Array Value) => r.andThen fun a w' => (pure (if h : a.size = 1 then a[0] else .tuple a) : Sem Value).run P w') hm
  · cases vs with
    | nil =>
      cases vs' with
      | nil => exact VR.undef _
      | cons => simp at hsz
    | cons v vs =>
      obtain ⟨v', m, rfl, hv, hm'⟩ := g2.inv
      cases vs with
      | nil =>
        have : m = [] := by have := hm'.1; exact List.length_eq_zero_iff.1 (by simpa using this.symm)
        subst this
        simpa [ares] using hv
      | cons u vs =>
        obtain ⟨u', m', rfl, _, _⟩ := hm'.inv
        have := VR.tuple' g2
        simpa [ares] using this
def funcOk (fn : Func) : Bool :=
  fn.results.toList.all (resOk fn.ntmps) && (match fn.body with | some c => codeOk fn.ntmps c | none => false) && fn.name != "runtime.NumGoroutine"
theorem Sound.of_body (hm : P.follows .mixedOrders = true) {f : FuncId} {fn : Func} {c : Code} (hf : P.funcs[f]? = some fn) (hb : fn.body = some c) (hok : funcOk fn = true) {rs : List ResultVar} (hrs : fn.results.toList = rs) {args : List Value} {H : AHeap} {K : Value → AHeap → Prop}
    (hn : Nat.ble args.length fn.ntmps = true) (h : awp P c (abody P rs K) (fun t => args.getD t undef) H) : Sound P f args H K := by
  subst hrs
  have hn := Nat.le_of_ble_eq_true hn
  simp only [funcOk, hb, Bool.and_eq_true] at hok
  obtain ⟨⟨h1, h2⟩, h3⟩ := hok
  refine ⟨fun asx9 w => ?_, fun ρ F w args' hR hv => ?_⟩
  · have h3' : ¬ fn.name = "runtime.NumGoroutine" := by simpa using h3
    simp [callFunc, hf, h3', hb]
  · refine calls_of_wp hf hb (sim_code (n := fn.ntmps) (F := F) hm c h2 h hR ⟨?_, rfl, fun t ht => ?_⟩ fun e T H' ρ' a w' hq hr hx hl ht => ?_)
    · have := hv.1; simp; omega
    · have hl := hv.1
      simp only [Array.getD_eq_getD_getElem?, List.getD_eq_getElem?_getD]
      by_cases hta : t < args.length
      · rw [Array.getElem?_append_left (by simp; omega)]
        have e1 := List.getElem?_eq_getElem hta
        have e2 := List.getElem?_eq_getElem (show t < args'.length by omega)
        rw [e1, List.getElem?_toArray, e2]
        exact hv.2 t _ _ e1 e2
      · rw [List.getElem?_eq_none (by omega), Array.getElem?_append_right (by simp; omega), Array.getElem?_replicate, if_pos (by simp; omega)]
        exact VR.undef _
    · cases e with
      | normal =>
        obtain ⟨vs, hvs, hk⟩ := bindO_iff.1 hq
        obtain ⟨v', g1, g2⟩ := sim_results h1 hr ht hvs
        exact ⟨ht.defers, v', g1, ares vs, v', H', ρ', rfl, hk, hr, hx, hl, g2⟩
      | ret =>
        obtain ⟨vs, hvs, hk⟩ := bindO_iff.1 hq
        obtain ⟨v', g1, g2⟩ := sim_results h1 hr ht hvs
        exact ⟨ht.defers, v', g1, ares vs, v', H', ρ', rfl, hk, hr, hx, hl, g2⟩
      | exit id => exact hq.elim
      | goto l => exact hq.elim
      | panic ch => exact hq.elim
      | outgrown => exact hq.elim
end Go.AW
end
section
set_option linter.unusedVariables false
set_option linter.unusedSimpArgs false
namespace Go.AW
open Go
def Tok {α : Sort _} (_ : α) : Type := Unit
def tk {α : Sort _} (a : α) : Tok a := ()
def abind (v : Value) (K : Value → Prop) (_ : Tok K) : Prop := K v
def bindP {α : Type} (o : Option α) (K : α → Prop) (_ : Tok K) : Prop := bindO o K
def acondP (b : Bool) (A B : Prop) (_ : Tok A) (_ : Tok B) : Prop := acond b A B
def SoundP (P : Program) (f : FuncId) (args : List Value) (H : AHeap) (K : Value → AHeap → Prop) (_ : Tok K) : Prop := SoundX P f args H K
def aloopP (P : Program) (c : Code) (Q : Exit → Tm → AHeap → Prop) (T : Tm) (H : AHeap) (_ : Tok c) (_ : Tok Q) (_ : Tok T) (_ : Tok H) : Prop := aloop (awp P c) Q T H
def adrawnP (P : Program) (ops : Array Oper) (K : Tm → AHeap → Prop) (T : Tm) (H : AHeap) (_ : Tok ops) (_ : Tok K) (_ : Tok T) (_ : Tok H) : Prop := adrawn P ops K T H
def anextP (H : AHeap) (it : Value) (K : Value → AHeap → Prop) (_ : Tok K) (_ : Tok H) : Prop := anext H it K
theorem abind_eq (v : Value) (K : Value → Prop) (t : Tok K) : abind v K t = K v := (rfl)
theorem bindP_some {α : Type} (a : α) (K : α → Prop) (t : Tok K) : bindP (some a) K t = K a := (rfl)
theorem acondP_true (A B : Prop) (t : Tok A) (u : Tok B) : acondP true A B t u = A := (rfl)
theorem acondP_false (A B : Prop) (t : Tok A) (u : Tok B) : acondP false A B t u = B := (rfl)
theorem acondP_of {b : Bool} {A B : Prop} {t : Tok A} {u : Tok B} (h1 : b = true → A) (h2 : b = false → B) : acondP b A B t u := by
  cases b
  · exact h2 rfl
  · exact h1 rfl
theorem bindP_of {α : Type} {o : Option α} {K : α → Prop} {t : Tok K} {a : α} (h : o = some a) (hk : K a) : bindP o K t := by subst h; exact hk
theorem SoundP_of {P : Program} {f : FuncId} {args : List Value} {H : AHeap} {K K' : Value → AHeap → Prop} {t : Tok K'} (h : Sound P f args H K) (hk : ∀ v H', K v H' → K' v H') : SoundP P f args H K' t := (h.mono hk).x
theorem SoundP_ofX {P : Program} {f : FuncId} {args : List Value} {H : AHeap} {K K' : Value → AHeap → Prop} {t : Tok K'} (h : SoundX P f args H K) (hk : ∀ v H', K v H' → K' v H') : SoundP P f args H K' t := h.mono hk
theorem put_get (T : Tm) (d : Nat) (v : Value) (t : Nat) : T.put (some d) v t = if t = d then v else T t := (rfl)
theorem put_nil (T : Tm) (v : Value) : T.put none v = T := (rfl)
section
variable (P : Program) (Q : Exit → Tm → AHeap → Prop) (T : Tm) (H : AHeap) (K : Value → AHeap → Prop) (ops : Array Oper) (KK : Tm → AHeap → Prop)
theorem awp_skip : awp P .skip Q T H = Q .normal T H := (rfl)
theorem awp_seq (a b : Code) : awp P (.seq a b) Q T H = awp P a (Exit.thenA (awp P b Q) Q) T H := (rfl)
theorem awp_region (id : Nat) (l : List Oper) : awp P (.region id l.toArray false) Q T H = aops P l.toArray (Q .normal) l T H := (rfl)
theorem awp_regionD (id : Nat) (ops : Array Oper) : awp P (.region id ops true) Q T H = adrawnP P ops (Q .normal) T H (tk _) (tk _) (tk _) (tk _) := (rfl)
theorem awp_cond (c : Operand) (a b : Code) : awp P (.cond c a b) Q T H = abind (aev T c) (fun v => bindP (aboolv v) (fun g => acondP g (awp P a Q T H) (awp P b Q T H) (tk _) (tk _)) (tk _)) (tk _) := (rfl)
theorem awp_block (id : Nat) (c : Code) : awp P (.block id c) Q T H = awp P c (Exit.inBlockA id Q) T H := (rfl)
theorem awp_loop (c : Code) : awp P (.loop c) Q T H = aloopP P c Q T H (tk _) (tk _) (tk _) (tk _) := (rfl)
theorem awp_exit (id : Nat) : awp P (.exit id) Q T H = Q (.exit id) T H := (rfl)
theorem awp_ret : awp P .ret Q T H = Q .ret T H := (rfl)
theorem awp_label (l : Nat) : awp P (.label l) Q T H = Q .normal T H := (rfl)
theorem thenA_normal (n : Tm → AHeap → Prop) : Exit.thenA n Q .normal T H = n T H := (rfl)
theorem thenA_ret (n : Tm → AHeap → Prop) : Exit.thenA n Q .ret T H = Q .ret T H := (rfl)
theorem thenA_exit (n : Tm → AHeap → Prop) (id : Nat) : Exit.thenA n Q (.exit id) T H = Q (.exit id) T H := (rfl)
theorem inBlockA_normal (id : Nat) : Exit.inBlockA id Q .normal T H = Q .normal T H := (rfl)
theorem inBlockA_ret (id : Nat) : Exit.inBlockA id Q .ret T H = Q .ret T H := (rfl)
theorem inBlockA_exit (id id' : Nat) : Exit.inBlockA id Q (.exit id') T H = if id' = id then Q .normal T H else Q (.exit id') T H := (rfl)
theorem aops_nil : aops P ops KK [] T H = KK T H := (rfl)
theorem aops_cons (d : Option Tmp) (op : Op) (ty : TypeId) (pos : String) (aft : Array Edge) (os : List Oper) :
    aops P ops KK (⟨d, op, ty, pos, aft, none⟩ :: os) T H = aop P T ⟨d, op, ty, pos, aft, none⟩ H fun v H' => aops P ops KK os (T.put d v) H' := (rfl)
theorem aops_guard (d : Option Tmp) (op : Op) (ty : TypeId) (pos : String) (aft : Array Edge) (g : Nat × Bool) (os : List Oper) :
    aops P ops KK (⟨d, op, ty, pos, aft, some g⟩ :: os) T H = bindP (aguard ops T ⟨d, op, ty, pos, aft, some g⟩) (fun b =>
      acondP b (aop P T ⟨d, op, ty, pos, aft, some g⟩ H fun v H' => aops P ops KK os (T.put d v) H') (aops P ops KK os (T.put d undef) H) (tk _) (tk _)) (tk _) := (rfl)
theorem aev_tmp (t : Nat) : aev T (.tmp t) = T t := (rfl)
theorem aev_const (v : Value) : aev T (.const v) = v := (rfl)
theorem aev_func (f : FuncId) : aev T (.func f) = .func (.func f) #[] #[] := (rfl)
variable (d : Option Tmp) (ty : TypeId) (pos : String) (aft : Array Edge) (gd : Option (Nat × Bool))
theorem aop_move (x : Operand) : aop P T ⟨d, .move x, ty, pos, aft, gd⟩ H K = abind (aev T x) (fun v => K v H) (tk _) := (rfl)
theorem aop_assign (x : Operand) : aop P T ⟨d, .assign x, ty, pos, aft, gd⟩ H K = abind (aev T x) (fun v => K v H) (tk _) := (rfl)
theorem aop_pick (c x y : Operand) : aop P T ⟨d, .pick c x y, ty, pos, aft, gd⟩ H K = abind (aev T c) (fun c => abind (aev T x) (fun x => abind (aev T y) (fun y => bindP (match c with | .bool c => some (if c then x else y) | _ => none) (fun v => K v H) (tk _)) (tk _)) (tk _)) (tk _) := (rfl)
theorem aop_nilCheck (x : Operand) : aop P T ⟨d, .nilCheck x, ty, pos, aft, gd⟩ H K = abind (aev T x) (fun x => bindP (nilChkM P x) (fun v => K v H) (tk _)) (tk _) := (rfl)
theorem aop_binOp (op : BinOp) (t : TypeId) (x y : Operand) (yt : TypeId) : aop P T ⟨d, .binOp op t x y yt, ty, pos, aft, gd⟩ H K = abind (aev T x) (fun u => abind (aev T y) (fun v => bindP (abin P H op t x y u v) (fun v => K v H) (tk _)) (tk _)) (tk _) := (rfl)
theorem aop_unOp (op : UnOp) (t : TypeId) (x : Operand) : aop P T ⟨d, .unOp op t x, ty, pos, aft, gd⟩ H K = abind (aev T x) (fun x => bindP (aun op x) (fun v => K v H) (tk _)) (tk _) := (rfl)
theorem aop_makeInterface (t : TypeId) (x : Operand) : aop P T ⟨d, .makeInterface t x, ty, pos, aft, gd⟩ H K = abind (aev T x) (fun x => bindP (match P.underlying t with | some (.interface _) | none => none | some _ => some (.iface t x)) (fun v => K v H) (tk _)) (tk _) := (rfl)
theorem aop_makeFunc0 (fn : Fn) (fs cs : Array Operand) : aop P T ⟨d, .makeFunc fn fs cs, ty, pos, aft, gd⟩ H K = abind (.func fn (fs.map (aev T)) (cs.map (aev T))) (fun v => K v H) (tk _) := (rfl)
theorem aop_makeFunc (fn : Fn) (fs cs : List Operand) : aop P T ⟨d, .makeFunc fn fs.toArray cs.toArray, ty, pos, aft, gd⟩ H K = abind (.func fn (fs.map (aev T)).toArray (cs.map (aev T)).toArray) (fun v => K v H) (tk _) := by
  rw [aop_makeFunc0]; simp only [List.map_toArray]
theorem aop_field (t : TypeId) (x : Operand) (i : Nat) : aop P T ⟨d, .field t x i, ty, pos, aft, gd⟩ H K = abind (aev T x) (fun x => bindP (afield P t x i) (fun v => K v H) (tk _)) (tk _) := (rfl)
theorem aop_index (t : TypeId) (x i : Operand) : aop P T ⟨d, .index t x i, ty, pos, aft, gd⟩ H K = abind (aev T x) (fun x => abind (aev T i) (fun i => bindP (aindex P t x i) (fun v => K v H) (tk _)) (tk _)) (tk _) := (rfl)
theorem aop_fieldAddr (t : TypeId) (x : Operand) (i : Nat) : aop P T ⟨d, .fieldAddr t x i, ty, pos, aft, gd⟩ H K = abind (aev T x) (fun x => bindP (afieldAddr P t x i) (fun v => K v H) (tk _)) (tk _) := (rfl)
theorem aop_indexAddr (t : TypeId) (x i : Operand) : aop P T ⟨d, .indexAddr t x i, ty, pos, aft, gd⟩ H K = abind (aev T x) (fun x => abind (aev T i) (fun i => bindP (aindexAddr P t x i) (fun v => K v H) (tk _)) (tk _)) (tk _) := (rfl)
theorem aop_slice (t : TypeId) (x : Operand) (lo hi mx : Option Operand) : aop P T ⟨d, .slice t x lo hi mx, ty, pos, aft, gd⟩ H K = abind (aev T x) (fun x => bindP (aslice P H t x (lo.map (aev T)) (hi.map (aev T)) (mx.map (aev T))) (fun v => K v H) (tk _)) (tk _) := (rfl)
theorem aop_build (t : TypeId) (ps : Array (Nat × Operand)) : aop P T ⟨d, .build t ps, ty, pos, aft, gd⟩ H K = bindP (abuild P t (ps.toList.map fun p => (p.1, aev T p.2))) (fun v => K v H) (tk _) := (rfl)
theorem aop_extract (t : Operand) (i : Nat) : aop P T ⟨d, .extract t i, ty, pos, aft, gd⟩ H K = abind (aev T t) (fun t => bindP (aextract t i) (fun v => K v H) (tk _)) (tk _) := (rfl)
theorem aop_load (t : TypeId) (x : Operand) : aop P T ⟨d, .load t x, ty, pos, aft, gd⟩ H K = abind (aev T x) (fun x => bindP (aloadT P H t x) (fun v => K v H) (tk _)) (tk _) := (rfl)
theorem aop_lookup (t : TypeId) (m k : Operand) (ok : Bool) : aop P T ⟨d, .lookup t m k ok, ty, pos, aft, gd⟩ H K = abind (aev T m) (fun m => abind (aev T k) (fun k => bindP (alookup P H t m k ok) (fun v => K v H) (tk _)) (tk _)) (tk _) := (rfl)
theorem aop_entry (it : Operand) : aop P T ⟨d, .entry it, ty, pos, aft, gd⟩ H K = abind (aev T it) (fun it => bindP (aentry H it) (fun v => K v H) (tk _)) (tk _) := (rfl)
theorem aop_len (x : Operand) (t : TypeId) : aop P T ⟨d, .call { callee := .builtin .len, args := #[x], argTypes := #[t] }, ty, pos, aft, gd⟩ H K = abind (aev T x) (fun x => bindP (alen P H t x) (fun v => K v H) (tk _)) (tk _) := (rfl)
theorem aop_max (x y : Operand) (ts : Array TypeId) : aop P T ⟨d, .call { callee := .builtin .max, args := #[x, y], argTypes := ts }, ty, pos, aft, gd⟩ H K = abind (aev T x) (fun x => abind (aev T y) (fun y => bindP (afold amax2 [x, y]) (fun v => K v H) (tk _)) (tk _)) (tk _) := (rfl)
theorem aop_min (x y : Operand) (ts : Array TypeId) : aop P T ⟨d, .call { callee := .builtin .min, args := #[x, y], argTypes := ts }, ty, pos, aft, gd⟩ H K = abind (aev T x) (fun x => abind (aev T y) (fun y => bindP (afold amin2 [x, y]) (fun v => K v H) (tk _)) (tk _)) (tk _) := (rfl)
theorem aop_cap (x : Operand) (t : TypeId) : aop P T ⟨d, .call { callee := .builtin .cap, args := #[x], argTypes := #[t] }, ty, pos, aft, gd⟩ H K = abind (aev T x) (fun x => bindP (acap P t x) (fun v => K v H) (tk _)) (tk _) := (rfl)
theorem aop_alloc (e : TypeId) : aop P T ⟨d, .alloc e, ty, pos, aft, gd⟩ H K = bindP (zeroT P e) (fun z => acondP (plainV 100 z) (K (.pointer (some ⟨H.length, 0, none⟩)) (H ++ [.row z.cells.toList z.cells.size true])) False (tk _) (tk _)) (tk _) := by
  show bindO _ _ = _
  simp only [aalloc, bindP]
  cases zeroT P e with
  | none => rfl
  | some z => simp only [Option.bind_some, bindO_some]; cases plainV 100 z <;> rfl
theorem aop_box (e : TypeId) (x : Operand) : aop P T ⟨d, .box e x, ty, pos, aft, gd⟩ H K = abind (aev T x) (fun v => K (.pointer (some ⟨H.length, 0, none⟩)) (H ++ [.row v.cells.toList v.cells.size true])) (tk _) := (rfl)
theorem aop_buildSlice (t : TypeId) (n : Nat) (ps : Array (Nat × Operand)) : aop P T ⟨d, .buildSlice t n ps, ty, pos, aft, gd⟩ H K = bindP (aalloc P T ⟨d, .buildSlice t n ps, ty, pos, aft, gd⟩) (fun p => K (p.2 H.length) (H ++ [p.1])) (tk _) := (rfl)
theorem aop_makeMap (t : TypeId) : aop P T ⟨d, .makeMap t none, ty, pos, aft, gd⟩ H K = K (.map (some H.length)) (H ++ [.map #[] 0]) := (rfl)
theorem aop_makeSlice (t : TypeId) (l c : Operand) : aop P T ⟨d, .makeSlice t l c, ty, pos, aft, gd⟩ H K = bindP (aalloc P T ⟨d, .makeSlice t l c, ty, pos, aft, gd⟩) (fun p => K (p.2 H.length) (H ++ [p.1])) (tk _) := (rfl)
theorem aop_store (t : TypeId) (x y : Operand) : aop P T ⟨d, .store t x y, ty, pos, aft, gd⟩ H K = abind (aev T x) (fun x => abind (aev T y) (fun y => bindP (astoreT P H t x y) (fun H' => K undef H') (tk _)) (tk _)) (tk _) := by
  show bindO (Option.map _ _) _ = _
  simp only [abind]
  cases astoreT P H t (aev T x) (aev T y) <;> rfl
theorem aop_mapUpdate (t : TypeId) (m k x : Operand) : aop P T ⟨d, .mapUpdate t m k x, ty, pos, aft, gd⟩ H K = abind (aev T m) (fun m => abind (aev T k) (fun k => abind (aev T x) (fun x => bindP (amapPut P H t m k x) (fun H' => K undef H') (tk _)) (tk _)) (tk _)) (tk _) := by
  show bindO (Option.map _ _) _ = _
  simp only [abind]
  cases amapPut P H t (aev T m) (aev T k) (aev T x) <;> rfl
theorem aop_insert (t : TypeId) (m k x : Operand) : aop P T ⟨d, .insert t m k x, ty, pos, aft, gd⟩ H K = abind (aev T m) (fun m => abind (aev T k) (fun k => abind (aev T x) (fun x => bindP (amapPut P H t m k x) (fun H' => K undef H') (tk _)) (tk _)) (tk _)) (tk _) := by
  show bindO (Option.map _ _) _ = _
  simp only [abind]
  cases amapPut P H t (aev T m) (aev T k) (aev T x) <;> rfl
theorem aop_mapEntry (t : TypeId) (m k : Operand) : aop P T ⟨d, .mapEntry t m k, ty, pos, aft, gd⟩ H K = abind (aev T m) (fun m => abind (aev T k) (fun k => bindP (amapEntry P H t m k) (fun p => K p.1 p.2) (tk _)) (tk _)) (tk _) := (rfl)
theorem aop_entryStore (t : TypeId) (m s x : Operand) : aop P T ⟨d, .entryStore t m s x, ty, pos, aft, gd⟩ H K = abind (aev T m) (fun m => abind (aev T s) (fun s => abind (aev T x) (fun x => bindP (aentryStore H m s x) (fun H' => K undef H') (tk _)) (tk _)) (tk _)) (tk _) := by
  show bindO (Option.map _ _) _ = _
  simp only [abind]
  cases aentryStore H (aev T m) (aev T s) (aev T x) <;> rfl
theorem aop_range (t : TypeId) (x : Operand) : aop P T ⟨d, .range t x, ty, pos, aft, gd⟩ H K = abind (aev T x) (fun x => bindP (arange P H t x) (fun p => K p.1 p.2) (tk _)) (tk _) := (rfl)
theorem aop_nextM (it : Operand) : aop P T ⟨d, .next it false, ty, pos, aft, gd⟩ H K = abind (aev T it) (fun it => anextP H it K (tk _) (tk _)) (tk _) := (rfl)
theorem aop_nextS (it : Operand) : aop P T ⟨d, .next it true, ty, pos, aft, gd⟩ H K = abind (aev T it) (fun it => bindP (anextS H it) (fun p => K p.1 p.2) (tk _)) (tk _) := (rfl)
theorem aop_append (s x : Operand) (st xt : TypeId) : aop P T ⟨d, .call { callee := .builtin .append, args := #[s, x], argTypes := #[st, xt] }, ty, pos, aft, gd⟩ H K = abind (aev T s) (fun s => abind (aev T x) (fun x => bindP (aappend P H st xt s x) (fun p => K p.1 p.2) (tk _)) (tk _)) (tk _) := (rfl)
theorem aop_copy (s x : Operand) (st xt : TypeId) : aop P T ⟨d, .call { callee := .builtin .copy, args := #[s, x], argTypes := #[st, xt] }, ty, pos, aft, gd⟩ H K = abind (aev T s) (fun s => abind (aev T x) (fun x => bindP (acopy2 P H st xt s x) (fun p => K p.1 p.2) (tk _)) (tk _)) (tk _) := (rfl)
theorem aop_delete (m k : Operand) (mt kt : TypeId) : aop P T ⟨d, .call { callee := .builtin .delete, args := #[m, k], argTypes := #[mt, kt] }, ty, pos, aft, gd⟩ H K = abind (aev T m) (fun m => abind (aev T k) (fun k => bindP (adelete P H mt m k) (fun H' => K (.tuple #[]) H') (tk _)) (tk _)) (tk _) := by
  show bindO (Option.map _ _) _ = _
  simp only [abind]
  cases adelete P H mt (aev T m) (aev T k) <;> rfl
theorem aop_clear (x : Operand) (t : TypeId) : aop P T ⟨d, .call { callee := .builtin .clear, args := #[x], argTypes := #[t] }, ty, pos, aft, gd⟩ H K = abind (aev T x) (fun x => bindP (aclear P H t x) (fun H' => K (.tuple #[]) H') (tk _)) (tk _) := by
  show bindO (Option.map _ _) _ = _
  simp only [abind]
  cases aclear P H t (aev T x) <;> rfl
theorem aop_call (f : FuncId) (asx9 : List Operand) (ts : Array TypeId) : aop P T ⟨d, .call { callee := .value (.func f), args := asx9.toArray, argTypes := ts }, ty, pos, aft, gd⟩ H K = SoundP P f (asx9.map (aev T)) H K (tk _) := by
  show SoundX P f ([] ++ asx9.map (aev T) ++ []) H K = _
  simp [SoundP]
theorem aop_invoke (t : Nat) (name : String) (asx9 : List Operand) (ts : Array TypeId) : aop P T ⟨d, .call { callee := .invoke (.tmp t) name, args := asx9.toArray, argTypes := ts }, ty, pos, aft, gd⟩ H K =
    abind (T t) (fun x => bindP (match x with | .iface u v => (methOf P u name).map fun g => (g, v :: asx9.map (aev T)) | _ => none) (fun p => SoundP P p.1 p.2 H K (tk _)) (tk _)) (tk _) := (rfl)
theorem aop_callv (t : Nat) (asx9 : List Operand) (ts : Array TypeId) : aop P T ⟨d, .call { callee := .value (.tmp t), args := asx9.toArray, argTypes := ts }, ty, pos, aft, gd⟩ H K =
    abind (T t) (fun f => bindP (match f with | .func (.func g) fs cs => some (g, fs.toList ++ asx9.map (aev T) ++ cs.toList) | _ => none) (fun p => SoundP P p.1 p.2 H K (tk _)) (tk _)) (tk _) := (rfl)
end
theorem abody_ret (P : Program) (rs : List ResultVar) (K : Value → AHeap → Prop) (T : Tm) (H : AHeap) : abody P rs K .ret T H = bindP (aresults rs P T H) (fun vs => K (ares vs) H) (tk _) := (rfl)
theorem abody_normal (P : Program) (rs : List ResultVar) (K : Value → AHeap → Prop) (T : Tm) (H : AHeap) : abody P rs K .normal T H = bindP (aresults rs P T H) (fun vs => K (ares vs) H) (tk _) := (rfl)
theorem ares_nil (P : Program) (T : Tm) (H : AHeap) : aresults [] P T H = some [] := (rfl)
theorem ares_tmp (P : Program) (T : Tm) (H : AHeap) (t : Nat) (rs : List ResultVar) : aresults (.tmp t :: rs) P T H = (aresults rs P T H).map (T t :: ·) := (rfl)
theorem ares_cell (P : Program) (T : Tm) (H : AHeap) (a t : Nat) (rs : List ResultVar) : aresults (.cell a t :: rs) P T H = (aloadT P H t (T a)).bind fun v => (aresults rs P T H).map (v :: ·) := (rfl)
theorem ares_one (v : Value) : ares [v] = v := (rfl)
theorem ares_zero : ares [] = .tuple #[] := (rfl)
theorem ares_many (u v : Value) (vs : List Value) : ares (u :: v :: vs) = .tuple (u :: v :: vs).toArray := (rfl)
theorem aboolv_bool (b : Bool) : aboolv (.bool b) = some b := (rfl)
attribute [go_sem ↓] awp_skip awp_seq awp_region awp_regionD awp_cond awp_block awp_loop awp_exit awp_ret awp_label thenA_normal thenA_ret thenA_exit inBlockA_normal inBlockA_ret inBlockA_exit aops_nil aops_cons aops_guard aop_move aop_assign aop_pick aop_nilCheck aop_binOp aop_unOp aop_makeInterface aop_makeFunc aop_field aop_index aop_fieldAddr aop_indexAddr aop_slice aop_build aop_extract aop_load aop_lookup aop_entry aop_len aop_cap aop_max aop_min aop_alloc aop_box aop_buildSlice aop_makeMap aop_makeSlice aop_store aop_mapUpdate aop_insert aop_mapEntry aop_entryStore aop_range aop_nextM aop_nextS aop_append aop_copy aop_delete aop_clear aop_call aop_callv aop_invoke aev_tmp aev_const aev_func put_get put_nil abody_ret abody_normal
attribute [go_sem] abind_eq bindP_some acondP_true acondP_false aboolv_bool List.getD_cons_zero List.getD_cons_succ List.getD_nil ares_nil ares_tmp ares_cell ares_one ares_zero ares_many Option.map_some Option.bind_some List.map_cons List.map_nil
variable {P : Program}
theorem anext_mono {H : AHeap} {it : Value} {K K' : Value → AHeap → Prop} (hk : ∀ v H', K v H' → K' v H') (h : anext H it K) : anext H it K' := by
  unfold anext at h ⊢
  split at h
  · exact hk _ _ h
  · split at h
    · exact ⟨h.1, fun q => hk _ _ (h.2.1 q), fun e he => hk _ _ (h.2.2 e he)⟩
    · exact h
  · exact h
theorem aop_mono {T : Tm} {o : Oper} {H : AHeap} {K K' : Value → AHeap → Prop} (hk : ∀ v H', K v H' → K' v H') (h : aop P T o H K) : aop P T o H K' := by
  unfold aop at h ⊢
  split at h
  · exact bindO_mono h fun _ hq => hk _ _ hq
  · exact anext_mono hk h
  · exact bindO_mono h fun _ hq => hk _ _ hq
  · exact bindO_mono h fun _ hq => hk _ _ hq
  · exact bindO_mono h fun _ hq => hk _ _ hq
  · exact bindO_mono h fun _ hq => hk _ _ hq
  · exact bindO_mono h fun _ hq => hk _ _ hq
  · exact bindO_mono h fun _ hq => hq.mono hk
  · split at h
    · exact bindO_mono h fun _ hq => hk _ _ hq
    · exact bindO_mono h fun _ hq => hk _ _ hq
    · exact bindO_mono h fun _ hq => hk _ _ hq
theorem acond_mono {b : Bool} {A B A' B' : Prop} (h : acond b A B) (ha : A → A') (hb : B → B') : acond b A' B' := by
  cases b
  · exact hb h
  · exact ha h
theorem aops_mono {ops : Array Oper} {K K' : Tm → AHeap → Prop} (hk : ∀ T H, K T H → K' T H) : ∀ (l : List Oper) (T : Tm) (H : AHeap), aops P ops K l T H → aops P ops K' l T H
  | [], T, H, h => hk T H h
  | o :: os, T, H, h => by
    simp only [aops] at h ⊢
    exact bindO_mono h fun g hg => acond_mono hg (aop_mono fun v H' hq => aops_mono hk os _ _ hq) (aops_mono hk os _ _)
theorem adraw_mono {ops : Array Oper} {K K' : Tm → AHeap → Prop} (hk : ∀ T H, K T H → K' T H) : ∀ (l : List (Nat × List Nat)) (recs : List Rec) (T : Tm) (H : AHeap), adraw P ops K l recs T H → adraw P ops K' l recs T H
  | [], _, T, H, h => hk T H h
  | (i, chk) :: is, recs, T, H, h => by
    simp only [adraw] at h ⊢
    refine bindO_mono h fun o ho => bindO_mono ho fun g hg => acond_mono hg (fun hq => ?_) (fun hq => ?_)
    · split at hq
      · exact bindO_mono hq fun _ hq => adraw_mono hk is _ _ _ hq
      · exact bindO_mono hq fun _ hq => adraw_mono hk is _ _ _ hq
      · exact aop_mono (fun v H' ⟨h1, h2⟩ => ⟨h1, adraw_mono hk is _ _ _ h2⟩) hq
    · split at hq <;> exact adraw_mono hk is _ _ _ hq
theorem thenA_mono {n n' : Tm → AHeap → Prop} {Q Q' : Exit → Tm → AHeap → Prop} (hn : ∀ T H, n T H → n' T H) (hq : ∀ e T H, Q e T H → Q' e T H) : ∀ e T H, Exit.thenA n Q e T H → Exit.thenA n' Q' e T H := by
  intro e T H h
  cases e with
  | normal => exact hn T H h
  | _ => exact hq _ T H h
theorem awp_mono : ∀ (c : Code) {Q Q' : Exit → Tm → AHeap → Prop} (T : Tm) (H : AHeap), (∀ e T H, Q e T H → Q' e T H) → awp P c Q T H → awp P c Q' T H := by
  intro c
  induction c with
  | skip => intro Q Q' T H hq h; exact hq _ _ _ h
  | label l => intro Q Q' T H hq h; exact hq _ _ _ h
  | exit id => intro Q Q' T H hq h; exact hq _ _ _ h
  | ret => intro Q Q' T H hq h; exact hq _ _ _ h
  | goto l => intro Q Q' T H hq h; exact h.elim
  | scope c ih => intro Q Q' T H hq h; exact h.elim
  | refuse s => intro Q Q' T H hq h; exact h.elim
  | rangeFunc f ps x y => intro Q Q' T H hq h; exact h.elim
  | region id ops draw =>
    intro Q Q' T H hq h
    cases draw with
    | false => exact aops_mono (fun T H => hq .normal T H) _ _ _ h
    | true => obtain ⟨plan, h1, h2⟩ := h; exact ⟨plan, h1, adraw_mono (fun T H => hq .normal T H) _ _ _ _ h2⟩
  | seq x y ihx ihy => intro Q Q' T H hq h; exact ihx _ _ (thenA_mono (fun T H => ihy T H hq) hq) h
  | cond c x y ihx ihy => intro Q Q' T H hq h; exact bindO_mono h fun g hg => acond_mono hg (ihx _ _ hq) (ihy _ _ hq)
  | block id c ih =>
    intro Q Q' T H hq h
    refine ih _ _ (fun e T H he => ?_) h
    cases e with
    | exit id' =>
      simp only [Exit.inBlockA] at he ⊢
      split
      · rename_i q; rw [if_pos q] at he; exact hq _ _ _ he
      · rename_i q; rw [if_neg q] at he; exact hq _ _ _ he
    | _ => exact hq _ _ _ he
  | loop c ih =>
    intro Q Q' T H hq h
    obtain ⟨n, hn⟩ := h
    refine ⟨n, ?_⟩
    revert T H hn
    induction n with
    | zero => intro T H h; exact h.elim
    | succ n ihn => intro T H h; exact ih _ _ (thenA_mono (fun T H => ihn T H) hq) h
theorem aloop_inv {body : (Exit → Tm → AHeap → Prop) → Tm → AHeap → Prop} (hb : ∀ Q Q' T H, (∀ e T H, Q e T H → Q' e T H) → body Q T H → body Q' T H)
    {Q : Exit → Tm → AHeap → Prop} (I : Nat → Tm → AHeap → Prop) (hstep : ∀ n T H, I n T H → body (Exit.thenA (fun T' H' => ∃ m, m < n ∧ I m T' H') Q) T H) {n : Nat} {T : Tm} {H : AHeap} (h : I n T H) : aloop body Q T H := by
  have key : ∀ n T H, I n T H → arounds body Q (n + 1) T H := by
    intro n
    induction n using Nat.strongRecOn with
    | _ n ih =>
      intro T H hI
      refine hb _ _ T H ?_ (hstep n T H hI)
      intro e T' H' hq
      cases e with
      | normal =>
        obtain ⟨m, hm, hI'⟩ := hq
        have := ih m hm T' H' hI'
        -- more rounds do no harm
        have mono : ∀ k T H, arounds body Q k T H → ∀ j, k ≤ j → arounds body Q j T H := by
          intro k
          induction k with
          | zero => intro T H h; exact h.elim
          | succ k ihk =>
            intro T H h j hj
            obtain ⟨j, rfl⟩ : ∃ i, j = i + 1 := ⟨j - 1, by omega⟩
            refine hb _ _ T H ?_ h
            intro e T' H' hq
            cases e with
            | normal => exact ihk T' H' hq j (by omega)
            | _ => exact hq
        exact mono _ _ _ this n (by omega)
      | _ => exact hq
  exact ⟨n + 1, key n T H h⟩
theorem loop_rule {c : Code} {Q : Exit → Tm → AHeap → Prop} (I : Nat → Tm → AHeap → Prop) (hstep : ∀ n T H, I n T H → awp P c (Exit.thenA (fun T' H' => ∃ m, m < n ∧ I m T' H') Q) T H) {n : Nat} {T : Tm} {H : AHeap} (h : I n T H) : aloop (awp P c) Q T H :=
  aloop_inv (fun _ _ T H hq h => awp_mono c T H hq h) I hstep h
end Go.AW
end
