/-
  Parts of the proof, joined: AwKit, AwHeap, AwPre, AwEq.
-/
import Derived.Test.YtekpdopbiklkfaaGreatDoorPf05
section
set_option linter.unusedVariables false
set_option linter.unusedSimpArgs false
namespace Go.AW
open Go
variable {P : Program}
def opAt : List Oper → Nat → Option Oper
  | [], _ => none
  | o :: _, 0 => some o
  | _ :: os, n + 1 => opAt os n
theorem opAt_eq (l : List Oper) (n : Nat) : opAt l n = l[n]? := by
  induction l generalizing n with
  | nil => rfl
  | cons o os ih => cases n with
    | zero => rfl
    | succ n => simpa [opAt] using ih n
def adraw0 (P : Program) (l : List Oper) (K : Tm → AHeap → Prop) : List Nat → Tm → AHeap → Prop
  | [], T, H => K T H
  | i :: is, T, H => bindO (opAt l i) fun o => bindO (aguard l.toArray T o) fun g =>
      acond g (aop P T o H fun v H' => adraw0 P l K is (T.put o.dst v) H') (adraw0 P l K is (T.put o.dst undef) H)
theorem aop_read {T : Tm} {o : Oper} {H : AHeap} {K : Value → AHeap → Prop} (hc : cls P o = .read) (h : aop P T o H K) : bindO (aread P T o H) fun v => K v H := by
  obtain ⟨d, op, ty, pos, aft, gd⟩ := o
  unfold aop at h
  split at h
  · rename_i q; simp only at q; subst q; simp [cls] at hc
  · rename_i q; simp only at q; subst q; simp [cls] at hc
  · exact h
  · exact h
  · exact h
  · exact h
  · rename_i b a t n1 n2 n3 n0 q
    simp only at q; subst q
    exfalso
    revert hc
    cases b <;> simp [cls] <;> first | (exact (n1 rfl).elim) | (exact (n2 rfl).elim) | (exact (n3 rfl).elim) | (exact (n0 rfl).elim) | skip
  · rename_i c n0 n1 n2 n3 n4 q
    simp only at q; subst q
    exfalso
    revert hc
    obtain ⟨callee, asx9, ts⟩ := c
    cases callee with
    | builtin b => exact (n4 _ _ _ rfl).elim
    | value f => simp [cls]
    | invoke r m => simp [cls]
  · rw [hc] at h; exact h
theorem aop_alloc' {T : Tm} {o : Oper} {H : AHeap} {K : Value → AHeap → Prop} (hc : cls P o = .alloc) (h : aop P T o H K) : bindO (aalloc P T o) fun p => K (p.2 H.length) (H ++ [p.1]) := by
  obtain ⟨d, op, ty, pos, aft, gd⟩ := o
  unfold aop at h
  split at h
  · rename_i q; simp only at q; subst q; simp [cls] at hc
  · rename_i q; simp only at q; subst q; simp [cls] at hc
  · rename_i q; simp only at q; subst q; simp [cls] at hc
  · rename_i q; simp only at q; subst q; simp [cls] at hc
  · rename_i q; simp only at q; subst q; simp [cls] at hc
  · rename_i q; simp only at q; subst q; simp [cls] at hc
  · rename_i b a t n1 n2 n3 n0 q
    simp only at q; subst q
    exfalso
    revert hc
    cases b <;> simp [cls]
  · rename_i c n0 n1 n2 n3 n4 q
    simp only at q; subst q
    exfalso
    revert hc
    obtain ⟨callee, asx9, ts⟩ := c
    cases callee with
    | builtin b => exact (n4 _ _ _ rfl).elim
    | value f => simp [cls]
    | invoke r m => simp [cls]
  · rw [hc] at h; exact h
def adstep (P : Program) (l : List Oper) (K : Tm → AHeap → Prop) (is : List Nat) (T : Tm) (H : AHeap) (o : Oper) : Prop :=
  bindO (aguard l.toArray T o) fun g => acond g (aop P T o H fun v H' => adraw0 P l K is (T.put o.dst v) H') (adraw0 P l K is (T.put o.dst undef) H)
section
variable (P : Program) (l : List Oper) (K : Tm → AHeap → Prop) (T : Tm) (H : AHeap)
theorem adraw0_nil : adraw0 P l K [] T H = K T H := (rfl)
def adopen (os : List Oper) (i : Nat) (is : List Nat) : Prop := bindO (opAt os i) fun o => adstep P l K is T H o
theorem adraw0_cons (i : Nat) (is : List Nat) : adraw0 P l K (i :: is) T H = adopen P l K T H l i is := (rfl)
theorem adopen_zero (o : Oper) (os : List Oper) (is : List Nat) : adopen P l K T H (o :: os) 0 is = adstep P l K is T H o := (rfl)
theorem adopen_succ (o : Oper) (os : List Oper) (i : Nat) (is : List Nat) : adopen P l K T H (o :: os) (i + 1) is = adopen P l K T H os i is := (rfl)
theorem adstep_none (is : List Nat) (d : Option Tmp) (op : Op) (ty : TypeId) (pos : String) (aft : Array Edge) :
    adstep P l K is T H ⟨d, op, ty, pos, aft, none⟩ = aop P T ⟨d, op, ty, pos, aft, none⟩ H fun v H' => adraw0 P l K is (T.put d v) H' := (rfl)
theorem adstep_some (is : List Nat) (d : Option Tmp) (op : Op) (ty : TypeId) (pos : String) (aft : Array Edge) (g : Nat × Bool) :
    adstep P l K is T H ⟨d, op, ty, pos, aft, some g⟩ = bindP (aguard l.toArray T ⟨d, op, ty, pos, aft, some g⟩) (fun b => acondP b (aop P T ⟨d, op, ty, pos, aft, some g⟩ H fun v H' => adraw0 P l K is (T.put d v) H') (adraw0 P l K is (T.put d undef) H) (tk _) (tk _)) (tk _) := (rfl)
end
attribute [go_sem ↓] adraw0_nil adraw0_cons adopen_zero adopen_succ adstep_none adstep_some
theorem aloopP_of {c : Code} {Q : Exit → Tm → AHeap → Prop} (I : Nat → Tm → AHeap → Prop) {n : Nat} {T : Tm} {H : AHeap} {t1 : Tok c} {t2 : Tok Q} {t3 : Tok T} {t4 : Tok H}
    (h : I n T H) (hstep : ∀ n T H, I n T H → awp P c (Exit.thenA (fun T' H' => ∃ m, m < n ∧ I m T' H') Q) T H) : aloopP P c Q T H t1 t2 t3 t4 := loop_rule I hstep h
section
variable (P : Program) (H : AHeap) (t : TypeId) (x y : Operand) (k : IntKind) (a b : Int)
theorem abin_add : abin P H .add t x y (.int k a) (.int k b) = some (.int k (k.wrap (a + b))) := by simp [abin, aint]
theorem abin_sub : abin P H .sub t x y (.int k a) (.int k b) = some (.int k (k.wrap (a - b))) := by simp [abin, aint]
theorem abin_mul : abin P H .mul t x y (.int k a) (.int k b) = some (.int k (k.wrap (a * b))) := by simp [abin, aint]
theorem abin_quo : abin P H .quo t x y (.int k a) (.int k b) = if b = 0 then none else some (.int k (k.wrap (a.tdiv b))) := by simp [abin, aint]
theorem abin_rem : abin P H .rem t x y (.int k a) (.int k b) = if b = 0 then none else some (.int k (a.tmod b)) := by simp [abin, aint]
theorem abin_eql : abin P H .eql t x y (.int k a) (.int k b) = some (.bool (a == b)) := by simp [abin, aint]
theorem abin_neq : abin P H .neq t x y (.int k a) (.int k b) = some (.bool (a != b)) := by simp [abin, aint]
theorem abin_lss : abin P H .lss t x y (.int k a) (.int k b) = some (.bool (decide (a < b))) := by simp [abin, aint]
theorem abin_leq : abin P H .leq t x y (.int k a) (.int k b) = some (.bool (decide (a ≤ b))) := by simp [abin, aint]
theorem abin_gtr : abin P H .gtr t x y (.int k a) (.int k b) = some (.bool (decide (b < a))) := by simp [abin, aint]
theorem abin_geq : abin P H .geq t x y (.int k a) (.int k b) = some (.bool (decide (b ≤ a))) := by simp [abin, aint]
theorem abin_shl (k' : IntKind) : abin P H .shl t x y (.int k a) (.int k' b) = ashift .shl k a b := by simp [abin]
theorem abin_shr (k' : IntKind) : abin P H .shr t x y (.int k a) (.int k' b) = ashift .shr k a b := by simp [abin]
theorem aun_not (b : Bool) : aun .not (.bool b) = some (.bool !b) := rfl
theorem aun_neg (n : Int) : aun .neg (.int k n) = some (.int k (k.wrap (0 - n))) := rfl
theorem afold_one (f : Value → Value → Option Value) (v : Value) : afold f [v] = some v := by simp [afold]
theorem afold_two (f : Value → Value → Option Value) (u v : Value) : afold f [u, v] = f u v := by
  unfold afold
  cases f u v with
  | none => rfl
  | some z => simp [afold]
theorem amax2_int (a b : Int) : amax2 (.int k a) (.int k b) = some (.int k (if b > a then b else a)) := rfl
theorem amin2_int (a b : Int) : amin2 (.int k a) (.int k b) = some (.int k (if b < a then b else a)) := rfl
end
attribute [go_sem] abin_add abin_sub abin_mul abin_quo abin_rem abin_eql abin_neq abin_lss abin_leq abin_gtr abin_geq abin_shl abin_shr aun_not aun_neg afold_one afold_two amax2_int amin2_int
def rowLoad (g : Option Bool) (n : Option Nat) (off : Nat) (o : AObj) : Option Value :=
  match o with
  | .row cs _ _ =>
    match g with
    | some true => n.bind fun n => if off + n ≤ cs.length then some (.agg ((cs.drop off).take n).toArray) else none
    | some false => cs[off]?
    | none => none
  | _ => none
theorem aloadT_ptr (P : Program) (H : AHeap) (t : TypeId) (id off : Nat) : aloadT P H t (.pointer (some ⟨id, off, none⟩)) = (H[id]?).bind (rowLoad (aggT P t) (szT P t) off) := by
  unfold aloadT
  simp only
  cases hg : aggT P t with
  | none =>
    cases hh : H[id]? with
    | none => rfl
    | some o => cases o <;> rfl
  | some g =>
    cases hh : H[id]? with
    | none => cases g <;> simp [aload, hh] <;> cases szT P t <;> rfl
    | some o =>
      cases o with
      | row cs k b =>
        cases g with
        | true =>
          cases hs : szT P t with
          | none => rfl
          | some n =>
            simp only [Option.bind_some, aload, hh, rowLoad]
            split <;> rfl
        | false =>
          simp only [Option.bind_some, aload, hh, rowLoad]
          split
          · rename_i q
            rw [Option.bind_some, List.getElem?_take, if_pos (by omega), List.getElem?_drop, Nat.add_zero]
          · rename_i q
            rw [List.getElem?_eq_none (by omega)]; rfl
      | map es ck => cases g <;> simp [aload, hh, rowLoad] <;> cases szT P t <;> rfl
      | mapIter a b c d => cases g <;> simp [aload, hh, rowLoad] <;> cases szT P t <;> rfl
      | strIter a b => cases g <;> simp [aload, hh, rowLoad] <;> cases szT P t <;> rfl
      | gone => cases g <;> simp [aload, hh, rowLoad] <;> cases szT P t <;> rfl
      | rowx a b c => cases g <;> simp [aload, hh, rowLoad] <;> cases szT P t <;> rfl
def rowStore (off : Nat) (vs : List Value) (o : AObj) : Option AObj :=
  match o with
  | .row cs k true => if off + vs.length ≤ cs.length then some (.row (cs.take off ++ vs ++ cs.drop (off + vs.length)) k true) else none
  | _ => none
theorem astoreT_ptr (P : Program) (H : AHeap) (t : TypeId) (id off : Nat) (x : Value) (hs : szT P t = some x.cells.size) (h1 : x.cells.toList.all oneCell = true) :
    astoreT P H t (.pointer (some ⟨id, off, none⟩)) x = ((H[id]?).bind (rowStore off x.cells.toList)).map fun o => H.set id o := by
  simp only [astoreT, hs, Option.bind_some, if_true, astore]
  cases hh : H[id]? with
  | none => rfl
  | some o =>
    cases o with
    | row cs k b =>
      cases b with
      | true =>
        simp only [rowStore, Option.bind_some, h1, Bool.and_true, decide_eq_true_eq]
        split <;> rfl
      | false => rfl
    | _ => rfl
theorem afieldAddr_at {P : Program} {s i o n : Nat} {f : Field} (h : fieldT P s i = some f) (ho : f.offset = o) (hn : szT P f.type = some (n + 1)) (id off : Nat) :
    afieldAddr P s (.pointer (some ⟨id, off, none⟩)) i = some (.pointer (some ⟨id, off + o, none⟩)) := by
  subst ho
  simp [afieldAddr, h, hn, add_none]
theorem aindexAddr_at {P : Program} {t e k : Nat} (hu : P.underlying t = some (.slice e)) (hk : szT P e = some k) (id off n c : Nat) (ik : IntKind) (i : Int) :
    aindexAddr P t (.slice (some ⟨id, off, none⟩) n c) (.int ik i) = if 0 ≤ i ∧ i < n then some (.pointer (some ⟨id, off + i.toNat * k, none⟩)) else none := by
  simp [aindexAddr, hu, hk, add_none]
theorem acap_slice {P : Program} {t e : Nat} (hu : P.underlying t = some (.slice e)) (a : Addr) (n c : Nat) : acap P t (.slice (some a) n c) = if c = 0 then none else some (.int .i64 c) := by simp [acap, hu]
theorem alen_slice {P : Program} {t e : Nat} (hu : P.underlying t = some (.slice e)) (H : AHeap) (a : Option Addr) (n c : Nat) : alen P H t (.slice a n c) = some (.int .i64 n) := by simp [alen, hu]
theorem nilChk_ptr (P : Program) (a : Addr) : nilChkM P (.pointer (some a)) = some (.pointer (some a)) := rfl
theorem nilChk_iface (P : Program) (t : TypeId) (v : Value) : nilChkM P (.iface t v) = some (.iface t v) := rfl
theorem nilChk_meth (P : Program) (name : String) (t : TypeId) (v : Value) (bs : Array Value) : nilChkM P (.func (.method name) [Value.iface t v].toArray bs) = if (methOf P t name).isSome = true then some (.func (.method name) [Value.iface t v].toArray bs) else none := rfl
theorem nilChk_func (P : Program) (f : FuncId) (asx9 bs : Array Value) : nilChkM P (.func (.func f) asx9 bs) = some (.func (.func f) asx9 bs) := rfl
theorem aextract_at (vs : List Value) (i : Nat) : aextract (.tuple vs.toArray) i = vs[i]? := by simp [aextract]
theorem rowLoad_one (n : Option Nat) (off : Nat) (cs : List Value) (k : Nat) (b : Bool) : rowLoad (some false) n off (.row cs k b) = cs[off]? := rfl
theorem rowLoad_agg (n off : Nat) (cs : List Value) (k : Nat) (b : Bool) : rowLoad (some true) (some n) off (.row cs k b) = if off + n ≤ cs.length then some (.agg ((cs.drop off).take n).toArray) else none := rfl
theorem rowStore_row (off : Nat) (vs cs : List Value) (k : Nat) : rowStore off vs (.row cs k true) = if off + vs.length ≤ cs.length then some (.row (cs.take off ++ vs ++ cs.drop (off + vs.length)) k true) else none := (rfl)
attribute [go_sem] rowStore_row aloadT_ptr nilChk_ptr nilChk_func nilChk_iface nilChk_meth Option.isSome_some aextract_at rowLoad_one rowLoad_agg
end Go.AW
end
section
set_option linter.unusedVariables false
set_option linter.unusedSimpArgs false
namespace Go.AW
open Go
theorem pre_get {H H' : AHeap} (h : H <+: H') {i : Nat} {o : AObj} (hx : H[i]? = some o) : H'[i]? = some o := by
  obtain ⟨L, rfl⟩ := h
  rw [List.getElem?_append_left, hx]
  rcases Nat.lt_or_ge i H.length with h | h
  · exact h
  · rw [List.getElem?_eq_none h] at hx; cases hx
theorem get_lt {H : AHeap} {i : Nat} {o : AObj} (hx : H[i]? = some o) : i < H.length := by
  rcases Nat.lt_or_ge i H.length with h | h
  · exact h
  · rw [List.getElem?_eq_none h] at hx; cases hx
theorem pre_add (H : AHeap) (o : AObj) : H <+: H ++ [o] := ⟨[o], rfl⟩
theorem pre_set {H0 H : AHeap} (h : H0 <+: H) {id : Nat} (hid : H0.length ≤ id) (o : AObj) : H0 <+: H.set id o := by
  obtain ⟨L, rfl⟩ := h
  rw [List.set_append_right _ _ hid]
  exact ⟨_, rfl⟩
theorem pre_len {H H' : AHeap} (h : H <+: H') : H.length ≤ H'.length := h.length_le
theorem get_end (H : AHeap) (o : AObj) (L : AHeap) : (H ++ o :: L)[H.length]? = some o := by simp
theorem get_end1 (H : AHeap) (o p : AObj) (L : AHeap) : (H ++ o :: p :: L)[H.length + 1]? = some p := by simp
theorem get_end2 (H : AHeap) (o p q : AObj) (L : AHeap) : (H ++ o :: p :: q :: L)[H.length + 2]? = some q := by simp
theorem set_end (H : AHeap) (o p : AObj) (L : AHeap) : (H ++ o :: L).set H.length p = H ++ p :: L := by simp
theorem set_end1 (H : AHeap) (o p q : AObj) (L : AHeap) : (H ++ o :: p :: L).set (H.length + 1) q = H ++ o :: q :: L := by simp
theorem get_end3 (H : AHeap) (o p q r : AObj) (L : AHeap) : (H ++ o :: p :: q :: r :: L)[H.length + 3]? = some r := by simp
theorem aload_iff {H : AHeap} {a : Addr} {n : Nat} {cs : List Value} :
    aload H a n = some cs ↔ a.spot = none ∧ ∃ row k own, H[a.block]? = some (.row row k own) ∧ a.off + n ≤ row.length ∧ cs = (row.drop a.off).take n := by
  unfold aload
  constructor
  · intro h
    split at h
    · rename_i row k own h1 h2
      split at h
      · rename_i h3
        cases h
        exact ⟨h1, row, k, own, h2, h3, rfl⟩
      · cases h
    · cases h
  · rintro ⟨h1, row, k, own, h2, h3, rfl⟩
    rw [h1, h2]
    simp [h3]
theorem aload_pre {H H' : AHeap} (h : H <+: H') {a : Addr} {n : Nat} {cs : List Value} (hl : aload H a n = some cs) : aload H' a n = some cs := by
  rw [aload_iff] at hl ⊢
  obtain ⟨h1, row, k, own, h2, h3, h4⟩ := hl
  exact ⟨h1, row, k, own, pre_get h h2, h3, h4⟩
theorem aload_sub {H : AHeap} {id off n : Nat} {cs : List Value} (hl : aload H ⟨id, off, none⟩ n = some cs) (j m : Nat) (h : j + m ≤ n) : aload H ⟨id, off + j, none⟩ m = some ((cs.drop j).take m) := by
  obtain ⟨h1, row, k, own, h2, h3, rfl⟩ := aload_iff.1 hl
  simp only at h2 h3
  refine aload_iff.2 ⟨rfl, row, k, own, h2, ?_, ?_⟩
  · simp only; omega
  · simp only
    rw [List.drop_take, List.take_take, List.drop_drop, Nat.min_eq_left (by omega)]
theorem aload_cat {H : AHeap} {id off n m : Nat} {cs ds : List Value} (h1 : aload H ⟨id, off, none⟩ n = some cs) (h2 : aload H ⟨id, off + n, none⟩ m = some ds) : aload H ⟨id, off, none⟩ (n + m) = some (cs ++ ds) := by
  obtain ⟨s, row, k, own, g, l, rfl⟩ := aload_iff.1 h1
  obtain ⟨_, row', k', own', g', l', rfl⟩ := aload_iff.1 h2
  simp only at g' l' g l
  rw [g] at g'
  cases g'
  refine aload_iff.2 ⟨rfl, row, k, own, g, by simp only; omega, ?_⟩
  simp only
  rw [List.take_add, List.drop_drop]
theorem flat_len {α : Type} {enc : α → List Value} {k : Nat} (hk : ∀ x, (enc x).length = k) (l : List α) : (l.flatMap enc).length = l.length * k := by
  induction l with
  | nil => simp
  | cons x l ih => rw [List.flatMap_cons, List.length_append, ih, hk, List.length_cons, Nat.add_mul]; omega
theorem flat_one {α : Type} {enc : α → List Value} (h1 : ∀ x, (enc x).all oneCell = true) (l : List α) : (l.flatMap enc).all oneCell = true := by
  rw [List.all_eq_true]
  intro v hv
  obtain ⟨y, _, hy⟩ := List.mem_flatMap.1 hv
  exact List.all_eq_true.1 (h1 y) v hy
theorem rowLoad_whole {H : AHeap} {id off n : Nat} {cs : List Value} (h : aload H ⟨id, off, none⟩ n = some cs) : (H[id]?).bind (rowLoad (some true) (some n) off) = some (.agg cs.toArray) := by
  obtain ⟨_, row, k, own, g, l, rfl⟩ := aload_iff.1 h
  simp only at g l
  simp [g, rowLoad, l]
theorem rowLoad_cell {H : AHeap} {id off n : Nat} {cs : List Value} (h : aload H ⟨id, off, none⟩ n = some cs) (m : Option Nat) (j : Nat) (hj : j < n) : (H[id]?).bind (rowLoad (some false) m (off + j)) = cs[j]? := by
  obtain ⟨_, row, k, own, g, l, rfl⟩ := aload_iff.1 h
  simp only at g l
  simp only [g, Option.bind_some, rowLoad]
  rw [List.getElem?_take, if_pos hj, List.getElem?_drop]
theorem rowLoad_one0 {H : AHeap} {id off : Nat} {v : Value} (h : aload H ⟨id, off, none⟩ 1 = some [v]) (m : Option Nat) : (H[id]?).bind (rowLoad (some false) m off) = some v := by
  have := rowLoad_cell h m 0 (by omega)
  simpa using this
theorem aload_row {H : AHeap} {id : Nat} {cs : List Value} {k : Nat} {own : Bool} (h : H[id]? = some (.row cs k own)) (off n : Nat) (hl : off + n ≤ cs.length) : aload H ⟨id, off, none⟩ n = some ((cs.drop off).take n) :=
  aload_iff.2 ⟨rfl, cs, k, own, h, hl, rfl⟩
theorem afield_agg {P : Program} {t i o n : Nat} {f : Field} (h : fieldT P t i = some f) (ho : f.offset = o) (ha : aggT P f.type = some true) (hn : szT P f.type = some n) (cs : List Value) :
    afield P t (.agg cs.toArray) i = some (.agg ((cs.drop o).take n).toArray) := by
  subst ho
  simp [afield, h, apart, ha, hn]
theorem afield_one {P : Program} {t i o : Nat} {f : Field} (h : fieldT P t i = some f) (ho : f.offset = o) (ha : aggT P f.type = some false) (cs : List Value) :
    afield P t (.agg cs.toArray) i = cs[o]? := by
  subst ho
  simp [afield, h, apart, ha]
section
variable {α : Type}
def SlA (H : AHeap) (enc : α → List Value) (k : Nat) (a : Option Addr) (l : List α) : Prop :=
  ∀ (i : Nat) (x : α), l[i]? = some x → ∃ id off, a = some ⟨id, off, none⟩ ∧ aload H ⟨id, off + i * k, none⟩ k = some (enc x)
theorem SlA.nil (H : AHeap) (enc : α → List Value) (k : Nat) (a : Option Addr) : SlA H enc k a [] := fun i x h => by simp at h
theorem SlA.pre {H H' : AHeap} {enc : α → List Value} {k : Nat} {a : Option Addr} {l : List α} (h : SlA H enc k a l) (hp : H <+: H') : SlA H' enc k a l :=
  fun i x hx => by obtain ⟨id, off, h1, h2⟩ := h i x hx; exact ⟨id, off, h1, aload_pre hp h2⟩
theorem SlA.at {H : AHeap} {enc : α → List Value} {k : Nat} {a : Option Addr} {l : List α} (h : SlA H enc k a l) (hne : 0 < l.length) :
    ∃ id off, a = some ⟨id, off, none⟩ ∧ ∀ (i : Nat) (x : α), l[i]? = some x → aload H ⟨id, off + i * k, none⟩ k = some (enc x) := by
  obtain ⟨x, hx⟩ : ∃ x, l[0]? = some x := ⟨l[0], by simp [hne]⟩
  obtain ⟨id, off, h1, _⟩ := h 0 x hx
  refine ⟨id, off, h1, fun i y hy => ?_⟩
  obtain ⟨id', off', h3, h4⟩ := h i y hy
  rw [h1] at h3
  cases h3
  exact h4
theorem SlA.all {H : AHeap} {enc : α → List Value} {k id off : Nat} (l : List α) (h : ∀ (i : Nat) (x : α), l[i]? = some x → aload H ⟨id, off + i * k, none⟩ k = some (enc x)) (hne : 0 < l.length) :
    aload H ⟨id, off, none⟩ (l.length * k) = some (l.flatMap enc) := by
  induction l generalizing off with
  | nil => simp at hne
  | cons x l ih =>
    have h0 : aload H ⟨id, off, none⟩ k = some (enc x) := by simpa using h 0 x rfl
    cases l with
    | nil => simpa using h0
    | cons y l =>
      have := @ih (off + k) (fun i z hz => by
        have := h (i + 1) z (by simpa using hz)
        rwa [Nat.add_mul, Nat.one_mul, Nat.add_comm (i * k), ← Nat.add_assoc] at this) (by simp)
      have c := aload_cat h0 this
      rw [List.flatMap_cons, List.length_cons (a := x), Nat.add_mul, Nat.one_mul, Nat.add_comm]
      exact c
theorem SlA.cellsAll {H : AHeap} {enc : α → List Value} {k id off : Nat} (l : List α) (h : aload H ⟨id, off, none⟩ (l.length * k) = some (l.flatMap enc)) (hk : ∀ x, (enc x).length = k) : SlA H enc k (some ⟨id, off, none⟩) l := by
  induction l generalizing off with
  | nil => exact SlA.nil _ _ _ _
  | cons x l ih =>
    intro i y hy
    refine ⟨id, off, rfl, ?_⟩
    cases i with
    | zero =>
      simp at hy; subst hy
      have := aload_sub h 0 k (by simp [Nat.add_mul])
      simpa [List.flatMap_cons, ← hk x] using this
    | succ i =>
      have h2 := aload_sub h k (l.length * k) (by simp [Nat.add_mul]; omega)
      have e : ((List.flatMap enc (x :: l)).drop k).take (l.length * k) = l.flatMap enc := by
        rw [List.flatMap_cons, ← hk x, List.drop_left]
        apply List.take_of_length_le
        have := flat_len hk l; rw [this, hk]; exact Nat.le_refl _
      rw [e] at h2
      obtain ⟨_, _, q, h3⟩ := @ih (off + k) h2 i y (by simpa using hy)
      cases q
      rwa [Nat.add_mul, Nat.one_mul, Nat.add_comm (i * k), ← Nat.add_assoc]
theorem SlA.drop {H : AHeap} {enc : α → List Value} {k id off : Nat} {l : List α} (h : SlA H enc k (some ⟨id, off, none⟩) l) (j : Nat) : SlA H enc k (some ⟨id, off + j * k, none⟩) (l.drop j) := by
  intro i x hx
  rw [List.getElem?_drop] at hx
  obtain ⟨_, _, q, h1⟩ := h _ x hx
  cases q
  exact ⟨id, _, rfl, by rwa [Nat.add_mul, ← Nat.add_assoc] at h1⟩
theorem SlA.take {H : AHeap} {enc : α → List Value} {k : Nat} {a : Option Addr} {l : List α} (h : SlA H enc k a l) (j : Nat) : SlA H enc k a (l.take j) := by
  intro i x hx
  rw [List.getElem?_take] at hx
  split at hx
  · exact h i x hx
  · cases hx
theorem SlA.ofRow {H : AHeap} {enc : α → List Value} {k id kk : Nat} {own : Bool} {cs : List Value} {l : List α} (h : H[id]? = some (.row cs kk own)) (e : cs = l.flatMap enc) (hk : ∀ x, (enc x).length = k) : SlA H enc k (some ⟨id, 0, none⟩) l := by
  refine SlA.cellsAll l ?_ hk
  rw [aload_row h 0 _ (by rw [e, flat_len hk]; omega), e, List.drop_zero, ← flat_len hk, List.take_length]
theorem asrc_sl {P : Program} {H : AHeap} {enc : α → List Value} {k t e c : Nat} {a : Option Addr} {l : List α} (hu : P.underlying t = some (.slice e)) (h : SlA H enc k a l) (h1 : ∀ x, (enc x).all oneCell = true) :
    asrc P H k t (.slice a l.length c) = some (l.length, l.flatMap enc) := by
  cases l with
  | nil => cases a <;> simp [asrc, hu]
  | cons x l =>
    obtain ⟨id, off, rfl, h2⟩ := h.at (by simp)
    have := SlA.all (x :: l) h2 (by simp)
    simp only [asrc, hu, this, Option.bind_some]
    simp only [flat_one h1, if_true]
    simp
def owner (v : Value) : Option Nat := match v with | .slice (some ⟨id, _, none⟩) _ _ => some id | _ => none
def Own (b : Nat) (H : AHeap) (enc : α → List Value) (k : Nat) (v : Value) (l : List α) : Prop :=
  (l = [] ∧ (v = .slice none 0 0 ∨ v = emp)) ∨
  ∃ id rest c, b ≤ id ∧ v = .slice (some ⟨id, 0, none⟩) l.length c ∧ H[id]? = some (.row (l.flatMap enc ++ rest) k true) ∧ (c = 0 ∨ (0 < c ∧ c * k = (l.flatMap enc ++ rest).length))
theorem Own.nil (b : Nat) (H : AHeap) (enc : α → List Value) (k : Nat) : Own b H enc k (.slice none 0 0) [] := .inl ⟨rfl, .inl rfl⟩
theorem Own.emp (b : Nat) (H : AHeap) (enc : α → List Value) (k : Nat) : Own b H enc k emp [] := .inl ⟨rfl, .inr rfl⟩
theorem Own.keep {b : Nat} {H H' : AHeap} {enc : α → List Value} {k : Nat} {v : Value} {l : List α} (h : Own b H enc k v l) (hp : ∀ id, owner v = some id → H'[id]? = H[id]?) : Own b H' enc k v l := by
  rcases h with h | ⟨id, rest, c, h1, rfl, h3, h4⟩
  · exact .inl h
  · exact .inr ⟨id, rest, c, h1, rfl, by rw [hp id rfl]; exact h3, h4⟩
theorem Own.pre {b : Nat} {H H' : AHeap} {enc : α → List Value} {k : Nat} {v : Value} {l : List α} (h : Own b H enc k v l) (hp : H <+: H') : Own b H' enc k v l := by
  rcases h with h | ⟨id, rest, c, h1, rfl, h3, h4⟩
  · exact .inl h
  · exact .inr ⟨id, rest, c, h1, rfl, pre_get hp h3, h4⟩
theorem Own.mono {b b' : Nat} {H : AHeap} {enc : α → List Value} {k : Nat} {v : Value} {l : List α} (h : Own b H enc k v l) (hb : b' ≤ b) : Own b' H enc k v l := by
  rcases h with h | ⟨id, rest, c, h1, h2⟩
  · exact .inl h
  · exact .inr ⟨id, rest, c, by omega, h2⟩
theorem Own.owner_ge {b : Nat} {H : AHeap} {enc : α → List Value} {k : Nat} {v : Value} {l : List α} (h : Own b H enc k v l) {id : Nat} (ho : owner v = some id) : b ≤ id ∧ id < H.length := by
  rcases h with ⟨rfl, rfl | rfl⟩ | ⟨id', rest, c, h1, rfl, h3, h4⟩
  · simp [owner] at ho
  · simp [owner, Go.AW.emp] at ho
  · simp only [owner, Option.some.injEq] at ho
    subst ho
    exact ⟨h1, get_lt h3⟩
theorem Own.sl {b : Nat} {H : AHeap} {enc : α → List Value} {k : Nat} {v : Value} {l : List α} (h : Own b H enc k v l) (hk : ∀ x, (enc x).length = k) : ∃ a c, v = .slice a l.length c ∧ SlA H enc k a l := by
  rcases h with ⟨rfl, rfl | rfl⟩ | ⟨id, rest, c, h1, rfl, h3, h4⟩
  · exact ⟨_, _, rfl, SlA.nil _ _ _ _⟩
  · exact ⟨_, _, rfl, SlA.nil _ _ _ _⟩
  · refine ⟨_, _, rfl, SlA.cellsAll l ?_ hk⟩
    have hl : (l.flatMap enc).length = l.length * k := flat_len hk l
    rw [aload_row h3 0 _ (by simp [hl])]
    rw [List.drop_zero, ← hl, List.take_left']
    rfl
theorem Own.slA {b : Nat} {H : AHeap} {enc : α → List Value} {k n c : Nat} {a : Option Addr} {l : List α} (h : Own b H enc k (.slice a n c) l) (hk : ∀ x, (enc x).length = k) : n = l.length ∧ SlA H enc k a l := by
  obtain ⟨a', c', q, h1⟩ := h.sl hk
  cases q
  exact ⟨rfl, h1⟩
theorem Own.append {P : Program} {b : Nat} {H : AHeap} {enc : α → List Value} {k : Nat} {v x : Value} {l news : List α} {st xt e : Nat} {inf : TypeInfo} {z : Value} (h : Own b H enc k v l)
    (he : elemT P st = some e) (hi : P.info? e = some inf) (hz : inf.zero = some z) (hsz : inf.size = k) (hzs : z.cells.size = k) (hk0 : 0 < k) (hk : ∀ x, (enc x).length = k) (h1 : ∀ x, (enc x).all oneCell = true)
    (hs : asrc P H k xt x = some (news.length, news.flatMap enc)) (hb : (l.length + news.length) * inf.bytes ≤ 2 ^ 47) (hb2 : l.length + news.length < 2 ^ 62) (hbH : b ≤ H.length) :
    ∃ v' H', aappend P H st xt v x = some (v', H') ∧ Own b H' enc k v' (l ++ news) ∧ H.length ≤ H'.length ∧ (∀ j, j < H.length → owner v ≠ some j → H'[j]? = H[j]?) ∧
      (∀ j, owner v' = some j → owner v = some j ∨ H.length ≤ j) := by
  have hcond : ∀ n c : Nat, n = l.length → (0 < inf.size ∧ z.cells.size = inf.size ∧ (n + news.length) * inf.bytes ≤ 2 ^ 47 ∧ n + news.length < 2 ^ 62) := fun n c hn => by
    subst hn; exact ⟨by omega, by omega, hb, hb2⟩
  have hone : (news.flatMap enc).all oneCell = true := flat_one h1 news
  suffices h0 : ∃ v' H', aappend0 P H st xt v x = some (v', H') ∧ Own b H' enc k v' (l ++ news) ∧ H.length ≤ H'.length ∧ (∀ j, j < H.length → owner v ≠ some j → H'[j]? = H[j]?) ∧
      (∀ j, owner v' = some j → owner v = some j ∨ H.length ≤ j) by
    obtain ⟨v', H', e0, r⟩ := h0
    exact ⟨v', H', by simp only [aappend, e0], r⟩
  unfold aappend0
  simp only [he, hi, hz, Option.bind_some, hsz, hs]
  by_cases hn : news.length = 0
  · obtain rfl : news = [] := List.eq_nil_of_length_eq_zero hn
    refine ⟨v, H, ?_, by simpa using h, Nat.le_refl _, fun _ _ _ => rfl, fun j hj => .inl hj⟩
    rcases h with ⟨rfl, rfl | rfl⟩ | ⟨id, rest, c, h1, rfl, h3, h4⟩
    · have := hcond 0 0 rfl; rw [hsz] at this; simp only [if_pos this]; simp
    · have := hcond 0 0 rfl; rw [hsz] at this; simp only [Go.AW.emp, if_pos this]; simp
    · have := hcond _ c rfl; rw [hsz] at this; simp only [if_pos this]; simp
  · have fresh : ∀ (H1 : AHeap) (L : List α), H1.length = H.length → (∀ j, j < H.length → owner v ≠ some j → H1[j]? = H[j]?) →
        Own b (H1 ++ [.row (L.flatMap enc) k true]) enc k (.slice (some ⟨H.length, 0, none⟩) L.length 0) L ∧ H.length ≤ (H1 ++ [AObj.row (L.flatMap enc) k true]).length ∧
        (∀ j, j < H.length → owner v ≠ some j → (H1 ++ [AObj.row (L.flatMap enc) k true])[j]? = H[j]?) ∧ (∀ j, owner (.slice (some ⟨H.length, 0, none⟩) L.length 0) = some j → owner v = some j ∨ H.length ≤ j) := by
      intro H1 L hl hf
      refine ⟨.inr ⟨H.length, [], 0, hbH, rfl, ?_, .inl rfl⟩, by simp [hl], fun j hj ho => ?_, fun j hj => ?_⟩
      · rw [← hl]; simp
      · rw [List.getElem?_append_left (by omega)]; exact hf j hj ho
      · simp only [owner, Option.some.injEq] at hj; right; omega
    rcases h with ⟨rfl, rfl | rfl⟩ | ⟨id, rest, c, h1', rfl, h3, h4⟩
    · have hc := hcond 0 0 rfl; rw [hsz] at hc
      refine ⟨_, _, by simp only [if_pos hc, if_neg hn]; rfl, ?_⟩
      simpa using fresh H news rfl (fun _ _ _ => rfl)
    · have hc := hcond 0 0 rfl; rw [hsz] at hc
      refine ⟨_, _, by simp only [Go.AW.emp, if_pos hc, if_neg hn, Option.isSome_some, if_true]; rfl, ?_⟩
      simpa using fresh H news rfl (fun _ _ _ => rfl)
    · have hc := hcond _ c rfl; rw [hsz] at hc
      have hold : aload H ⟨id, 0, none⟩ (l.length * k) = some (l.flatMap enc) := by
        rw [aload_row h3 0 _ (by simp [flat_len hk]), List.drop_zero, ← flat_len hk, List.take_left']; rfl
      by_cases hc0 : c = 0
      · subst hc0
        have hrow : rowOf H id k = true := by simp [rowOf, h3]
        refine ⟨_, _, by simp only [if_pos hc, if_neg hn, Option.isSome_none, Bool.false_eq_true, if_false, if_true, hrow, hold, Option.bind_some]; rfl, ?_⟩
        have := fresh (H.set id .gone) (l ++ news) (by simp) (fun j hj ho => by rw [List.getElem?_set_ne]; rintro rfl; exact ho rfl)
        simpa using this
      · rcases h4 with h4 | ⟨_, h4⟩
        · exact absurd h4 hc0
        by_cases hroom : l.length + news.length ≤ c
        · -- in place
          have hlen : l.length * k + news.length * k ≤ (l.flatMap enc ++ rest).length := by
            rw [← h4, ← Nat.add_mul]; exact Nat.mul_le_mul_right _ hroom
          have hfit : l.length * k + (news.flatMap enc).length ≤ (l.flatMap enc ++ rest).length := by rw [flat_len hk]; exact hlen
          refine ⟨_, _, by
            simp only [if_pos hc, if_neg hn, Option.isSome_none, Bool.false_eq_true, if_false, if_neg hc0, if_pos hroom, add_none, astore, h3, hone, Bool.and_true, Nat.zero_add, decide_eq_true_eq, if_pos hfit, Option.map_some]
            rfl, ?_⟩
          refine ⟨.inr ⟨id, (l.flatMap enc ++ rest).drop (l.length * k + (news.flatMap enc).length), c, h1', by simp, ?_, .inr ⟨by omega, ?_⟩⟩, by simp, fun j hj ho => ?_, fun j hj => .inl hj⟩
          · rw [List.getElem?_set_self (get_lt h3)]
            rw [← flat_len hk, List.take_left' rfl]; simp
          · have e1 := flat_len hk l
            have e2 := flat_len hk news
            have e3 := flat_len hk (l ++ news)
            rw [List.length_append, Nat.add_mul] at e3
            rw [h4]; simp only [List.length_append, List.length_drop, e1, e2, e3] at hfit ⊢; omega
          · rw [List.getElem?_set_ne]; rintro rfl; exact ho rfl
        · refine ⟨_, _, by simp only [if_pos hc, if_neg hn, Option.isSome_none, Bool.false_eq_true, if_false, if_neg hc0, if_neg hroom, hold, Option.bind_some]; rfl, ?_⟩
          have := fresh H (l ++ news) rfl (fun _ _ _ => rfl)
          simpa using this
theorem Own.store {b : Nat} {H : AHeap} {enc : α → List Value} {k id n c off : Nat} {l : List α} (h : Own b H enc k (.slice (some ⟨id, off, none⟩) n c) l) (hk : ∀ x, (enc x).length = k) (i : Nat) (x : α) (hi : i < l.length) :
    ∃ o, (H[id]?).bind (rowStore (off + i * k) (enc x)) = some o ∧ Own b (H.set id o) enc k (.slice (some ⟨id, off, none⟩) n c) (l.set i x) := by
  rcases h with ⟨rfl, _⟩ | ⟨id', rest, c', h1, h2, h3, h4⟩
  · simp at hi
  · simp only [Value.slice.injEq, Option.some.injEq, Addr.mk.injEq] at h2
    obtain ⟨⟨rfl, rfl, -⟩, rfl, rfl⟩ := h2
    have hik : i * k + k ≤ l.length * k := by
      have := Nat.mul_le_mul_right k (show i + 1 ≤ l.length from hi); rwa [Nat.add_mul, Nat.one_mul] at this
    have e : ((l.flatMap enc ++ rest).take (i * k) ++ enc x ++ (l.flatMap enc ++ rest).drop (i * k + (enc x).length)) = (l.set i x).flatMap enc ++ rest := by
      clear h3 h4 h1
      induction l generalizing i with
      | nil => simp at hi
      | cons y l ih =>
        cases i with
        | zero =>
          simp only [Nat.zero_mul, List.take_zero, List.nil_append, Nat.zero_add, List.flatMap_cons, List.set_cons_zero, List.append_assoc]
          rw [hk x, ← hk y, List.drop_left']; rfl
        | succ i =>
          have hi' : i < l.length := by simpa using hi
          have := ih i hi' (by
            have := Nat.mul_le_mul_right k (show i + 1 ≤ l.length from hi'); rwa [Nat.add_mul, Nat.one_mul] at this)
          simp only [List.flatMap_cons, List.set_cons_succ, List.append_assoc]
          rw [← this, show (i + 1) * k = (enc y).length + i * k by rw [hk y, Nat.add_mul]; omega, List.take_length_add_append, Nat.add_assoc, List.drop_length_add_append]
          simp only [List.append_assoc]
    refine ⟨_, by simp only [h3, Option.bind_some, rowStore, Nat.zero_add]; rw [if_pos (by simp [hk, flat_len hk]; omega), e], .inr ⟨id, rest, c, h1, by simp, by rw [List.getElem?_set_self (get_lt h3)], ?_⟩⟩
    rcases h4 with h4 | ⟨h5, h4⟩
    · exact .inl h4
    · exact .inr ⟨h5, by rw [h4]; simp [flat_len hk]⟩
end
theorem astore_rule {P : Program} {t n : Nat} (hs : szT P t = some n) (H : AHeap) (id off : Nat) (x : Value) :
    astoreT P H t (.pointer (some ⟨id, off, none⟩)) x = if x.cells.size = n ∧ x.cells.toList.all oneCell = true then ((H[id]?).bind (rowStore off x.cells.toList)).map fun o => H.set id o else none := by
  by_cases h : x.cells.size = n ∧ x.cells.toList.all oneCell = true
  · rw [if_pos h, astoreT_ptr _ _ _ _ _ _ (by rw [h.1]; exact hs) h.2]
  · rw [if_neg h]
    simp only [astoreT, hs, Option.bind_some]
    by_cases h1 : x.cells.size = n
    · rw [if_pos h1]
      have h2 : ¬ x.cells.toList.all oneCell = true := fun q => h ⟨h1, q⟩
      unfold astore
      split
      · rw [if_neg (by simp only [Bool.and_eq_true]; exact fun q => h2 q.2)]
      · rfl
    · rw [if_neg h1]
theorem inRange {i n : Nat} (h : i < n) : (0 ≤ (i : Int) ∧ (i : Int) < (n : Int)) = True := by simp; omega
theorem wrS {i : Nat} (h : i < 4611686018427387904) : IntKind.i64.wrap ((i : Int) + 1) = ((i + 1 : Nat) : Int) := by
  simp [IntKind.wrap, IntKind.bits, IntKind.signed]; omega
theorem wrPS {i : Nat} (h2 : i < 4611686018427387904) : IntKind.i64.wrap (((i + 1 : Nat) : Int) - 1) = (i : Int) := by
  simp [IntKind.wrap, IntKind.bits, IntKind.signed]; omega
theorem dec0 : decide ((0 : Int) < ((0 : Nat) : Int)) = false := rfl
theorem wr64 {i : Int} (h : -9223372036854775808 ≤ i) (h2 : i ≤ 9223372036854775807) : IntKind.i64.wrap i = i := by
  simp [IntKind.wrap, IntKind.bits, IntKind.signed]; omega
theorem get_ex {α : Type} {l : List α} {i : Nat} (h : i < l.length) : ∃ x, l[i]? = some x := ⟨l[i], by simp [h]⟩
theorem drop_get {α : Type} {l : List α} {i : Nat} {x : α} (h : l[i]? = some x) : l.drop i = x :: l.drop (i + 1) := by
  obtain ⟨h1, rfl⟩ := List.getElem?_eq_some_iff.1 h
  exact List.drop_eq_getElem_cons h1
theorem take_get {α : Type} {l : List α} {i : Nat} {x : α} (h : l[i]? = some x) : l.take (i + 1) = l.take i ++ [x] := by
  rw [List.take_add_one, h]; rfl
theorem cells_agg (cs : Array Value) : (Value.agg cs).cells = cs := rfl
theorem cells_int (k : IntKind) (n : Int) : (Value.int k n).cells = #[.int k n] := rfl
theorem cells_bool (b : Bool) : (Value.bool b).cells = #[.bool b] := rfl
theorem cells_string (b : ByteArray) : (Value.string b).cells = #[.string b] := rfl
theorem cells_pointer (b : Option Addr) : (Value.pointer b).cells = #[.pointer b] := rfl
theorem cells_slice (b : Option Addr) (n c : Nat) : (Value.slice b n c).cells = #[.slice b n c] := rfl
theorem cells_map (b : Option Nat) : (Value.map b).cells = #[.map b] := rfl
attribute [go_sem] cells_agg cells_int cells_bool cells_string cells_pointer cells_slice cells_map get_end get_end1 get_end2 get_end3 set_end set_end1 List.length_append List.length_cons List.length_nil List.append_assoc List.cons_append List.nil_append Nat.zero_add
  List.getElem?_cons_zero List.getElem?_cons_succ List.size_toArray
attribute [go_sem] Int.toNat_natCast Int.toNat_zero Nat.zero_mul Option.bind_none Bool.not_true Bool.not_false
end Go.AW
end
section
set_option linter.unusedVariables false
set_option linter.unusedSimpArgs false
namespace Go.AW
open Go
variable {P : Program}
theorem aloadT_pre {H H' : AHeap} (h : H <+: H') {t : TypeId} {x v : Value} (hl : aloadT P H t x = some v) : aloadT P H' t x = some v := by
  unfold aloadT at hl ⊢
  split at hl
  · rename_i a
    cases hg : aggT P t with
    | none => simp [hg] at hl
    | some g =>
      cases g with
      | true =>
        cases hs : szT P t with
        | none => simp [hg, hs] at hl
        | some n =>
          simp only [hg, hs, Option.bind_some, Option.map_eq_some_iff] at hl ⊢
          obtain ⟨cs, h1, h2⟩ := hl
          exact ⟨cs, aload_pre h h1, h2⟩
      | false =>
        simp only [hg, Option.bind_some, Option.bind_eq_some_iff] at hl ⊢
        obtain ⟨cs, h1, h2⟩ := hl
        exact ⟨cs, aload_pre h h1, h2⟩
  · cases hl
theorem ownRow_pre {H H' : AHeap} (h : H <+: H') {id : Nat} (ho : ownRow H id = true) : ownRow H' id = true := by
  unfold ownRow at ho ⊢
  split at ho
  · rename_i q; rw [pre_get h q]; exact ho
  · cases ho
theorem rowOf_pre {H H' : AHeap} (h : H <+: H') {id k : Nat} (ho : rowOf H id k = true) : rowOf H' id k = true := by
  unfold rowOf at ho ⊢
  split at ho
  · rename_i q; rw [pre_get h q]; exact ho
  · cases ho
theorem aeq_pre {H H' : AHeap} (h : H <+: H') : ∀ (d : Nat) (t : TypeId) (x y : Value) (b : Bool), aeq P H d t x y = some b → aeq P H' d t x y = some b := by
  intro d
  induction d with
  | zero => intro t x y b hb; simp [aeq] at hb
  | succ d ih =>
    intro t x y b hb
    have fold : ∀ (fs : List Field) (xs ys : Array Value) (b : Bool),
        fs.foldr (fun f r => if f.name ≠ "_" then (match apart P f.type xs f.offset, apart P f.type ys f.offset with
          | some u, some v => match aeq P H d f.type u v with | some true => r | some false => some false | none => none
          | _, _ => none) else r) (some true) = some b →
        fs.foldr (fun f r => if f.name ≠ "_" then (match apart P f.type xs f.offset, apart P f.type ys f.offset with
          | some u, some v => match aeq P H' d f.type u v with | some true => r | some false => some false | none => none
          | _, _ => none) else r) (some true) = some b := by
      intro fs xs ys
      induction fs with
      | nil => intro b hb; exact hb
      | cons f fs ihf =>
        intro b hb
        simp only [List.foldr_cons] at hb ⊢
        split at hb
        · rename_i q
          rw [if_pos q]
          split at hb
          · rename_i u v hu hv
            split at hb
            · rename_i e; simp only [ih _ _ _ _ e]; exact ihf b hb
            · rename_i e; simp only [ih _ _ _ _ e]; exact hb
            · cases hb
          · cases hb
        · rename_i q
          rw [if_neg q]
          exact ihf b hb
    unfold aeq at hb ⊢
    split at hb <;> try exact hb
    · rename_i e a c hu
      split at hb
      · rename_i k hs
        split at hb
        · rename_i q
          simp only [Bool.and_eq_true] at q
          rw [if_pos (by simp only [Bool.and_eq_true]; exact ⟨⟨q.1.1, ownRow_pre h q.1.2⟩, ownRow_pre h q.2⟩)]
          exact hb
        · cases hb
      · cases hb
    · rename_i tx vx ty vy hu
      split at hb
      · rename_i q; rw [if_pos q]; exact hb
      · rename_i q
        rw [if_neg q]
        split at hb
        · rename_i i hi
          split at hb
          · rename_i q; rw [if_pos q]; exact ih _ _ _ _ hb
          · cases hb
        · cases hb
    · rename_i fields xs ys hu
      split at hb
      · cases hb
      · rename_i q
        rw [if_neg q]
        exact fold _ _ _ _ hb
theorem abin_pre {H H' : AHeap} (h : H <+: H') {op : BinOp} {t : TypeId} {xo yo : Operand} {x y v : Value} (hl : abin P H op t xo yo x y = some v) : abin P H' op t xo yo x y = some v := by
  unfold abin at hl ⊢
  split at hl <;> try exact hl
  · split at hl
    · simp only [Option.map_eq_some_iff] at hl
      obtain ⟨b, h1, h2⟩ := hl
      rename_i q
      rw [if_pos q, aeq_pre h _ _ _ _ _ h1]
      simp [h2]
    · cases hl
  · split at hl
    · simp only [Option.map_eq_some_iff] at hl
      obtain ⟨b, h1, h2⟩ := hl
      rename_i q
      rw [if_pos q, aeq_pre h _ _ _ _ _ h1]
      simp [h2]
    · cases hl
theorem entriesOf_pre {H H' : AHeap} (h : H <+: H') {m : Value} {es : Array MapEntry} (hl : entriesOf H m = some es) : entriesOf H' m = some es := by
  unfold entriesOf at hl ⊢
  split at hl <;> try exact hl
  split at hl
  · rename_i q; rw [pre_get h q]; exact hl
  · cases hl
theorem alookup_pre {H H' : AHeap} (h : H <+: H') {t : TypeId} {m k v : Value} {ok : Bool} (hl : alookup P H t m k ok = some v) : alookup P H' t m k ok = some v := by
  unfold alookup at hl ⊢
  cases hm : mapT P t with
  | none => simp [hm] at hl
  | some p =>
    simp only [hm, Option.bind_some] at hl ⊢
    cases he : entriesOf H m with
    | none => simp [he] at hl
    | some es => rw [entriesOf_pre h he]; rw [he] at hl; exact hl
theorem alen_pre {H H' : AHeap} (h : H <+: H') {t : TypeId} {m v : Value} (hl : alen P H t m = some v) : alen P H' t m = some v := by
  unfold alen at hl ⊢
  split at hl <;> try exact hl
  simp only [Option.map_eq_some_iff] at hl ⊢
  obtain ⟨es, h1, h2⟩ := hl
  exact ⟨es, entriesOf_pre h h1, h2⟩
theorem mapIterOf_pre {H H' : AHeap} (h : H <+: H') {v : Value} {p} (hl : mapIterOf H v = some p) : mapIterOf H' v = some p := by
  unfold mapIterOf at hl ⊢
  split at hl
  · split at hl
    · rename_i q; rw [pre_get h q]; exact hl
    · cases hl
  · cases hl
theorem aentry_pre {H H' : AHeap} (h : H <+: H') {it v : Value} (hl : aentry H it = some v) : aentry H' it = some v := by
  unfold aentry at hl ⊢
  cases hm : mapIterOf H it with
  | none => simp [hm] at hl
  | some p =>
    obtain ⟨r, m, s, sn, la⟩ := p
    rw [mapIterOf_pre h hm]
    simp only [hm, Option.bind_some] at hl ⊢
    cases m with
    | none => exact hl
    | some m =>
      simp only at hl ⊢
      split at hl
      · rename_i q; rw [pre_get h q]; exact hl
      · cases hl
theorem aToStr_pre {H H' : AHeap} (h : H <+: H') {x v : Value} (hl : aToStr H x = some v) : aToStr H' x = some v := by
  unfold aToStr at hl ⊢
  split at hl <;> try exact hl
  rename_i a n _
  split at hl
  · rename_i q; rw [if_pos q]; exact hl
  · rename_i q
    rw [if_neg q]
    simp only [Option.bind_eq_some_iff] at hl ⊢
    obtain ⟨cs, h1, h2⟩ := hl
    exact ⟨cs, aload_pre h h1, h2⟩
theorem aslice_pre {H H' : AHeap} (h : H <+: H') {t : TypeId} {x v : Value} {lo hi mx : Option Value} (hl : aslice P H t x lo hi mx = some v) : aslice P H' t x lo hi mx = some v := by
  unfold aslice at hl ⊢
  split at hl <;> try exact hl
  simp only [Option.bind_eq_some_iff] at hl ⊢
  obtain ⟨k, h0, hl⟩ := hl
  refine ⟨k, h0, ?_⟩
  split at hl <;> try exact hl
  simp only [Option.bind_eq_some_iff] at hl ⊢
  obtain ⟨p, h1, q, h2, hl⟩ := hl
  refine ⟨p, h1, q, h2, ?_⟩
  split at hl <;> try exact hl
  split at hl
  · rename_i c; rw [if_pos c]; exact hl
  · rename_i c
    rw [if_neg c]
    split at hl
    · rename_i c'
      rw [if_pos c']
      split at hl
      · rename_i c2; rw [if_pos (rowOf_pre h c2)]; exact hl
      · cases hl
    · rename_i c'; rw [if_neg c']; exact hl
theorem aread_pre {H H' : AHeap} (h : H <+: H') {T : Tm} {o : Oper} {v : Value} (hl : aread P T o H = some v) : aread P T o H' = some v := by
  unfold aread at hl ⊢
  split at hl <;> try exact hl
  · exact abin_pre h hl
  · split at hl <;> try exact hl
    split at hl
    · simp only [if_true]; exact aToStr_pre h hl
    · cases hl
  · exact aslice_pre h hl
  · exact aloadT_pre h hl
  · exact alookup_pre h hl
  · exact aentry_pre h hl
  · split at hl
    · exact alen_pre h hl
    · cases hl
theorem recheck_pre {ops : Array Oper} {H H' : AHeap} (h : H <+: H') {r : Rec} (hr : recheck P ops H r) : recheck P ops H' r := by
  unfold recheck at hr ⊢
  split
  · trivial
  · rename_i o hs ho
    simp only [hs, ho] at hr
    split at hr
    · exact aread_pre h hr
    · exact bindO_mono hr fun p hp => pre_get h hp
  · rename_i hs ho; simp only [hs, ho] at hr
def freeOp (o : Oper) : Bool :=
  match o.op with
  | .move _ | .assign _ | .pick .. | .nilCheck _ | .unOp .. | .makeInterface .. | .makeFunc .. | .field .. | .index .. | .fieldAddr .. | .indexAddr .. | .build .. | .extract .. => true
  | _ => false
def freeAt (ops : Array Oper) (j : Nat) : Bool := match ops[j]? with | some o => freeOp o | none => false
theorem recheck_free {ops : Array Oper} {H H' : AHeap} {r : Rec} (hf : freeAt ops r.i = true) (h : recheck P ops H r) : recheck P ops H' r := by
  unfold recheck at h ⊢
  split
  · trivial
  · rename_i o hs ho
    simp only [hs, ho] at h
    simp only [freeAt, ho] at hf
    have e : aread P r.T o H' = aread P r.T o H := by
      obtain ⟨d, op, ty, pos, aft, gd⟩ := o
      cases op <;> first | rfl | simp [freeOp] at hf
    split
    · rename_i hid
      simp only [hid] at h
      rw [e]; exact h
    · rename_i hid
      simp only [hid] at h
      obtain ⟨p, hp, _⟩ := bindO_iff.1 h
      obtain ⟨d, op, ty, pos, aft, gd⟩ := o
      cases op <;> first | (simp [aalloc] at hp; done) | simp [freeOp] at hf
  · rename_i hs ho; simp only [hs, ho] at h
def mkPlan (P : Program) (an : List Nat) (ops : Array Oper) : List (Nat × Bool) → List Nat → List Nat → Option (List (Nat × List Nat))
  | [], _, _ => some []
  | (i, b) :: is, seen, good =>
    match ops[i]? with
    | none => none
    | some o =>
      if cls P o = .eff then
        let chk := seen.filter fun j => !(an.getD i 0).testBit j
        if b then (if chk.all good.contains then (mkPlan P an ops is (i :: seen) good).map ((i, chk) :: ·) else none)
        else (if chk.all (fun j => good.contains j && freeAt ops j) then (mkPlan P an ops is (i :: seen) (good.filter (freeAt ops))).map ((i, chk) :: ·) else none)
      else (mkPlan P an ops is (i :: seen) (i :: good)).map ((i, []) :: ·)
def planOk2 (P : Program) (ops : Array Oper) (order : List (Nat × Bool)) : Bool :=
  match mkPlan P (ancs ops) ops order [] [] with
  | some plan => planOk P ops plan
  | none => false
def adraw2 (P : Program) (l : List Oper) (K : Tm → AHeap → Prop) : List (Nat × Bool) → Tm → AHeap → Prop
  | [], T, H => K T H
  | (i, b) :: is, T, H => bindO (opAt l i) fun o => bindO (aguard l.toArray T o) fun g =>
      acond g (aop P T o H fun v H' => (b = true → H <+: H') ∧ adraw2 P l K is (T.put o.dst v) H') (adraw2 P l K is (T.put o.dst undef) H)
theorem rechecks_of {ops : Array Oper} {H : AHeap} {chk : List Nat} : ∀ {rs : List Rec}, (∀ r ∈ rs, r.i ∈ chk → recheck P ops H r) → rechecks P ops H chk rs
  | [], _ => trivial
  | r :: rs, h => ⟨by
      split
      · rename_i q; exact h r (List.mem_cons_self ..) (by simpa using q)
      · trivial, rechecks_of fun r' hr => h r' (List.mem_cons_of_mem _ hr)⟩
theorem adraw_of2 {l : List Oper} {an : List Nat} {K : Tm → AHeap → Prop} : ∀ (is : List (Nat × Bool)) (seen good : List Nat) (plan : List (Nat × List Nat)) (recs : List Rec) (T : Tm) (H : AHeap),
    mkPlan P an l.toArray is seen good = some plan → (∀ r ∈ recs, r.i ∈ seen) → (∀ i ∈ good, i ∈ seen) → (∀ r ∈ recs, r.i ∈ good → recheck P l.toArray H r) → (∀ i ∈ is.map Prod.fst, i ∉ seen) → (is.map Prod.fst).Nodup → adraw2 P l K is T H → adraw P l.toArray K plan recs T H
  | [], _, _, plan, recs, T, H, hp, _, _, _, _, _, h => by
    simp only [mkPlan, Option.some.injEq] at hp
    subst hp
    exact h
  | (i, b) :: is, seen, good, plan, recs, T, H, hp, hs, hgs, hg, hn, hnd, h => by
    simp only [adraw2] at h
    obtain ⟨o, ho, h1⟩ := bindO_iff.1 h
    rw [opAt_eq] at ho
    have ho' : l.toArray[i]? = some o := by simpa using ho
    simp only [mkPlan, ho'] at hp
    have hi : i ∉ seen := hn i (by simp)
    simp only [List.map_cons, List.nodup_cons] at hnd
    have hn' : ∀ j ∈ is.map Prod.fst, j ∉ i :: seen := fun j hj hm => by
      rcases List.mem_cons.1 hm with rfl | hm
      · exact hnd.1 hj
      · exact hn j (by simp at hj ⊢; exact .inr hj) hm
    by_cases hc : cls P o = .eff
    · rw [if_pos hc] at hp
      cases b with
      | true =>
        simp only [if_true] at hp
        split at hp
        · rename_i q
          simp only [Option.map_eq_some_iff] at hp
          obtain ⟨pl, hp, rfl⟩ := hp
          simp only [adraw]
          refine bindO_iff.2 ⟨o, ho', bindO_mono h1 fun g hgd => acond_mono hgd (fun hq => ?_) (fun hq => ?_)⟩
          · simp only [hc]
            refine aop_mono (fun v H' ⟨h3, h4⟩ => ⟨?_, ?_⟩) hq
            · refine rechecks_of fun r hr hj => recheck_pre (h3 rfl) (hg r hr ?_)
              have := List.all_eq_true.1 q _ hj
              simpa using this
            · exact adraw_of2 is (i :: seen) good pl recs _ _ hp (fun r hr => List.mem_cons_of_mem _ (hs r hr)) (fun j hj => List.mem_cons_of_mem _ (hgs j hj)) (fun r hr hj => recheck_pre (h3 rfl) (hg r hr hj)) hn' hnd.2 h4
          · simp only [hc]
            exact adraw_of2 is (i :: seen) good pl recs _ _ hp (fun r hr => List.mem_cons_of_mem _ (hs r hr)) (fun j hj => List.mem_cons_of_mem _ (hgs j hj)) hg hn' hnd.2 hq
        · cases hp
      | false =>
        simp only [Bool.false_eq_true, if_false] at hp
        split at hp
        · rename_i q
          simp only [Option.map_eq_some_iff] at hp
          obtain ⟨pl, hp, rfl⟩ := hp
          simp only [adraw]
          have gf : ∀ j ∈ good.filter (freeAt l.toArray), j ∈ good ∧ freeAt l.toArray j = true := fun j hj => List.mem_filter.1 hj
          refine bindO_iff.2 ⟨o, ho', bindO_mono h1 fun g hgd => acond_mono hgd (fun hq => ?_) (fun hq => ?_)⟩
          · simp only [hc]
            refine aop_mono (fun v H' ⟨_, h4⟩ => ⟨?_, ?_⟩) hq
            · refine rechecks_of fun r hr hj => ?_
              have := List.all_eq_true.1 q _ hj
              simp only [Bool.and_eq_true] at this
              exact recheck_free this.2 (hg r hr (by simpa using this.1))
            · exact adraw_of2 is (i :: seen) _ pl recs _ _ hp (fun r hr => List.mem_cons_of_mem _ (hs r hr)) (fun j hj => List.mem_cons_of_mem _ (hgs j (gf j hj).1)) (fun r hr hj => recheck_free (gf _ hj).2 (hg r hr (gf _ hj).1)) hn' hnd.2 h4
          · simp only [hc]
            exact adraw_of2 is (i :: seen) _ pl recs _ _ hp (fun r hr => List.mem_cons_of_mem _ (hs r hr)) (fun j hj => List.mem_cons_of_mem _ (hgs j (gf j hj).1)) (fun r hr hj => hg r hr (gf _ hj).1) hn' hnd.2 hq
        · cases hp
    · rw [if_neg hc] at hp
      simp only [Option.map_eq_some_iff] at hp
      obtain ⟨pl, hp, rfl⟩ := hp
      simp only [adraw]
      have old : ∀ {H' : AHeap}, H <+: H' → ∀ r ∈ recs, r.i ∈ i :: good → recheck P l.toArray H' r := fun hpre r hr hj => by
        rcases List.mem_cons.1 hj with rfl | hj
        · exact absurd (hs r hr) hi
        · exact recheck_pre hpre (hg r hr hj)
      refine bindO_iff.2 ⟨o, ho', bindO_mono h1 fun g hgd => acond_mono hgd (fun hq => ?_) (fun hq => ?_)⟩
      · cases hcl : cls P o with
        | eff => exact absurd hcl hc
        | read =>
          simp only
          have := aop_read hcl hq
          obtain ⟨v, hv, hv2⟩ := bindO_iff.1 this
          refine bindO_iff.2 ⟨v, hv, ?_⟩
          refine adraw_of2 is (i :: seen) (i :: good) pl _ _ _ hp (fun r hr => ?_) (fun j hj => ?_) (fun r hr hj => ?_) hn' hnd.2 hv2.2
          · rcases List.mem_cons.1 hr with rfl | hr
            · exact List.mem_cons_self ..
            · exact List.mem_cons_of_mem _ (hs r hr)
          · rcases List.mem_cons.1 hj with rfl | hj
            · exact List.mem_cons_self ..
            · exact List.mem_cons_of_mem _ (hgs j hj)
          · rcases List.mem_cons.1 hr with rfl | hr
            · simp only [recheck, ho']; exact hv
            · exact old (List.prefix_refl _) r hr hj
        | alloc =>
          simp only
          have := aop_alloc' hcl hq
          obtain ⟨p, hv, hv2⟩ := bindO_iff.1 this
          refine bindO_iff.2 ⟨p, hv, ?_⟩
          refine adraw_of2 is (i :: seen) (i :: good) pl _ _ _ hp (fun r hr => ?_) (fun j hj => ?_) (fun r hr hj => ?_) hn' hnd.2 hv2.2
          · rcases List.mem_cons.1 hr with rfl | hr
            · exact List.mem_cons_self ..
            · exact List.mem_cons_of_mem _ (hs r hr)
          · rcases List.mem_cons.1 hj with rfl | hj
            · exact List.mem_cons_self ..
            · exact List.mem_cons_of_mem _ (hgs j hj)
          · rcases List.mem_cons.1 hr with rfl | hr
            · simp only [recheck, ho']; exact bindO_iff.2 ⟨p, hv, by simp⟩
            · exact old (pre_add _ _) r hr hj
      · have skp : ∀ rec : Rec, rec.i = i → rec.skip = true → adraw P l.toArray K pl (rec :: recs) (T.put o.dst undef) H := fun rec e1 e2 => by
          refine adraw_of2 is (i :: seen) (i :: good) pl _ _ _ hp (fun r hr => ?_) (fun j hj => ?_) (fun r hr hj => ?_) hn' hnd.2 hq
          · rcases List.mem_cons.1 hr with rfl | hr
            · rw [e1]; exact List.mem_cons_self ..
            · exact List.mem_cons_of_mem _ (hs r hr)
          · rcases List.mem_cons.1 hj with rfl | hj
            · exact List.mem_cons_self ..
            · exact List.mem_cons_of_mem _ (hgs j hj)
          · rcases List.mem_cons.1 hr with rfl | hr
            · simp only [recheck, e2]
            · exact old (List.prefix_refl _) r hr hj
        cases hcl : cls P o with
        | eff => exact absurd hcl hc
        | read => exact skp _ rfl rfl
        | alloc => exact skp _ rfl rfl
theorem adrawnP_of2 {l : List Oper} {K : Tm → AHeap → Prop} {T : Tm} {H : AHeap} {t1 : Tok l.toArray} {t2 : Tok K} {t3 : Tok T} {t4 : Tok H} (order : List (Nat × Bool)) (hp : (planOk2 P l.toArray order && decide ((order.map Prod.fst).Nodup)) = true)
    (h : adraw2 P l K order T H) : adrawnP P l.toArray K T H t1 t2 t3 t4 := by
  simp only [Bool.and_eq_true, decide_eq_true_eq] at hp
  obtain ⟨hp, hnd⟩ := hp
  unfold planOk2 at hp
  split at hp
  · rename_i plan hm
    exact ⟨plan, hp, adraw_of2 order [] [] plan [] T H hm (fun r hr => by simp at hr) (fun r hr => by simp at hr) (fun r hr => by simp at hr) (fun r hr => by simp) hnd h⟩
  · cases hp
def adstep2 (P : Program) (l : List Oper) (K : Tm → AHeap → Prop) (b : Bool) (is : List (Nat × Bool)) (T : Tm) (H : AHeap) (o : Oper) : Prop :=
  bindO (aguard l.toArray T o) fun g => acond g (aop P T o H fun v H' => (b = true → H <+: H') ∧ adraw2 P l K is (T.put o.dst v) H') (adraw2 P l K is (T.put o.dst undef) H)
def grown (b : Bool) (H H' : AHeap) (A : Prop) (_ : Tok A) : Prop := (b = true → H <+: H') ∧ A
theorem grown_false (H H' : AHeap) (A : Prop) (t : Tok A) : grown false H H' A t = A := by simp [grown]
theorem grown_any {b : Bool} {H H' : AHeap} {A : Prop} {t : Tok A} (h : H <+: H') (ha : A) : grown b H H' A t := ⟨fun _ => h, ha⟩
theorem grown_refl (b : Bool) (H : AHeap) (A : Prop) (t : Tok A) : grown b H H A t = A := by simp [grown]
section
variable (P : Program) (l : List Oper) (K : Tm → AHeap → Prop) (T : Tm) (H : AHeap) (b : Bool)
theorem adraw2_nil : adraw2 P l K [] T H = K T H := (rfl)
def adopen2 (os : List Oper) (i : Nat) (is : List (Nat × Bool)) : Prop := bindO (opAt os i) fun o => adstep2 P l K b is T H o
theorem adraw2_cons (i : Nat) (is : List (Nat × Bool)) : adraw2 P l K ((i, b) :: is) T H = adopen2 P l K T H b l i is := (rfl)
theorem adopen2_zero (o : Oper) (os : List Oper) (is : List (Nat × Bool)) : adopen2 P l K T H b (o :: os) 0 is = adstep2 P l K b is T H o := (rfl)
theorem adopen2_succ (o : Oper) (os : List Oper) (i : Nat) (is : List (Nat × Bool)) : adopen2 P l K T H b (o :: os) (i + 1) is = adopen2 P l K T H b os i is := (rfl)
theorem adstep2_none (is : List (Nat × Bool)) (d : Option Tmp) (op : Op) (ty : TypeId) (pos : String) (aft : Array Edge) :
    adstep2 P l K b is T H ⟨d, op, ty, pos, aft, none⟩ = aop P T ⟨d, op, ty, pos, aft, none⟩ H fun v H' => grown b H H' (adraw2 P l K is (T.put d v) H') (tk _) := (rfl)
theorem adstep2_some (is : List (Nat × Bool)) (d : Option Tmp) (op : Op) (ty : TypeId) (pos : String) (aft : Array Edge) (g : Nat × Bool) :
    adstep2 P l K b is T H ⟨d, op, ty, pos, aft, some g⟩ = bindP (aguard l.toArray T ⟨d, op, ty, pos, aft, some g⟩) (fun q => acondP q (aop P T ⟨d, op, ty, pos, aft, some g⟩ H fun v H' => grown b H H' (adraw2 P l K is (T.put d v) H') (tk _)) (adraw2 P l K is (T.put d undef) H) (tk _) (tk _)) (tk _) := (rfl)
end
attribute [go_sem ↓] adraw2_nil adraw2_cons adopen2_zero adopen2_succ adstep2_none adstep2_some
attribute [go_sem] grown_false grown_refl
end Go.AW
namespace Go.AW
open Go
variable {P : Program}
def fillF (place : Nat → Option (Nat × Nat)) (cells : List Value) : List (Nat × Value) → Option (List Value)
  | [] => some cells
  | (i, v) :: r => (place i).bind fun p => if v.cells.size = p.2 ∧ p.1 + p.2 ≤ cells.length then fillF place (cells.take p.1 ++ v.cells.toList ++ cells.drop (p.1 + p.2)) r else none
theorem setMany_list : ∀ (vs : List Value) (off n : Nat) (c : Array Value), off + n + vs.length ≤ c.size →
    ((vs.zipIdx n).foldl (fun cs (x : Value × Nat) => cs.setIfInBounds (off + x.2) x.1) c).toList = c.toList.take (off + n) ++ vs ++ c.toList.drop (off + n + vs.length)
  | [], off, n, c, h => by simp
  | v :: vs, off, n, c, h => by
    simp only [List.zipIdx_cons, List.foldl_cons]
    rw [setMany_list vs off (n + 1) _ (by simp at h ⊢; omega)]
    have hlt : off + n < c.toList.length := by simp at h ⊢; omega
    simp only [Array.toList_setIfInBounds, List.length_cons]
    rw [show off + (n + 1) = (off + n) + 1 by omega, List.take_add_one, List.getElem?_set_self hlt, List.take_set_of_le (Nat.le_refl _)]
    rw [List.drop_set_of_lt (by omega)]
    simp only [Option.toList_some, List.append_assoc, List.cons_append, List.nil_append]
    rw [show off + n + 1 + vs.length = off + n + (vs.length + 1) by omega]
theorem fill_eq (place : Nat → Option (Nat × Nat)) : ∀ (ps : List (Nat × Value)) (c : Array Value), Instr.fill place c ps = (fillF place c.toList ps).map List.toArray
  | [], c => by simp [Instr.fill, fillF]
  | (i, v) :: r, c => by
    unfold Instr.fill fillF
    cases hp : place i with
    | none => simp
    | some p =>
      obtain ⟨off, n⟩ := p
      simp only [Option.bind_some]
      by_cases h : v.cells.size = n ∧ off + n ≤ c.toList.length
      · rw [if_pos h, if_neg (by simp only [Array.length_toList] at h; simp; omega)]
        rw [fill_eq place r]
        have e : (v.cells.zipIdx.foldl (fun cs x => cs.setIfInBounds (off + x.2) x.1) c) = ((v.cells.toList.zipIdx 0).foldl (fun cs (x : Value × Nat) => cs.setIfInBounds (off + x.2) x.1) c) := by
          rw [← Array.foldl_toList, Array.toList_zipIdx]
        have hs := setMany_list v.cells.toList off 0 c (by simp at h ⊢; omega)
        have hsz : v.cells.toList.length = n := by simpa using h.1
        rw [Nat.add_zero, hsz] at hs
        rw [← hs]
        simp only [e]
      · rw [if_neg h, if_pos (by
          simp only [Array.length_toList] at h
          simp only [ne_eq, Bool.or_eq_true, decide_eq_true_eq]
          by_cases h1 : v.cells.size = n
          · right; omega
          · left; exact h1)]
        simp
def zeros (z : List Value) : Nat → List Value
  | 0 => []
  | n + 1 => z ++ zeros z n
theorem zeros_len (z : List Value) (n : Nat) : (zeros z n).length = n * z.length := by
  induction n with
  | zero => simp [zeros]
  | succ n ih => simp [zeros, ih, Nat.add_mul]; omega
theorem zeros_get (z : List Value) (k : Nat) (hk : z.length = k) (hk0 : 0 < k) : ∀ (n i : Nat), i < n * k → (zeros z n)[i]? = z[i % k]?
  | 0, i, h => by simp at h
  | n + 1, i, h => by
    simp only [zeros]
    by_cases hi : i < k
    · rw [List.getElem?_append_left (by omega), Nat.mod_eq_of_lt hi]
    · rw [List.getElem?_append_right (by omega), hk, zeros_get z k hk hk0 n (i - k) (by rw [Nat.add_mul] at h; omega), Nat.mod_eq_sub_mod (a := i) (by omega)]
theorem range_zeros (z : Array Value) (n k : Nat) (hk : z.size = k) (hk0 : 0 < k) : ((Array.range (n * k)).map fun x => z[x % z.size]!).toList = zeros z.toList n := by
  apply List.ext_getElem?
  intro i
  by_cases hi : i < n * k
  · rw [zeros_get z.toList k (by simpa using hk) hk0 n i hi]
    have hm : i % k < z.size := by rw [hk]; exact Nat.mod_lt _ hk0
    simp [hi, hk]
    rw [Array.getElem?_eq_getElem hm, getElem!_pos z _ hm]
  · rw [List.getElem?_eq_none (by simp; omega), List.getElem?_eq_none (by rw [zeros_len]; simp [hk]; omega)]
def bsRow (z : List Value) (k n : Nat) (ps : List (Nat × Value)) : Option AObj := if n * k ≤ 16777216 then (fillF (fun i => some (i * k, k)) (zeros z n) ps).map fun cs => .row cs k true else none
theorem bs_eq {T : Tm} {d : Option Tmp} {ty : TypeId} {pos : String} {aft : Array Edge} {gd : Option (Nat × Bool)} {t e k : Nat} {z : Value} (he : elemT P t = some e) (hs : szT P e = some k) (hz : zeroT P e = some z) (hp : plainV 100 z = true) (hzs : z.cells.size = k) (hk : 0 < k) (n : Nat) (ps : Array (Nat × Operand)) :
    aalloc P T ⟨d, .buildSlice t n ps, ty, pos, aft, gd⟩ = (bsRow z.cells.toList k n (ps.toList.map fun p => (p.1, aev T p.2))).map fun o => (o, fun id => .slice (some ⟨id, 0, none⟩) n n) := by
  simp only [aalloc, he, hs, hz, Option.bind_some, bsRow]
  by_cases hn : n * k ≤ 2 ^ 24
  · rw [if_pos ⟨hn, hk, hp, hzs⟩, if_pos (by simpa using hn), fill_eq, range_zeros _ _ _ hzs hk]
    cases fillF (fun i => some (i * k, k)) (zeros z.cells.toList n) (ps.toList.map fun p => (p.1, aev T p.2)) <;> simp
  · rw [if_neg (fun h => hn h.1), if_neg (by simpa using hn)]; simp
theorem bd_eq {t : Nat} {z : Value} {fs : Array Field} {pl : List (Nat × Nat)} (hz : zeroT P t = some z) (hp : plainV 100 z = true) (hu : P.underlying t = some (.struct fs))
    (hpl : mapOpt (fun (f : Field) => (szT P f.type).map fun n => (f.offset, n)) fs.toList = some pl) (ps : List (Nat × Value)) :
    abuild P t ps = (fillF (fun i => pl[i]?) z.cells.toList ps).map fun cs => .agg cs.toArray := by
  simp only [abuild, hz, Option.bind_some, hp, if_true, hu, hpl, fill_eq, Option.map_map]
  rfl
theorem fillF_nil (place : Nat → Option (Nat × Nat)) (cs : List Value) : fillF place cs [] = some cs := (rfl)
theorem fillF_cons (place : Nat → Option (Nat × Nat)) (cs : List Value) (i : Nat) (v : Value) (r : List (Nat × Value)) :
    fillF place cs ((i, v) :: r) = (place i).bind fun p => if v.cells.size = p.2 ∧ p.1 + p.2 ≤ cs.length then fillF place (cs.take p.1 ++ v.cells.toList ++ cs.drop (p.1 + p.2)) r else none := (rfl)
theorem bsRow_eq (z : List Value) (k n : Nat) (ps : List (Nat × Value)) : bsRow z k n ps = if n * k ≤ 16777216 then (fillF (fun i => some (i * k, k)) (zeros z n) ps).map fun cs => .row cs k true else none := (rfl)
theorem zeros_zero (z : List Value) : zeros z 0 = [] := (rfl)
theorem zeros_succ (z : List Value) (n : Nat) : zeros z (n + 1) = z ++ zeros z n := (rfl)
theorem oneCell_int (k : IntKind) (n : Int) : oneCell (.int k n) = true := (rfl)
theorem oneCell_bool (b : Bool) : oneCell (.bool b) = true := (rfl)
theorem oneCell_string (b : ByteArray) : oneCell (.string b) = true := (rfl)
theorem oneCell_slice (a : Option Addr) (n c : Nat) : oneCell (.slice a n c) = true := (rfl)
theorem oneCell_pointer (a : Option Addr) : oneCell (.pointer a) = true := (rfl)
theorem oneCell_map (a : Option Nat) : oneCell (.map a) = true := (rfl)
attribute [go_sem] fillF_nil fillF_cons bsRow_eq zeros_zero zeros_succ List.take_zero List.take_succ_cons List.drop_zero List.drop_succ_cons List.take_nil List.drop_nil and_self and_true true_and List.toList_toArray Nat.le_refl List.all_cons List.all_nil Bool.and_true Bool.and_self oneCell_int oneCell_bool oneCell_string oneCell_slice oneCell_pointer oneCell_map
end Go.AW
end
section
set_option linter.unusedVariables false
set_option linter.unusedSimpArgs false
namespace Go.AW
open Go
variable {P : Program}
def andO (a b : Option Bool) : Option Bool := match a with | some true => b | some false => some false | none => none
theorem andO_some (a b : Bool) : andO (some a) (some b) = some (a && b) := by cases a <;> rfl
def eqPart (P : Program) (H : AHeap) (d : Nat) (t off : Nat) (xs ys : List Value) : Option Bool :=
  (apart P t xs.toArray off).bind fun u => (apart P t ys.toArray off).bind fun v => aeq P H d t u v
def eqParts (P : Program) (H : AHeap) (d : Nat) (xs ys : List Value) : List (Nat × Nat) → Option Bool
  | [] => some true
  | (t, off) :: r => andO (eqPart P H d t off xs ys) (eqParts P H d xs ys r)
def partsOf (fs : List Field) : List (Nat × Nat) := (fs.filter (·.name ≠ "_")).map fun f => (f.type, f.offset)
theorem aeq_struct {t : Nat} {fs : Array Field} {ps : List (Nat × Nat)} (hu : P.underlying t = some (.struct fs)) (hs : P.stoodInHeld t = false) (hp : partsOf fs.toList = ps) (H : AHeap) (d : Nat) (xs ys : List Value) :
    aeq P H (d + 1) t (.agg xs.toArray) (.agg ys.toArray) = eqParts P H d xs ys ps := by
  subst hp
  unfold aeq
  simp only [hu, hs, Bool.false_eq_true, if_false]
  generalize fs.toList = l
  induction l with
  | nil => rfl
  | cons f l ih =>
    simp only [List.foldr_cons, partsOf]
    by_cases hn : f.name = "_"
    · simp only [hn, ne_eq, not_true_eq_false, if_false]
      rw [ih]
      simp [partsOf, hn]
    · rw [if_pos hn, ih]
      simp only [List.filter_cons, ne_eq, hn, not_false_eq_true, decide_true, if_true, List.map_cons, eqParts, eqPart, partsOf]
      cases apart P f.type xs.toArray f.offset with
      | none => rfl
      | some u =>
        cases apart P f.type ys.toArray f.offset with
        | none => rfl
        | some v =>
          simp only [Option.bind_some]
          cases aeq P H d f.type u v with
          | none => rfl
          | some b => cases b <;> rfl
theorem aeq_int {t : Nat} {k : IntKind} (hu : P.underlying t = some (.int k)) (H : AHeap) (d : Nat) (a b : Int) : aeq P H (d + 1) t (.int k a) (.int k b) = some (a == b) := by
  unfold aeq; simp [hu]
theorem aeq_string {t : Nat} (hu : P.underlying t = some .string) (H : AHeap) (d : Nat) (a b : ByteArray) : aeq P H (d + 1) t (.string a) (.string b) = some (a == b) := by
  unfold aeq; simp [hu]
theorem apart_one {t : Nat} (ha : aggT P t = some false) (l : List Value) (off : Nat) : apart P t l.toArray off = l[off]? := by simp [apart, ha]
theorem apart_agg {t n : Nat} (ha : aggT P t = some true) (hs : szT P t = some n) (l : List Value) (off : Nat) : apart P t l.toArray off = some (.agg ((l.drop off).take n).toArray) := by simp [apart, ha, hs]
theorem eqParts_nil (H : AHeap) (d : Nat) (xs ys : List Value) : eqParts P H d xs ys [] = some true := (rfl)
theorem eqParts_cons (H : AHeap) (d t off : Nat) (xs ys : List Value) (r : List (Nat × Nat)) : eqParts P H d xs ys ((t, off) :: r) = andO (eqPart P H d t off xs ys) (eqParts P H d xs ys r) := (rfl)
theorem eqPart_eq (H : AHeap) (d t off : Nat) (xs ys : List Value) : eqPart P H d t off xs ys = (apart P t xs.toArray off).bind fun u => (apart P t ys.toArray off).bind fun v => aeq P H d t u v := (rfl)
theorem abin_agg {t : Nat} {x y : List Value} {b : Bool} (hg : P.eqGuardType P.depth t = false) (H : AHeap) (xo yo : Operand) (h : aeq P H 10000 t (.agg x.toArray) (.agg y.toArray) = some b) :
    abin P H .eql t xo yo (.agg x.toArray) (.agg y.toArray) = some (.bool b) := by
  show (if aeqGuard P t xo yo _ _ then _ else _) = _
  simp [aeqGuard, hg, h]
theorem abin_agg_ne {t : Nat} {x y : List Value} {b : Bool} (hg : P.eqGuardType P.depth t = false) (H : AHeap) (xo yo : Operand) (h : aeq P H 10000 t (.agg x.toArray) (.agg y.toArray) = some b) :
    abin P H .neq t xo yo (.agg x.toArray) (.agg y.toArray) = some (.bool !b) := by
  show (if aeqGuard P t xo yo _ _ then _ else _) = _
  simp [aeqGuard, hg, h]
def chkParts (P : Program) (d : Nat) (xs : List Value) : List (Nat × Nat) → Bool
  | [] => true
  | (t, off) :: r => (match apart P t xs.toArray off with | some u => acheck P d t u | none => false) && chkParts P d xs r
theorem acheck_struct {t : Nat} {fs : Array Field} {ps : List (Nat × Nat)} (hu : P.underlying t = some (.struct fs)) (hp : (fs.toList.map fun f => (f.type, f.offset)) = ps) (d : Nat) (xs : List Value) :
    acheck P (d + 1) t (.agg xs.toArray) = chkParts P d xs ps := by
  subst hp
  unfold acheck
  simp only [hu]
  generalize fs.toList = l
  induction l with
  | nil => rfl
  | cons f l ih => simp only [List.all_cons, List.map_cons, chkParts, ih]; rfl
def leafT (P : Program) (t : Nat) : Bool := match P.underlying t with | some (.interface _) | some (.array _ _) | some (.struct _) | none => false | some _ => true
theorem acheck_leaf {t : Nat} (h : leafT P t = true) (d : Nat) (v : Value) : acheck P (d + 1) t v = true := by
  unfold leafT at h
  unfold acheck
  split <;> simp_all
theorem chkParts_nil (d : Nat) (xs : List Value) : chkParts P d xs [] = true := (rfl)
theorem chkParts_one {t off d : Nat} {xs : List Value} {r : List (Nat × Nat)} {u : Value} (h : apart P t xs.toArray off = some u) (hc : acheck P d t u = true) (hr : chkParts P d xs r = true) : chkParts P d xs ((t, off) :: r) = true := by
  simp [chkParts, h, hc, hr]
def plain1 : Value → Bool
  | .bool _ | .int _ _ | .string _ => true
  | _ => false
theorem plainV_of1 {v : Value} (h : plain1 v = true) (d : Nat) : plainV d v = true := by
  cases v <;> first | (simp [plain1] at h; done) | (cases d <;> simp [plainV])
theorem plainV_agg {l : List Value} (h : l.all plain1 = true) (d : Nat) : plainV (d + 1) (.agg l.toArray) = true := by
  simp only [plainV]
  rw [List.all_eq_true] at h ⊢
  exact fun v hv => plainV_of1 (h v hv) d
theorem keyOk_of {kt : Nat} {k : Value} (h1 : acheck P 100 kt k = true) (h2 : plainV 100 k = true) : keyOk P kt k = true := by simp [keyOk, h1, h2]
def guardDst : List Oper → Nat → Option Tmp
  | [], _ => none
  | o :: _, 0 => o.dst
  | _ :: os, n + 1 => guardDst os n
def guardIs (v : Value) (w : Bool) : Option Bool := match v with | .bool b => some (b == w) | .tuple _ => some false | _ => none
def guardAt (d : Option Tmp) (T : Tm) (w : Bool) : Option Bool := match d with | some d => guardIs (T d) w | none => none
theorem guardDst_eq (l : List Oper) (j : Nat) : guardDst l j = (l[j]?).bind (·.dst) := by
  induction l generalizing j with
  | nil => rfl
  | cons o l ih => cases j with
    | zero => rfl
    | succ j => simpa [guardDst] using ih j
theorem aguard_some (l : List Oper) (T : Tm) (d : Option Tmp) (op : Op) (ty : TypeId) (pos : String) (aft : Array Edge) (j : Nat) (w : Bool) :
    aguard l.toArray T ⟨d, op, ty, pos, aft, some (j, w)⟩ = guardAt (guardDst l j) T w := by
  simp only [aguard, guardDst_eq, List.getElem?_toArray]
  cases (l[j]?).bind (·.dst) <;> rfl
theorem guardDst_zero (o : Oper) (os : List Oper) : guardDst (o :: os) 0 = o.dst := (rfl)
theorem guardDst_succ (o : Oper) (os : List Oper) (n : Nat) : guardDst (o :: os) (n + 1) = guardDst os n := (rfl)
theorem guardAt_some (d : Tmp) (T : Tm) (w : Bool) : guardAt (some d) T w = guardIs (T d) w := (rfl)
theorem guardIs_bool (b w : Bool) : guardIs (.bool b) w = some (b == w) := (rfl)
theorem guardIs_undef (w : Bool) : guardIs undef w = some false := (rfl)
attribute [go_sem ↓] aguard_some
attribute [go_sem] guardDst_zero guardDst_succ guardAt_some guardIs_bool guardIs_undef beq_true beq_false Bool.not_true Bool.not_false Bool.false_eq_true
end Go.AW
end
