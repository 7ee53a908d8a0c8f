/-
  AW, part 24: rules for use: arithmetic, memory, drawn regions, loops.
-/
import Derived.Test.YtpehfhnmcpdllaaGreatDoorAwUse
set_option linter.unusedVariables false
set_option linter.unusedSimpArgs false
namespace Go.AW
open Go

variable {P : Program}

/-! ### drawn regions, along an order without checks -/
def opAt : List Oper → Nat → Option Oper
  | [], _ => none
  | o :: _, 0 => some o
  | _ :: os, n + 1 => opAt os n
theorem opAt_eq (l : List Oper) (n : Nat) : opAt l n = l[n]? := by
  induction l generalizing n with
  | nil => rfl
  | cons o os ih => cases n with
    | zero => rfl
    | succ n => simpa [opAt] using ih n

/-- along an order -/
def adraw0 (P : Program) (l : List Oper) (K : Tm → AHeap → Prop) : List Nat → Tm → AHeap → Prop
  | [], T, H => K T H
  | i :: is, T, H => bindO (opAt l i) fun o => bindO (aguard l.toArray T o) fun g =>
      acond g (aop P T o H fun v H' => adraw0 P l K is (T.put o.dst v) H') (adraw0 P l K is (T.put o.dst undef) H)

theorem rechecks_nil {ops : Array Oper} {H : AHeap} : ∀ {rs : List Rec}, rechecks P ops H [] rs
  | [] => trivial
  | _ :: _ => ⟨by simp, rechecks_nil⟩

theorem aop_read {T : Tm} {o : Oper} {H : AHeap} {K : Value → AHeap → Prop} (hc : cls P o = .read) (h : aop P T o H K) : bindO (aread P T o H) fun v => K v H := by
  obtain ⟨d, op, ty, pos, aft, gd⟩ := o
  unfold aop at h
  split at h
  · rename_i q; simp only at q; subst q; simp [cls] at hc
  · rename_i q; simp only at q; subst q; simp [cls] at hc
  · exact h
  · exact h
  · exact h
  · exact h
  · rename_i b a t n1 n2 n3 n0 q
    simp only at q; subst q
    exfalso
    revert hc
    cases b <;> simp [cls] <;> first | (exact (n1 rfl).elim) | (exact (n2 rfl).elim) | (exact (n3 rfl).elim) | (exact (n0 rfl).elim) | skip
  · rename_i c n0 n1 n2 n3 n4 q
    simp only at q; subst q
    exfalso
    revert hc
    obtain ⟨callee, as, ts⟩ := c
    cases callee with
    | builtin b => exact (n4 _ _ _ rfl).elim
    | value f => simp [cls]
    | invoke r m => simp [cls]
  · rw [hc] at h; exact h

theorem aop_alloc' {T : Tm} {o : Oper} {H : AHeap} {K : Value → AHeap → Prop} (hc : cls P o = .alloc) (h : aop P T o H K) : bindO (aalloc P T o) fun p => K (p.2 H.length) (H ++ [p.1]) := by
  obtain ⟨d, op, ty, pos, aft, gd⟩ := o
  unfold aop at h
  split at h
  · rename_i q; simp only at q; subst q; simp [cls] at hc
  · rename_i q; simp only at q; subst q; simp [cls] at hc
  · rename_i q; simp only at q; subst q; simp [cls] at hc
  · rename_i q; simp only at q; subst q; simp [cls] at hc
  · rename_i q; simp only at q; subst q; simp [cls] at hc
  · rename_i q; simp only at q; subst q; simp [cls] at hc
  · rename_i b a t n1 n2 n3 n0 q
    simp only at q; subst q
    exfalso
    revert hc
    cases b <;> simp [cls]
  · rename_i c n0 n1 n2 n3 n4 q
    simp only at q; subst q
    exfalso
    revert hc
    obtain ⟨callee, as, ts⟩ := c
    cases callee with
    | builtin b => exact (n4 _ _ _ rfl).elim
    | value f => simp [cls]
    | invoke r m => simp [cls]
  · rw [hc] at h; exact h

theorem adraw_of0 {l : List Oper} {K : Tm → AHeap → Prop} : ∀ (is : List Nat) (recs : List Rec) (T : Tm) (H : AHeap), adraw0 P l K is T H → adraw P l.toArray K (is.map fun i => (i, [])) recs T H
  | [], _, T, H, h => h
  | i :: is, recs, T, H, h => by
    simp only [adraw0] at h
    simp only [List.map_cons, adraw]
    obtain ⟨o, ho, h1⟩ := bindO_iff.1 h
    rw [opAt_eq] at ho
    refine bindO_iff.2 ⟨o, by simpa using ho, ?_⟩
    refine bindO_mono h1 fun g hg => acond_mono hg (fun hq => ?_) (fun hq => ?_)
    · cases hc : cls P o with
      | read => exact bindO_mono (aop_read hc hq) fun v hv => adraw_of0 is _ _ _ hv
      | alloc => exact bindO_mono (aop_alloc' hc hq) fun v hv => adraw_of0 is _ _ _ hv
      | eff => exact aop_mono (fun v H' hv => ⟨rechecks_nil, adraw_of0 is _ _ _ hv⟩) hq
    · cases hc : cls P o with
      | read => exact adraw_of0 is _ _ _ hq
      | alloc => exact adraw_of0 is _ _ _ hq
      | eff => exact adraw_of0 is _ _ _ hq

theorem adrawnP_of {l : List Oper} {K : Tm → AHeap → Prop} {T : Tm} {H : AHeap} {t1 : Tok l.toArray} {t2 : Tok K} {t3 : Tok T} {t4 : Tok H} (order : List Nat) (hp : planOk P l.toArray (order.map fun i => (i, [])) = true) (h : adraw0 P l K order T H) :
    adrawnP P l.toArray K T H t1 t2 t3 t4 := ⟨_, hp, adraw_of0 order [] T H h⟩

def adstep (P : Program) (l : List Oper) (K : Tm → AHeap → Prop) (is : List Nat) (T : Tm) (H : AHeap) (o : Oper) : Prop :=
  bindO (aguard l.toArray T o) fun g => acond g (aop P T o H fun v H' => adraw0 P l K is (T.put o.dst v) H') (adraw0 P l K is (T.put o.dst undef) H)
section
variable (P : Program) (l : List Oper) (K : Tm → AHeap → Prop) (T : Tm) (H : AHeap)
theorem adraw0_nil : adraw0 P l K [] T H = K T H := (rfl)
def adopen (os : List Oper) (i : Nat) (is : List Nat) : Prop := bindO (opAt os i) fun o => adstep P l K is T H o
theorem adraw0_cons (i : Nat) (is : List Nat) : adraw0 P l K (i :: is) T H = adopen P l K T H l i is := (rfl)
theorem adopen_zero (o : Oper) (os : List Oper) (is : List Nat) : adopen P l K T H (o :: os) 0 is = adstep P l K is T H o := (rfl)
theorem adopen_succ (o : Oper) (os : List Oper) (i : Nat) (is : List Nat) : adopen P l K T H (o :: os) (i + 1) is = adopen P l K T H os i is := (rfl)
theorem adstep_none (is : List Nat) (d : Option Tmp) (op : Op) (ty : TypeId) (pos : String) (aft : Array Edge) :
    adstep P l K is T H ⟨d, op, ty, pos, aft, none⟩ = aop P T ⟨d, op, ty, pos, aft, none⟩ H fun v H' => adraw0 P l K is (T.put d v) H' := (rfl)
theorem adstep_some (is : List Nat) (d : Option Tmp) (op : Op) (ty : TypeId) (pos : String) (aft : Array Edge) (g : Nat × Bool) :
    adstep P l K is T H ⟨d, op, ty, pos, aft, some g⟩ = bindP (aguard l.toArray T ⟨d, op, ty, pos, aft, some g⟩) (fun b => acondP b (aop P T ⟨d, op, ty, pos, aft, some g⟩ H fun v H' => adraw0 P l K is (T.put d v) H') (adraw0 P l K is (T.put d undef) H) (tk _) (tk _)) (tk _) := (rfl)
end
attribute [go_sem ↓] adraw0_nil adraw0_cons adopen_zero adopen_succ adstep_none adstep_some

/-! ### loops -/
theorem aloopP_of {c : Code} {Q : Exit → Tm → AHeap → Prop} (I : Nat → Tm → AHeap → Prop) {n : Nat} {T : Tm} {H : AHeap} {t1 : Tok c} {t2 : Tok Q} {t3 : Tok T} {t4 : Tok H}
    (h : I n T H) (hstep : ∀ n T H, I n T H → awp P c (Exit.thenA (fun T' H' => ∃ m, m < n ∧ I m T' H') Q) T H) : aloopP P c Q T H t1 t2 t3 t4 := loop_rule I hstep h

/-- what holds behind a drawn region -/
theorem adrawnP_mid {ops : Array Oper} {K : Tm → AHeap → Prop} {T : Tm} {H : AHeap} (M : Tm → AHeap → Prop) {t1 : Tok ops} {t2 : Tok K} {t3 : Tok T} {t4 : Tok H} (h : adrawnP P ops M T H t1 (tk _) t3 t4) (hm : ∀ T H, M T H → K T H) :
    adrawnP P ops K T H t1 t2 t3 t4 := by
  obtain ⟨plan, h1, h2⟩ := h
  exact ⟨plan, h1, adraw_mono hm _ _ _ _ h2⟩
theorem thenA_over {M : Tm → AHeap → Prop} {Q : Exit → Tm → AHeap → Prop} (h : ∀ T H, M T H → Q .normal T H) : ∀ e T H, Exit.thenA M Q e T H → Q e T H := by
  intro e T H he
  cases e with
  | normal => exact h T H he
  | _ => exact he
/-- two arms that meet again -/
theorem acond_join {b : Bool} {x y : Code} {Q : Exit → Tm → AHeap → Prop} {T : Tm} {H : AHeap} (M : Tm → AHeap → Prop) {t : Tok (awp P x Q T H)} {u : Tok (awp P y Q T H)}
    (h1 : b = true → awp P x (Exit.thenA M Q) T H) (h2 : b = false → awp P y (Exit.thenA M Q) T H) (h3 : ∀ T H, M T H → Q .normal T H) :
    acondP b (awp P x Q T H) (awp P y Q T H) t u :=
  acondP_of (fun h => awp_mono x T H (thenA_over h3) (h1 h)) (fun h => awp_mono y T H (thenA_over h3) (h2 h))

/-! ### numbers -/
section
variable (P : Program) (H : AHeap) (t : TypeId) (x y : Operand) (k : IntKind) (a b : Int)
theorem abin_add : abin P H .add t x y (.int k a) (.int k b) = some (.int k (k.wrap (a + b))) := by simp [abin, aint]
theorem abin_sub : abin P H .sub t x y (.int k a) (.int k b) = some (.int k (k.wrap (a - b))) := by simp [abin, aint]
theorem abin_mul : abin P H .mul t x y (.int k a) (.int k b) = some (.int k (k.wrap (a * b))) := by simp [abin, aint]
theorem abin_quo : abin P H .quo t x y (.int k a) (.int k b) = if b = 0 then none else some (.int k (k.wrap (a.tdiv b))) := by simp [abin, aint]
theorem abin_rem : abin P H .rem t x y (.int k a) (.int k b) = if b = 0 then none else some (.int k (a.tmod b)) := by simp [abin, aint]
theorem abin_eql : abin P H .eql t x y (.int k a) (.int k b) = some (.bool (a == b)) := by simp [abin, aint]
theorem abin_neq : abin P H .neq t x y (.int k a) (.int k b) = some (.bool (a != b)) := by simp [abin, aint]
theorem abin_lss : abin P H .lss t x y (.int k a) (.int k b) = some (.bool (decide (a < b))) := by simp [abin, aint]
theorem abin_leq : abin P H .leq t x y (.int k a) (.int k b) = some (.bool (decide (a ≤ b))) := by simp [abin, aint]
theorem abin_gtr : abin P H .gtr t x y (.int k a) (.int k b) = some (.bool (decide (b < a))) := by simp [abin, aint]
theorem abin_geq : abin P H .geq t x y (.int k a) (.int k b) = some (.bool (decide (b ≤ a))) := by simp [abin, aint]
theorem abin_shl (k' : IntKind) : abin P H .shl t x y (.int k a) (.int k' b) = ashift .shl k a b := by simp [abin]
theorem abin_shr (k' : IntKind) : abin P H .shr t x y (.int k a) (.int k' b) = ashift .shr k a b := by simp [abin]
theorem abin_str (op : BinOp) (h1 : op ≠ .shl) (h2 : op ≠ .shr) (s u : ByteArray) : abin P H op t x y (.string s) (.string u) = astr op s u := by
  cases op <;> first | rfl | exact absurd rfl h1 | exact absurd rfl h2
theorem aun_not (b : Bool) : aun .not (.bool b) = some (.bool !b) := rfl
theorem aun_neg (n : Int) : aun .neg (.int k n) = some (.int k (k.wrap (0 - n))) := rfl
theorem afold_one (f : Value → Value → Option Value) (v : Value) : afold f [v] = some v := by simp [afold]
theorem afold_two (f : Value → Value → Option Value) (u v : Value) : afold f [u, v] = f u v := by
  unfold afold
  cases f u v with
  | none => rfl
  | some z => simp [afold]
theorem amax2_int (a b : Int) : amax2 (.int k a) (.int k b) = some (.int k (if b > a then b else a)) := rfl
theorem amin2_int (a b : Int) : amin2 (.int k a) (.int k b) = some (.int k (if b < a then b else a)) := rfl
end
attribute [go_sem] abin_add abin_sub abin_mul abin_quo abin_rem abin_eql abin_neq abin_lss abin_leq abin_gtr abin_geq abin_shl abin_shr aun_not aun_neg afold_one afold_two amax2_int amin2_int

/-! ### memory -/
def rowLoad (g : Option Bool) (n : Option Nat) (off : Nat) (o : AObj) : Option Value :=
  match o with
  | .row cs _ _ =>
    match g with
    | some true => n.bind fun n => if off + n ≤ cs.length then some (.agg ((cs.drop off).take n).toArray) else none
    | some false => cs[off]?
    | none => none
  | _ => none

theorem aloadT_ptr (P : Program) (H : AHeap) (t : TypeId) (id off : Nat) : aloadT P H t (.pointer (some ⟨id, off, none⟩)) = (H[id]?).bind (rowLoad (aggT P t) (szT P t) off) := by
  unfold aloadT
  simp only
  cases hg : aggT P t with
  | none =>
    cases hh : H[id]? with
    | none => rfl
    | some o => cases o <;> rfl
  | some g =>
    cases hh : H[id]? with
    | none => cases g <;> simp [aload, hh] <;> cases szT P t <;> rfl
    | some o =>
      cases o with
      | row cs k b =>
        cases g with
        | true =>
          cases hs : szT P t with
          | none => rfl
          | some n =>
            simp only [Option.bind_some, aload, hh, rowLoad]
            split <;> rfl
        | false =>
          simp only [Option.bind_some, aload, hh, rowLoad]
          split
          · rename_i q
            rw [Option.bind_some, List.getElem?_take, if_pos (by omega), List.getElem?_drop, Nat.add_zero]
          · rename_i q
            rw [List.getElem?_eq_none (by omega)]; rfl
      | map es ck => cases g <;> simp [aload, hh, rowLoad] <;> cases szT P t <;> rfl
      | mapIter a b c d => cases g <;> simp [aload, hh, rowLoad] <;> cases szT P t <;> rfl
      | strIter a b => cases g <;> simp [aload, hh, rowLoad] <;> cases szT P t <;> rfl
      | gone => cases g <;> simp [aload, hh, rowLoad] <;> cases szT P t <;> rfl
      | rowx a b c => cases g <;> simp [aload, hh, rowLoad] <;> cases szT P t <;> rfl

def rowStore (off : Nat) (vs : List Value) (o : AObj) : Option AObj :=
  match o with
  | .row cs k true => if off + vs.length ≤ cs.length then some (.row (cs.take off ++ vs ++ cs.drop (off + vs.length)) k true) else none
  | _ => none

theorem astoreT_ptr (P : Program) (H : AHeap) (t : TypeId) (id off : Nat) (x : Value) (hs : szT P t = some x.cells.size) (h1 : x.cells.toList.all oneCell = true) :
    astoreT P H t (.pointer (some ⟨id, off, none⟩)) x = ((H[id]?).bind (rowStore off x.cells.toList)).map fun o => H.set id o := by
  simp only [astoreT, hs, Option.bind_some, if_true, astore]
  cases hh : H[id]? with
  | none => rfl
  | some o =>
    cases o with
    | row cs k b =>
      cases b with
      | true =>
        simp only [rowStore, Option.bind_some, h1, Bool.and_true, decide_eq_true_eq]
        split <;> rfl
      | false => rfl
    | _ => rfl

theorem afieldAddr_at {P : Program} {s i o n : Nat} {f : Field} (h : fieldT P s i = some f) (ho : f.offset = o) (hn : szT P f.type = some (n + 1)) (id off : Nat) :
    afieldAddr P s (.pointer (some ⟨id, off, none⟩)) i = some (.pointer (some ⟨id, off + o, none⟩)) := by
  subst ho
  simp [afieldAddr, h, hn, add_none]

theorem aindexAddr_at {P : Program} {t e k : Nat} (hu : P.underlying t = some (.slice e)) (hk : szT P e = some k) (id off n c : Nat) (ik : IntKind) (i : Int) :
    aindexAddr P t (.slice (some ⟨id, off, none⟩) n c) (.int ik i) = if 0 ≤ i ∧ i < n then some (.pointer (some ⟨id, off + i.toNat * k, none⟩)) else none := by
  simp [aindexAddr, hu, hk, add_none]

theorem acap_slice {P : Program} {t e : Nat} (hu : P.underlying t = some (.slice e)) (a : Addr) (n c : Nat) : acap P t (.slice (some a) n c) = if c = 0 then none else some (.int .i64 c) := by simp [acap, hu]
theorem alen_slice {P : Program} {t e : Nat} (hu : P.underlying t = some (.slice e)) (H : AHeap) (a : Option Addr) (n c : Nat) : alen P H t (.slice a n c) = some (.int .i64 n) := by simp [alen, hu]

theorem nilChk_ptr (P : Program) (a : Addr) : nilChkM P (.pointer (some a)) = some (.pointer (some a)) := rfl
theorem nilChk_iface (P : Program) (t : TypeId) (v : Value) : nilChkM P (.iface t v) = some (.iface t v) := rfl
theorem nilChk_meth (P : Program) (name : String) (t : TypeId) (v : Value) (bs : Array Value) : nilChkM P (.func (.method name) [Value.iface t v].toArray bs) = if (methOf P t name).isSome = true then some (.func (.method name) [Value.iface t v].toArray bs) else none := rfl
theorem nilChk_func (P : Program) (f : FuncId) (as bs : Array Value) : nilChkM P (.func (.func f) as bs) = some (.func (.func f) as bs) := rfl
theorem aextract_at (vs : List Value) (i : Nat) : aextract (.tuple vs.toArray) i = vs[i]? := by simp [aextract]
theorem rowLoad_one (n : Option Nat) (off : Nat) (cs : List Value) (k : Nat) (b : Bool) : rowLoad (some false) n off (.row cs k b) = cs[off]? := rfl
theorem rowLoad_agg (n off : Nat) (cs : List Value) (k : Nat) (b : Bool) : rowLoad (some true) (some n) off (.row cs k b) = if off + n ≤ cs.length then some (.agg ((cs.drop off).take n).toArray) else none := rfl
theorem rowStore_row (off : Nat) (vs cs : List Value) (k : Nat) : rowStore off vs (.row cs k true) = if off + vs.length ≤ cs.length then some (.row (cs.take off ++ vs ++ cs.drop (off + vs.length)) k true) else none := (rfl)
attribute [go_sem] rowStore_row aloadT_ptr nilChk_ptr nilChk_func nilChk_iface nilChk_meth Option.isSome_some aextract_at rowLoad_one rowLoad_agg

end Go.AW
