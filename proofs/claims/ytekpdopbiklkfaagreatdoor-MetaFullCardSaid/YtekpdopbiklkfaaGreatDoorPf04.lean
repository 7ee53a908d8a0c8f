/-
  Parts of the proof, joined: AwSound.
-/
import Derived.Test.YtekpdopbiklkfaaGreatDoorPf03
section
set_option linter.unusedVariables false
set_option linter.unusedSimpArgs false
namespace Go.AW
open Go
def Sound (P : Program) (f : FuncId) (args : List Value) (H : AHeap) (K : Value → AHeap → Prop) : Prop :=
  (∀ (asx9 : Array Value) (w : World), (callFunc f asx9).run P w = .ok (.enter f asx9) w) ∧
  ∀ (ρ : Ren) (F : Frm) (w : World) (args' : List Value), Rel ρ H F w → VRs ρ args args' →
    Calls P f args'.toArray w fun e w' => ∃ v v' H' ρ', e = .returned v' ∧ K v H' ∧ Rel ρ' H' F w' ∧ Ext H ρ ρ' ∧ H.length ≤ H'.length ∧ VR ρ' v v'
theorem Sound.mono {P : Program} {f : FuncId} {args : List Value} {H : AHeap} {K K' : Value → AHeap → Prop} (h : Sound P f args H K) (hk : ∀ v H', K v H' → K' v H') : Sound P f args H K' :=
  ⟨h.1, fun ρ F w args' hR hv => (h.2 ρ F w args' hR hv).mono fun _ _ ⟨v, v', H', ρ', h1, h2, h3⟩ => ⟨v, v', H', ρ', h1, hk _ _ h2, h3⟩⟩
def SoundX (P : Program) (f : FuncId) (args : List Value) (H : AHeap) (K : Value → AHeap → Prop) : Prop :=
  ∀ (ρ : Ren) (F : Frm) (w : World) (args' : List Value), Rel ρ H F w → VRs ρ args args' →
    ((callFunc f args'.toArray).run P w = .ok (.enter f args'.toArray) w ∧ Calls P f args'.toArray w fun e w' => ∃ v v' H' ρ', e = .returned v' ∧ K v H' ∧ Rel ρ' H' F w' ∧ Ext H ρ ρ' ∧ H.length ≤ H'.length ∧ VR ρ' v v') ∨
    ∃ v' w', (callFunc f args'.toArray).run P w = .ok (.value v') w' ∧ ∃ v H' ρ', K v H' ∧ Rel ρ' H' F w' ∧ Ext H ρ ρ' ∧ H.length ≤ H'.length ∧ VR ρ' v v'
theorem SoundX.mono {P : Program} {f : FuncId} {args : List Value} {H : AHeap} {K K' : Value → AHeap → Prop} (h : SoundX P f args H K) (hk : ∀ v H', K v H' → K' v H') : SoundX P f args H K' := fun ρ F w args' hR hv => by
  rcases h ρ F w args' hR hv with ⟨h1, h2⟩ | ⟨v', w', h1, v, H', ρ', h2, h3⟩
  · exact .inl ⟨h1, h2.mono fun _ _ ⟨v, v', H', ρ', h1, h2, h3⟩ => ⟨v, v', H', ρ', h1, hk _ _ h2, h3⟩⟩
  · exact .inr ⟨v', w', h1, v, H', ρ', hk _ _ h2, h3⟩
theorem Sound.x {P : Program} {f : FuncId} {args : List Value} {H : AHeap} {K : Value → AHeap → Prop} (h : Sound P f args H K) : SoundX P f args H K := fun ρ F w args' hR hv => .inl ⟨h.1 _ _, h.2 ρ F w args' hR hv⟩
def bindO {α : Type} (o : Option α) (K : α → Prop) : Prop := match o with | some a => K a | none => False
def acond (b : Bool) (A B : Prop) : Prop := if b then A else B
theorem bindO_some {α : Type} (a : α) (K : α → Prop) : bindO (some a) K = K a := rfl
theorem acond_true (A B : Prop) : acond true A B = A := rfl
theorem acond_false (A B : Prop) : acond false A B = B := rfl
theorem bindO_mono {α : Type} {o : Option α} {K K' : α → Prop} (h : bindO o K) (hk : ∀ a, K a → K' a) : bindO o K' := by
  cases o with
  | none => exact h
  | some a => exact hk a h
theorem bindO_iff {α : Type} {o : Option α} {K : α → Prop} : bindO o K ↔ ∃ a, o = some a ∧ K a := by
  cases o with
  | none => simp [bindO]
  | some a => simp [bindO]
inductive Cls where
  | read | alloc | eff
  deriving DecidableEq
def strBytes (P : Program) (s d : TypeId) : Bool := match P.underlying s, P.underlying d with | some .string, some (.slice _) => true | _, _ => false
def cls (P : Program) (o : Oper) : Cls :=
  match o.op with
  | .alloc _ | .box .. | .buildSlice .. | .makeMap .. | .makeSlice .. => .alloc
  | .store .. | .mapUpdate .. | .insert .. | .mapEntry .. | .entryStore .. | .range .. | .next .. => .eff
  | .convert s d _ => if strBytes P s d then .eff else .read
  | .call { callee := .builtin .len, .. } | .call { callee := .builtin .cap, .. } | .call { callee := .builtin .max, .. } | .call { callee := .builtin .min, .. } => .read
  | .call _ => .eff
  | _ => .read
def aop (P : Program) (T : Tm) (o : Oper) (H : AHeap) (K : Value → AHeap → Prop) : Prop :=
  match o.op with
  | .next it true => bindO (anextS H (aev T it)) fun p => K p.1 p.2
  | .next it false => anext H (aev T it) K
  | .call { callee := .builtin .len, .. } | .call { callee := .builtin .cap, .. } | .call { callee := .builtin .max, .. } | .call { callee := .builtin .min, .. } => bindO (aread P T o H) fun v => K v H
  | .call { callee := .builtin _, .. } => bindO (aeff P T o H) fun p => K p.1 p.2
  | .call c => bindO (acallee P T c) fun p => SoundX P p.1 p.2 H K
  | _ => match cls P o with
    | .read => bindO (aread P T o H) fun v => K v H
    | .alloc => bindO (aalloc P T o) fun p => K (p.2 H.length) (H ++ [p.1])
    | .eff => bindO (aeff P T o H) fun p => K p.1 p.2
def aguard (ops : Array Oper) (T : Tm) (o : Oper) : Option Bool :=
  match o.guard with
  | none => some true
  | some (j, want) =>
    match (ops[j]?).bind (·.dst) with
    | some d => match T d with | .bool b => some (b == want) | .tuple _ => some false | _ => none
    | none => none
def aops (P : Program) (ops : Array Oper) (K : Tm → AHeap → Prop) : List Oper → Tm → AHeap → Prop
  | [], T, H => K T H
  | o :: os, T, H => bindO (aguard ops T o) fun g =>
      acond g (aop P T o H fun v H' => aops P ops K os (T.put o.dst v) H') (aops P ops K os (T.put o.dst undef) H)
structure Rec where
  i : Nat
  T : Tm
  v : Value
  id : Option Nat
  skip : Bool
def recheck (P : Program) (ops : Array Oper) (H : AHeap) (r : Rec) : Prop :=
  match r.skip, ops[r.i]? with
  | true, _ => True
  | false, some o =>
    match r.id with
    | none => aread P r.T o H = some r.v
    | some id => bindO (aalloc P r.T o) fun p => H[id]? = some p.1
  | false, none => False
def rechecks (P : Program) (ops : Array Oper) (H : AHeap) (chk : List Nat) : List Rec → Prop
  | [] => True
  | r :: rs => (if chk.contains r.i then recheck P ops H r else True) ∧ rechecks P ops H chk rs
def adraw (P : Program) (ops : Array Oper) (K : Tm → AHeap → Prop) : List (Nat × List Nat) → List Rec → Tm → AHeap → Prop
  | [], _, T, H => K T H
  | (i, chk) :: is, recs, T, H =>
    bindO (ops[i]?) fun o =>
    bindO (aguard ops T o) fun g =>
    acond g
      (match cls P o with
       | .read => bindO (aread P T o H) fun v => adraw P ops K is (⟨i, T, v, none, false⟩ :: recs) (T.put o.dst v) H
       | .alloc => bindO (aalloc P T o) fun p => adraw P ops K is (⟨i, T, p.2 H.length, some H.length, false⟩ :: recs) (T.put o.dst (p.2 H.length)) (H ++ [p.1])
       | .eff => aop P T o H fun v H' => rechecks P ops H' chk recs ∧ adraw P ops K is recs (T.put o.dst v) H')
      (match cls P o with
       | .eff => adraw P ops K is recs (T.put o.dst undef) H
       | _ => adraw P ops K is (⟨i, T, undef, none, true⟩ :: recs) (T.put o.dst undef) H)
def ancBits : List Oper → List Nat → List Nat
  | [], acc => acc
  | o :: os, acc => ancBits os (acc ++ [o.after.toList.foldr (fun e s => if Region.binds .any e then s ||| 2 ^ e.on ||| acc.getD e.on 0 else s) 0])
def ancs (ops : Array Oper) : List Nat := ancBits ops.toList []
def looks (ops : Array Oper) (o : Oper) : List Nat := o.looksAt ops
def rowsOk (P : Program) (ops : Array Oper) (an : List Nat) : List (Nat × List Nat) → List Nat → Bool
  | [], _ => true
  | (i, chk) :: is, seen =>
    !seen.contains i &&
    (match ops[i]? with
     | none => false
     | some o =>
       -- what it hangs on lies ahead
       (List.range ops.size).all (fun j => !(an.getD i 0).testBit j || seen.contains j) &&
       -- it hangs on each turning operation ahead; one that turns: on each that lies ahead, or this one is looked at again
       seen.all (fun j => match ops[j]? with
         | none => false
         | some p => (an.getD i 0).testBit j || (cls P p != .eff && (cls P o != .eff || chk.contains j)))) &&
    rowsOk P ops an is (i :: seen)
def tmpsOk (ops : Array Oper) (an : List Nat) : Bool :=
  (List.range ops.size).all fun i => (List.range ops.size).all fun j =>
    i == j || (match ops[i]?, ops[j]? with
      | some o, some p =>
        (match p.dst with
         | none => true
         | some d => o.dst != some d && (!(looks ops o).contains d || (an.getD i 0).testBit j || (an.getD j 0).testBit i))
      | _, _ => false)
def planOk (P : Program) (ops : Array Oper) (plan : List (Nat × List Nat)) : Bool :=
  plan.length == ops.size && rowsOk P ops (ancs ops) plan [] && tmpsOk ops (ancs ops) &&
  ops.toList.zipIdx.all (fun (o, i) => o.after.all fun e => !Region.binds .any e || decide (e.on < i)) &&
  ops.all fun o => match o.op with | .select .. => false | _ => true
def Exit.thenA (next : Tm → AHeap → Prop) (Q : Exit → Tm → AHeap → Prop) : Exit → Tm → AHeap → Prop
  | .normal, T, H => next T H
  | e, T, H => Q e T H
def Exit.inBlockA (id : Nat) (Q : Exit → Tm → AHeap → Prop) : Exit → Tm → AHeap → Prop
  | .exit id', T, H => if id' = id then Q .normal T H else Q (.exit id') T H
  | e, T, H => Q e T H
def arounds (body : (Exit → Tm → AHeap → Prop) → Tm → AHeap → Prop) (Q : Exit → Tm → AHeap → Prop) : Nat → Tm → AHeap → Prop
  | 0, _, _ => False
  | n + 1, T, H => body (Exit.thenA (arounds body Q n) Q) T H
def aloop (body : (Exit → Tm → AHeap → Prop) → Tm → AHeap → Prop) (Q : Exit → Tm → AHeap → Prop) (T : Tm) (H : AHeap) : Prop := ∃ n, arounds body Q n T H
def adrawn (P : Program) (ops : Array Oper) (K : Tm → AHeap → Prop) (T : Tm) (H : AHeap) : Prop := ∃ plan, planOk P ops plan = true ∧ adraw P ops K plan [] T H
def aboolv (v : Value) : Option Bool := match v with | .bool b => some b | _ => none
def awp (P : Program) : Code → (Exit → Tm → AHeap → Prop) → Tm → AHeap → Prop
  | .skip, Q, T, H => Q .normal T H
  | .region _ ops false, Q, T, H => aops P ops (Q .normal) ops.toList T H
  | .region _ ops true, Q, T, H => adrawn P ops (Q .normal) T H
  | .seq a b, Q, T, H => awp P a (Exit.thenA (awp P b Q) Q) T H
  | .cond c a b, Q, T, H => bindO (aboolv (aev T c)) fun g => acond g (awp P a Q T H) (awp P b Q T H)
  | .block id c, Q, T, H => awp P c (Exit.inBlockA id Q) T H
  | .loop c, Q, T, H => aloop (awp P c) Q T H
  | .exit id, Q, T, H => Q (.exit id) T H
  | .ret, Q, T, H => Q .ret T H
  | .label _, Q, T, H => Q .normal T H
  | _, _, _, _ => False
def opdOk (n : Nat) : Operand → Bool
  | .tmp t => decide (t < n)
  | .const v => plainV 100 v
  | _ => true
def operOk (n : Nat) (o : Oper) : Bool := (match o.dst with | some d => decide (d < n) | none => true) && o.op.operands.toList.all (opdOk n)
def codeOk (n : Nat) : Code → Bool
  | .region _ ops _ => ops.toList.all (operOk n)
  | .seq a b => codeOk n a && codeOk n b
  | .cond c a b => opdOk n c && codeOk n a && codeOk n b
  | .block _ c | .loop c | .scope c => codeOk n c
  | _ => true
def aresults : List ResultVar → Program → Tm → AHeap → Option (List Value)
  | [], _, _, _ => some []
  | .tmp t :: rs, P, T, H => (aresults rs P T H).map (T t :: ·)
  | .cell a t :: rs, P, T, H => (aloadT P H t (T a)).bind fun v => (aresults rs P T H).map (v :: ·)
def ares (vs : List Value) : Value := match vs with | [v] => v | vs => .tuple vs.toArray
def abody (P : Program) (rs : List ResultVar) (K : Value → AHeap → Prop) : Exit → Tm → AHeap → Prop
  | .normal, T, H | .ret, T, H => bindO (aresults rs P T H) fun vs => K (ares vs) H
  | _, _, _ => False
end Go.AW
namespace Go.AW
open Go
variable {P : Program} {ρ : Ren} {H : AHeap} {F : Frm} {w : World} {ds : List Deferred}
theorem upon_read {o : Oper} {a : Act} {next : Act → World → Prop} {Q : Exit → Act → World → Prop} {v' : Value} {w' : World} (h : (execOp a.eval o).run P w = .ok (.value v') w') (hn : next (a.put o.dst v') w') : o.wp P a w next Q := by
  unfold Oper.wp; rw [h]; exact hn
theorem methOf_run {t : TypeId} {name : String} {g : FuncId} (h : methOf P t name = some g) (v : Value) : (method (P.types.size + Made.depth) t v name).run P w = .ok (g, v) w := by
  unfold methOf at h
  split at h
  · rename_i i hi
    split at h
    · rename_i m hm
      split at h
      · rename_i hp
        split at h
        · rename_i f e hf hu
          cases h
          have hp' : m.path.toList = [] := by simpa using hp
          have ht : (typeInfo t).run P w = .ok i w := run_typeInfo hi
          have hun : (underlying t).run P w = .ok (.pointer e) w := run_underlying hu
          obtain ⟨fuel, hfu⟩ : ∃ fuel, P.types.size + Made.depth = fuel + 1 := ⟨P.types.size + 99, rfl⟩
          rw [hfu]
          simp only [method, Sem.run_bind, ht, Result.andThen_ok, hm, hp', follow, Sem.run_pure, hf, receiverAt, hun, Place.get]
        · cases h
      · cases h
    · cases h
  · cases h
theorem acallee_run {c : Call} {T : Tm} {a : Act} {g : FuncId} {asx9 : List Value} {type : TypeId} (hE : ∀ x ∈ (Op.call c).operands, VR ρ (aev T x) (a.eval x)) (h : acallee P T c = some (g, asx9)) :
    ∃ asx9', VRs ρ asx9 asx9' ∧ ((do let d ← resolve a.eval c type; invoke d.target d.args) : Sem Next).run P w = (callFunc g asx9'.toArray).run P w := by
  obtain ⟨callee, args, argTypes⟩ := c
  unfold acallee at h
  cases callee with
  | value f =>
    simp only at h
    split at h
    · rename_i g0 first captured hf
      cases h
      have h1 := hE f (by simp [Op.operands, Call.operands])
      rw [hf] at h1
      obtain ⟨first', captured', hf', v1, v2⟩ := h1.func_inv
      have v3 := VRs.map (ρ := ρ) (ev := aev T) (ev' := a.eval) (l := args.toList) fun x hx => hE x (by simp [Op.operands, Call.operands]; exact .inr (by simpa using hx))
      refine ⟨first'.toList ++ args.toList.map a.eval ++ captured'.toList, (v1.app v3).app v2, ?_⟩
      simp only [resolve, hf', Deferred.ofValue, Sem.run_bind, Sem.run_pure, Result.andThen_ok, invoke]
      congr 2
      apply Array.ext'
      simp
    · simp at h
  | invoke r m =>
    simp only at h
    split at h
    · rename_i t v hv
      simp only [Option.map_eq_some_iff, Prod.mk.injEq] at h
      obtain ⟨g0, hg, rfl, rfl⟩ := h
      have h1 := hE r (by simp [Op.operands, Call.operands])
      rw [hv] at h1
      obtain ⟨v', hv', v1⟩ : ∃ v', a.eval r = .iface t v' ∧ VR ρ v v' := by
        cases he : a.eval r with
        | iface t' v' => rw [he] at h1; cases h1; exact ⟨_, rfl, by assumption⟩
        | _ => rw [he] at h1; cases h1
      have v3 := VRs.map (ρ := ρ) (ev := aev T) (ev' := a.eval) (l := args.toList) fun x hx => hE x (by simp [Op.operands, Call.operands]; exact .inr (by simpa using hx))
      refine ⟨v' :: args.toList.map a.eval, VRs.cons v1 v3, ?_⟩
      have hm := methOf_run (w := w) hg v'
      simp only [resolve, hv', Sem.run_bind, Sem.run_pure, Result.andThen_ok, invoke]
      have e0 : (#[Value.iface t v'] ++ args.map a.eval)[0]? = some (.iface t v') := by rw [Array.getElem?_append_left (by show 0 < 1; omega)]; rfl
      simp only [e0, callMethod, Sem.run_bind, run_program, Result.andThen_ok, hm]
      congr 2
      apply Array.ext'
      simp [List.take_of_length_le]
    · cases h
  | builtin b => simp at h
theorem sim_aop (hR : Rel ρ H F w) {o : Oper} {T : Tm} {a : Act} {K : Value → AHeap → Prop} (hE : ∀ x ∈ o.op.operands, VR ρ (aev T x) (a.eval x)) (h : aop P T o H K)
    {next : Act → World → Prop} {Q : Exit → Act → World → Prop}
    (hn : ∀ v v' H' ρ' w', K v H' → Rel ρ' H' F w' → Ext H ρ ρ' → H.length ≤ H'.length → VR ρ' v v' → next (a.put o.dst v') w') : o.wp P a w next Q := by
  have rd : (bindO (aread P T o H) fun v => K v H) → o.wp P a w next Q := fun h => by
    obtain ⟨v, hv, hK⟩ := bindO_iff.1 h
    obtain ⟨v', h1, h2⟩ := sim_read hR hE hv
    exact upon_read h1 (hn v v' H ρ w hK hR (Ext.refl _ _) (Nat.le_refl _) h2)
  have al : (bindO (aalloc P T o) fun p => K (p.2 H.length) (H ++ [p.1])) → o.wp P a w next Q := fun h => by
    obtain ⟨⟨ob, mk⟩, hv, hK⟩ := bindO_iff.1 h
    obtain ⟨O, l, v', g1, g2, g3, g4⟩ := sim_alloc (w := w) hE hv
    obtain ⟨r1, r2⟩ := hR.new (o := ob) (O := O) g1 (g3 _)
    exact upon_read g2 (hn _ v' _ _ _ hK r1 r2 (by simp) (g4 _))
  have ef : (bindO (aeff P T o H) fun p => K p.1 p.2) → o.wp P a w next Q := fun h => by
    obtain ⟨⟨v, H'⟩, hv, hK⟩ := bindO_iff.1 h
    obtain ⟨v', w', ρ', g1, g2, g3, g4, g5⟩ := sim_eff hR hE hv
    have := hn v v' H' ρ' w' hK g2 g3 g4 g5
    rcases g1 with g1 | ⟨g1, rfl⟩
    · exact upon_read g1 this
    · unfold Oper.wp; rw [g1]; exact this
  unfold aop at h
  split at h
  · -- a string's next sign
    rename_i it ho
    obtain ⟨⟨v, H'⟩, hv, hK⟩ := bindO_iff.1 h
    obtain ⟨w', g1, g2, g3, g4⟩ := run_anextS (P := P) (ty := o.type) hR (hE it (by rw [ho]; simp [Op.operands])) hv
    refine upon_read (v' := v) (w' := w') ?_ (hn v v H' ρ w' hK g2 (Ext.refl _ _) (by omega) g4)
    simp [execOp, ho, g1]
  · rename_i it ho
    obtain ⟨v', w', v, H', g1, hK, g2, g3, g4⟩ := run_anext (P := P) (ty := o.type) hR (hE it (by rw [ho]; simp [Op.operands])) h
    refine upon_read (v' := v') (w' := w') ?_ (hn v v' H' ρ w' hK g2 (Ext.refl _ _) (by omega) g4)
    simp [execOp, ho, g1]
  · exact rd h
  · exact rd h
  · exact rd h
  · exact rd h
  · exact ef h
  · rename_i c _ _ _ _ _ ho
    obtain ⟨⟨g, asx9⟩, hc, hK⟩ := bindO_iff.1 h
    obtain ⟨asx9', v1, v2⟩ := acallee_run (P := P) (w := w) (type := o.type) (by rw [ho] at hE; exact hE) hc
    have hrun : (execOp a.eval o).run P w = (callFunc g asx9'.toArray).run P w := by
      simp only [execOp, ho]; exact v2
    rcases hK ρ F w asx9' hR v1 with ⟨h1, h2⟩ | ⟨v', w', h1, v, H', ρ', hk, r1, r2, r3, r4⟩
    · unfold Oper.wp
      rw [hrun, h1]
      simp only [Oper.upon]
      refine h2.mono ?_
      rintro e w' ⟨v, v', H', ρ', rfl, hk, r1, r2, r3, r4⟩
      exact hn v v' H' ρ' w' hk r1 r2 r3 r4
    · exact upon_read (by rw [hrun, h1]) (hn v v' H' ρ' w' hk r1 r2 r3 r4)
  · split at h
    · exact rd h
    · exact al h
    · exact ef h
structure TR (ρ : Ren) (n : Nat) (ds : List Deferred) (T : Tm) (a : Act) : Prop where
  size : a.tmps.size = n
  defers : a.defers = ds
  vr : ∀ t, t < n → VR ρ (T t) (a.tmps.getD t undef)
theorem TR.mono {ρ ρ' : Ren} (h : ∀ id l, ρ id = some l → ρ' id = some l) {n : Nat} {T : Tm} {a : Act} (hT : TR ρ n ds T a) : TR ρ' n ds T a :=
  ⟨hT.size, hT.defers, fun t ht => (hT.vr t ht).mono h⟩
theorem TR.put {n : Nat} {T : Tm} {a : Act} (hT : TR ρ n ds T a) {d : Option Tmp} (hd : ∀ t, d = some t → t < n) {v v' : Value} (hv : VR ρ v v') : TR ρ n ds (T.put d v) (a.put d v') := by
  cases d with
  | none => exact hT
  | some d =>
    have hdn := hd d rfl
    refine ⟨by simp [Act.put, hT.size], hT.defers, fun t ht => ?_⟩
    simp only [Tm.put, Act.put]
    by_cases e : t = d
    · subst e
      rw [if_pos rfl]
      have : (a.tmps.setIfInBounds t v').getD t undef = v' := by
        rw [Array.getD_eq_getD_getElem?, Array.getElem?_setIfInBounds_self_of_lt (by rw [hT.size]; exact hdn)]; rfl
      rw [this]; exact hv
    · rw [if_neg e]
      have : (a.tmps.setIfInBounds d v').getD t undef = a.tmps.getD t undef := by
        rw [Array.getD_eq_getD_getElem?, Array.getD_eq_getD_getElem?, Array.getElem?_setIfInBounds_ne (Ne.symm e)]
      rw [this]; exact hT.vr t ht
theorem TR.eval {n : Nat} {T : Tm} {a : Act} (hT : TR ρ n ds T a) {x : Operand} (hx : opdOk n x = true) : VR ρ (aev T x) (a.eval x) := by
  cases x with
  | tmp t => exact hT.vr t (by simpa [opdOk] using hx)
  | const v => exact (plain_refl 100 v hx).1
  | global g => exact .glob g
  | func f => exact .func _ rfl rfl (by simp) (by simp)
theorem operOk_opd {n : Nat} {o : Oper} (h : operOk n o = true) : (∀ t, o.dst = some t → t < n) ∧ ∀ x ∈ o.op.operands, opdOk n x = true := by
  simp only [operOk, Bool.and_eq_true] at h
  refine ⟨fun t ht => ?_, fun x hx => List.all_eq_true.1 h.2 x (Array.mem_toList_iff.2 hx)⟩
  have := h.1
  rw [ht] at this
  simpa using this
theorem aguard_wanted {ops : Array Oper} {T : Tm} {a : Act} {o : Oper} (hT : ∀ j want d, o.guard = some (j, want) → (ops[j]?).bind (·.dst) = some d → VR ρ (T d) (a.tmps.getD d undef) ∧ d < a.tmps.size) {g : Bool} (h : aguard ops T o = some g) :
    Region.wanted o (yielded ops a.tmps) = g := by
  unfold aguard at h
  unfold Region.wanted
  split at h
  · rename_i hg; cases h; rw [hg]
  · rename_i j want hg
    rw [hg]
    simp only
    split at h
    · rename_i d hd
      obtain ⟨h1, h2⟩ := hT j want d hg hd
      split at h
      · rename_i b hb
        cases h
        rw [hb] at h1
        have : a.tmps[d]? = some (.bool b) := by
          rw [Array.getD_eq_getD_getElem?, Array.getElem?_eq_getElem h2] at h1
          rw [Array.getElem?_eq_getElem h2]
          revert h1; generalize a.tmps[d] = u; intro h1
          cases h1; rfl
        simp [yielded, hd, this]
      · rename_i asx9 hb
        cases h
        rw [hb] at h1
        obtain ⟨asx9', this⟩ : ∃ asx9', a.tmps[d]? = some (.tuple asx9') := by
          rw [Array.getD_eq_getD_getElem?, Array.getElem?_eq_getElem h2] at h1
          rw [Array.getElem?_eq_getElem h2]
          revert h1; generalize a.tmps[d] = u; intro h1
          cases h1; exact ⟨_, rfl⟩
        simp [yielded, hd, this]
      · simp at h
    · simp at h
theorem sim_aops {ops : Array Oper} {Q : Exit → Act → World → Prop} {K : Tm → AHeap → Prop} {n : Nat} (hops : ∀ o ∈ ops.toList, operOk n o = true)
    (hQ : ∀ (T : Tm) (H' : AHeap) (ρ' : Ren) (a : Act) (w' : World), K T H' → Rel ρ' H' F w' → Ext H ρ ρ' → H.length ≤ H'.length → TR ρ' n ds T a → Q .normal a w') :
    ∀ (l : List Oper) (k : Nat) (T : Tm) (H1 : AHeap) (ρ1 : Ren) (a : Act) (w1 : World), ops.toList.drop k = l → Rel ρ1 H1 F w1 → Ext H ρ ρ1 → H.length ≤ H1.length → TR ρ1 n ds T a → aops P ops K l T H1 →
      wpOps P ops Q (List.range' k l.length) a w1 := by
  intro l
  induction l with
  | nil => intro k T H1 ρ1 a w1 _ hR hX hL hT h; exact hQ T H1 ρ1 a w1 h hR hX hL hT
  | cons o l ih =>
    intro k T H1 ρ1 a w1 hk hR hX hL hT h
    have hko : ops[k]? = some o := by
      rw [← Array.getElem?_toList]
      have := congrArg (·[0]?) hk
      simpa using this
    have hmem : o ∈ ops.toList := by
      have : o ∈ ops.toList.drop k := by rw [hk]; simp
      exact List.mem_of_mem_drop this
    obtain ⟨od, oo⟩ := operOk_opd (hops o hmem)
    have hk' : ops.toList.drop (k + 1) = l := by rw [← List.drop_drop, hk]; rfl
    simp only [aops] at h
    obtain ⟨g, hg, h1⟩ := bindO_iff.1 h
    have hw : Region.wanted o (yielded ops a.tmps) = g := aguard_wanted (ρ := ρ1) (fun j want d hgd hd => by
      have hlt : d < n := by
        cases ho : ops[j]? with
        | none => rw [ho] at hd; simp at hd
        | some p =>
          rw [ho] at hd
          have hp : p ∈ ops.toList := by rw [← Array.getElem?_toList] at ho; exact List.mem_of_getElem? ho
          exact (operOk_opd (hops p hp)).1 d (by simpa using hd)
      exact ⟨hT.vr d hlt, by rw [hT.size]; exact hlt⟩) hg
    simp only [List.length_cons, List.range'_succ]
    rw [wpOps_cons]
    unfold wpOp
    simp only [hko, hw]
    cases g with
    | true =>
      simp only [if_true]
      left
      rw [acond_true] at h1
      exact sim_aop hR (fun x hx => hT.eval (oo x hx)) h1 fun v v' H' ρ' w' hK r1 r2 r3 r4 =>
        ih (k + 1) _ H' ρ' _ w' hk' r1 (hX.trans r2 hL) (by omega) ((hT.mono (hR.ext r2)).put od r4) hK
    | false =>
      simp only [Bool.false_eq_true, if_false]
      rw [acond_false] at h1
      exact ih (k + 1) _ H1 ρ1 _ w1 hk' hR hX hL (hT.put od (VR.undef _)) h1
end Go.AW
namespace Go.AW
open Go
def HLe (H H' : AHeap) : Prop := ∀ (id : Nat) (o : AObj), H[id]? = some o → H'[id]? = some o
theorem HLe.refl (H : AHeap) : HLe H H := fun _ _ h => h
theorem HLe.trans {A B C : AHeap} (h : HLe A B) (h' : HLe B C) : HLe A C := fun id o ho => h' id o (h id o ho)
theorem HLe.more (H L : AHeap) : HLe H (H ++ L) := fun id o ho => by
  have : id < H.length := by
    rcases Nat.lt_or_ge id H.length with h | h
    · exact h
    · simp [List.getElem?_eq_none h] at ho
  rw [List.getElem?_append_left this]; exact ho
variable {P : Program} {H H' : AHeap}
theorem aload_mono (h : HLe H H') {a : Addr} {n : Nat} {cs : List Value} (hl : aload H a n = some cs) : aload H' a n = some cs := by
  unfold aload at hl ⊢
  split at hl
  · rename_i hs hr; rw [h _ _ hr]; simp only [hs]; exact hl
  · simp at hl
theorem aloadT_mono (h : HLe H H') {t : TypeId} {x v : Value} (hl : aloadT P H t x = some v) : aloadT P H' t x = some v := by
  unfold aloadT at hl ⊢
  split at hl
  · obtain ⟨g, hg, h1⟩ := Option.bind_eq_some_iff.1 hl
    simp only [hg, Option.bind_some]
    cases g with
    | true =>
      simp only at h1 ⊢
      obtain ⟨n, hn, h2⟩ := Option.bind_eq_some_iff.1 h1
      obtain ⟨cs, hc, rfl⟩ := Option.map_eq_some_iff.1 h2
      simp [hn, aload_mono h hc]
    | false =>
      simp only at h1 ⊢
      obtain ⟨cs, hc, h2⟩ := Option.bind_eq_some_iff.1 h1
      simp [aload_mono h hc, h2]
  · simp at hl
theorem ownRow_mono (h : HLe H H') {id : Nat} (ho : ownRow H id = true) : ownRow H' id = true := by
  obtain ⟨c, cs, k, h1, h2⟩ := ownRow_spec ho
  simp [ownRow, h _ _ h1, h2]
theorem rowOf_mono (h : HLe H H') {id k : Nat} (ho : rowOf H id k = true) : rowOf H' id k = true := by
  obtain ⟨cs, h1⟩ := rowOf_spec ho
  simp [rowOf, h _ _ h1]
theorem aeq_mono (h : HLe H H') : ∀ (d : Nat) (t : TypeId) (x y : Value) (b : Bool), aeq P H d t x y = some b → aeq P H' d t x y = some b := by
  intro d
  induction d with
  | zero => intro t x y b hb; simp [aeq] at hb
  | succ d ih =>
    intro t x y b hb
    unfold aeq at hb ⊢
    split at hb <;> (try (first | (simp only [*]; done) | (simp at hb; done)))
    · rename_i hu
      split at hb
      · rename_i k hs
        split at hb
        · rename_i hc
          simp only [Bool.and_eq_true] at hc
          simp only [hs, hc.1.1.1, hc.1.1.2, ownRow_mono h hc.1.2, ownRow_mono h hc.2, Bool.and_self, if_true]
          exact hb
        · simp at hb
      · simp at hb
    · rename_i hu
      split at hb
      · rename_i ht; rw [if_pos ht]; exact hb
      · rename_i ht; rw [if_neg ht]
        split at hb
        · rename_i i hi
          split at hb
          · rename_i hc
            simp only [hi, hc, if_true]; exact ih _ _ _ _ hb
          · simp at hb
        · simp at hb
    · rename_i fs xs ys hu
      split at hb
      · simp at hb
      · rename_i hst
        rw [if_neg hst]
        revert hb
        generalize fs.toList = l
        induction l generalizing b with
        | nil => intro hb; exact hb
        | cons f l ihl =>
          intro hb
          simp only [List.foldr_cons] at hb ⊢
          split at hb
          · rename_i hn
            rw [if_pos hn]
            split at hb
            · rename_i u v hu1 hv1
              split at hb
              · rename_i hq; rw [ih _ _ _ _ hq]; exact ihl _ hb
              · rename_i hq; rw [ih _ _ _ _ hq]; exact hb
              · simp at hb
            · simp at hb
          · rename_i hn
            rw [if_neg hn]; exact ihl _ hb
theorem abin_mono (h : HLe H H') {op : BinOp} {t : TypeId} {xo yo : Operand} {x y v : Value} (hb : abin P H op t xo yo x y = some v) : abin P H' op t xo yo x y = some v := by
  unfold abin at hb ⊢
  split at hb
  · exact hb
  · exact hb
  · split at hb
    · rename_i hk; rw [if_pos hk]; exact hb
    · simp at hb
  · exact hb
  · rename_i n1 n2
    split at hb
    · rename_i hg
      obtain ⟨b, hq, rfl⟩ := Option.map_eq_some_iff.1 hb
      simp only [hg, if_true, aeq_mono h _ _ _ _ _ hq, Option.map_some]
    · simp at hb
  · rename_i n1 n2
    split at hb
    · rename_i hg
      obtain ⟨b, hq, rfl⟩ := Option.map_eq_some_iff.1 hb
      simp only [hg, if_true, aeq_mono h _ _ _ _ _ hq, Option.map_some]
    · simp at hb
  · simp at hb
theorem aslice_mono (h : HLe H H') {t : TypeId} {x v : Value} {lo hi mx : Option Value} (hb : aslice P H t x lo hi mx = some v) : aslice P H' t x lo hi mx = some v := by
  unfold aslice at hb ⊢
  split at hb
  · exact hb
  · obtain ⟨k, hk, h1⟩ := Option.bind_eq_some_iff.1 hb
    simp only [hk, Option.bind_some]
    split at h1
    · obtain ⟨hn, h2, h3⟩ := Option.bind_eq_some_iff.1 h1
      obtain ⟨ln, h4, h5⟩ := Option.bind_eq_some_iff.1 h3
      simp only [h2, h4, Option.bind_some]
      split at h5
      · exact h5
      · split at h5
        · rename_i hs; rw [if_pos hs]; exact h5
        · rename_i hs; rw [if_neg hs]
          split at h5
          · rename_i hc; rw [if_pos hc]
            split at h5
            · rename_i hr; rw [if_pos (rowOf_mono h hr)]; exact h5
            · simp at h5
          · rename_i hc; rw [if_neg hc]; exact h5
    · exact h1
  · simp at hb
theorem entriesOf_mono (h : HLe H H') {m : Value} {es : Array MapEntry} (he : entriesOf H m = some es) : entriesOf H' m = some es := by
  unfold entriesOf at he ⊢
  split at he
  · exact he
  · split at he
    · rename_i hr; simp only [h _ _ hr]; exact he
    · simp at he
  · simp at he
theorem mapIterOf_mono (h : HLe H H') {v : Value} {x : Nat × Option Nat × Nat × Array Nat × Nat} (he : mapIterOf H v = some x) : mapIterOf H' v = some x := by
  unfold mapIterOf at he ⊢
  split at he
  · split at he
    · rename_i hr; simp only [h _ _ hr]; exact he
    · simp at he
  · simp at he
theorem aToStr_mono (h : HLe H H') {x v : Value} (hr : aToStr H x = some v) : aToStr H' x = some v := by
  unfold aToStr at hr ⊢
  split at hr
  · exact hr
  · split at hr
    · rename_i hn; rw [if_pos hn]; exact hr
    · rename_i hn; rw [if_neg hn]
      obtain ⟨cs, hc, h2⟩ := Option.bind_eq_some_iff.1 hr
      simp only [aload_mono h hc, Option.bind_some]; exact h2
  · simp at hr
theorem aread_mono (h : HLe H H') {T : Tm} {o : Oper} {v : Value} (hr : aread P T o H = some v) : aread P T o H' = some v := by
  obtain ⟨dst, op, type, pos, after, guard⟩ := o
  unfold aread at hr ⊢
  simp only at hr ⊢
  cases op <;> (try exact hr) <;> (try (simp at hr; done)) <;> (try simp only at hr ⊢)
  case binOp op t x y yt => exact abin_mono h hr
  case convert s d x =>
    split at hr
    · rename_i e _ _
      have key : ∀ (b : Bool), (if b = true then aToStr H (aev T x) else none) = some v → (if b = true then aToStr H' (aev T x) else none) = some v := fun b hb => by
        cases b
        · simp at hb
        · exact aToStr_mono h hb
      exact key _ hr
    · exact hr
  case slice t x lo hi mx => exact aslice_mono h hr
  case load t x => exact aloadT_mono h hr
  case lookup t m k ok =>
    unfold alookup at hr ⊢
    obtain ⟨⟨kt, e⟩, hm, h1⟩ := Option.bind_eq_some_iff.1 hr
    obtain ⟨es, he, h2⟩ := Option.bind_eq_some_iff.1 h1
    simp only [hm, entriesOf_mono h he, Option.bind_some]; exact h2
  case entry it =>
    unfold aentry at hr ⊢
    obtain ⟨⟨r, m, s, seen, last⟩, hit, h1⟩ := Option.bind_eq_some_iff.1 hr
    simp only [mapIterOf_mono h hit, Option.bind_some]
    cases m with
    | none => simp at h1
    | some m =>
      simp only at h1 ⊢
      split at h1
      · rename_i hm; simp only [h _ _ hm]; exact h1
      · simp at h1
  case call c =>
    obtain ⟨callee, args, argTypes⟩ := c
    cases callee <;> (try (simp at hr; done))
    rename_i b
    cases b <;> (try exact hr) <;> (try (simp at hr; done)) <;> (try simp only at hr ⊢)
    case len =>
      split at hr
      · unfold alen at hr ⊢
        split at hr
        · exact hr
        · exact hr
        · exact hr
        · obtain ⟨es, he, h2⟩ := Option.map_eq_some_iff.1 hr
          simp only [entriesOf_mono h he, Option.map_some]; rw [h2]
        · simp at hr
      · simp at hr
end Go.AW
end
