/-
  AW, part 23: words for use.
-/
import Derived.Test.YtpehfhnmcpdllaaGreatDoorAwDraw
import Derived.KernelRfl
import Derived.Attr
set_option linter.unusedVariables false
set_option linter.unusedSimpArgs false
namespace Go.AW
open Go

/-! What follows is kept from being looked into: a token hangs on it. -/
def Tok {α : Sort _} (_ : α) : Type := Unit
def tk {α : Sort _} (a : α) : Tok a := ()

/-- a value, looked at ahead of what follows -/
def abind (v : Value) (K : Value → Prop) (_ : Tok K) : Prop := K v
def bindP {α : Type} (o : Option α) (K : α → Prop) (_ : Tok K) : Prop := bindO o K
def acondP (b : Bool) (A B : Prop) (_ : Tok A) (_ : Tok B) : Prop := acond b A B
def SoundP (P : Program) (f : FuncId) (args : List Value) (H : AHeap) (K : Value → AHeap → Prop) (_ : Tok K) : Prop := SoundX P f args H K
def aloopP (P : Program) (c : Code) (Q : Exit → Tm → AHeap → Prop) (T : Tm) (H : AHeap) (_ : Tok c) (_ : Tok Q) (_ : Tok T) (_ : Tok H) : Prop := aloop (awp P c) Q T H
def adrawnP (P : Program) (ops : Array Oper) (K : Tm → AHeap → Prop) (T : Tm) (H : AHeap) (_ : Tok ops) (_ : Tok K) (_ : Tok T) (_ : Tok H) : Prop := adrawn P ops K T H
def anextP (H : AHeap) (it : Value) (K : Value → AHeap → Prop) (_ : Tok K) (_ : Tok H) : Prop := anext H it K
theorem abind_eq (v : Value) (K : Value → Prop) (t : Tok K) : abind v K t = K v := (rfl)
theorem bindP_some {α : Type} (a : α) (K : α → Prop) (t : Tok K) : bindP (some a) K t = K a := (rfl)
theorem acondP_true (A B : Prop) (t : Tok A) (u : Tok B) : acondP true A B t u = A := (rfl)
theorem acondP_false (A B : Prop) (t : Tok A) (u : Tok B) : acondP false A B t u = B := (rfl)
theorem acondP_of {b : Bool} {A B : Prop} {t : Tok A} {u : Tok B} (h1 : b = true → A) (h2 : b = false → B) : acondP b A B t u := by
  cases b
  · exact h2 rfl
  · exact h1 rfl
theorem bindP_of {α : Type} {o : Option α} {K : α → Prop} {t : Tok K} {a : α} (h : o = some a) (hk : K a) : bindP o K t := by subst h; exact hk
theorem SoundP_of {P : Program} {f : FuncId} {args : List Value} {H : AHeap} {K K' : Value → AHeap → Prop} {t : Tok K'} (h : Sound P f args H K) (hk : ∀ v H', K v H' → K' v H') : SoundP P f args H K' t := (h.mono hk).x
theorem SoundP_ofX {P : Program} {f : FuncId} {args : List Value} {H : AHeap} {K K' : Value → AHeap → Prop} {t : Tok K'} (h : SoundX P f args H K) (hk : ∀ v H', K v H' → K' v H') : SoundP P f args H K' t := h.mono hk

theorem put_get (T : Tm) (d : Nat) (v : Value) (t : Nat) : T.put (some d) v t = if t = d then v else T t := (rfl)
theorem put_nil (T : Tm) (v : Value) : T.put none v = T := (rfl)

/-! ### rules, by sight -/
section
variable (P : Program) (Q : Exit → Tm → AHeap → Prop) (T : Tm) (H : AHeap) (K : Value → AHeap → Prop) (ops : Array Oper) (KK : Tm → AHeap → Prop)
theorem awp_skip : awp P .skip Q T H = Q .normal T H := (rfl)
theorem awp_seq (a b : Code) : awp P (.seq a b) Q T H = awp P a (Exit.thenA (awp P b Q) Q) T H := (rfl)
theorem awp_region (id : Nat) (l : List Oper) : awp P (.region id l.toArray false) Q T H = aops P l.toArray (Q .normal) l T H := (rfl)
theorem awp_regionD (id : Nat) (ops : Array Oper) : awp P (.region id ops true) Q T H = adrawnP P ops (Q .normal) T H (tk _) (tk _) (tk _) (tk _) := (rfl)
theorem awp_cond (c : Operand) (a b : Code) : awp P (.cond c a b) Q T H = abind (aev T c) (fun v => bindP (aboolv v) (fun g => acondP g (awp P a Q T H) (awp P b Q T H) (tk _) (tk _)) (tk _)) (tk _) := (rfl)
theorem awp_block (id : Nat) (c : Code) : awp P (.block id c) Q T H = awp P c (Exit.inBlockA id Q) T H := (rfl)
theorem awp_loop (c : Code) : awp P (.loop c) Q T H = aloopP P c Q T H (tk _) (tk _) (tk _) (tk _) := (rfl)
theorem awp_exit (id : Nat) : awp P (.exit id) Q T H = Q (.exit id) T H := (rfl)
theorem awp_ret : awp P .ret Q T H = Q .ret T H := (rfl)
theorem awp_label (l : Nat) : awp P (.label l) Q T H = Q .normal T H := (rfl)
theorem thenA_normal (n : Tm → AHeap → Prop) : Exit.thenA n Q .normal T H = n T H := (rfl)
theorem thenA_ret (n : Tm → AHeap → Prop) : Exit.thenA n Q .ret T H = Q .ret T H := (rfl)
theorem thenA_exit (n : Tm → AHeap → Prop) (id : Nat) : Exit.thenA n Q (.exit id) T H = Q (.exit id) T H := (rfl)
theorem inBlockA_normal (id : Nat) : Exit.inBlockA id Q .normal T H = Q .normal T H := (rfl)
theorem inBlockA_ret (id : Nat) : Exit.inBlockA id Q .ret T H = Q .ret T H := (rfl)
theorem inBlockA_exit (id id' : Nat) : Exit.inBlockA id Q (.exit id') T H = if id' = id then Q .normal T H else Q (.exit id') T H := (rfl)
theorem aops_nil : aops P ops KK [] T H = KK T H := (rfl)
theorem aops_cons (d : Option Tmp) (op : Op) (ty : TypeId) (pos : String) (aft : Array Edge) (os : List Oper) :
    aops P ops KK (⟨d, op, ty, pos, aft, none⟩ :: os) T H = aop P T ⟨d, op, ty, pos, aft, none⟩ H fun v H' => aops P ops KK os (T.put d v) H' := (rfl)
theorem aops_guard (d : Option Tmp) (op : Op) (ty : TypeId) (pos : String) (aft : Array Edge) (g : Nat × Bool) (os : List Oper) :
    aops P ops KK (⟨d, op, ty, pos, aft, some g⟩ :: os) T H = bindP (aguard ops T ⟨d, op, ty, pos, aft, some g⟩) (fun b =>
      acondP b (aop P T ⟨d, op, ty, pos, aft, some g⟩ H fun v H' => aops P ops KK os (T.put d v) H') (aops P ops KK os (T.put d undef) H) (tk _) (tk _)) (tk _) := (rfl)
theorem aev_tmp (t : Nat) : aev T (.tmp t) = T t := (rfl)
theorem aev_const (v : Value) : aev T (.const v) = v := (rfl)
theorem aev_func (f : FuncId) : aev T (.func f) = .func (.func f) #[] #[] := (rfl)
variable (d : Option Tmp) (ty : TypeId) (pos : String) (aft : Array Edge) (gd : Option (Nat × Bool))
theorem aop_move (x : Operand) : aop P T ⟨d, .move x, ty, pos, aft, gd⟩ H K = abind (aev T x) (fun v => K v H) (tk _) := (rfl)
theorem aop_assign (x : Operand) : aop P T ⟨d, .assign x, ty, pos, aft, gd⟩ H K = abind (aev T x) (fun v => K v H) (tk _) := (rfl)
theorem aop_pick (c x y : Operand) : aop P T ⟨d, .pick c x y, ty, pos, aft, gd⟩ H K = abind (aev T c) (fun c => abind (aev T x) (fun x => abind (aev T y) (fun y => bindP (match c with | .bool c => some (if c then x else y) | _ => none) (fun v => K v H) (tk _)) (tk _)) (tk _)) (tk _) := (rfl)
theorem aop_nilCheck (x : Operand) : aop P T ⟨d, .nilCheck x, ty, pos, aft, gd⟩ H K = abind (aev T x) (fun x => bindP (nilChkM P x) (fun v => K v H) (tk _)) (tk _) := (rfl)
theorem aop_binOp (op : BinOp) (t : TypeId) (x y : Operand) (yt : TypeId) : aop P T ⟨d, .binOp op t x y yt, ty, pos, aft, gd⟩ H K = abind (aev T x) (fun u => abind (aev T y) (fun v => bindP (abin P H op t x y u v) (fun v => K v H) (tk _)) (tk _)) (tk _) := (rfl)
theorem aop_unOp (op : UnOp) (t : TypeId) (x : Operand) : aop P T ⟨d, .unOp op t x, ty, pos, aft, gd⟩ H K = abind (aev T x) (fun x => bindP (aun op x) (fun v => K v H) (tk _)) (tk _) := (rfl)
theorem aop_makeInterface (t : TypeId) (x : Operand) : aop P T ⟨d, .makeInterface t x, ty, pos, aft, gd⟩ H K = abind (aev T x) (fun x => bindP (match P.underlying t with | some (.interface _) | none => none | some _ => some (.iface t x)) (fun v => K v H) (tk _)) (tk _) := (rfl)
theorem aop_makeFunc0 (fn : Fn) (fs cs : Array Operand) : aop P T ⟨d, .makeFunc fn fs cs, ty, pos, aft, gd⟩ H K = abind (.func fn (fs.map (aev T)) (cs.map (aev T))) (fun v => K v H) (tk _) := (rfl)
theorem aop_makeFunc (fn : Fn) (fs cs : List Operand) : aop P T ⟨d, .makeFunc fn fs.toArray cs.toArray, ty, pos, aft, gd⟩ H K = abind (.func fn (fs.map (aev T)).toArray (cs.map (aev T)).toArray) (fun v => K v H) (tk _) := by
  rw [aop_makeFunc0]; simp only [List.map_toArray]
theorem aop_field (t : TypeId) (x : Operand) (i : Nat) : aop P T ⟨d, .field t x i, ty, pos, aft, gd⟩ H K = abind (aev T x) (fun x => bindP (afield P t x i) (fun v => K v H) (tk _)) (tk _) := (rfl)
theorem aop_index (t : TypeId) (x i : Operand) : aop P T ⟨d, .index t x i, ty, pos, aft, gd⟩ H K = abind (aev T x) (fun x => abind (aev T i) (fun i => bindP (aindex P t x i) (fun v => K v H) (tk _)) (tk _)) (tk _) := (rfl)
theorem aop_fieldAddr (t : TypeId) (x : Operand) (i : Nat) : aop P T ⟨d, .fieldAddr t x i, ty, pos, aft, gd⟩ H K = abind (aev T x) (fun x => bindP (afieldAddr P t x i) (fun v => K v H) (tk _)) (tk _) := (rfl)
theorem aop_indexAddr (t : TypeId) (x i : Operand) : aop P T ⟨d, .indexAddr t x i, ty, pos, aft, gd⟩ H K = abind (aev T x) (fun x => abind (aev T i) (fun i => bindP (aindexAddr P t x i) (fun v => K v H) (tk _)) (tk _)) (tk _) := (rfl)
theorem aop_slice (t : TypeId) (x : Operand) (lo hi mx : Option Operand) : aop P T ⟨d, .slice t x lo hi mx, ty, pos, aft, gd⟩ H K = abind (aev T x) (fun x => bindP (aslice P H t x (lo.map (aev T)) (hi.map (aev T)) (mx.map (aev T))) (fun v => K v H) (tk _)) (tk _) := (rfl)
theorem aop_build (t : TypeId) (ps : Array (Nat × Operand)) : aop P T ⟨d, .build t ps, ty, pos, aft, gd⟩ H K = bindP (abuild P t (ps.toList.map fun p => (p.1, aev T p.2))) (fun v => K v H) (tk _) := (rfl)
theorem aop_extract (t : Operand) (i : Nat) : aop P T ⟨d, .extract t i, ty, pos, aft, gd⟩ H K = abind (aev T t) (fun t => bindP (aextract t i) (fun v => K v H) (tk _)) (tk _) := (rfl)
theorem aop_load (t : TypeId) (x : Operand) : aop P T ⟨d, .load t x, ty, pos, aft, gd⟩ H K = abind (aev T x) (fun x => bindP (aloadT P H t x) (fun v => K v H) (tk _)) (tk _) := (rfl)
theorem aop_lookup (t : TypeId) (m k : Operand) (ok : Bool) : aop P T ⟨d, .lookup t m k ok, ty, pos, aft, gd⟩ H K = abind (aev T m) (fun m => abind (aev T k) (fun k => bindP (alookup P H t m k ok) (fun v => K v H) (tk _)) (tk _)) (tk _) := (rfl)
theorem aop_entry (it : Operand) : aop P T ⟨d, .entry it, ty, pos, aft, gd⟩ H K = abind (aev T it) (fun it => bindP (aentry H it) (fun v => K v H) (tk _)) (tk _) := (rfl)
theorem aop_len (x : Operand) (t : TypeId) : aop P T ⟨d, .call { callee := .builtin .len, args := #[x], argTypes := #[t] }, ty, pos, aft, gd⟩ H K = abind (aev T x) (fun x => bindP (alen P H t x) (fun v => K v H) (tk _)) (tk _) := (rfl)
theorem aop_max (x y : Operand) (ts : Array TypeId) : aop P T ⟨d, .call { callee := .builtin .max, args := #[x, y], argTypes := ts }, ty, pos, aft, gd⟩ H K = abind (aev T x) (fun x => abind (aev T y) (fun y => bindP (afold amax2 [x, y]) (fun v => K v H) (tk _)) (tk _)) (tk _) := (rfl)
theorem aop_min (x y : Operand) (ts : Array TypeId) : aop P T ⟨d, .call { callee := .builtin .min, args := #[x, y], argTypes := ts }, ty, pos, aft, gd⟩ H K = abind (aev T x) (fun x => abind (aev T y) (fun y => bindP (afold amin2 [x, y]) (fun v => K v H) (tk _)) (tk _)) (tk _) := (rfl)
theorem aop_cap (x : Operand) (t : TypeId) : aop P T ⟨d, .call { callee := .builtin .cap, args := #[x], argTypes := #[t] }, ty, pos, aft, gd⟩ H K = abind (aev T x) (fun x => bindP (acap P t x) (fun v => K v H) (tk _)) (tk _) := (rfl)
theorem aop_alloc (e : TypeId) : aop P T ⟨d, .alloc e, ty, pos, aft, gd⟩ H K = bindP (zeroT P e) (fun z => acondP (plainV 100 z) (K (.pointer (some ⟨H.length, 0, none⟩)) (H ++ [.row z.cells.toList z.cells.size true])) False (tk _) (tk _)) (tk _) := by
  show bindO _ _ = _
  simp only [aalloc, bindP]
  cases zeroT P e with
  | none => rfl
  | some z => simp only [Option.bind_some, bindO_some]; cases plainV 100 z <;> rfl
theorem aop_box (e : TypeId) (x : Operand) : aop P T ⟨d, .box e x, ty, pos, aft, gd⟩ H K = abind (aev T x) (fun v => K (.pointer (some ⟨H.length, 0, none⟩)) (H ++ [.row v.cells.toList v.cells.size true])) (tk _) := (rfl)
theorem aop_buildSlice (t : TypeId) (n : Nat) (ps : Array (Nat × Operand)) : aop P T ⟨d, .buildSlice t n ps, ty, pos, aft, gd⟩ H K = bindP (aalloc P T ⟨d, .buildSlice t n ps, ty, pos, aft, gd⟩) (fun p => K (p.2 H.length) (H ++ [p.1])) (tk _) := (rfl)
theorem aop_makeMap (t : TypeId) : aop P T ⟨d, .makeMap t none, ty, pos, aft, gd⟩ H K = K (.map (some H.length)) (H ++ [.map #[] 0]) := (rfl)
theorem aop_makeSlice (t : TypeId) (l c : Operand) : aop P T ⟨d, .makeSlice t l c, ty, pos, aft, gd⟩ H K = bindP (aalloc P T ⟨d, .makeSlice t l c, ty, pos, aft, gd⟩) (fun p => K (p.2 H.length) (H ++ [p.1])) (tk _) := (rfl)
theorem aop_store (t : TypeId) (x y : Operand) : aop P T ⟨d, .store t x y, ty, pos, aft, gd⟩ H K = abind (aev T x) (fun x => abind (aev T y) (fun y => bindP (astoreT P H t x y) (fun H' => K undef H') (tk _)) (tk _)) (tk _) := by
  show bindO (Option.map _ _) _ = _
  simp only [abind]
  cases astoreT P H t (aev T x) (aev T y) <;> rfl
theorem aop_mapUpdate (t : TypeId) (m k x : Operand) : aop P T ⟨d, .mapUpdate t m k x, ty, pos, aft, gd⟩ H K = abind (aev T m) (fun m => abind (aev T k) (fun k => abind (aev T x) (fun x => bindP (amapPut P H t m k x) (fun H' => K undef H') (tk _)) (tk _)) (tk _)) (tk _) := by
  show bindO (Option.map _ _) _ = _
  simp only [abind]
  cases amapPut P H t (aev T m) (aev T k) (aev T x) <;> rfl
theorem aop_insert (t : TypeId) (m k x : Operand) : aop P T ⟨d, .insert t m k x, ty, pos, aft, gd⟩ H K = abind (aev T m) (fun m => abind (aev T k) (fun k => abind (aev T x) (fun x => bindP (amapPut P H t m k x) (fun H' => K undef H') (tk _)) (tk _)) (tk _)) (tk _) := by
  show bindO (Option.map _ _) _ = _
  simp only [abind]
  cases amapPut P H t (aev T m) (aev T k) (aev T x) <;> rfl
theorem aop_mapEntry (t : TypeId) (m k : Operand) : aop P T ⟨d, .mapEntry t m k, ty, pos, aft, gd⟩ H K = abind (aev T m) (fun m => abind (aev T k) (fun k => bindP (amapEntry P H t m k) (fun p => K p.1 p.2) (tk _)) (tk _)) (tk _) := (rfl)
theorem aop_entryStore (t : TypeId) (m s x : Operand) : aop P T ⟨d, .entryStore t m s x, ty, pos, aft, gd⟩ H K = abind (aev T m) (fun m => abind (aev T s) (fun s => abind (aev T x) (fun x => bindP (aentryStore H m s x) (fun H' => K undef H') (tk _)) (tk _)) (tk _)) (tk _) := by
  show bindO (Option.map _ _) _ = _
  simp only [abind]
  cases aentryStore H (aev T m) (aev T s) (aev T x) <;> rfl
theorem aop_range (t : TypeId) (x : Operand) : aop P T ⟨d, .range t x, ty, pos, aft, gd⟩ H K = abind (aev T x) (fun x => bindP (arange P H t x) (fun p => K p.1 p.2) (tk _)) (tk _) := (rfl)
theorem aop_nextM (it : Operand) : aop P T ⟨d, .next it false, ty, pos, aft, gd⟩ H K = abind (aev T it) (fun it => anextP H it K (tk _) (tk _)) (tk _) := (rfl)
theorem aop_nextS (it : Operand) : aop P T ⟨d, .next it true, ty, pos, aft, gd⟩ H K = abind (aev T it) (fun it => bindP (anextS H it) (fun p => K p.1 p.2) (tk _)) (tk _) := (rfl)
theorem aop_append (s x : Operand) (st xt : TypeId) : aop P T ⟨d, .call { callee := .builtin .append, args := #[s, x], argTypes := #[st, xt] }, ty, pos, aft, gd⟩ H K = abind (aev T s) (fun s => abind (aev T x) (fun x => bindP (aappend P H st xt s x) (fun p => K p.1 p.2) (tk _)) (tk _)) (tk _) := (rfl)
theorem aop_copy (s x : Operand) (st xt : TypeId) : aop P T ⟨d, .call { callee := .builtin .copy, args := #[s, x], argTypes := #[st, xt] }, ty, pos, aft, gd⟩ H K = abind (aev T s) (fun s => abind (aev T x) (fun x => bindP (acopy2 P H st xt s x) (fun p => K p.1 p.2) (tk _)) (tk _)) (tk _) := (rfl)
theorem aop_delete (m k : Operand) (mt kt : TypeId) : aop P T ⟨d, .call { callee := .builtin .delete, args := #[m, k], argTypes := #[mt, kt] }, ty, pos, aft, gd⟩ H K = abind (aev T m) (fun m => abind (aev T k) (fun k => bindP (adelete P H mt m k) (fun H' => K (.tuple #[]) H') (tk _)) (tk _)) (tk _) := by
  show bindO (Option.map _ _) _ = _
  simp only [abind]
  cases adelete P H mt (aev T m) (aev T k) <;> rfl
theorem aop_clear (x : Operand) (t : TypeId) : aop P T ⟨d, .call { callee := .builtin .clear, args := #[x], argTypes := #[t] }, ty, pos, aft, gd⟩ H K = abind (aev T x) (fun x => bindP (aclear P H t x) (fun H' => K (.tuple #[]) H') (tk _)) (tk _) := by
  show bindO (Option.map _ _) _ = _
  simp only [abind]
  cases aclear P H t (aev T x) <;> rfl
theorem aop_call (f : FuncId) (as : List Operand) (ts : Array TypeId) : aop P T ⟨d, .call { callee := .value (.func f), args := as.toArray, argTypes := ts }, ty, pos, aft, gd⟩ H K = SoundP P f (as.map (aev T)) H K (tk _) := by
  show SoundX P f ([] ++ as.map (aev T) ++ []) H K = _
  simp [SoundP]
theorem aop_invoke (t : Nat) (name : String) (as : List Operand) (ts : Array TypeId) : aop P T ⟨d, .call { callee := .invoke (.tmp t) name, args := as.toArray, argTypes := ts }, ty, pos, aft, gd⟩ H K =
    abind (T t) (fun x => bindP (match x with | .iface u v => (methOf P u name).map fun g => (g, v :: as.map (aev T)) | _ => none) (fun p => SoundP P p.1 p.2 H K (tk _)) (tk _)) (tk _) := (rfl)
theorem aop_callv (t : Nat) (as : List Operand) (ts : Array TypeId) : aop P T ⟨d, .call { callee := .value (.tmp t), args := as.toArray, argTypes := ts }, ty, pos, aft, gd⟩ H K =
    abind (T t) (fun f => bindP (match f with | .func (.func g) fs cs => some (g, fs.toList ++ as.map (aev T) ++ cs.toList) | _ => none) (fun p => SoundP P p.1 p.2 H K (tk _)) (tk _)) (tk _) := (rfl)
end

theorem abody_ret (P : Program) (rs : List ResultVar) (K : Value → AHeap → Prop) (T : Tm) (H : AHeap) : abody P rs K .ret T H = bindP (aresults rs P T H) (fun vs => K (ares vs) H) (tk _) := (rfl)
theorem abody_normal (P : Program) (rs : List ResultVar) (K : Value → AHeap → Prop) (T : Tm) (H : AHeap) : abody P rs K .normal T H = bindP (aresults rs P T H) (fun vs => K (ares vs) H) (tk _) := (rfl)
theorem ares_nil (P : Program) (T : Tm) (H : AHeap) : aresults [] P T H = some [] := (rfl)
theorem ares_tmp (P : Program) (T : Tm) (H : AHeap) (t : Nat) (rs : List ResultVar) : aresults (.tmp t :: rs) P T H = (aresults rs P T H).map (T t :: ·) := (rfl)
theorem ares_cell (P : Program) (T : Tm) (H : AHeap) (a t : Nat) (rs : List ResultVar) : aresults (.cell a t :: rs) P T H = (aloadT P H t (T a)).bind fun v => (aresults rs P T H).map (v :: ·) := (rfl)
theorem ares_one (v : Value) : ares [v] = v := (rfl)
theorem ares_zero : ares [] = .tuple #[] := (rfl)
theorem ares_many (u v : Value) (vs : List Value) : ares (u :: v :: vs) = .tuple (u :: v :: vs).toArray := (rfl)

theorem aboolv_bool (b : Bool) : aboolv (.bool b) = some b := (rfl)

attribute [go_sem ↓] awp_skip awp_seq awp_region awp_regionD awp_cond awp_block awp_loop awp_exit awp_ret awp_label thenA_normal thenA_ret thenA_exit inBlockA_normal inBlockA_ret inBlockA_exit aops_nil aops_cons aops_guard aop_move aop_assign aop_pick aop_nilCheck aop_binOp aop_unOp aop_makeInterface aop_makeFunc aop_field aop_index aop_fieldAddr aop_indexAddr aop_slice aop_build aop_extract aop_load aop_lookup aop_entry aop_len aop_cap aop_max aop_min aop_alloc aop_box aop_buildSlice aop_makeMap aop_makeSlice aop_store aop_mapUpdate aop_insert aop_mapEntry aop_entryStore aop_range aop_nextM aop_nextS aop_append aop_copy aop_delete aop_clear aop_call aop_callv aop_invoke aev_tmp aev_const aev_func put_get put_nil abody_ret abody_normal
attribute [go_sem] abind_eq bindP_some acondP_true acondP_false aboolv_bool List.getD_cons_zero List.getD_cons_succ List.getD_nil ares_nil ares_tmp ares_cell ares_one ares_zero ares_many Option.map_some Option.bind_some List.map_cons List.map_nil

variable {P : Program}

theorem anext_mono {H : AHeap} {it : Value} {K K' : Value → AHeap → Prop} (hk : ∀ v H', K v H' → K' v H') (h : anext H it K) : anext H it K' := by
  unfold anext at h ⊢
  split at h
  · exact hk _ _ h
  · split at h
    · exact ⟨h.1, fun q => hk _ _ (h.2.1 q), fun e he => hk _ _ (h.2.2 e he)⟩
    · exact h
  · exact h

theorem aop_mono {T : Tm} {o : Oper} {H : AHeap} {K K' : Value → AHeap → Prop} (hk : ∀ v H', K v H' → K' v H') (h : aop P T o H K) : aop P T o H K' := by
  unfold aop at h ⊢
  split at h
  · exact bindO_mono h fun _ hq => hk _ _ hq
  · exact anext_mono hk h
  · exact bindO_mono h fun _ hq => hk _ _ hq
  · exact bindO_mono h fun _ hq => hk _ _ hq
  · exact bindO_mono h fun _ hq => hk _ _ hq
  · exact bindO_mono h fun _ hq => hk _ _ hq
  · exact bindO_mono h fun _ hq => hk _ _ hq
  · exact bindO_mono h fun _ hq => hq.mono hk
  · split at h
    · exact bindO_mono h fun _ hq => hk _ _ hq
    · exact bindO_mono h fun _ hq => hk _ _ hq
    · exact bindO_mono h fun _ hq => hk _ _ hq

theorem acond_mono {b : Bool} {A B A' B' : Prop} (h : acond b A B) (ha : A → A') (hb : B → B') : acond b A' B' := by
  cases b
  · exact hb h
  · exact ha h

theorem aops_mono {ops : Array Oper} {K K' : Tm → AHeap → Prop} (hk : ∀ T H, K T H → K' T H) : ∀ (l : List Oper) (T : Tm) (H : AHeap), aops P ops K l T H → aops P ops K' l T H
  | [], T, H, h => hk T H h
  | o :: os, T, H, h => by
    simp only [aops] at h ⊢
    exact bindO_mono h fun g hg => acond_mono hg (aop_mono fun v H' hq => aops_mono hk os _ _ hq) (aops_mono hk os _ _)

theorem adraw_mono {ops : Array Oper} {K K' : Tm → AHeap → Prop} (hk : ∀ T H, K T H → K' T H) : ∀ (l : List (Nat × List Nat)) (recs : List Rec) (T : Tm) (H : AHeap), adraw P ops K l recs T H → adraw P ops K' l recs T H
  | [], _, T, H, h => hk T H h
  | (i, chk) :: is, recs, T, H, h => by
    simp only [adraw] at h ⊢
    refine bindO_mono h fun o ho => bindO_mono ho fun g hg => acond_mono hg (fun hq => ?_) (fun hq => ?_)
    · split at hq
      · exact bindO_mono hq fun _ hq => adraw_mono hk is _ _ _ hq
      · exact bindO_mono hq fun _ hq => adraw_mono hk is _ _ _ hq
      · exact aop_mono (fun v H' ⟨h1, h2⟩ => ⟨h1, adraw_mono hk is _ _ _ h2⟩) hq
    · split at hq <;> exact adraw_mono hk is _ _ _ hq

theorem thenA_mono {n n' : Tm → AHeap → Prop} {Q Q' : Exit → Tm → AHeap → Prop} (hn : ∀ T H, n T H → n' T H) (hq : ∀ e T H, Q e T H → Q' e T H) : ∀ e T H, Exit.thenA n Q e T H → Exit.thenA n' Q' e T H := by
  intro e T H h
  cases e with
  | normal => exact hn T H h
  | _ => exact hq _ T H h

theorem awp_mono : ∀ (c : Code) {Q Q' : Exit → Tm → AHeap → Prop} (T : Tm) (H : AHeap), (∀ e T H, Q e T H → Q' e T H) → awp P c Q T H → awp P c Q' T H := by
  intro c
  induction c with
  | skip => intro Q Q' T H hq h; exact hq _ _ _ h
  | label l => intro Q Q' T H hq h; exact hq _ _ _ h
  | exit id => intro Q Q' T H hq h; exact hq _ _ _ h
  | ret => intro Q Q' T H hq h; exact hq _ _ _ h
  | goto l => intro Q Q' T H hq h; exact h.elim
  | scope c ih => intro Q Q' T H hq h; exact h.elim
  | refuse s => intro Q Q' T H hq h; exact h.elim
  | rangeFunc f ps x y => intro Q Q' T H hq h; exact h.elim
  | region id ops draw =>
    intro Q Q' T H hq h
    cases draw with
    | false => exact aops_mono (fun T H => hq .normal T H) _ _ _ h
    | true => obtain ⟨plan, h1, h2⟩ := h; exact ⟨plan, h1, adraw_mono (fun T H => hq .normal T H) _ _ _ _ h2⟩
  | seq x y ihx ihy => intro Q Q' T H hq h; exact ihx _ _ (thenA_mono (fun T H => ihy T H hq) hq) h
  | cond c x y ihx ihy => intro Q Q' T H hq h; exact bindO_mono h fun g hg => acond_mono hg (ihx _ _ hq) (ihy _ _ hq)
  | block id c ih =>
    intro Q Q' T H hq h
    refine ih _ _ (fun e T H he => ?_) h
    cases e with
    | exit id' =>
      simp only [Exit.inBlockA] at he ⊢
      split
      · rename_i q; rw [if_pos q] at he; exact hq _ _ _ he
      · rename_i q; rw [if_neg q] at he; exact hq _ _ _ he
    | _ => exact hq _ _ _ he
  | loop c ih =>
    intro Q Q' T H hq h
    obtain ⟨n, hn⟩ := h
    refine ⟨n, ?_⟩
    revert T H hn
    induction n with
    | zero => intro T H h; exact h.elim
    | succ n ihn => intro T H h; exact ih _ _ (thenA_mono (fun T H => ihn T H) hq) h

/-- a loop: what holds at each round's head, and what goes down -/
theorem aloop_inv {body : (Exit → Tm → AHeap → Prop) → Tm → AHeap → Prop} (hb : ∀ Q Q' T H, (∀ e T H, Q e T H → Q' e T H) → body Q T H → body Q' T H)
    {Q : Exit → Tm → AHeap → Prop} (I : Nat → Tm → AHeap → Prop) (hstep : ∀ n T H, I n T H → body (Exit.thenA (fun T' H' => ∃ m, m < n ∧ I m T' H') Q) T H) {n : Nat} {T : Tm} {H : AHeap} (h : I n T H) : aloop body Q T H := by
  have key : ∀ n T H, I n T H → arounds body Q (n + 1) T H := by
    intro n
    induction n using Nat.strongRecOn with
    | _ n ih =>
      intro T H hI
      refine hb _ _ T H ?_ (hstep n T H hI)
      intro e T' H' hq
      cases e with
      | normal =>
        obtain ⟨m, hm, hI'⟩ := hq
        have := ih m hm T' H' hI'
        -- more rounds do no harm
        have mono : ∀ k T H, arounds body Q k T H → ∀ j, k ≤ j → arounds body Q j T H := by
          intro k
          induction k with
          | zero => intro T H h; exact h.elim
          | succ k ihk =>
            intro T H h j hj
            obtain ⟨j, rfl⟩ : ∃ i, j = i + 1 := ⟨j - 1, by omega⟩
            refine hb _ _ T H ?_ h
            intro e T' H' hq
            cases e with
            | normal => exact ihk T' H' hq j (by omega)
            | _ => exact hq
        exact mono _ _ _ this n (by omega)
      | _ => exact hq
  exact ⟨n + 1, key n T H h⟩

/-- the same, of code -/
theorem loop_rule {c : Code} {Q : Exit → Tm → AHeap → Prop} (I : Nat → Tm → AHeap → Prop) (hstep : ∀ n T H, I n T H → awp P c (Exit.thenA (fun T' H' => ∃ m, m < n ∧ I m T' H') Q) T H) {n : Nat} {T : Tm} {H : AHeap} (h : I n T H) : aloop (awp P c) Q T H :=
  aloop_inv (fun _ _ T H hq h => awp_mono c T H hq h) I hstep h

end Go.AW
