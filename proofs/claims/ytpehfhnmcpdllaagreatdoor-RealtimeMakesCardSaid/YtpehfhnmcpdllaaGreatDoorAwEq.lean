/-
  AW, part 28: '==' and keys of structs of plain parts.
-/
import Derived.Test.YtpehfhnmcpdllaaGreatDoorAwPre
set_option linter.unusedVariables false
set_option linter.unusedSimpArgs false
namespace Go.AW
open Go
variable {P : Program}

def andO (a b : Option Bool) : Option Bool := match a with | some true => b | some false => some false | none => none
theorem andO_some (a b : Bool) : andO (some a) (some b) = some (a && b) := by cases a <;> rfl
def eqPart (P : Program) (H : AHeap) (d : Nat) (t off : Nat) (xs ys : List Value) : Option Bool :=
  (apart P t xs.toArray off).bind fun u => (apart P t ys.toArray off).bind fun v => aeq P H d t u v
def eqParts (P : Program) (H : AHeap) (d : Nat) (xs ys : List Value) : List (Nat × Nat) → Option Bool
  | [] => some true
  | (t, off) :: r => andO (eqPart P H d t off xs ys) (eqParts P H d xs ys r)
def partsOf (fs : List Field) : List (Nat × Nat) := (fs.filter (·.name ≠ "_")).map fun f => (f.type, f.offset)

theorem aeq_struct {t : Nat} {fs : Array Field} {ps : List (Nat × Nat)} (hu : P.underlying t = some (.struct fs)) (hs : P.stoodInHeld t = false) (hp : partsOf fs.toList = ps) (H : AHeap) (d : Nat) (xs ys : List Value) :
    aeq P H (d + 1) t (.agg xs.toArray) (.agg ys.toArray) = eqParts P H d xs ys ps := by
  subst hp
  unfold aeq
  simp only [hu, hs, Bool.false_eq_true, if_false]
  generalize fs.toList = l
  induction l with
  | nil => rfl
  | cons f l ih =>
    simp only [List.foldr_cons, partsOf]
    by_cases hn : f.name = "_"
    · simp only [hn, ne_eq, not_true_eq_false, if_false]
      rw [ih]
      simp [partsOf, hn]
    · rw [if_pos hn, ih]
      simp only [List.filter_cons, ne_eq, hn, not_false_eq_true, decide_true, if_true, List.map_cons, eqParts, eqPart, partsOf]
      cases apart P f.type xs.toArray f.offset with
      | none => rfl
      | some u =>
        cases apart P f.type ys.toArray f.offset with
        | none => rfl
        | some v =>
          simp only [Option.bind_some]
          cases aeq P H d f.type u v with
          | none => rfl
          | some b => cases b <;> rfl

theorem aeq_int {t : Nat} {k : IntKind} (hu : P.underlying t = some (.int k)) (H : AHeap) (d : Nat) (a b : Int) : aeq P H (d + 1) t (.int k a) (.int k b) = some (a == b) := by
  unfold aeq; simp [hu]
theorem aeq_bool {t : Nat} (hu : P.underlying t = some .bool) (H : AHeap) (d : Nat) (a b : Bool) : aeq P H (d + 1) t (.bool a) (.bool b) = some (a == b) := by
  unfold aeq; simp [hu]
theorem aeq_string {t : Nat} (hu : P.underlying t = some .string) (H : AHeap) (d : Nat) (a b : ByteArray) : aeq P H (d + 1) t (.string a) (.string b) = some (a == b) := by
  unfold aeq; simp [hu]
theorem apart_one {t : Nat} (ha : aggT P t = some false) (l : List Value) (off : Nat) : apart P t l.toArray off = l[off]? := by simp [apart, ha]
theorem apart_agg {t n : Nat} (ha : aggT P t = some true) (hs : szT P t = some n) (l : List Value) (off : Nat) : apart P t l.toArray off = some (.agg ((l.drop off).take n).toArray) := by simp [apart, ha, hs]

theorem eqParts_nil (H : AHeap) (d : Nat) (xs ys : List Value) : eqParts P H d xs ys [] = some true := (rfl)
theorem eqParts_cons (H : AHeap) (d t off : Nat) (xs ys : List Value) (r : List (Nat × Nat)) : eqParts P H d xs ys ((t, off) :: r) = andO (eqPart P H d t off xs ys) (eqParts P H d xs ys r) := (rfl)
theorem eqPart_eq (H : AHeap) (d t off : Nat) (xs ys : List Value) : eqPart P H d t off xs ys = (apart P t xs.toArray off).bind fun u => (apart P t ys.toArray off).bind fun v => aeq P H d t u v := (rfl)

/-- '==' of structs, as an operation -/
theorem abin_agg {t : Nat} {x y : List Value} {b : Bool} (hg : P.eqGuardType P.depth t = false) (H : AHeap) (xo yo : Operand) (h : aeq P H 10000 t (.agg x.toArray) (.agg y.toArray) = some b) :
    abin P H .eql t xo yo (.agg x.toArray) (.agg y.toArray) = some (.bool b) := by
  show (if aeqGuard P t xo yo _ _ then _ else _) = _
  simp [aeqGuard, hg, h]
theorem abin_agg_ne {t : Nat} {x y : List Value} {b : Bool} (hg : P.eqGuardType P.depth t = false) (H : AHeap) (xo yo : Operand) (h : aeq P H 10000 t (.agg x.toArray) (.agg y.toArray) = some b) :
    abin P H .neq t xo yo (.agg x.toArray) (.agg y.toArray) = some (.bool !b) := by
  show (if aeqGuard P t xo yo _ _ then _ else _) = _
  simp [aeqGuard, hg, h]

/-! ### keys -/
def chkParts (P : Program) (d : Nat) (xs : List Value) : List (Nat × Nat) → Bool
  | [] => true
  | (t, off) :: r => (match apart P t xs.toArray off with | some u => acheck P d t u | none => false) && chkParts P d xs r
theorem acheck_struct {t : Nat} {fs : Array Field} {ps : List (Nat × Nat)} (hu : P.underlying t = some (.struct fs)) (hp : (fs.toList.map fun f => (f.type, f.offset)) = ps) (d : Nat) (xs : List Value) :
    acheck P (d + 1) t (.agg xs.toArray) = chkParts P d xs ps := by
  subst hp
  unfold acheck
  simp only [hu]
  generalize fs.toList = l
  induction l with
  | nil => rfl
  | cons f l ih => simp only [List.all_cons, List.map_cons, chkParts, ih]; rfl
def leafT (P : Program) (t : Nat) : Bool := match P.underlying t with | some (.interface _) | some (.array _ _) | some (.struct _) | none => false | some _ => true
theorem acheck_leaf {t : Nat} (h : leafT P t = true) (d : Nat) (v : Value) : acheck P (d + 1) t v = true := by
  unfold leafT at h
  unfold acheck
  split <;> simp_all
theorem chkParts_nil (d : Nat) (xs : List Value) : chkParts P d xs [] = true := (rfl)
theorem chkParts_one {t off d : Nat} {xs : List Value} {r : List (Nat × Nat)} {u : Value} (h : apart P t xs.toArray off = some u) (hc : acheck P d t u = true) (hr : chkParts P d xs r = true) : chkParts P d xs ((t, off) :: r) = true := by
  simp [chkParts, h, hc, hr]

/-- each cell a scalar without an address -/
def plain1 : Value → Bool
  | .bool _ | .int _ _ | .string _ => true
  | _ => false
theorem plainV_of1 {v : Value} (h : plain1 v = true) (d : Nat) : plainV d v = true := by
  cases v <;> first | (simp [plain1] at h; done) | (cases d <;> simp [plainV])
theorem plainV_agg {l : List Value} (h : l.all plain1 = true) (d : Nat) : plainV (d + 1) (.agg l.toArray) = true := by
  simp only [plainV]
  rw [List.all_eq_true] at h ⊢
  exact fun v hv => plainV_of1 (h v hv) d
theorem keyOk_of {kt : Nat} {k : Value} (h1 : acheck P 100 kt k = true) (h2 : plainV 100 k = true) : keyOk P kt k = true := by simp [keyOk, h1, h2]

/-! ### guards -/
def guardDst : List Oper → Nat → Option Tmp
  | [], _ => none
  | o :: _, 0 => o.dst
  | _ :: os, n + 1 => guardDst os n
def guardIs (v : Value) (w : Bool) : Option Bool := match v with | .bool b => some (b == w) | .tuple _ => some false | _ => none
def guardAt (d : Option Tmp) (T : Tm) (w : Bool) : Option Bool := match d with | some d => guardIs (T d) w | none => none
theorem guardDst_eq (l : List Oper) (j : Nat) : guardDst l j = (l[j]?).bind (·.dst) := by
  induction l generalizing j with
  | nil => rfl
  | cons o l ih => cases j with
    | zero => rfl
    | succ j => simpa [guardDst] using ih j
theorem aguard_some (l : List Oper) (T : Tm) (d : Option Tmp) (op : Op) (ty : TypeId) (pos : String) (aft : Array Edge) (j : Nat) (w : Bool) :
    aguard l.toArray T ⟨d, op, ty, pos, aft, some (j, w)⟩ = guardAt (guardDst l j) T w := by
  simp only [aguard, guardDst_eq, List.getElem?_toArray]
  cases (l[j]?).bind (·.dst) <;> rfl
theorem guardDst_zero (o : Oper) (os : List Oper) : guardDst (o :: os) 0 = o.dst := (rfl)
theorem guardDst_succ (o : Oper) (os : List Oper) (n : Nat) : guardDst (o :: os) (n + 1) = guardDst os n := (rfl)
theorem guardAt_some (d : Tmp) (T : Tm) (w : Bool) : guardAt (some d) T w = guardIs (T d) w := (rfl)
theorem guardIs_bool (b w : Bool) : guardIs (.bool b) w = some (b == w) := (rfl)
theorem guardIs_undef (w : Bool) : guardIs undef w = some false := (rfl)
attribute [go_sem ↓] aguard_some
attribute [go_sem] guardDst_zero guardDst_succ guardAt_some guardIs_bool guardIs_undef beq_true beq_false Bool.not_true Bool.not_false Bool.false_eq_true

end Go.AW
