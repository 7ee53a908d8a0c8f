/-
  Parts of the proof, joined: AwDefs.
-/
import Derived.Calls
import Derived.Orders
import Derived.Laws.World
import Derived.Laws.IdiomCopy
section
set_option linter.unusedVariables false
set_option linter.unusedSimpArgs false
namespace Go.AW
open Go
structure Loc where
  blk : Nat
  base : Nat
  esz : Nat
  csz : Nat
abbrev Ren := Nat → Option Loc
def emp : Value := .slice (some ⟨0, 0, some 0⟩) 0 0
inductive VR (ρ : Ren) : Value → Value → Prop
  | bool (b : Bool) : VR ρ (.bool b) (.bool b)
  | int (k : IntKind) (n : Int) : VR ρ (.int k n) (.int k n)
  | float (k : FloatKind) (b : Nat) : VR ρ (.float k b) (.float k b)
  | string (s : ByteArray) : VR ρ (.string s) (.string s)
  | ptrNil : VR ρ (.pointer none) (.pointer none)
  | ptr {id off : Nat} {l : Loc} (h : ρ id = some l) : VR ρ (.pointer (some ⟨id, off, none⟩)) (.pointer (some ⟨l.blk, l.base + off, none⟩))
  | glob (g : Nat) : VR ρ (.pointer (some ⟨g, 0, some 1⟩)) (.pointer (some ⟨g, 0, none⟩))
  | sliceNil : VR ρ (.slice none 0 0) (.slice none 0 0)
  | slice {id off n c : Nat} {l : Loc} (h : ρ id = some l) (hc : 0 < c) (hn : n ≤ c) :
      VR ρ (.slice (some ⟨id, off, none⟩) n c) (.slice (some ⟨l.blk, l.base + off, none⟩) n c)
  | sliceU {id off n c' : Nat} {l : Loc} (h : ρ id = some l) (hn : n ≤ c') (hb : l.base + off + c' * l.esz ≤ l.csz) :
      VR ρ (.slice (some ⟨id, off, none⟩) n 0) (.slice (some ⟨l.blk, l.base + off, none⟩) n c')
  | sliceZ (id off : Nat) (a' : Addr) : VR ρ (.slice (some ⟨id, off, none⟩) 0 0) (.slice (some a') 0 0)
  | sliceE (a' : Addr) : VR ρ emp (.slice (some a') 0 0)
  | mapNil : VR ρ (.map none) (.map none)
  | map {id : Nat} {l : Loc} (h : ρ id = some l) : VR ρ (.map (some id)) (.map (some l.blk))
  | nilFunc : VR ρ .nilFunc .nilFunc
  | func (fn : Fn) {asx9 asx9' bs bs' : Array Value} (ha : asx9.size = asx9'.size) (hb : bs.size = bs'.size)
      (h1 : ∀ (i : Nat) (u u' : Value), asx9[i]? = some u → asx9'[i]? = some u' → VR ρ u u') (h2 : ∀ (i : Nat) (u u' : Value), bs[i]? = some u → bs'[i]? = some u' → VR ρ u u') :
      VR ρ (.func fn asx9 bs) (.func fn asx9' bs')
  | nilIface : VR ρ .nilIface .nilIface
  | iface (t : TypeId) {v v' : Value} (h : VR ρ v v') : VR ρ (.iface t v) (.iface t v')
  | agg {asx9 asx9' : Array Value} (ha : asx9.size = asx9'.size) (h : ∀ (i : Nat) (u u' : Value), asx9[i]? = some u → asx9'[i]? = some u' → VR ρ u u') : VR ρ (.agg asx9) (.agg asx9')
  | tuple {asx9 asx9' : Array Value} (ha : asx9.size = asx9'.size) (h : ∀ (i : Nat) (u u' : Value), asx9[i]? = some u → asx9'[i]? = some u' → VR ρ u u') : VR ρ (.tuple asx9) (.tuple asx9')
inductive AObj where
  | row (cs : List Value) (esz : Nat) (own : Bool)
  | map (es : Array MapEntry) (clock : Nat)
  | mapIter (m : Option Nat) (since : Nat) (seen : Array Nat) (last : Nat)
  | strIter (s : ByteArray) (pos : Nat)
  | gone
  | rowx (cs : List Value) (esz ext : Nat)
  deriving Inhabited
abbrev AHeap := List AObj
abbrev Tm := Nat → Value
def Tm.put (T : Tm) (d : Option Tmp) (v : Value) : Tm := match d with | none => T | some d => fun t => if t = d then v else T t
def aev (T : Tm) : Operand → Value
  | .tmp t => T t
  | .const v => v
  | .global g => .pointer (some ⟨g, 0, some 1⟩)
  | .func f => .func (.func f) #[] #[]
def aggT (P : Program) (t : TypeId) : Option Bool :=
  match P.underlying t with
  | some (.struct _) | some (.array _ _) => some true
  | some _ => some false
  | none => none
def szT (P : Program) (t : TypeId) : Option Nat := (P.info? t).map (·.size)
def zeroT (P : Program) (t : TypeId) : Option Value := (P.info? t).bind (·.zero)
def fieldT (P : Program) (t : TypeId) (i : Nat) : Option Field := match P.underlying t with | some (.struct fs) => fs[i]? | _ => none
def elemT (P : Program) (t : TypeId) : Option TypeId := match P.underlying t with | some (.slice e) => some e | _ => none
def aload (H : AHeap) (a : Addr) (n : Nat) : Option (List Value) :=
  match a.spot, H[a.block]? with
  | none, some (.row cs _ _) => if a.off + n ≤ cs.length then some ((cs.drop a.off).take n) else none
  | _, _ => none
def aloadT (P : Program) (H : AHeap) (t : TypeId) (v : Value) : Option Value :=
  match v with
  | .pointer (some a) =>
    (aggT P t).bind fun g =>
      match g with
      | true => (szT P t).bind fun n => (aload H a n).map fun cs => .agg cs.toArray
      | false => (aload H a 1).bind (·[0]?)
  | _ => none
def oneCell (v : Value) : Bool := match v with | .agg _ | .tuple _ => false | _ => true
def astore (H : AHeap) (a : Addr) (vs : List Value) : Option AHeap :=
  match a.spot, H[a.block]? with
  | none, some (.row cs k true) =>
    if a.off + vs.length ≤ cs.length && vs.all oneCell then some (H.set a.block (.row (cs.take a.off ++ vs ++ cs.drop (a.off + vs.length)) k true)) else none
  | _, _ => none
def astoreT (P : Program) (H : AHeap) (t : TypeId) (v x : Value) : Option AHeap :=
  match v with
  | .pointer (some a) => (szT P t).bind fun n => if x.cells.size = n then astore H a x.cells.toList else none
  | _ => none
def apart (P : Program) (t : TypeId) (cs : Array Value) (off : Nat) : Option Value :=
  (aggT P t).bind fun g =>
    match g with
    | true => (szT P t).map fun n => .agg (cs.extract off (off + n))
    | false => cs[off]?
def aint (op : BinOp) (k : IntKind) (a b : Int) : Option Value :=
  match op with
  | .add => some (.int k (k.wrap (a + b)))
  | .sub => some (.int k (k.wrap (a - b)))
  | .mul => some (.int k (k.wrap (a * b)))
  | .quo => if b = 0 then none else some (.int k (k.wrap (a.tdiv b)))
  | .rem => if b = 0 then none else some (.int k (a.tmod b))
  | .and => some (.int k (k.wrap (BitVec.ofInt k.bits a &&& BitVec.ofInt k.bits b).toNat))
  | .or => some (.int k (k.wrap (BitVec.ofInt k.bits a ||| BitVec.ofInt k.bits b).toNat))
  | .xor => some (.int k (k.wrap (BitVec.ofInt k.bits a ^^^ BitVec.ofInt k.bits b).toNat))
  | .andNot => some (.int k (k.wrap (BitVec.ofInt k.bits a &&& ~~~ BitVec.ofInt k.bits b).toNat))
  | .eql => some (.bool (a == b))
  | .neq => some (.bool (a != b))
  | .lss => some (.bool (decide (a < b)))
  | .leq => some (.bool (decide (a ≤ b)))
  | .gtr => some (.bool (decide (a > b)))
  | .geq => some (.bool (decide (a ≥ b)))
  | _ => none
def ashift (op : BinOp) (k : IntKind) (x y : Int) : Option Value :=
  if y < 0 then none else
  match op with
  | .shl => some (.int k (k.wrap (x * 2 ^ (min y.toNat k.bits))))
  | .shr => some (.int k (x.fdiv (2 ^ (min y.toNat k.bits))))
  | _ => none
def astr (op : BinOp) (x y : ByteArray) : Option Value :=
  match op with
  | .add => if ((x.size + y.size : Nat) : Int) > IntKind.i64.max then none else some (.string (x ++ y))
  | .eql => some (.bool (x.toList == y.toList))
  | .neq => some (.bool (!(x.toList == y.toList)))
  | .lss => some (.bool (Op.bytesLess x.toList y.toList))
  | .leq => some (.bool (Op.bytesLess x.toList y.toList || x.toList == y.toList))
  | .gtr => some (.bool (!(Op.bytesLess x.toList y.toList || x.toList == y.toList)))
  | .geq => some (.bool (!Op.bytesLess x.toList y.toList))
  | _ => none
def ownRow (H : AHeap) (id : Nat) : Bool := match H[id]? with | some (.row (_ :: _) k true) => k != 1 | _ => false
def aeq (P : Program) (H : AHeap) : Nat → TypeId → Value → Value → Option Bool
  | 0, _, _, _ => none
  | d + 1, t, x, y =>
    match P.underlying t, x, y with
    | some .bool, .bool a, .bool b => some (a == b)
    | some (.int _), .int k a, .int k' b => if k = k' then some (a == b) else none
    | some .string, .string a, .string b => some (a == b)
    | some (.pointer _), .pointer none, .pointer b => some b.isNone
    | some (.pointer _), .pointer (some _), .pointer none => some false
    | some (.pointer e), .pointer (some a), .pointer (some b) =>
      match szT P e with
      | some (_ + 1) => if a.spot.isNone && b.spot.isNone && ownRow H a.block && ownRow H b.block then some (a == b) else none
      | _ => none
    | some (.interface _), .nilIface, .nilIface => some true
    | some (.interface _), .nilIface, .iface _ _ => some false
    | some (.interface _), .iface _ _, .nilIface => some false
    | some (.interface _), .iface tx vx, .iface ty vy =>
      if tx ≠ ty then some false else
      match P.info? tx with
      | some i => if i.comparable then aeq P H d tx vx vy else none
      | none => none
    | some (.struct fields), .agg xs, .agg ys =>
      if P.stoodInHeld t then none else
      fields.toList.foldr (fun f r =>
        if f.name ≠ "_" then
          match apart P f.type xs f.offset, apart P f.type ys f.offset with
          | some u, some v => match aeq P H d f.type u v with
            | some true => r
            | some false => some false
            | none => none
          | _, _ => none
        else r) (some true)
    | some (.slice _), .slice none _ _, .slice b _ _ => some b.isNone
    | some (.slice _), .slice (some _) _ _, .slice none _ _ => some false
    | some (.map _ _), .map none, .map b => some b.isNone
    | some (.map _ _), .map (some _), .map none => some false
    | some (.func _ _ _), .nilFunc, .nilFunc => some true
    | some (.func _ _ _), .nilFunc, .func _ _ _ => some false
    | some (.func _ _ _), .func _ _ _, .nilFunc => some false
    | _, _, _ => none
def isConst : Operand → Bool
  | .const _ => true
  | _ => false
def noMeth (P : Program) (t : TypeId) : Bool := match P.underlying t with | some (.interface ms) => ms.isEmpty | _ => false
def aeqGuard (P : Program) (t : TypeId) (x y : Operand) (a b : Value) : Bool :=
  match a, b with
  | .nilIface, .nilIface => isConst x || isConst y || noMeth P t
  | .agg _, .agg _ => !P.eqGuardType P.depth t
  | _, _ => true
def abin (P : Program) (H : AHeap) (op : BinOp) (t : TypeId) (xo yo : Operand) (x y : Value) : Option Value :=
  match op, x, y with
  | .shl, .int k a, .int _ b => ashift .shl k a b
  | .shr, .int k a, .int _ b => ashift .shr k a b
  | op, .int k a, .int k' b => if k = k' then aint op k a b else none
  | op, .string a, .string b => astr op a b
  | .eql, x, y => if aeqGuard P t xo yo x y then (aeq P H 10000 t x y).map .bool else none
  | .neq, x, y => if aeqGuard P t xo yo x y then (aeq P H 10000 t x y).map fun b => .bool (!b) else none
  | _, _, _ => none
def aun (op : UnOp) (x : Value) : Option Value :=
  match op, x with
  | .neg, .int k n => some (.int k (k.wrap (0 - n)))
  | .xor, .int k n => some (.int k (k.wrap (BitVec.ofInt k.bits (if k.signed then -1 else k.max) ^^^ BitVec.ofInt k.bits n).toNat))
  | .not, .bool b => some (.bool !b)
  | _, _ => none
def aconv (P : Program) (src dst : TypeId) (x : Value) : Option Value :=
  match P.underlying src, P.underlying dst, x with
  | some _, some (.int k), .int _ n => some (.int k (k.wrap n))
  | some _, some .string, .string s => some (.string s)
  | some _, some .string, .int _ n => some (.string (Utf8.encode n))
  | _, _, _ => none
def abound (v : Value) (y : Nat) : Option Nat := match v with | .int _ i => if 0 ≤ i ∧ i ≤ y then some i.toNat else none | _ => none
def optB (o : Option Value) (d : Option Nat) (y : Nat) : Option Nat := match o with | some v => abound v y | none => d
def rowOf (H : AHeap) (id k : Nat) : Bool := match H[id]? with | some (.row _ k' true) => k' == k | _ => false
def aslice (P : Program) (H : AHeap) (t : TypeId) (x : Value) (low high mx : Option Value) : Option Value :=
  match P.underlying t, x with
  | some .string, .string s =>
    match mx with
    | some _ => none
    | none => (optB high (some s.size) s.size).bind fun h => (optB low (some 0) h).bind fun l => some (.string (s.extract l h))
  | some (.slice e), .slice a n c =>
    (szT P e).bind fun k =>
    match mx with
    | none =>
      (optB high (some n) (if c = 0 then n else c)).bind fun h =>
      (optB low (some 0) h).bind fun l =>
      match a with
      | none => some (.slice none 0 0)
      | some a =>
        if a.spot.isSome then some emp else
        if c = 0 then (if rowOf H a.block k then some (.slice (some (a.add (l * k))) (h - l) 0) else none) else
        if c = l then some emp else some (.slice (some (a.add (l * k))) (h - l) (c - l))
    | some m =>
      (abound m (if c = 0 then n else c)).bind fun m =>
      (optB high none m).bind fun h =>
      (optB low (some 0) h).bind fun l =>
      match a with
      | none => some (.slice none 0 0)
      | some a => if a.spot.isSome then some emp else if m = l then some emp else some (.slice (some (a.add (l * k))) (h - l) (m - l))
  | _, _ => none
def afieldAddr (P : Program) (s : TypeId) (v : Value) (i : Nat) : Option Value :=
  match v with
  | .pointer (some a) => if a.spot.isSome then none else
    (fieldT P s i).bind fun f => (szT P f.type).bind fun n => if n = 0 then none else some (.pointer (some (a.add f.offset)))
  | _ => none
def aindexAddr (P : Program) (t : TypeId) (x ix : Value) : Option Value :=
  match P.underlying t, x, ix with
  | some (.slice e), .slice (some a) n _, .int _ i =>
    if a.spot.isSome then none else
    if 0 ≤ i ∧ i < n then (szT P e).bind fun k => some (.pointer (some (a.add (i.toNat * k)))) else none
  | some (.array n e), .pointer (some a), .int _ i =>
    if a.spot.isSome then none else
    if 0 ≤ i ∧ i < n then (szT P e).bind fun k => some (.pointer (some (a.add (i.toNat * k)))) else none
  | _, _, _ => none
def aindex (P : Program) (t : TypeId) (x ix : Value) : Option Value :=
  match P.underlying t, x, ix with
  | some (.array n e), .agg cs, .int _ i => if 0 ≤ i ∧ i < n then (szT P e).bind fun k => apart P e cs (i.toNat * k) else none
  | some .string, .string s, .int _ i => if 0 ≤ i then (s[i.toNat]?).map fun b => .int .u8 b.toNat else none
  | _, _, _ => none
def afield (P : Program) (t : TypeId) (x : Value) (i : Nat) : Option Value :=
  match x with
  | .agg cs => (fieldT P t i).bind fun f => apart P f.type cs f.offset
  | _ => none
def mapOpt {α β : Type} (f : α → Option β) : List α → Option (List β)
  | [] => some []
  | x :: xs => match f x, mapOpt f xs with | some y, some ys => some (y :: ys) | _, _ => none
def plainV : Nat → Value → Bool
  | _, .bool _ | _, .int _ _ | _, .string _ | _, .nilIface | _, .pointer none | _, .slice none 0 0 | _, .map none | _, .nilFunc => true
  | d + 1, .iface _ v => plainV d v
  | d + 1, .agg cs => cs.toList.all (plainV d)
  | _, .func (.func _) asx9 bs => asx9.size = 0 && bs.size = 0
  | _, _ => false
def abuild (P : Program) (t : TypeId) (parts : List (Nat × Value)) : Option Value :=
  (zeroT P t).bind fun z =>
  if plainV 100 z then
  match P.underlying t with
  | some (.struct fs) => (mapOpt (fun (f : Field) => (szT P f.type).map fun n => (f.offset, n)) fs.toList).bind fun pl => (Instr.fill (fun i => pl[i]?) z.cells parts).map .agg
  | some (.array _ e) => (szT P e).bind fun n => (Instr.fill (fun i => some (i * n, n)) z.cells parts).map .agg
  | _ => none
  else none
def aextract (v : Value) (i : Nat) : Option Value := match v with | .tuple vs => vs[i]? | _ => none
def afind (P : Program) (kt : TypeId) (k : Value) : List MapEntry → Nat → Option (Option (Nat × Value))
  | [], _ => some none
  | e :: es, i => match aeq P [] 10000 kt k e.key with
    | some true => some (some (i, e.val))
    | some false => afind P kt k es (i + 1)
    | none => none
def acheck (P : Program) : Nat → TypeId → Value → Bool
  | 0, _, _ => false
  | d + 1, t, v =>
    match P.underlying t, v with
    | some (.interface _), .nilIface => true
    | some (.interface _), _ => false
    | some (.array _ _), _ => false
    | some (.struct fs), .agg cs => fs.toList.all fun f => match apart P f.type cs f.offset with | some u => acheck P d f.type u | none => false
    | some (.struct _), _ => false
    | some _, _ => true
    | none, _ => false
def entriesOf (H : AHeap) (m : Value) : Option (Array MapEntry) :=
  match m with
  | .map none => some #[]
  | .map (some r) => match H[r]? with | some (.map es _) => some es | _ => none
  | _ => none
def mapT (P : Program) (t : TypeId) : Option (TypeId × TypeId) := match P.underlying t with | some (.map k e) => some (k, e) | _ => none
def keyOk (P : Program) (kt : TypeId) (k : Value) : Bool := acheck P 100 kt k && plainV 100 k
def alookup (P : Program) (H : AHeap) (t : TypeId) (m k : Value) (ok : Bool) : Option Value :=
  (mapT P t).bind fun (kt, e) =>
  (entriesOf H m).bind fun es =>
  if keyOk P kt k then
    (afind P kt k es.toList 0).bind fun r =>
    match r with
    | some (_, v) => some (if ok then .tuple #[v, .bool true] else v)
    | none => if (zeroT P e).any (plainV 100) then (zeroT P e).map fun z => if ok then .tuple #[z, .bool false] else z else none
  else none
def alen (P : Program) (H : AHeap) (t : TypeId) (x : Value) : Option Value :=
  match P.underlying t, x with
  | some .string, .string s => some (.int .i64 s.size)
  | some (.array n _), _ => some (.int .i64 n)
  | some (.slice _), .slice _ n _ => some (.int .i64 n)
  | some (.map _ _), m => (entriesOf H m).map fun es => .int .i64 es.size
  | _, _ => none
def acap (P : Program) (t : TypeId) (x : Value) : Option Value :=
  match P.underlying t, x with
  | some (.slice _), .slice none _ _ => some (.int .i64 0)
  | some (.slice _), .slice _ _ c => if c = 0 then none else some (.int .i64 c)
  | _, _ => none
def amax2 (x y : Value) : Option Value :=
  match x, y with
  | .int k x, .int _ y => some (.int k (if y > x then y else x))
  | _, _ => none
def amin2 (x y : Value) : Option Value :=
  match x, y with
  | .int k x, .int _ y => some (.int k (if y < x then y else x))
  | _, _ => none
def afold (f : Value → Value → Option Value) : List Value → Option Value
  | [] => none
  | [x] => some x
  | x :: y :: r => (f x y).bind fun z => afold f (z :: r)
termination_by l => l.length
def nilChk (v : Value) : Option Value :=
  match v with
  | .pointer (some a) => some (.pointer (some a))
  | .iface t v => some (.iface t v)
  | .func (.func f) asx9 bs => some (.func (.func f) asx9 bs)
  | _ => none
def methOf (P : Program) (t : TypeId) (name : String) : Option FuncId :=
  match P.info? t with
  | some i => match i.methods.find? (·.name == name) with
    | some m => if m.path.toList.isEmpty then (match m.func, P.underlying t with | some (f, true), some (.pointer _) => some f | _, _ => none) else none
    | none => none
  | none => none
def nilChkM (P : Program) (v : Value) : Option Value :=
  match v with
  | .func (.method name) asx9 bs => match (asx9[0]? : Option Value) with
    | some (Value.iface t _) => if (methOf P t name).isSome then some (.func (.method name) asx9 bs) else none
    | _ => none
  | v => nilChk v
def mapIterOf (H : AHeap) (v : Value) : Option (Nat × Option Nat × Nat × Array Nat × Nat) :=
  match v with
  | .pointer (some ⟨r, 0, none⟩) => match H[r]? with | some (.mapIter m s sn l) => some (r, m, s, sn, l) | _ => none
  | _ => none
def aentry (H : AHeap) (it : Value) : Option Value :=
  (mapIterOf H it).bind fun (_, m, _, seen, last) =>
  match m with
  | none => none
  | some m => match H[m]? with
    | some (.map es clock) => if clock != last then none else (seen.back?).bind fun st => (es.find? (·.born == st)).map fun e => .tuple #[e.key, e.val]
    | _ => none
def aToStr (H : AHeap) (x : Value) : Option Value :=
  match x with
  | .slice none _ _ => some (.string .empty)
  | .slice (some a) n _ => if n = 0 then some (.string .empty) else
    (aload H a n).bind fun cs => (mapOpt (fun v => match v with | .int .u8 b => some (UInt8.ofNat b.toNat) | _ => none) cs).map fun bs => .string ⟨bs.toArray⟩
  | _ => none
def aread (P : Program) (T : Tm) (o : Oper) (H : AHeap) : Option Value :=
  match o.op with
  | .move x | .assign x => some (aev T x)
  | .pick c a b => match aev T c with | .bool c => some (if c then aev T a else aev T b) | _ => none
  | .nilCheck x => nilChkM P (aev T x)
  | .binOp op t x y _ => abin P H op t x y (aev T x) (aev T y)
  | .unOp op _ x => aun op (aev T x)
  | .convert s d x =>
    match P.underlying s, P.underlying d with
    | some (.slice e), some .string => if P.underlying e matches some (.int .u8) then aToStr H (aev T x) else none
    | _, _ => aconv P s d (aev T x)
  | .makeInterface t x => match P.underlying t with | some (.interface _) | none => none | some _ => some (.iface t (aev T x))
  | .makeFunc fn first captured => some (.func fn (first.map (aev T)) (captured.map (aev T)))
  | .field t x i => afield P t (aev T x) i
  | .index t x i => aindex P t (aev T x) (aev T i)
  | .fieldAddr s x i => afieldAddr P s (aev T x) i
  | .indexAddr t x i => aindexAddr P t (aev T x) (aev T i)
  | .slice t x lo hi mx => aslice P H t (aev T x) (lo.map (aev T)) (hi.map (aev T)) (mx.map (aev T))
  | .build t ps => abuild P t (ps.toList.map fun p => (p.1, aev T p.2))
  | .extract t i => aextract (aev T t) i
  | .load t a => aloadT P H t (aev T a)
  | .lookup t m k ok => alookup P H t (aev T m) (aev T k) ok
  | .entry it => aentry H (aev T it)
  | .call { callee := .builtin .len, args, argTypes } => match args.toList, argTypes.toList with | [x], [t] => alen P H t (aev T x) | _, _ => none
  | .call { callee := .builtin .cap, args, argTypes } => match args.toList, argTypes.toList with | [x], [t] => acap P t (aev T x) | _, _ => none
  | .call { callee := .builtin .max, args, .. } => afold amax2 (args.toList.map (aev T))
  | .call { callee := .builtin .min, args, .. } => afold amin2 (args.toList.map (aev T))
  | _ => none
def aalloc (P : Program) (T : Tm) (o : Oper) : Option (AObj × (Nat → Value)) :=
  match o.op with
  | .alloc e => (zeroT P e).bind fun z => if plainV 100 z then some (.row z.cells.toList z.cells.size true, fun id => .pointer (some ⟨id, 0, none⟩)) else none
  | .box _ x => some (.row (aev T x).cells.toList (aev T x).cells.size true, fun id => .pointer (some ⟨id, 0, none⟩))
  | .buildSlice t n ps =>
    (elemT P t).bind fun e => (szT P e).bind fun k => (zeroT P e).bind fun z =>
    if n * k ≤ 2 ^ 24 ∧ 0 < k ∧ plainV 100 z ∧ z.cells.size = k then
      (Instr.fill (fun i => some (i * k, k)) ((Array.range (n * k)).map (z.cells[· % z.cells.size]!)) (ps.toList.map fun p => (p.1, aev T p.2))).map fun cs =>
        (.row cs.toList k true, fun id => .slice (some ⟨id, 0, none⟩) n n)
    else none
  | .makeMap _ none => some (.map #[] 0, fun id => .map (some id))
  | .makeSlice t l c =>
    match aev T l, aev T c with
    | .int .i64 l, .int .i64 c =>
      (elemT P t).bind fun e => (P.info? e).bind fun i => i.zero.bind fun z =>
      if 0 ≤ l ∧ l ≤ c ∧ i.bytes * c ≤ 2 ^ 47 ∧ c < 2 ^ 62 ∧ 0 < i.size ∧ z.cells.size = i.size ∧ plainV 100 z then
        some (.row ((Array.range (c.toNat * i.size)).map (z.cells[· % z.cells.size]!)).toList i.size true, fun id => .slice (some ⟨id, 0, none⟩) l.toNat c.toNat)
      else none
    | _, _ => none
  | _ => none
def amapPut (P : Program) (H : AHeap) (t : TypeId) (m k x : Value) : Option AHeap :=
  (mapT P t).bind fun (kt, _) =>
  match m with
  | .map (some r) =>
    match H[r]? with
    | some (.map es ck) =>
      if keyOk P kt k then
        (afind P kt k es.toList 0).bind fun q =>
        match q with
        | some (i, _) => if Instr.sameBits 10000 (((es[i]?).map (·.key)).getD k) k then some (H.set r (.map (es.modify i fun e => { e with key := k, val := x }) ck)) else none
        | none => some (H.set r (.map (es.push { key := k, val := x, born := ck }) (ck + 1)))
      else none
    | _ => none
  | _ => none
def amapEntry (P : Program) (H : AHeap) (t : TypeId) (m k : Value) : Option (Value × AHeap) :=
  (mapT P t).bind fun (kt, e) =>
  match m with
  | .map (some r) =>
    match H[r]? with
    | some (.map es ck) =>
      if keyOk P kt k then
        (afind P kt k es.toList 0).bind fun q =>
        match q with
        | some (i, v) => if Instr.sameBits 10000 (((es[i]?).map (·.key)).getD k) k then
            some (.tuple #[v, .int .i64 (((es[i]?).map (·.born)).getD 0)], H.set r (.map (es.modify i fun e => { e with key := k }) ck)) else none
        | none => (zeroT P e).bind fun z => if plainV 100 z then some (.tuple #[z, .int .i64 ck], H.set r (.map (es.push { key := k, val := z, born := ck }) (ck + 1))) else none
      else none
    | _ => none
  | _ => none
def aentryStore (H : AHeap) (m st x : Value) : Option AHeap :=
  match m, st with
  | .map (some r), .int _ n =>
    match H[r]? with
    | some (.map es ck) => (es.findIdx? (fun e => (e.born : Int) == n)).map fun i => H.set r (.map (es.modify i fun e => { e with val := x }) ck)
    | _ => none
  | _, _ => none
def adelete (P : Program) (H : AHeap) (t : TypeId) (m k : Value) : Option AHeap :=
  (mapT P t).bind fun (kt, _) =>
  if keyOk P kt k then
    match m with
    | .map none => some H
    | .map (some r) =>
      match H[r]? with
      | some (.map es ck) =>
        (afind P kt k es.toList 0).bind fun q =>
        match q with
        | some (i, _) => some (H.set r (.map (es.eraseIdxIfInBounds i) ck))
        | none => some (H.set r (.map es ck))
      | _ => none
    | _ => none
  else none
def byteVals (s : ByteArray) : List Value := s.data.toList.map fun b => Value.int .u8 b.toNat
def asrc (P : Program) (H : AHeap) (k : Nat) (tx : TypeId) (x : Value) : Option (Nat × List Value) :=
  match P.underlying tx, x with
  | some (.slice _), .slice none 0 _ => some (0, [])
  | some (.slice _), .slice (some a) n _ => if n = 0 then some (0, []) else (aload H a (n * k)).bind fun cs => if cs.all oneCell then some (n, cs) else none
  | some .string, .string s => if k = 1 then some (s.size, byteVals s) else none
  | _, _ => none
def aappend0 (P : Program) (H : AHeap) (st xt : TypeId) (s x : Value) : Option (Value × AHeap) :=
  (elemT P st).bind fun e => (P.info? e).bind fun i => i.zero.bind fun z =>
  (asrc P H i.size xt x).bind fun (n, news) =>
  match s with
  | .slice base len c =>
    if 0 < i.size ∧ z.cells.size = i.size ∧ (len + n) * i.bytes ≤ 2 ^ 47 ∧ len + n < 2 ^ 62 then
      if n = 0 then some (s, H) else
      match base with
      | none => some (.slice (some ⟨H.length, 0, none⟩) n 0, H ++ [.row news i.size true])
      | some a =>
        if a.spot.isSome then (if len = 0 then some (.slice (some ⟨H.length, 0, none⟩) n 0, H ++ [.row news i.size true]) else none) else
        if c = 0 then
          if rowOf H a.block i.size then
            (aload H a (len * i.size)).bind fun old => some (.slice (some ⟨H.length, 0, none⟩) (len + n) 0, (H.set a.block .gone) ++ [.row (old ++ news) i.size true])
          else none
        else if len + n ≤ c then (astore H (a.add (len * i.size)) news).map fun H' => (.slice base (len + n) c, H')
        else (aload H a (len * i.size)).bind fun old => some (.slice (some ⟨H.length, 0, none⟩) (len + n) 0, H ++ [.row (old ++ news) i.size true])
    else none
  | _ => none
def aappendZ (P : Program) (H : AHeap) (st xt : TypeId) (s x : Value) : Option (Value × AHeap) :=
  (elemT P st).bind fun e => (P.info? e).bind fun i => i.zero.bind fun z =>
  match P.underlying xt, s, x with
  | some (.int _), .slice (some a) len c, .int _ n =>
    if 0 < i.size ∧ z.cells.size = i.size ∧ plainV 100 z ∧ a.spot = none ∧ 0 < c ∧ 0 < n ∧ c < len + n.toNat ∧ (len + n.toNat) * i.bytes ≤ 2 ^ 47 ∧ len + n.toNat < 2 ^ 62 then
      (aload H a (len * i.size)).bind fun old => some (.slice (some ⟨H.length, 0, none⟩) (len + n.toNat) 0, H ++ [.row (old ++ (Builtin.zeroCells z.cells n.toNat).toList) i.size true])
    else none
  | _, _, _ => none
def aappend (P : Program) (H : AHeap) (st xt : TypeId) (s x : Value) : Option (Value × AHeap) :=
  match aappend0 P H st xt s x with
  | some r => some r
  | none => aappendZ P H st xt s x
def acopy (P : Program) (H : AHeap) (dt xt : TypeId) (d x : Value) : Option (Value × AHeap) :=
  (elemT P dt).bind fun e => (szT P e).bind fun k =>
  (asrc P H k xt x).bind fun (n, news) =>
  match d with
  | .slice none 0 _ => some (.int .i64 0, H)
  | .slice (some a) len _ =>
    if min n len = 0 then some (.int .i64 0, H)
    else (astore H a (news.take (min n len * k))).map fun H' => (.int .i64 (min n len : Nat), H')
  | _ => none
def isX (H : AHeap) : Value → Bool
  | .slice (some a) _ _ => match H[a.block]? with | some (.rowx ..) => true | _ => false
  | _ => false
def acopyX (P : Program) (H : AHeap) (dt xt : TypeId) (d x : Value) : Option (Value × AHeap) :=
  (elemT P dt).bind fun e => (szT P e).bind fun k => (elemT P xt).bind fun _ =>
  match d, x with
  | .slice (some a) len _, .slice (some b) m _ =>
    match H[a.block]? with
    | some (.rowx cs k' ext) =>
      if a.spot = none ∧ b.spot = none ∧ b.block = a.block ∧ k' = k ∧ 0 < min m len ∧ b.off + min m len * k ≤ cs.length ∧ a.off ≤ cs.length ∧ a.off + min m len * k ≤ cs.length + ext ∧ ((cs.drop b.off).take (min m len * k)).all oneCell = true then
        some (.int .i64 (min m len : Nat), H.set a.block (.row (cs.take a.off ++ (cs.drop b.off).take (min m len * k) ++ cs.drop (a.off + min m len * k)) k true))
      else none
    | _ => none
  | _, _ => none
def acopy2 (P : Program) (H : AHeap) (dt xt : TypeId) (d x : Value) : Option (Value × AHeap) := if isX H d then acopyX P H dt xt d x else acopy P H dt xt d x
def aclear (P : Program) (H : AHeap) (t : TypeId) (x : Value) : Option AHeap :=
  match P.underlying t, x with
  | some (.slice e), .slice a n _ =>
    match a with
    | none => some H
    | some a => if n = 0 then some H else
      (szT P e).bind fun k => (zeroT P e).bind fun z =>
      if plainV 100 z ∧ z.cells.size = k then astore H a (Builtin.zeroCells z.cells n).toList else none
  | some (.map _ _), .map none => some H
  | some (.map _ _), .map (some r) => match H[r]? with | some (.map _ ck) => some (H.set r (.map #[] ck)) | _ => none
  | _, _ => none
def arange (P : Program) (H : AHeap) (t : TypeId) (x : Value) : Option (Value × AHeap) :=
  match P.underlying t, x with
  | some .string, .string s => some (.pointer (some ⟨H.length, 0, none⟩), H ++ [.strIter s 0])
  | some (.map _ _), .map none => some (.pointer (some ⟨H.length, 0, none⟩), H ++ [.mapIter none 0 #[] 0])
  | some (.map _ _), .map (some m) => match H[m]? with | some (.map _ ck) => some (.pointer (some ⟨H.length, 0, none⟩), H ++ [.mapIter (some m) ck #[] ck]) | _ => none
  | _, _ => none
def aToBytes (P : Program) (H : AHeap) (s d : TypeId) (x : Value) : Option (Value × AHeap) :=
  match P.underlying s, P.underlying d, x with
  | some _, some (.slice e), .string b => if P.underlying e matches some (.int .u8) then some (.slice (some ⟨H.length, 0, none⟩) b.size 0, H ++ [.row (byteVals b) 1 true]) else none
  | _, _, _ => none
def two (xs : Array Operand) : Option (Operand × Operand) := match xs.toList with | [x, y] => some (x, y) | _ => none
def one (xs : Array Operand) : Option Operand := match xs.toList with | [x] => some x | _ => none
def aeff (P : Program) (T : Tm) (o : Oper) (H : AHeap) : Option (Value × AHeap) :=
  match o.op with
  | .store t a x => (astoreT P H t (aev T a) (aev T x)).map (undef, ·)
  | .mapUpdate t m k x | .insert t m k x => (amapPut P H t (aev T m) (aev T k) (aev T x)).map (undef, ·)
  | .mapEntry t m k => amapEntry P H t (aev T m) (aev T k)
  | .entryStore _ m s x => (aentryStore H (aev T m) (aev T s) (aev T x)).map (undef, ·)
  | .range t x => arange P H t (aev T x)
  | .convert s d x => aToBytes P H s d (aev T x)
  | .call { callee := .builtin .append, args, argTypes } => match args.toList, argTypes.toList with | [s, x], [st, xt] => aappend P H st xt (aev T s) (aev T x) | _, _ => none
  | .call { callee := .builtin .copy, args, argTypes } => match args.toList, argTypes.toList with | [s, x], [st, xt] => acopy2 P H st xt (aev T s) (aev T x) | _, _ => none
  | .call { callee := .builtin .delete, args, argTypes } => match args.toList, argTypes.toList with | [m, k], t :: _ => (adelete P H t (aev T m) (aev T k)).map (.tuple #[], ·) | _, _ => none
  | .call { callee := .builtin .clear, args, argTypes } => match args.toList, argTypes.toList with | [x], [t] => (aclear P H t (aev T x)).map (.tuple #[], ·) | _, _ => none
  | _ => none
def anext (H : AHeap) (it : Value) (K : Value → AHeap → Prop) : Prop :=
  match mapIterOf H it with
  | some (_, none, _, _, _) => K (.tuple #[.bool false]) H
  | some (r, some m, since, seen, last) =>
    match H[m]? with
    | some (.map es clock) =>
      (!seen.isEmpty && !es.isEmpty && es.all (·.born ≥ last)) = false ∧
      let left := es.filter fun e => !seen.contains e.born
      let old := left.filter (·.born < since)
      let new := left.filter (·.born ≥ since)
      (old = #[] → K (.tuple #[.bool false]) H) ∧
      ∀ e, e ∈ old ++ new → K (.tuple #[.bool true, e.key, e.val]) (H.set r (.mapIter (some m) since (seen.push e.born) clock))
    | _ => False
  | none => False
def anextS (H : AHeap) (it : Value) : Option (Value × AHeap) :=
  match it with
  | .pointer (some ⟨r, 0, none⟩) =>
    match H[r]? with
    | some (.strIter s pos) =>
      if pos < s.size then some (.tuple #[.bool true, .int .i64 pos, .int .i32 (Utf8.decode s pos).1], H.set r (.strIter s (pos + (Utf8.decode s pos).2)))
      else some (.tuple #[.bool false], H)
    | _ => none
  | _ => none
def acallee (P : Program) (T : Tm) (c : Call) : Option (FuncId × List Value) :=
  match c.callee with
  | .value f =>
    match aev T f with
    | .func (.func g) first captured => some (g, first.toList ++ c.args.toList.map (aev T) ++ captured.toList)
    | _ => none
  | .invoke r name =>
    match aev T r with
    | .iface t v => (methOf P t name).map fun g => (g, v :: c.args.toList.map (aev T))
    | _ => none
  | _ => none
end Go.AW
namespace Go.AW
open Go
theorem VR.mono {ρ ρ' : Ren} (h : ∀ id l, ρ id = some l → ρ' id = some l) {v v' : Value} (hv : VR ρ v v') : VR ρ' v v' := by
  induction hv with
  | bool b => exact .bool b
  | int k n => exact .int k n
  | float k b => exact .float k b
  | string s => exact .string s
  | ptrNil => exact .ptrNil
  | ptr hl => exact .ptr (h _ _ hl)
  | glob g => exact .glob g
  | sliceNil => exact .sliceNil
  | slice hl hc hn => exact .slice (h _ _ hl) hc hn
  | sliceU hl hn hb => exact .sliceU (h _ _ hl) hn hb
  | sliceZ id off a' => exact .sliceZ id off a'
  | sliceE a' => exact .sliceE a'
  | mapNil => exact .mapNil
  | map hl => exact .map (h _ _ hl)
  | nilFunc => exact .nilFunc
  | func fn ha hb _ _ i1 i2 => exact .func fn ha hb i1 i2
  | nilIface => exact .nilIface
  | iface t _ ih => exact .iface t ih
  | agg ha _ ih => exact .agg ha ih
  | tuple ha _ ih => exact .tuple ha ih
def VRs (ρ : Ren) (l l' : List Value) : Prop := l.length = l'.length ∧ ∀ (i : Nat) (u u' : Value), l[i]? = some u → l'[i]? = some u' → VR ρ u u'
theorem VRs.nil {ρ : Ren} : VRs ρ [] [] := ⟨rfl, by simp⟩
theorem VRs.cons {ρ : Ren} {v v' : Value} {l l' : List Value} (h : VR ρ v v') (hl : VRs ρ l l') : VRs ρ (v :: l) (v' :: l') :=
  ⟨by simp [hl.1], fun i u u' hu hu' => by
    cases i with
    | zero => simp at hu hu'; subst hu; subst hu'; exact h
    | succ i => exact hl.2 i u u' (by simpa using hu) (by simpa using hu')⟩
theorem VRs.inv {ρ : Ren} {v : Value} {l m : List Value} (h : VRs ρ (v :: l) m) : ∃ v' l', m = v' :: l' ∧ VR ρ v v' ∧ VRs ρ l l' := by
  cases m with
  | nil => have := h.1; simp at this
  | cons v' l' =>
    refine ⟨v', l', rfl, h.2 0 v v' rfl rfl, by have := h.1; simpa using this, fun i u u' hu hu' => h.2 (i + 1) u u' (by simpa using hu) (by simpa using hu')⟩
theorem VRs.mono {ρ ρ' : Ren} (h : ∀ id l, ρ id = some l → ρ' id = some l) {l l' : List Value} (hv : VRs ρ l l') : VRs ρ' l l' :=
  ⟨hv.1, fun i u u' hu hu' => (hv.2 i u u' hu hu').mono h⟩
theorem VRs.app {ρ : Ren} {a a' b b' : List Value} (h : VRs ρ a a') (h2 : VRs ρ b b') : VRs ρ (a ++ b) (a' ++ b') := by
  refine ⟨by simp [h.1, h2.1], fun i u u' hu hu' => ?_⟩
  by_cases hi : i < a.length
  · rw [List.getElem?_append_left hi] at hu
    rw [List.getElem?_append_left (by rw [← h.1]; exact hi)] at hu'
    exact h.2 i u u' hu hu'
  · rw [List.getElem?_append_right (by omega)] at hu
    rw [List.getElem?_append_right (by rw [← h.1]; omega), ← h.1] at hu'
    exact h2.2 _ u u' hu hu'
theorem VRs.drop {ρ : Ren} {a a' : List Value} (h : VRs ρ a a') (n : Nat) : VRs ρ (a.drop n) (a'.drop n) :=
  ⟨by simp [h.1], fun i u u' hu hu' => h.2 (n + i) u u' (by simpa using hu) (by simpa using hu')⟩
theorem VRs.take {ρ : Ren} {a a' : List Value} (h : VRs ρ a a') (n : Nat) : VRs ρ (a.take n) (a'.take n) :=
  ⟨by simp [h.1], fun i u u' hu hu' => by
    rw [List.getElem?_take] at hu hu'
    split at hu
    · rename_i hi; rw [if_pos hi] at hu'; exact h.2 i u u' hu hu'
    · simp at hu⟩
theorem VRs.get {ρ : Ren} {a a' : List Value} (h : VRs ρ a a') {i : Nat} {u : Value} (hu : a[i]? = some u) : ∃ u', a'[i]? = some u' ∧ VR ρ u u' := by
  have hi : i < a.length := by
    rcases Nat.lt_or_ge i a.length with h | h
    · exact h
    · simp [List.getElem?_eq_none h] at hu
  have hi' : i < a'.length := by rw [← h.1]; exact hi
  exact ⟨a'[i], List.getElem?_eq_getElem hi', h.2 i u _ hu (List.getElem?_eq_getElem hi')⟩
theorem VR.agg' {ρ : Ren} {l l' : List Value} (h : VRs ρ l l') : VR ρ (.agg l.toArray) (.agg l'.toArray) :=
  .agg (by simpa using h.1) (by simpa using h.2)
theorem VR.tuple' {ρ : Ren} {l l' : List Value} (h : VRs ρ l l') : VR ρ (.tuple l.toArray) (.tuple l'.toArray) :=
  .tuple (by simpa using h.1) (by simpa using h.2)
theorem VR.undef (ρ : Ren) : VR ρ undef undef := .tuple rfl (by simp)
theorem VR.agg_inv {ρ : Ren} {asx9 : Array Value} {v' : Value} (h : VR ρ (.agg asx9) v') : ∃ asx9', v' = .agg asx9' ∧ VRs ρ asx9.toList asx9'.toList := by
  cases h with
  | agg ha h => exact ⟨_, rfl, by simpa using ha, by simpa using h⟩
theorem VR.tuple_inv {ρ : Ren} {asx9 : Array Value} {v' : Value} (h : VR ρ (.tuple asx9) v') : ∃ asx9', v' = .tuple asx9' ∧ VRs ρ asx9.toList asx9'.toList := by
  cases h with
  | tuple ha h => exact ⟨_, rfl, by simpa using ha, by simpa using h⟩
theorem VR.func_inv {ρ : Ren} {fn : Fn} {asx9 bs : Array Value} {v' : Value} (h : VR ρ (.func fn asx9 bs) v') : ∃ asx9' bs', v' = .func fn asx9' bs' ∧ VRs ρ asx9.toList asx9'.toList ∧ VRs ρ bs.toList bs'.toList := by
  cases h with
  | func _ ha hb h1 h2 => exact ⟨_, _, rfl, ⟨by simpa using ha, by simpa using h1⟩, by simpa using hb, by simpa using h2⟩
theorem VR.cells {ρ : Ren} {v v' : Value} (h : VR ρ v v') : VRs ρ v.cells.toList v'.cells.toList := by
  by_cases hv : ∃ asx9, v = .agg asx9
  · obtain ⟨asx9, rfl⟩ := hv
    obtain ⟨asx9', rfl, h'⟩ := h.agg_inv
    exact h'
  · have e1 : v.cells = #[v] := by cases v <;> first | rfl | exact absurd ⟨_, rfl⟩ hv
    have e2 : v'.cells = #[v'] := by cases h <;> first | rfl | exact absurd ⟨_, rfl⟩ hv
    rw [e1, e2]
    exact VRs.cons h VRs.nil
theorem VR.oneCell {ρ : Ren} {v v' : Value} (h : VR ρ v v') : AW.oneCell v = v'.oneCell' := by cases h <;> rfl
structure Frm where
  heap : Nat → Option Obj
  tape : Nat → Question → Nat
  os : Os
  output : Array (Nat × ByteArray)
  drawn : Nat
  size : Nat
structure Frm.ok (F : Frm) (w : World) : Prop where
  heap : ∀ b o, F.heap b = some o → w.heap[b]? = some o
  tape : w.tape = F.tape
  os : w.os = F.os
  output : w.output = F.output
  drawn : F.drawn ≤ w.drawn
  size : F.size ≤ w.heap.size
structure ER (ρ : Ren) (e e' : MapEntry) : Prop where
  plain : plainV 100 e.key = true
  key : e'.key = e.key
  val : VR ρ e.val e'.val
  born : e'.born = e.born
def ERs (ρ : Ren) (l l' : List MapEntry) : Prop := l.length = l'.length ∧ ∀ (i : Nat) (u u' : MapEntry), l[i]? = some u → l'[i]? = some u' → ER ρ u u'
theorem ER.mono {ρ ρ' : Ren} (h : ∀ id l, ρ id = some l → ρ' id = some l) {e e' : MapEntry} (he : ER ρ e e') : ER ρ' e e' := ⟨he.plain, he.key, he.val.mono h, he.born⟩
theorem ERs.mono {ρ ρ' : Ren} (h : ∀ id l, ρ id = some l → ρ' id = some l) {l l' : List MapEntry} (hv : ERs ρ l l') : ERs ρ' l l' :=
  ⟨hv.1, fun i u u' hu hu' => (hv.2 i u u' hu hu').mono h⟩
def isOwn : AObj → Bool
  | .row _ _ b => b
  | .gone => false
  | .rowx .. => true
  | _ => true
def ObjAt (ρ : Ren) (F : Nat → Option Obj) (l : Loc) (O : Option Obj) : AObj → Prop
  | .row cs k own => ∃ arr e fz, O = some (.cells arr e fz) ∧ l.base + cs.length ≤ arr.size ∧
      (∀ (i : Nat) (v v' : Value), cs[i]? = some v → arr[l.base + i]? = some v' → VR ρ v v') ∧
      (own = true → l.esz = k ∧ l.csz = arr.size ∧ (∀ i, i < arr.size → ¬ (fz.1 ≤ i ∧ i < fz.2)) ∧ (k ≠ 1 → fz.2 ≤ fz.1) ∧ F l.blk = none) ∧
      (own = false → (F l.blk).isSome = true)
  | .map es ck => l.base = 0 ∧ F l.blk = none ∧ ∃ es', O = some (.map es' ck) ∧ ERs ρ es.toList es'.toList
  | .mapIter m since seen last => l.base = 0 ∧ F l.blk = none ∧
      match m with
      | none => O = some (.mapIter none since seen last)
      | some id => ∃ lm, ρ id = some lm ∧ O = some (.mapIter (some lm.blk) since seen last)
  | .strIter s pos => l.base = 0 ∧ F l.blk = none ∧ O = some (.stringIter s pos)
  | .gone => True
  | .rowx cs k ext => ∃ arr e fz, O = some (.cells arr e fz) ∧ l.base + cs.length + ext ≤ arr.size ∧
      (∀ (i : Nat) (v v' : Value), cs[i]? = some v → arr[l.base + i]? = some v' → VR ρ v v') ∧
      l.esz = k ∧ l.csz = arr.size ∧ (∀ i, i < arr.size → ¬ (fz.1 ≤ i ∧ i < fz.2)) ∧ (k ≠ 1 → fz.2 ≤ fz.1) ∧ F l.blk = none
theorem ObjAt.mono {ρ ρ' : Ren} (h : ∀ id l, ρ id = some l → ρ' id = some l) {F : Nat → Option Obj} {l : Loc} {O : Option Obj} {o : AObj} (ho : ObjAt ρ F l O o) : ObjAt ρ' F l O o := by
  cases o with
  | row cs k own =>
    obtain ⟨arr, e, fz, h1, h2, h3, h4, h5⟩ := ho
    exact ⟨arr, e, fz, h1, h2, fun i v v' hv hv' => (h3 i v v' hv hv').mono h, h4, h5⟩
  | map es ck =>
    obtain ⟨h1, h2, es', h3, h4⟩ := ho
    exact ⟨h1, h2, es', h3, h4.mono h⟩
  | mapIter m since seen last =>
    obtain ⟨h1, h2, h3⟩ := ho
    refine ⟨h1, h2, ?_⟩
    cases m with
    | none => exact h3
    | some id => obtain ⟨lm, hl, hO⟩ := h3; exact ⟨lm, h _ _ hl, hO⟩
  | strIter s pos => exact ho
  | gone => trivial
  | rowx cs k ext =>
    obtain ⟨arr, e, fz, h1, h2, h3, h4⟩ := ho
    exact ⟨arr, e, fz, h1, h2, fun i v v' hv hv' => (h3 i v v' hv hv').mono h, h4⟩
theorem ObjAt.some {ρ : Ren} {F : Nat → Option Obj} {l : Loc} {O : Option Obj} {o : AObj} (ho : ObjAt ρ F l O o) (hn : isOwn o = true) : ∃ O', O = some O' := by
  cases o with
  | row cs k own => obtain ⟨arr, e, fz, h1, _⟩ := ho; exact ⟨_, h1⟩
  | map es ck => obtain ⟨_, _, es', h3, _⟩ := ho; exact ⟨_, h3⟩
  | mapIter m since seen last =>
    obtain ⟨_, _, h3⟩ := ho
    cases m with
    | none => exact ⟨_, h3⟩
    | some id => obtain ⟨lm, _, hO⟩ := h3; exact ⟨_, hO⟩
  | strIter s pos => exact ⟨_, ho.2.2⟩
  | gone => simp [isOwn] at hn
  | rowx cs k ext => obtain ⟨arr, e, fz, h1, _⟩ := ho; exact ⟨_, h1⟩
theorem ObjAt.free {ρ : Ren} {F : Nat → Option Obj} {l : Loc} {O : Option Obj} {o : AObj} (ho : ObjAt ρ F l O o) (hn : isOwn o = true) : F l.blk = none := by
  cases o with
  | row cs k own => obtain ⟨arr, e, fz, _, _, _, h4, _⟩ := ho; exact (h4 hn).2.2.2.2
  | map es ck => exact ho.2.1
  | mapIter m since seen last => exact ho.2.1
  | strIter s pos => exact ho.2.1
  | gone => simp [isOwn] at hn
  | rowx cs k ext => obtain ⟨arr, e, fz, _, _, _, _, _, _, _, h5⟩ := ho; exact h5
structure Rel (ρ : Ren) (H : AHeap) (F : Frm) (w : World) : Prop where
  dom : ∀ id l, ρ id = some l → id < H.length
  frm : F.ok w
  obj : ∀ id l o, ρ id = some l → H[id]? = some o → ObjAt ρ F.heap l w.heap[l.blk]? o
  sep : ∀ i j l m o p, ρ i = some l → ρ j = some m → H[i]? = some o → H[j]? = some p → i ≠ j → isOwn o = true → isOwn p = true → l.blk ≠ m.blk
def Ext (H : AHeap) (ρ ρ' : Ren) : Prop := ∀ id, id < H.length → ρ' id = ρ id
theorem Ext.refl (H : AHeap) (ρ : Ren) : Ext H ρ ρ := fun _ _ => rfl
theorem Ext.trans {H H' : AHeap} {ρ ρ' ρ'' : Ren} (h : Ext H ρ ρ') (h' : Ext H' ρ' ρ'') (hl : H.length ≤ H'.length) : Ext H ρ ρ'' :=
  fun id hid => (h' id (by omega)).trans (h id hid)
theorem Rel.ext {ρ ρ' : Ren} {H : AHeap} {F : Frm} {w : World} (h : Rel ρ H F w) (he : Ext H ρ ρ') : ∀ id l, ρ id = some l → ρ' id = some l :=
  fun id l hl => by rw [he id (h.dom id l hl)]; exact hl
theorem Rel.drew {ρ : Ren} {H : AHeap} {F : Frm} {w : World} (h : Rel ρ H F w) (n : Nat) : Rel ρ H F { w with drawn := w.drawn + n } :=
  ⟨h.dom, ⟨h.frm.heap, h.frm.tape, h.frm.os, h.frm.output, Nat.le_trans h.frm.drawn (Nat.le_add_right _ _), h.frm.size⟩, h.obj, h.sep⟩
theorem Rel.more {ρ : Ren} {H : AHeap} {F : Frm} {w : World} (h : Rel ρ H F w) (o : AObj) : Rel ρ (H ++ [o]) F w := by
  have old : ∀ id l, ρ id = some l → ∀ p, (H ++ [o])[id]? = some p → H[id]? = some p := fun id l hl p hp => by
    rwa [List.getElem?_append_left (h.dom id l hl)] at hp
  exact ⟨fun id l hl => by have := h.dom id l hl; simp; omega, h.frm, fun id l p hl hp => h.obj id l p hl (old id l hl p hp),
    fun i j l m p q hl hm hp hq hij h1 h2 => h.sep i j l m p q hl hm (old i l hl p hp) (old j m hm q hq) hij h1 h2⟩
def Ren.put (ρ : Ren) (id : Nat) (l : Loc) : Ren := fun i => if i = id then some l else ρ i
theorem Ren.put_same (ρ : Ren) (id : Nat) (l : Loc) : (ρ.put id l) id = some l := by simp [Ren.put]
theorem Ren.put_other (ρ : Ren) {id i : Nat} (l : Loc) (h : i ≠ id) : (ρ.put id l) i = ρ i := by simp [Ren.put, h]
theorem Ren.put_le {ρ : Ren} {id : Nat} (l : Loc) (h : ρ id = none) : ∀ i m, ρ i = some m → (ρ.put id l) i = some m := fun i m hm => by
  rw [Ren.put_other]; exact hm; rintro rfl; rw [h] at hm; simp at hm
theorem Rel.lay {ρ : Ren} {H : AHeap} {F : Frm} {w : World} (h : Rel ρ H F w) {id : Nat} {l : Loc} {o : AObj} {O : Obj} (hid : ρ id = none) (ho : H[id]? = some o)
    (hl : l.blk = w.heap.size) (hO : F.heap l.blk = none → ObjAt ρ F.heap l (some O) o) : Rel (ρ.put id l) H F (w.alloc O) := by
  have hlt : id < H.length := by
    rcases Nat.lt_or_ge id H.length with h | h
    · exact h
    · simp [List.getElem?_eq_none h] at ho
  have hle := Ren.put_le (ρ := ρ) (id := id) l hid
  have hfree : F.heap l.blk = none := by
    cases hf : F.heap l.blk with
    | none => rfl
    | some o' => have := h.frm.heap _ _ hf; rw [hl] at this; simp at this
  have old : ∀ i m p, ρ i = some m → H[i]? = some p → ∀ O', w.heap[m.blk]? = some O' → m.blk < w.heap.size := fun i m p _ _ O' hO' => by
    rcases Nat.lt_or_ge m.blk w.heap.size with h | h
    · exact h
    · simp [Array.getElem?_eq_none h] at hO'
  refine ⟨fun i m hm => ?_, ⟨fun b o hb => ?_, h.frm.tape, h.frm.os, h.frm.output, h.frm.drawn, ?_⟩, fun i m p hm hp => ?_, fun i j m n p q hm hn hp hq hij h1 h2 => ?_⟩
  · by_cases e : i = id
    · subst e; exact hlt
    · rw [Ren.put_other _ _ e] at hm; exact h.dom i m hm
  · have := h.frm.heap b o hb
    have hb' : b < w.heap.size := by
      rcases Nat.lt_or_ge b w.heap.size with h | h
      · exact h
      · simp [Array.getElem?_eq_none h] at this
    simp only [World.alloc, Array.getElem?_push]
    rw [if_neg (by omega)]; exact this
  · have := h.frm.size; simp only [World.alloc, Array.size_push]; omega
  · by_cases e : i = id
    · subst e
      rw [Ren.put_same] at hm; cases hm
      rw [ho] at hp; cases hp
      have : (w.alloc O).heap[l.blk]? = some O := by rw [hl]; exact Array.getElem?_push_size
      rw [this]
      exact (hO hfree).mono hle
    · rw [Ren.put_other _ _ e] at hm
      have hob := h.obj i m p hm hp
      have hsame : ∀ O', w.heap[m.blk]? = some O' → (w.alloc O).heap[m.blk]? = w.heap[m.blk]? := fun O' hO' => by
        have := old i m p hm hp O' hO'
        simp only [World.alloc, Array.getElem?_push]
        rw [if_neg (by omega)]
      cases p with
      | gone => trivial
      | row cs k own => have hob2 := hob; obtain ⟨arr, e', fz, h1, _⟩ := hob2; rw [hsame _ h1]; exact hob.mono hle
      | map es ck => have hob2 := hob; obtain ⟨_, _, es', h3, _⟩ := hob2; rw [hsame _ h3]; exact hob.mono hle
      | mapIter a b c d => obtain ⟨O', hO'⟩ := ObjAt.some hob rfl; rw [hsame _ hO']; exact hob.mono hle
      | strIter a b => obtain ⟨O', hO'⟩ := ObjAt.some hob rfl; rw [hsame _ hO']; exact hob.mono hle
      | rowx a b c => obtain ⟨O', hO'⟩ := ObjAt.some hob rfl; rw [hsame _ hO']; exact hob.mono hle
  · have lt : ∀ i m p, ρ i = some m → H[i]? = some p → isOwn p = true → m.blk < w.heap.size := fun i m p hm hp h1 => by
      obtain ⟨O', hO'⟩ := (h.obj i m p hm hp).some h1
      exact old i m p hm hp O' hO'
    by_cases ei : i = id
    · subst ei
      rw [Ren.put_same] at hm; cases hm
      rw [Ren.put_other _ _ (Ne.symm hij)] at hn
      have := lt j n q hn hq h2
      omega
    · rw [Ren.put_other _ _ ei] at hm
      by_cases ej : j = id
      · subst ej
        rw [Ren.put_same] at hn; cases hn
        have := lt i m p hm hp h1
        omega
      · rw [Ren.put_other _ _ ej] at hn
        exact h.sep i j m n p q hm hn hp hq hij h1 h2
theorem Rel.new {ρ : Ren} {H : AHeap} {F : Frm} {w : World} (h : Rel ρ H F w) {l : Loc} {o : AObj} {O : Obj}
    (hl : l.blk = w.heap.size) (hO : F.heap l.blk = none → ObjAt ρ F.heap l (some O) o) : Rel (ρ.put H.length l) (H ++ [o]) F (w.alloc O) ∧ Ext H ρ (ρ.put H.length l) := by
  have hn : ρ H.length = none := by
    cases hr : ρ H.length with
    | none => rfl
    | some m => have := h.dom _ _ hr; omega
  exact ⟨(h.more o).lay hn (by simp) hl hO, fun id hid => Ren.put_other _ _ (by omega)⟩
theorem Rel.turn {ρ : Ren} {H : AHeap} {F : Frm} {w : World} (h : Rel ρ H F w) {id : Nat} {l : Loc} {o o2 : AObj} {O2 : Obj} (hid : ρ id = some l) (ho : H[id]? = some o)
    (hown : isOwn o = true) (hO : ObjAt ρ F.heap l (some O2) o2) : Rel ρ (H.set id o2) F { w with heap := w.heap.setIfInBounds l.blk O2 } := by
  have hob := h.obj id l o hid ho
  obtain ⟨O, hOw⟩ := hob.some hown
  have hfree := hob.free hown
  have hblk : l.blk < w.heap.size := by
    rcases Nat.lt_or_ge l.blk w.heap.size with h | h
    · exact h
    · simp [Array.getElem?_eq_none h] at hOw
  have hlt : id < H.length := h.dom id l hid
  have own2 : ∀ i p, (H.set id o2)[i]? = some p → isOwn p = true → ∃ q, H[i]? = some q ∧ isOwn q = true := fun i p hp h1 => by
    by_cases e : i = id
    · subst e; exact ⟨o, ho, hown⟩
    · rw [List.getElem?_set_ne (Ne.symm e)] at hp; exact ⟨p, hp, h1⟩
  refine ⟨fun i m hm => by simpa using h.dom i m hm, ⟨fun b o hb => ?_, h.frm.tape, h.frm.os, h.frm.output, h.frm.drawn, by simpa using h.frm.size⟩, fun i m p hm hp => ?_, fun i j m n p q hm hn hp hq hij h1 h2 => ?_⟩
  · have hne : l.blk ≠ b := by rintro rfl; rw [hfree] at hb; simp at hb
    simp only [Array.getElem?_setIfInBounds_ne hne]
    exact h.frm.heap b o hb
  · by_cases e : i = id
    · subst e
      rw [hid] at hm; cases hm
      rw [List.getElem?_set_self hlt] at hp; cases hp
      simp only [Array.getElem?_setIfInBounds_self_of_lt hblk]
      exact hO
    · rw [List.getElem?_set_ne (Ne.symm e)] at hp
      have hobi := h.obj i m p hm hp
      have same : l.blk ≠ m.blk → ObjAt ρ F.heap m ((w.heap.setIfInBounds l.blk O2)[m.blk]?) p := fun hne => by
        rw [Array.getElem?_setIfInBounds_ne hne]; exact hobi
      by_cases hp1 : isOwn p = true
      · exact same (h.sep id i l m o p hid hm ho hp (Ne.symm e) hown hp1)
      · cases p with
        | gone => trivial
        | row cs k own =>
          have hobi2 := hobi
          obtain ⟨arr, e', fz, _, _, _, _, h5⟩ := hobi2
          refine same ?_
          have : own = false := by simpa [isOwn] using hp1
          have h6 := h5 this
          intro hne
          rw [← hne, hfree] at h6
          simp at h6
        | map es ck => simp [isOwn] at hp1
        | mapIter a b c d => simp [isOwn] at hp1
        | strIter a b => simp [isOwn] at hp1
        | rowx a b c => simp [isOwn] at hp1
  · obtain ⟨p', hp', h1'⟩ := own2 i p hp h1
    obtain ⟨q', hq', h2'⟩ := own2 j q hq h2
    exact h.sep i j m n p' q' hm hn hp' hq' hij h1' h2'
theorem Rel.drop {ρ : Ren} {H : AHeap} {F : Frm} {w : World} (h : Rel ρ H F w) (id : Nat) : Rel ρ (H.set id .gone) F w := by
  have own2 : ∀ (i : Nat) p, (H.set id AObj.gone)[i]? = some p → p = .gone ∨ H[i]? = some p := fun i p hp => by
    by_cases e : id = i
    · subst e
      rw [List.getElem?_set] at hp
      simp at hp
      exact .inl hp.2.symm
    · rw [List.getElem?_set_ne e] at hp; exact .inr hp
  refine ⟨fun i m hm => by simpa using h.dom i m hm, h.frm, fun i m p hm hp => ?_, fun i j m n p q hm hn hp hq hij h1 h2 => ?_⟩
  · rcases own2 i p hp with rfl | hp
    · trivial
    · exact h.obj i m p hm hp
  · rcases own2 i p hp with rfl | hp
    · simp [isOwn] at h1
    · rcases own2 j q hq with rfl | hq
      · simp [isOwn] at h2
      · exact h.sep i j m n p q hm hn hp hq hij h1 h2
theorem add_none (b o n : Nat) : (⟨b, o, none⟩ : Addr).add n = ⟨b, o + n, none⟩ := by unfold Addr.add; split <;> simp_all
theorem cell?_of {w : World} {b o : Nat} {arr : Array Value} {e : TypeId} {fz : Nat × Nat} (h : w.heap[b]? = some (.cells arr e fz)) : w.cell? ⟨b, o, none⟩ = arr[o]? := by
  simp [World.cell?, h]
theorem Rel.row {ρ : Ren} {H : AHeap} {F : Frm} {w : World} (h : Rel ρ H F w) {id off n : Nat} {l : Loc} {cs : List Value} (hid : ρ id = some l) (hc : aload H ⟨id, off, none⟩ n = some cs) :
    ∃ cs', VRs ρ cs cs' ∧ cs'.length = n ∧ ∀ j v, cs'[j]? = some v → w.cell? ((⟨l.blk, l.base + off, none⟩ : Addr).add j) = some v := by
  unfold aload at hc
  simp only [] at hc
  split at hc
  · rename_i full k own _ hrow
    split at hc
    · rename_i hlen
      cases hc
      obtain ⟨arr, e, fz, h1, h2, h3, _, _⟩ := h.obj id l _ hid hrow
      refine ⟨((arr.toList.drop (l.base + off)).take n), ⟨by simp; omega, fun i u u' hu hu' => ?_⟩, by simp; omega, fun j v hv => ?_⟩
      · rw [List.getElem?_take] at hu hu'
        split at hu
        · rename_i hi
          rw [if_pos hi] at hu'
          rw [List.getElem?_drop] at hu hu'
          refine h3 (off + i) u u' hu ?_
          rw [← Array.getElem?_toList]; rw [← hu']; congr 1; omega
        · simp at hu
      · rw [add_none, cell?_of h1]
        rw [List.getElem?_take] at hv
        split at hv
        · rw [List.getElem?_drop] at hv; rw [← hv, Array.getElem?_toList]
        · simp at hv
    · simp at hc
  · simp at hc
def wr (arr : Array Value) (o : Nat) : List Value → Array Value
  | [] => arr
  | v :: r => wr (arr.setIfInBounds o v) (o + 1) r
theorem size_wr (vs : List Value) : ∀ (arr : Array Value) (o : Nat), (wr arr o vs).size = arr.size := by
  induction vs with
  | nil => intro arr o; rfl
  | cons v r ih => intro arr o; simp [wr, ih]
theorem get_wr (vs : List Value) : ∀ (arr : Array Value) (o i : Nat), o + vs.length ≤ arr.size → (wr arr o vs)[i]? = if o ≤ i ∧ i < o + vs.length then vs[i - o]? else arr[i]? := by
  induction vs with
  | nil => intro arr o i _; simp [wr]; intro h1 h2; omega
  | cons v r ih =>
    intro arr o i hs
    simp only [List.length_cons] at hs
    simp only [wr]
    rw [ih _ _ _ (by simp; omega)]
    by_cases h1 : o + 1 ≤ i ∧ i < o + 1 + r.length
    · rw [if_pos h1, if_pos (by simp; omega)]
      rw [show i - o = (i - (o + 1)) + 1 from by omega]; rfl
    · rw [if_neg h1]
      by_cases h2 : i = o
      · subst h2
        rw [if_pos (by simp), Array.getElem?_setIfInBounds_self_of_lt (by omega)]
        simp
      · rw [if_neg (by simp; omega), Array.getElem?_setIfInBounds_ne (Ne.symm h2)]
theorem setCells_heap (vs : List Value) : ∀ (w : World) (b o : Nat) (arr : Array Value) (e : TypeId) (fz : Nat × Nat), w.heap[b]? = some (.cells arr e fz) →
    w.setCells b o vs = { w with heap := w.heap.setIfInBounds b (.cells (wr arr o vs) e fz) } := by
  induction vs with
  | nil =>
    intro w b o arr e fz h
    simp only [World.setCells, wr]
    have : w.heap.setIfInBounds b (.cells arr e fz) = w.heap := by
      apply Array.ext_getElem?
      intro i
      by_cases hi : b = i
      · subst hi
        have hb : b < w.heap.size := by
          rcases Nat.lt_or_ge b w.heap.size with h' | h'
          · exact h'
          · simp [Array.getElem?_eq_none h'] at h
        rw [Array.getElem?_setIfInBounds_self_of_lt hb, h]
      · rw [Array.getElem?_setIfInBounds_ne hi]
    rw [this]
  | cons v r ih =>
    intro w b o arr e fz h
    have hb : b < w.heap.size := by
      rcases Nat.lt_or_ge b w.heap.size with h' | h'
      · exact h'
      · simp [Array.getElem?_eq_none h'] at h
    have h1 : (w.setCell ⟨b, o, none⟩ v).heap[b]? = some (.cells (arr.setIfInBounds o v) e fz) := by
      simp [World.setCell, Array.getElem?_modify, h]
    simp only [World.setCells, wr]
    rw [ih _ b (o + 1) _ e fz h1]
    have h2 : w.setCell ⟨b, o, none⟩ v = { w with heap := w.heap.setIfInBounds b (.cells (arr.setIfInBounds o v) e fz) } := by
      simp only [World.setCell]
      congr 1
      apply Array.ext_getElem?
      intro i
      rw [Array.getElem?_modify]
      by_cases hi : b = i
      · subst hi
        rw [if_pos rfl, h, Array.getElem?_setIfInBounds_self_of_lt hb]; rfl
      · rw [if_neg hi, Array.getElem?_setIfInBounds_ne hi]
    rw [h2]
    simp [Array.setIfInBounds_setIfInBounds]
theorem getElem?_put (cs vs : List Value) (off i : Nat) (h : off + vs.length ≤ cs.length) :
    (cs.take off ++ vs ++ cs.drop (off + vs.length))[i]? = if off ≤ i ∧ i < off + vs.length then vs[i - off]? else cs[i]? := by
  have ht : (cs.take off).length = off := by simp; omega
  by_cases h1 : i < off
  · rw [if_neg (by omega), List.append_assoc, List.getElem?_append_left (by omega), List.getElem?_take, if_pos h1]
  · by_cases h2 : i < off + vs.length
    · rw [if_pos (by omega), List.append_assoc, List.getElem?_append_right (by omega), ht, List.getElem?_append_left (by omega)]
    · rw [if_neg (by omega), List.getElem?_append_right (by simp; omega), List.getElem?_drop]
      congr 1; simp; omega
theorem Rel.store {ρ : Ren} {H H' : AHeap} {F : Frm} {w : World} (P : Program) (h : Rel ρ H F w) {id off : Nat} {l : Loc} {vs vs' : List Value} (hid : ρ id = some l) (hv : VRs ρ vs vs')
    (hs : astore H ⟨id, off, none⟩ vs = some H') : ∃ w', (storeCells ⟨l.blk, l.base + off, none⟩ vs' 0).run P w = .ok () w' ∧ Rel ρ H' F w' ∧ H'.length = H.length := by
  unfold astore at hs
  simp only [] at hs
  split at hs
  · rename_i cs k _ hrow
    split at hs
    · rename_i hc
      simp only [Bool.and_eq_true, decide_eq_true_eq] at hc
      obtain ⟨hlen, hone⟩ := hc
      cases hs
      obtain ⟨arr, e, fz, h1, h2, h3, h4, _⟩ := h.obj id l _ hid hrow
      obtain ⟨h5, h6, h7, h7', h8⟩ := h4 rfl
      refine ⟨_, run_storeCells_cells _ _ _ _ _ (fun j hj => ?_) (fun j hj => ?_) (fun v hv' => ?_), ?_, by simp⟩
      · rw [cell?_of h1]; rw [← hv.1] at hj; simp; omega
      · rw [← hv.1] at hj
        have := h7 (l.base + off + 0 + j) (by omega)
        simp only [World.frozen?, h1]
        simpa using this
      · obtain ⟨j, hj⟩ := List.getElem?_of_mem hv'
        have hj' : j < vs.length := by
          rw [hv.1]
          rcases Nat.lt_or_ge j vs'.length with h | h
          · exact h
          · simp [List.getElem?_eq_none h] at hj
        have := (hv.2 j vs[j] v (List.getElem?_eq_getElem hj') hj).oneCell
        rw [← this]
        exact List.all_eq_true.1 hone _ (List.getElem_mem hj')
      · rw [setCells_heap _ _ _ _ arr e fz h1]
        refine h.turn hid hrow rfl ⟨_, e, fz, rfl, by rw [size_wr]; simp; omega, fun i v v' hvi hvi' => ?_, fun _ => ⟨h5, by rw [size_wr]; exact h6, fun i hi => by rw [size_wr] at hi; exact h7 i hi, h7', h8⟩, by simp⟩
        rw [getElem?_put _ _ _ _ hlen] at hvi
        rw [get_wr _ _ _ _ (by rw [← hv.1]; omega), ← hv.1] at hvi'
        by_cases hin : off ≤ i ∧ i < off + vs.length
        · rw [if_pos hin] at hvi
          rw [if_pos (by omega)] at hvi'
          exact hv.2 _ _ _ hvi (by rw [← hvi']; congr 1; omega)
        · rw [if_neg hin] at hvi
          rw [if_neg (by omega)] at hvi'
          exact h3 i v v' hvi hvi'
    · simp at hs
  · simp at hs
end Go.AW
end
