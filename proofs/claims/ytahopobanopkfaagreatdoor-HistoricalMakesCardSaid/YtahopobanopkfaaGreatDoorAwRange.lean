/-
  AW: the calculus within a fence that lets all in, in a round of a range over a function.
-/
import Derived.Test.YtahopobanopkfaaGreatDoorAwBase
import Derived.RangeFuncRecord
import Derived.OrdersIn
import Derived.LoopNIn
import Derived.Below
set_option linter.unusedVariables false
set_option linter.unusedSimpArgs false
namespace Go.AW
open Go
variable {P : Program} {n : Nat} {F : Frm} {ds : List Deferred}

/-- a fence that lets all in -/
structure Open (P : Program) (G : Fence) : Prop where
  fn : ∀ f, G.fn f
  depth : G.depth = none
  calls : ∀ {m : Nat} {f : FuncId} {args : Array Value} {w : World} {R : Ending → World → Prop}, Calls P f args w R → CallsIn G m P f args w R
  rows : ∀ {m : Nat} {row : String} {args : Array Value} {w : World} {R : Value → World → Prop}, Rows P row args w R → RowsIn G m P row args w R
theorem rows_wide {m : Nat} {row : String} {args : Array Value} {w : World} {R : Value → World → Prop} (h : Rows P row args w R) : RowsIn Fence.wide m P row args w R :=
  fun c cs _ => let ⟨v, w', r, s⟩ := h c cs; ⟨v, w', r, stepsIn_wide.2 s⟩
theorem open_wide : Open P Fence.wide := ⟨fun _ => trivial, rfl, fun h => callsIn_wide.2 h, rows_wide⟩
theorem open_round (l : Nat) : Open P (Fence.wide.inRound l) := ⟨fun _ => trivial, rfl, fun h => (callsIn_wide.2 h : CallsIn Fence.wide _ P _ _ _ _), fun h => (rows_wide h : RowsIn Fence.wide _ P _ _ _ _)⟩

theorem lift_op {G : Fence} (hG : Open P G) {m : Nat} {o : Oper} {a : Act} {w : World} {next : Act → World → Prop} {Q : Exit → Act → World → Prop} (hd : ∀ c, o.op ≠ .defer c) (h : o.wp P a w next Q) : o.wpIn G m P a w next Q := by
  refine ⟨fun f _ => hG.fn f, ?_⟩
  rw [Oper.semAt_eq _ _ _ hd]
  unfold Oper.wp at h
  generalize (execOp a.eval o).run P w = r at *
  have dep : G.depth.isSome = true → 1 ≤ m := fun q => by rw [hG.depth] at q; simp at q
  cases r with
  | ok x w' =>
    cases x <;> simp only [Oper.upon, Oper.uponIn] at h ⊢ <;>
      first
        | exact h
        | exact ⟨dep, CallsIn.mono (hG.calls h) fun e w'' he => by cases e <;> exact he⟩
        | exact ⟨dep, hG.rows h⟩
        | exact h.elim
  | halt x w' => cases x <;> simp only [Oper.upon, Oper.uponIn] at h ⊢ <;> exact h

def noDefer (o : Oper) : Bool := match o.op with | .defer _ => false | _ => true
theorem noDefer_of {o : Oper} (h : noDefer o = true) : ∀ c, o.op ≠ .defer c := fun c q => by simp [noDefer, q] at h
def quietC : Code → Bool
  | .region _ ops _ => ops.toList.all noDefer
  | .seq a b => quietC a && quietC b
  | .cond _ a b => quietC a && quietC b
  | .block _ c | .loop c | .scope c => quietC c
  | _ => true

theorem lift_ops {G : Fence} (hG : Open P G) {m : Nat} {ops : Array Oper} {Q : Exit → Act → World → Prop} (hno : ¬ LetsOut Q) (hd : ops.toList.all noDefer = true) :
    ∀ (l : List Nat) (a : Act) (w : World), wpOps P ops Q l a w → wpOpsIn G m P ops Q l a w
  | [], _, _, h => h
  | i :: l, a, w, h => by
    simp only [wpOps] at h
    simp only [wpOpsIn]
    cases ho : ops[i]? with
    | none => simp only [ho] at h ⊢; exact lift_ops hG hno hd l a w h
    | some o =>
      simp only [ho] at h ⊢
      have hmem : o ∈ ops.toList := by rw [← Array.getElem?_toList] at ho; exact List.mem_of_getElem? ho
      have hdo := noDefer_of (List.all_eq_true.1 hd o hmem)
      split
      · rename_i hw
        rw [if_pos hw] at h
        rcases h with h | ⟨_, h⟩
        · exact Oper.wpIn_mono (fun a w => lift_ops hG hno hd l a w) (lift_op hG hdo h)
        · exact absurd h hno
      · rename_i hw
        rw [if_neg hw] at h
        exact ⟨fun f _ => hG.fn f, lift_ops hG hno hd l _ w h⟩
theorem lift_any {G : Fence} (hG : Open P G) {m : Nat} {md : Region.Mode} {ops : Array Oper} {Q : Exit → Act → World → Prop} (hno : ¬ LetsOut Q) (hd : ops.toList.all noDefer = true) :
    ∀ (fuel : Nat) (listed : Array Bool) (a : Act) (w : World), wpAny P md ops Q fuel listed a w → wpAnyIn G m P md ops Q fuel listed a w
  | 0, _, _, _, h => h
  | fuel + 1, listed, a, w, h => by
    obtain ⟨h0, h1⟩ := h
    refine ⟨h0, fun i hi => ?_⟩
    have h := h1 i hi
    unfold wpOp at h
    unfold wpOpIn
    cases ho : ops[i]? with
    | none => simp only [ho] at h ⊢; exact lift_any hG hno hd fuel _ a w h
    | some o =>
      simp only [ho] at h ⊢
      have hmem : o ∈ ops.toList := by rw [← Array.getElem?_toList] at ho; exact List.mem_of_getElem? ho
      have hdo := noDefer_of (List.all_eq_true.1 hd o hmem)
      split
      · rename_i hw
        rw [if_pos hw] at h
        rcases h with h | ⟨_, h⟩
        · exact Oper.wpIn_mono (fun a w => lift_any hG hno hd fuel _ a w) (lift_op hG hdo h)
        · exact absurd h hno
      · rename_i hw
        rw [if_neg hw] at h
        exact ⟨fun f _ => hG.fn f, lift_any hG hno hd fuel _ _ w h⟩
theorem noOut_then {Q : Exit → Act → World → Prop} {K : Act → World → Prop} (h : ¬ LetsOut Q) : ¬ LetsOut (Exit.then K Q) := h
theorem noOut_block {Q : Exit → Act → World → Prop} {id : Nat} (h : ¬ LetsOut Q) : ¬ LetsOut (Exit.inBlock id Q) := h

/-- the calculus holds within such a fence -/
theorem sim_codeIn (hm : P.follows .mixedOrders = true) {G : Fence} (hG : Open P G) {m : Nat} : ∀ (c : Code), codeOk n c = true → quietC c = true → ∀ {ρ : Ren} {H : AHeap} {w : World} {T : Tm} {a : Act} {Qa : Exit → Tm → AHeap → Prop} {Q : Exit → Act → World → Prop},
    awp P c Qa T H → Rel ρ H F w → TR ρ n ds T a → QR n ds F ρ H Qa Q → ¬ LetsOut Q → c.wpIn G m P Q a w := by
  intro c
  induction c with
  | skip => intro _ _ ρ H w T a Qa Q h hR hT hQ _; exact wpIn_skip (hQ .normal T H ρ a w h hR (Ext.refl _ _) (Nat.le_refl _) hT)
  | label l => intro _ _ ρ H w T a Qa Q h hR hT hQ _; exact wpIn_label (hQ .normal T H ρ a w h hR (Ext.refl _ _) (Nat.le_refl _) hT)
  | exit id => intro _ _ ρ H w T a Qa Q h hR hT hQ _; exact wpIn_exit (hQ (.exit id) T H ρ a w h hR (Ext.refl _ _) (Nat.le_refl _) hT)
  | ret => intro _ _ ρ H w T a Qa Q h hR hT hQ _; exact wpIn_ret (hQ .ret T H ρ a w h hR (Ext.refl _ _) (Nat.le_refl _) hT)
  | goto l => intro _ _ ρ H w T a Qa Q h; exact h.elim
  | scope c ih => intro _ _ ρ H w T a Qa Q h; exact h.elim
  | refuse s => intro _ _ ρ H w T a Qa Q h; exact h.elim
  | rangeFunc f ps x y => intro _ _ ρ H w T a Qa Q h; exact h.elim
  | region id ops draw =>
    intro hok hqc ρ H w T a Qa Q h hR hT hQ hno
    have hops : ∀ o ∈ ops.toList, operOk n o = true := List.all_eq_true.1 (by simpa only [codeOk] using hok)
    have hd : ops.toList.all noDefer = true := by simpa only [quietC] using hqc
    cases draw with
    | false =>
      refine wpIn_region (lift_ops hG hno hd _ _ _ ?_)
      have := sim_aops (P := P) (ρ := ρ) (H := H) (F := F) (Q := Q) (K := Qa .normal) hops (fun T' H' ρ' a' w' hk hr hx hl ht => hQ .normal T' H' ρ' a' w' hk hr hx hl ht) ops.toList 0 T H ρ a w (by simp) hR (Ext.refl _ _) (Nat.le_refl _) hT h
      simpa [List.range_eq_range'] using this
    | true =>
      obtain ⟨plan, hp, hdr⟩ := h
      exact wpIn_region_any hm (lift_any hG hno hd _ _ _ _ (sim_any hp hops hR hT hdr fun T' H' ρ' a' w' hk hr hx hl ht => hQ .normal T' H' ρ' a' w' hk hr hx hl ht))
  | seq x y ihx ihy =>
    intro hok hqc ρ H w T a Qa Q h hR hT hQ hno
    simp only [codeOk, Bool.and_eq_true] at hok
    simp only [quietC, Bool.and_eq_true] at hqc
    refine wpIn_seq (ihx hok.1 hqc.1 h hR hT (fun e T' H' ρ' a' w' hq hr hx hl ht => ?_) (noOut_then hno))
    cases e with
    | normal => exact ihy hok.2 hqc.2 hq hr ht (hQ.step hx hl) hno
    | exit id => exact hQ (.exit id) T' H' ρ' a' w' hq hr hx hl ht
    | goto l => exact hQ (.goto l) T' H' ρ' a' w' hq hr hx hl ht
    | ret => exact hQ .ret T' H' ρ' a' w' hq hr hx hl ht
    | panic ch => exact hQ (.panic ch) T' H' ρ' a' w' hq hr hx hl ht
    | outgrown => exact hQ .outgrown T' H' ρ' a' w' hq hr hx hl ht
  | cond c x y ihx ihy =>
    intro hok hqc ρ H w T a Qa Q h hR hT hQ hno
    simp only [codeOk, Bool.and_eq_true] at hok
    simp only [quietC, Bool.and_eq_true] at hqc
    obtain ⟨g, hg, h1⟩ := bindO_iff.1 h
    have hv := hT.eval hok.1.1
    have hb : a.eval c = .bool g := by
      unfold aboolv at hg
      split at hg
      · rename_i b hb; cases hg
        rw [hb] at hv; revert hv; generalize a.eval c = u; intro hv; cases hv; rfl
      · simp at hg
    cases g with
    | true => exact wpIn_cond_true hb (ihx hok.1.2 hqc.1 h1 hR hT hQ hno)
    | false => exact wpIn_cond_false hb (ihy hok.2 hqc.2 h1 hR hT hQ hno)
  | block id c ih =>
    intro hok hqc ρ H w T a Qa Q h hR hT hQ hno
    refine wpIn_block (ih (by simpa only [codeOk] using hok) (by simpa only [quietC] using hqc) h hR hT (fun e T' H' ρ' a' w' hq hr hx hl ht => ?_) (noOut_block hno))
    cases e with
    | exit id' =>
      simp only [Exit.inBlock, Exit.inBlockA] at hq ⊢
      split
      · rename_i q; rw [if_pos q] at hq; exact hQ .normal T' H' ρ' a' w' hq hr hx hl ht
      · rename_i q; rw [if_neg q] at hq; exact hQ (.exit id') T' H' ρ' a' w' hq hr hx hl ht
    | normal => exact hQ .normal T' H' ρ' a' w' hq hr hx hl ht
    | goto l => exact hQ (.goto l) T' H' ρ' a' w' hq hr hx hl ht
    | ret => exact hQ .ret T' H' ρ' a' w' hq hr hx hl ht
    | panic ch => exact hQ (.panic ch) T' H' ρ' a' w' hq hr hx hl ht
    | outgrown => exact hQ .outgrown T' H' ρ' a' w' hq hr hx hl ht
  | loop c ih =>
    intro hok hqc ρ H w T a Qa Q h hR hT hQ hno
    obtain ⟨k, hk'⟩ := h
    refine wpIn_loop_rounds k ?_
    have key : ∀ (k : Nat) (ρ1 : Ren) (H1 : AHeap) (w1 : World) (T1 : Tm) (a1 : Act), arounds (awp P c) Qa k T1 H1 → Rel ρ1 H1 F w1 → Ext H ρ ρ1 → H.length ≤ H1.length → TR ρ1 n ds T1 a1 → Code.roundsIn G m P c Q k a1 w1 := by
      intro k
      induction k with
      | zero => intro ρ1 H1 w1 T1 a1 h1; exact h1.elim
      | succ k ihm =>
        intro ρ1 H1 w1 T1 a1 h1 hR1 hx1 hl1 hT1
        rw [roundsIn_succ]
        refine ih (by simpa only [codeOk] using hok) (by simpa only [quietC] using hqc) h1 hR1 hT1 (fun e T' H' ρ' a' w' hq hr hx hl ht => ?_) (noOut_then hno)
        cases e with
        | normal => exact ihm ρ' H' w' T' a' hq hr (hx1.trans hx hl1) (by omega) ht
        | exit id => exact hQ (.exit id) T' H' ρ' a' w' hq hr (hx1.trans hx hl1) (by omega) ht
        | goto l => exact hQ (.goto l) T' H' ρ' a' w' hq hr (hx1.trans hx hl1) (by omega) ht
        | ret => exact hQ .ret T' H' ρ' a' w' hq hr (hx1.trans hx hl1) (by omega) ht
        | panic ch => exact hQ (.panic ch) T' H' ρ' a' w' hq hr (hx1.trans hx hl1) (by omega) ht
        | outgrown => exact hQ .outgrown T' H' ρ' a' w' hq hr (hx1.trans hx hl1) (by omega) ht
    exact key k ρ H w T a hk' hR (Ext.refl _ _) (Nat.le_refl _) hT

/-! ### what is kept, turned in one block -/
theorem ObjAt.gone_or {ρ : Ren} {F : Nat → Option Obj} {l : Loc} {O : Obj} {o : AObj} (h : ObjAt ρ F l (Option.some O) o) : o = .gone ∨ (∃ arr e fz, O = .cells arr e fz) ∨ (∃ es ck, O = .map es ck) ∨ (∃ m s se la, O = .mapIter m s se la) ∨ ∃ s p, O = .stringIter s p := by
  cases o with
  | row cs k own => obtain ⟨arr, e, fz, h1, _⟩ := h; right; left; exact ⟨arr, e, fz, Option.some.inj h1⟩
  | map es ck => obtain ⟨_, _, es', h3, _⟩ := h; right; right; left; exact ⟨es', ck, Option.some.inj h3⟩
  | mapIter m since seen last =>
    obtain ⟨_, _, h3⟩ := h
    right; right; right; left
    cases m with
    | none => exact ⟨_, _, _, _, Option.some.inj h3⟩
    | some id => obtain ⟨lm, _, h4⟩ := h3; exact ⟨_, _, _, _, Option.some.inj h4⟩
  | strIter s pos => obtain ⟨_, _, h3⟩ := h; right; right; right; right; exact ⟨s, pos, Option.some.inj h3⟩
  | gone => exact .inl rfl
  | rowx cs k ext => obtain ⟨arr, e, fz, h1, _⟩ := h; right; left; exact ⟨arr, e, fz, Option.some.inj h1⟩
theorem ObjAt.heapOf {ρ : Ren} {F F' : Nat → Option Obj} {l : Loc} {O : Option Obj} {o : AObj} (h : ObjAt ρ F l O o) (hF : F' l.blk = F l.blk) : ObjAt ρ F' l O o := by
  cases o <;> simp only [ObjAt, hF] at h ⊢ <;> exact h
/-- a block that is no abstract object's: kept as something else from here on -/
theorem Rel.reframe {ρ : Ren} {H : AHeap} {F : Frm} {w : World} (h : Rel ρ H F w) {L : Nat} {O O' : Obj} (hL : F.heap L = some O) (hO : ¬ ((∃ arr e fz, O = .cells arr e fz) ∨ (∃ es ck, O = .map es ck) ∨ (∃ m s se la, O = .mapIter m s se la) ∨ ∃ s p, O = .stringIter s p)) :
    Rel ρ H { F with heap := fun b => if b = L then some O' else F.heap b } (w.putObj L O') := by
  have hwL := h.frm.heap L O hL
  have hlt : L < w.heap.size := (Array.getElem?_eq_some_iff.1 hwL).1
  refine ⟨h.dom, ⟨fun b o hb => ?_, h.frm.tape, h.frm.os, h.frm.output, h.frm.drawn, by rw [World.putObj_size]; exact h.frm.size⟩, fun id l o hl ho => ?_, h.sep⟩
  · simp only at hb
    by_cases q : b = L
    · rw [if_pos q] at hb; cases hb; rw [q]; exact World.putObj_heap_same hlt
    · rw [if_neg q] at hb; rw [World.putObj_heap_other q]; exact h.frm.heap b o hb
  · have h1 := h.obj id l o hl ho
    by_cases q : l.blk = L
    · rw [q, hwL] at h1
      rcases h1.gone_or with rfl | h2
      · trivial
      · exact absurd h2 hO
    · rw [World.putObj_heap_other q]
      refine h1.heapOf ?_
      simp only; rw [if_neg q]
/-- a new block, kept -/
theorem Rel.keepNew {ρ : Ren} {H : AHeap} {F : Frm} {w : World} (h : Rel ρ H F w) (O : Obj) (hO : ¬ ((∃ arr e fz, O = .cells arr e fz) ∨ (∃ es ck, O = .map es ck) ∨ (∃ m s se la, O = .mapIter m s se la) ∨ ∃ s p, O = .stringIter s p)) :
    Rel ρ H { F with heap := fun b => if b = w.heap.size then some O else F.heap b, size := F.size } (w.alloc O) := by
  have old : ∀ b, b < w.heap.size → (w.alloc O).heap[b]? = w.heap[b]? := fun b hb => Go.RowKit.Below.heap_alloc w O b hb
  refine ⟨h.dom, ⟨fun b o hb => ?_, h.frm.tape, h.frm.os, h.frm.output, h.frm.drawn, by have := h.frm.size; simp; omega⟩, fun id l o hl ho => ?_, h.sep⟩
  · simp only at hb
    by_cases q : b = w.heap.size
    · rw [if_pos q] at hb; cases hb; rw [q]; exact World.alloc_heap_new w O
    · rw [if_neg q] at hb
      have h1 := h.frm.heap b o hb
      rw [old b (Array.getElem?_eq_some_iff.1 h1).1]; exact h1
  · have h1 := h.obj id l o hl ho
    by_cases q : l.blk < w.heap.size
    · rw [old _ q]
      refine h1.heapOf ?_
      simp only; rw [if_neg (by omega)]
    · -- nothing lies there
      rw [Array.getElem?_eq_none (by omega)] at h1
      cases o with
      | gone => trivial
      | row cs k own => obtain ⟨_, _, _, h2, _⟩ := h1; cases h2
      | map es ck => obtain ⟨_, _, _, h2, _⟩ := h1; cases h2
      | mapIter m since seen last =>
        obtain ⟨_, _, h2⟩ := h1
        cases m with
        | none => cases h2
        | some id => obtain ⟨_, _, h3⟩ := h2; cases h3
      | strIter s pos => obtain ⟨_, _, h2⟩ := h1; cases h2
      | rowx cs k ext => obtain ⟨_, _, _, h2, _⟩ := h1; cases h2

/-! ### a range over a function -/
/-- a block that no abstract object lies at -/
def Odd (O : Obj) : Prop := ¬ ((∃ arr e fz, O = .cells arr e fz) ∨ (∃ es ck, O = .map es ck) ∨ (∃ m s se la, O = .mapIter m s se la) ∨ ∃ s p, O = .stringIter s p)
theorem odd_loop (r : Loop) : Odd (.loop r) := by rintro (⟨_, _, _, h⟩ | ⟨_, _, h⟩ | ⟨_, _, _, _, h⟩ | ⟨_, _, h⟩) <;> cases h
theorem odd_deferred (d : Option (List Deferred)) : Odd (.deferred d) := by rintro (⟨_, _, _, h⟩ | ⟨_, _, h⟩ | ⟨_, _, _, _, h⟩ | ⟨_, _, h⟩) <;> cases h
/-- F, and two blocks more -/
def Frm.two (F : Frm) (D L : Nat) (x y : Obj) : Frm := { F with heap := fun b => if b = L then some y else if b = D then some x else F.heap b }
theorem Frm.two_L (F : Frm) (D L : Nat) (x y : Obj) : (F.two D L x y).heap L = some y := if_pos rfl
theorem Frm.two_D (F : Frm) {D L : Nat} (x y : Obj) (h : D ≠ L) : (F.two D L x y).heap D = some x := by simp [Frm.two, h]
theorem Rel.turnL {ρ : Ren} {H : AHeap} {F : Frm} {w : World} {D L : Nat} {x y : Obj} (h : Rel ρ H (F.two D L x y) w) (hy : Odd y) (y' : Obj) : Rel ρ H (F.two D L x y') (w.putObj L y') := by
  have := h.reframe (O' := y') (Frm.two_L F D L x y) hy
  have e : ({ F.two D L x y with heap := fun b => if b = L then some y' else (F.two D L x y).heap b } : Frm) = F.two D L x y' := by
    have e0 : (fun b => if b = L then some y' else (F.two D L x y).heap b) = (F.two D L x y').heap := by
      funext b
      by_cases q : b = L <;> simp [Frm.two, q]
    rw [e0]; rfl
  rwa [e] at this
theorem Rel.turnD {ρ : Ren} {H : AHeap} {F : Frm} {w : World} {D L : Nat} {x y : Obj} (h : Rel ρ H (F.two D L x y) w) (hDL : D ≠ L) (hx : Odd x) (x' : Obj) : Rel ρ H (F.two D L x' y) (w.putObj D x') := by
  have := h.reframe (O' := x') (Frm.two_D F x y hDL) hx
  have e : ({ F.two D L x y with heap := fun b => if b = D then some x' else (F.two D L x y).heap b } : Frm) = F.two D L x' y := by
    have e0 : (fun b => if b = D then some x' else (F.two D L x y).heap b) = (F.two D L x' y).heap := by
      funext b
      by_cases q : b = D
      · subst q; simp [Frm.two, hDL]
      · simp [Frm.two, q]
    rw [e0]; rfl
  rwa [e] at this
theorem Rel.back {ρ : Ren} {H : AHeap} {F : Frm} {w : World} {D L : Nat} {x y : Obj} (h : Rel ρ H (F.two D L x y) w) (hDL : D ≠ L) (hx : Odd x) (hy : Odd y) (hD : F.heap D = none) (hL : F.heap L = none) : Rel ρ H F w := by
  have sub : ∀ b o, F.heap b = some o → (F.two D L x y).heap b = some o := fun b o hb => by
    have h1 : b ≠ L := fun q => by rw [q, hL] at hb; cases hb
    have h2 : b ≠ D := fun q => by rw [q, hD] at hb; cases hb
    simp [Frm.two, h1, h2, hb]
  refine ⟨h.dom, ⟨fun b o hb => h.frm.heap b o (sub b o hb), h.frm.tape, h.frm.os, h.frm.output, h.frm.drawn, h.frm.size⟩, fun id l o hl ho => ?_, h.sep⟩
  have h1 := h.obj id l o hl ho
  by_cases q : l.blk = L
  · rw [q, h.frm.heap L y (Frm.two_L F D L x y)] at h1
    rcases h1.gone_or with rfl | h2
    · trivial
    · exact absurd h2 hy
  · by_cases q2 : l.blk = D
    · rw [q2, h.frm.heap D x (Frm.two_D F x y hDL)] at h1
      rcases h1.gone_or with rfl | h2
      · trivial
      · exact absurd h2 hx
    · refine h1.heapOf ?_
      simp [Frm.two, q, q2]
/-- the two blocks that a loop lays -/
theorem Rel.enter {ρ : Ren} {H : AHeap} {F : Frm} {w : World} (h : Rel ρ H F w) (r : Loop) :
    Rel ρ H (F.two w.heap.size (w.heap.size + 1) (.deferred (some [])) (.loop r)) ((w.alloc (.deferred (some []))).alloc (.loop r)) ∧ F.heap w.heap.size = none ∧ F.heap (w.heap.size + 1) = none := by
  have none_ : ∀ b, w.heap.size ≤ b → F.heap b = none := fun b hb => by
    cases q : F.heap b with
    | none => rfl
    | some o => have := (Array.getElem?_eq_some_iff.1 (h.frm.heap b o q)).1; omega
  refine ⟨?_, none_ _ (Nat.le_refl _), none_ _ (Nat.le_succ _)⟩
  have h1 := (h.keepNew (.deferred (some [])) (odd_deferred _)).keepNew (.loop r) (odd_loop r)
  rw [World.size_alloc] at h1
  exact h1

/-- one round -/
theorem round_sim (hm : P.follows .mixedOrders = true) {px : Tmp} {assign body : Code} (h1 : codeOk n assign = true) (h2 : codeOk n body = true) (q1 : quietC assign = true) (q2 : quietC body = true) {ρ : Ren} {H : AHeap} {F : Frm} {W : World} {D L k : Nat} {fn : FuncId} {tmps : Array Value} {x : Obj} {T : Tm} {v v' : Value} {J : AHeap → Prop}
    (hR : Rel ρ H (F.two D L x (.loop { state := .ready, pending := none, fn, tmps, params := #[px], assign, body, defers := D })) W) (hT : TR ρ n [] T { tmps := tmps, defers := [] }) (hpx : px < n) (hv : VR ρ v v')
    (hA : awp P assign (Exit.thenA (awp P body (fun e _ H' => e = .normal ∧ J H')) (fun _ _ _ => False)) (T.put (some px) v) H) :
    ∃ tmps', (Instr.yield L #[v']).run P W = .ok (.round L fn tmps' assign body) W ∧ RoundIn Fence.wide k P L fn tmps' assign body W fun e W' => e = .returned (.bool true) ∧ ∃ ρ' H', J H' ∧ Rel ρ' H' (F.two D L x (.loop { state := .ready, pending := none, fn, tmps, params := #[px], assign, body, defers := D })) W' ∧ Ext H ρ ρ' ∧ H.length ≤ H'.length := by
  have hL := hR.frm.heap L _ (Frm.two_L _ _ _ _ _)
  refine ⟨_, run_yield hL (by simp), roundIn_of_wpIn trivial ?_⟩
  have hT2 : TR ρ n [] (T.put (some px) v) { tmps := (#[px].zip #[v']).foldl (fun t (p, a) => t.setIfInBounds p a) tmps, defers := [] } := by
    have := hT.put (d := some px) (fun t q => by cases q; exact hpx) hv
    simpa [Act.put] using this
  refine sim_codeIn hm (open_round L) assign h1 q1 hA hR hT2 (fun e T1 H1 ρ1 a1 w1 hq hr hx hl ht => ?_) (fun ⟨_, _, q⟩ => q)
  cases e with
  | normal =>
    have hL1 := hr.frm.heap L _ (Frm.two_L _ _ _ _ _)
    refine ⟨_, run_beginRound hL1 rfl, ?_⟩
    have hr2 := hr.turnL (odd_loop _) (.loop { state := .busy, pending := none, fn, tmps, params := #[px], assign, body, defers := D })
    refine sim_codeIn hm (open_round L) body h2 q2 hq hr2 ht (fun e2 T2 H2 ρ2 a2 w2 hq2 hr3 hx2 hl2 ht2 => ?_) (fun ⟨_, _, q⟩ => q)
    obtain ⟨rfl, hJ⟩ := hq2
    have hL2 := hr3.frm.heap L _ (Frm.two_L _ _ _ _ _)
    refine ⟨_, _, run_endRound none hL2, rfl, ρ2, H2, hJ, ?_, hx.trans hx2 hl, by omega⟩
    exact hr3.turnL (odd_loop _) _
  | ret => exact hq.elim
  | exit id => exact hq.elim
  | goto l => exact hq.elim
  | panic ch => exact hq.elim
  | outgrown => exact hq.elim

/-- the statement -/
theorem sim_range {g : Operand} {px : Tmp} {assign body : Code} {ρ : Ren} {H : AHeap} {F : Frm} {w : World} {a : Act} {k : Nat} {kf : FuncId} {cap : Array Value} {J : AHeap → Prop} {Q : Exit → Act → World → Prop} (hg : a.eval g = .func (.func kf) #[] cap) (eg : ∀ args w, (callFunc kf args).run P w = .ok (.enter kf args) w) (hR : Rel ρ H F w)
    (hiter : ∀ (fn : FuncId) (D L : Nat) (W : World), D ≠ L → F.heap D = none → F.heap L = none → Rel ρ H (F.two D L (.deferred (some [])) (.loop { state := .ready, pending := none, fn, tmps := a.tmps, params := #[px], assign, body, defers := D })) W →
      CallsIn Fence.wide (k - 1) P kf (#[.func (.yield L) #[] #[]] ++ cap) W fun e W' => (∃ v, e = .returned v) ∧ ∃ ρ' H', J H' ∧ Rel ρ' H' (F.two D L (.deferred (some [])) (.loop { state := .ready, pending := none, fn, tmps := a.tmps, params := #[px], assign, body, defers := D })) W' ∧ Ext H ρ ρ' ∧ H.length ≤ H'.length)
    (hdone : ∀ (D L : Nat) (y : Obj) (ρ' : Ren) (H' : AHeap) (w' : World), D ≠ L → F.heap D = none → F.heap L = none → Odd y → J H' → Rel ρ' H' (F.two D L (.deferred (some [])) y) w' → Ext H ρ ρ' → H.length ≤ H'.length → Q .normal { a with defers := { target := .collected D, args := #[] } :: a.defers } w') :
    (Code.rangeFunc g #[px] assign body).wpIn Fence.wide k P Q a w := by
  refine wpIn_rangeFunc fun fn _ => ?_
  have hent := hR.enter { state := .ready, pending := none, fn, tmps := a.tmps, params := #[px], assign, body, defers := w.heap.size }
  have hrun := run_enterLoop_outer (P := P) (w := w) fn a.tmps #[px] assign body
  generalize (w.alloc (.deferred (some []))).alloc (.loop { state := .ready, pending := none, fn, tmps := a.tmps, params := #[px], assign, body, defers := w.heap.size }) = W1 at hrun hent
  refine ⟨w.heap.size + 1, [{ target := .collected w.heap.size, args := #[] }], W1, { target := .fn (.func kf) cap, args := #[.func (.yield (w.heap.size + 1)) #[] #[]] }, W1, kf,
    #[.func (.yield (w.heap.size + 1)) #[] #[]] ++ cap, W1, hrun, ?_, fun _ _ => trivial, ?_, (fun q => by cases q), ?_⟩
  · simp only [resolve, hg]
    simp [go_sem]
  · simp [invoke, go_sem, eg]
  · refine (hiter fn w.heap.size (w.heap.size + 1) _ (by omega) hent.2.1 hent.2.2 hent.1).mono ?_
    rintro e W' ⟨⟨v, rfl⟩, ρ', H', hJ, hR', hx, hl⟩
    have hL := hR'.frm.heap _ _ (Frm.two_L _ _ _ _ _)
    exact ⟨none, _, run_endLoop hL (by simp), hdone w.heap.size (w.heap.size + 1) _ ρ' H' _ (by omega) hent.2.1 hent.2.2 (odd_loop _) hJ (hR'.turnL (odd_loop _) _) hx hl⟩

/-! ### for a walk by hand -/
theorem enters_body {f : FuncId} {fn : Func} {c : Code} (hf : P.funcs[f]? = some fn) (hn : (fn.name == "runtime.NumGoroutine") = false) (hb : fn.body = some c) (xs : Array Value) (w : World) : (callFunc f xs).run P w = .ok (.enter f xs) w := by
  have h3 : ¬ fn.name = "runtime.NumGoroutine" := by simpa using hn
  simp [callFunc, hf, h3, hb]
theorem TR.start {ρ : Ren} {args args' : List Value} (hv : VRs ρ args args') (hn : args.length ≤ n) : TR ρ n [] (fun t => args.getD t undef) { tmps := args'.toArray ++ Array.replicate (n - args'.toArray.size) undef, defers := [] } := by
  refine ⟨?_, rfl, fun t ht => ?_⟩
  · have := hv.1; simp; omega
  · have hl := hv.1
    simp only [Array.getD_eq_getD_getElem?, List.getD_eq_getElem?_getD]
    by_cases hta : t < args.length
    · rw [Array.getElem?_append_left (by simp; omega)]
      have e1 := List.getElem?_eq_getElem hta
      have e2 := List.getElem?_eq_getElem (show t < args'.length by omega)
      rw [e1, List.getElem?_toArray, e2]
      exact hv.2 t _ _ e1 e2
    · rw [List.getElem?_eq_none (by omega), Array.getElem?_append_right (by simp; omega), Array.getElem?_replicate, if_pos (by simp; omega)]
      exact VR.undef _
theorem sim_opIn {G : Fence} (hG : Open P G) {m i : Nat} {rest : List Nat} {ops : Array Oper} {Q : Exit → Act → World → Prop} {o : Oper} (ho : ops[i]? = some o) (hok : operOk n o = true) (hq : noDefer o = true) (hgd : o.guard = none) {ρ : Ren} {H : AHeap} {w : World} {T : Tm} {a : Act} {K : Value → AHeap → Prop} (hR : Rel ρ H F w) (hT : TR ρ n ds T a) (h : aop P T o H K)
    (hn : ∀ v v' H' ρ' w', K v H' → Rel ρ' H' F w' → Ext H ρ ρ' → H.length ≤ H'.length → TR ρ' n ds (T.put o.dst v) (a.put o.dst v') → wpOpsIn G m P ops Q rest (a.put o.dst v') w') : wpOpsIn G m P ops Q (i :: rest) a w := by
  obtain ⟨od, oo⟩ := operOk_opd hok
  rw [wpOpsIn_cons]
  unfold wpOpIn
  have hw : Region.wanted o (yielded ops a.tmps) = true := by unfold Region.wanted; rw [hgd]
  simp only [ho, hw, if_true]
  exact lift_op hG (noDefer_of hq) (sim_aop hR (fun x hx => hT.eval (oo x hx)) h fun v v' H' ρ' w' hK r1 r2 r3 r4 => hn v v' H' ρ' w' hK r1 r2 r3 ((hT.mono (hR.ext r2)).put od r4))
end Go.AW
