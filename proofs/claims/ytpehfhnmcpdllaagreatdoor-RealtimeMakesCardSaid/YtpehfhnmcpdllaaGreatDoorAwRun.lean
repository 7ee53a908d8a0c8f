/-
  AW: concrete calls, run by the kernel.
-/
import Derived.Test.YtpehfhnmcpdllaaGreatDoorAwKit
set_option linter.unusedVariables false
set_option linter.unusedSimpArgs false
namespace Go.AW
open Go

/-! ### slots as a tree -/
inductive Tr where
  | leaf
  | node (v : Value) (l r : Tr)

theorem beqF {a b : Nat} (h : a ≠ b) : Nat.beq a b = false := by cases q : Nat.beq a b with | false => rfl | true => exact absurd (Nat.eq_of_beq_eq_true q) h
def Tr.get : Nat → Tr → Nat → Value
  | 0, _, _ => undef
  | _ + 1, .leaf, _ => undef
  | n + 1, .node v l r, t => bif Nat.beq t 0 then v else bif Nat.beq (t % 2) 1 then Tr.get n l (t / 2) else Tr.get n r (t / 2 - 1)
def Tr.put : Nat → Tr → Nat → Value → Tr
  | 0, T, _, _ => T
  | n + 1, .leaf, t, x => bif Nat.beq t 0 then .node x .leaf .leaf else bif Nat.beq (t % 2) 1 then .node undef (Tr.put n .leaf (t / 2) x) .leaf else .node undef .leaf (Tr.put n .leaf (t / 2 - 1) x)
  | n + 1, .node v l r, t, x => bif Nat.beq t 0 then .node x l r else bif Nat.beq (t % 2) 1 then .node v (Tr.put n l (t / 2) x) r else .node v l (Tr.put n r (t / 2 - 1) x)
theorem Tr.get_leaf (n t : Nat) : Tr.get n .leaf t = undef := by cases n <;> rfl
theorem Tr.get_put : ∀ (n : Nat) (T : Tr) (d : Nat) (x : Value) (t : Nat), d < 2 ^ n - 1 → Tr.get n (Tr.put n T d x) t = if t = d then x else Tr.get n T t := by
  intro n
  induction n with
  | zero => intro T d x t h; simp at h
  | succ n ih =>
    intro T d x t h
    have key : ∀ (v : Value) (l r : Tr), Tr.get (n + 1) (bif Nat.beq d 0 then .node x l r else bif Nat.beq (d % 2) 1 then .node v (Tr.put n l (d / 2) x) r else .node v l (Tr.put n r (d / 2 - 1) x)) t = if t = d then x else Tr.get (n + 1) (.node v l r) t := by
      intro v l r
      have hp : 2 ^ (n + 1) = 2 * 2 ^ n := by rw [Nat.pow_succ]; omega
      by_cases h0 : d = 0
      · subst h0
        by_cases ht : t = 0
        · subst ht; rfl
        · rw [if_neg ht]
          simp [Tr.get, beqF ht]
      · by_cases h1 : d % 2 = 1
        · have hd : (bif Nat.beq d 0 then Tr.node x l r else bif Nat.beq (d % 2) 1 then .node v (Tr.put n l (d / 2) x) r else .node v l (Tr.put n r (d / 2 - 1) x)) = .node v (Tr.put n l (d / 2) x) r := by
            have e1 : Nat.beq d 0 = false := beqF h0
            rw [e1, h1]; rfl
          rw [hd]
          by_cases ht : t = 0
          · subst ht; rw [if_neg (by omega)]; simp [Tr.get]
          · have e1 : Nat.beq t 0 = false := beqF ht
            by_cases h2 : t % 2 = 1
            · have e2 : Nat.beq (t % 2) 1 = true := by rw [h2]; rfl
              simp only [Tr.get, e1, e2, cond_true, cond_false]
              rw [ih l (d / 2) x (t / 2) (by omega)]
              by_cases e : t = d
              · rw [if_pos e, if_pos (by rw [e])]
              · rw [if_neg e, if_neg (by omega)]
            · have e2 : Nat.beq (t % 2) 1 = false := beqF h2
              simp only [Tr.get, e1, e2, cond_false]
              rw [if_neg (by omega)]
        · have hd : (bif Nat.beq d 0 then Tr.node x l r else bif Nat.beq (d % 2) 1 then .node v (Tr.put n l (d / 2) x) r else .node v l (Tr.put n r (d / 2 - 1) x)) = .node v l (Tr.put n r (d / 2 - 1) x) := by
            have e1 : Nat.beq d 0 = false := beqF h0
            have e2 : Nat.beq (d % 2) 1 = false := beqF h1
            rw [e1, e2]; rfl
          rw [hd]
          by_cases ht : t = 0
          · subst ht; rw [if_neg (by omega)]; simp [Tr.get]
          · have e1 : Nat.beq t 0 = false := beqF ht
            by_cases h2 : t % 2 = 1
            · have e2 : Nat.beq (t % 2) 1 = true := by rw [h2]; rfl
              simp only [Tr.get, e1, e2, cond_true, cond_false]
              rw [if_neg (by omega)]
            · have e2 : Nat.beq (t % 2) 1 = false := beqF h2
              simp only [Tr.get, e1, e2, cond_false]
              rw [ih r (d / 2 - 1) x (t / 2 - 1) (by omega)]
              by_cases e : t = d
              · rw [if_pos e, if_pos (by rw [e])]
              · rw [if_neg e, if_neg (by omega)]
    cases T with
    | leaf =>
      have := key undef .leaf .leaf
      have e : Tr.get (n + 1) (.node undef .leaf .leaf) t = Tr.get (n + 1) .leaf t := by
        simp only [Tr.get, Tr.get_leaf]
        cases Nat.beq t 0 <;> cases Nat.beq (t % 2) 1 <;> rfl
      rw [e] at this
      exact this
    | node v l r => exact key v l r

abbrev Tr.fn (T : Tr) : Tm := fun t => Tr.get 12 T t
/-- a slot is written; 'none': it is out of reach -/
def Tr.set (T : Tr) (d : Option Tmp) (v : Value) : Option Tr := match d with | none => some T | some d => bif Nat.blt d 4095 then some (Tr.put 12 T d v) else none
theorem Tr.set_fn {T T' : Tr} {d : Option Tmp} {v : Value} (h : T.set d v = some T') : T'.fn = T.fn.put d v := by
  cases d with
  | none => cases h; rfl
  | some d =>
    simp only [Tr.set] at h
    cases hb : Nat.blt d 4095 with
    | false => rw [hb] at h; cases h
    | true =>
      rw [hb] at h; cases h
      have hd : d < 4095 := by simpa [Nat.blt_eq] using hb
      funext t
      exact Tr.get_put 12 T d v t hd

/-! ### what is strict -/
/-- a list's spine -/
def fList {α : Type} {β : Type} : List α → (List α → β) → β
  | [], k => k []
  | x :: xs, k => fList xs fun l => k (x :: l)
theorem fList_eq {α β : Type} : ∀ (l : List α) (k : List α → β), fList l k = k l
  | [], _ => rfl
  | x :: xs, k => fList_eq xs fun l => k (x :: l)
def fObj {β : Type} (o : AObj) (k : AObj → β) : β :=
  match o with
  | .row cs e w => fList cs fun cs => k (.row cs e w)
  | .map es ck => k (.map es ck)
  | .mapIter a b c d => k (.mapIter a b c d)
  | .strIter a b => k (.strIter a b)
  | .gone => k .gone
  | .rowx a b c => k (.rowx a b c)
theorem fObj_eq {β : Type} (o : AObj) (k : AObj → β) : fObj o k = k o := by
  cases o <;> first | rfl | exact fList_eq _ _
def fHeap {β : Type} : AHeap → (AHeap → β) → β
  | [], k => k []
  | o :: os, k => fObj o fun o => fHeap os fun l => k (o :: l)
theorem fHeap_eq {β : Type} : ∀ (l : AHeap) (k : AHeap → β), fHeap l k = k l
  | [], _ => rfl
  | x :: xs, k => by rw [fHeap, fObj_eq, fHeap_eq]
def fVal {β : Type} (v : Value) (k : Value → β) : β :=
  match v with
  | .agg cs => fList cs.toList fun l => k (.agg l.toArray)
  | .tuple cs => fList cs.toList fun l => k (.tuple l.toArray)
  | .int a b => k (.int a b)
  | .bool b => k (.bool b)
  | .pointer a => k (.pointer a)
  | .slice a b c => k (.slice a b c)
  | .string s => k (.string s)
  | v => k v
theorem fVal_eq {β : Type} (v : Value) (k : Value → β) : fVal v k = k v := by
  cases v <;> first | rfl | (simp only [fVal, fList_eq])

/-! ### steps -/
abbrev Call1 := FuncId → List Value → AHeap → Option (Value × AHeap)
def rNext (H : AHeap) (it : Value) : Option (Value × AHeap) :=
  match mapIterOf H it with
  | some (_, none, _, _, _) => some (.tuple #[.bool false], H)
  | some (r, some m, since, seen, last) =>
    match H[m]? with
    | some (.map es clock) =>
      bif (!seen.isEmpty && !es.isEmpty && es.all (·.born ≥ last)) then none else
      match (es.filter fun e => !seen.contains e.born).toList with
      | [] => some (.tuple #[.bool false], H)
      | [e] => bif Nat.blt e.born since then some (.tuple #[.bool true, e.key, e.val], H.set r (.mapIter (some m) since (seen.push e.born) clock)) else none
      | _ => none
    | _ => none
  | none => none
theorem rNext_sound {H H' : AHeap} {it v : Value} {K : Value → AHeap → Prop} (h : rNext H it = some (v, H')) (hk : K v H') : anext H it K := by
  unfold rNext at h
  unfold anext
  split at h
  · rename_i e; rw [e]; cases h; exact hk
  · rename_i r m since seen last e
    rw [e]
    simp only
    cases hm : H[m]? with
    | none => rw [hm] at h; simp at h
    | some o =>
      rw [hm] at h
      cases o with
      | map es clock =>
        simp only at h ⊢
        cases hb : (!seen.isEmpty && !es.isEmpty && es.all (·.born ≥ last)) with
        | true => rw [hb] at h; simp at h
        | false =>
          rw [hb, cond_false] at h
          refine ⟨rfl, ?_⟩
          cases hl : (es.filter fun e => !seen.contains e.born).toList with
          | nil =>
            have hl' : es.filter (fun e => !seen.contains e.born) = #[] := by simpa using hl
            rw [hl] at h; cases h
            rw [hl']
            exact ⟨fun _ => hk, fun e he => by simp at he⟩
          | cons e l =>
            rw [hl] at h
            cases l with
            | cons e2 l => simp at h
            | nil =>
              simp only at h
              have hl' : es.filter (fun e => !seen.contains e.born) = #[e] := by
                apply Array.toList_inj.1; exact hl
              rw [hl']
              cases hlt : Nat.blt e.born since with
              | false => rw [hlt] at h; simp at h
              | true =>
                rw [hlt, cond_true] at h; cases h
                have hlt' : e.born < since := by simpa [Nat.blt_eq] using hlt
                refine ⟨fun q => ?_, fun e2 he => ?_⟩
                · simp [hlt'] at q
                · have : e2 = e := by
                    simp only [Array.mem_append, Array.mem_filter, Array.mem_singleton] at he
                    rcases he with ⟨rfl, _⟩ | ⟨rfl, _⟩ <;> rfl
                  subst this; exact hk
      | _ => simp at h
  · simp at h

def rOp (P : Program) (call : Call1) (T : Tm) (o : Oper) (H : AHeap) : Option (Value × AHeap) :=
  match o.op with
  | .next it true => anextS H (aev T it)
  | .next it false => rNext H (aev T it)
  | .call { callee := .builtin .len, .. } | .call { callee := .builtin .cap, .. } | .call { callee := .builtin .max, .. } | .call { callee := .builtin .min, .. } => match aread P T o H with | some v => some (v, H) | none => none
  | .call { callee := .builtin _, .. } => aeff P T o H
  | .call c => match acallee P T c with | some (f, as) => call f as H | none => none
  | _ => match cls P o with
    | .read => match aread P T o H with | some v => some (v, H) | none => none
    | .alloc => match aalloc P T o with | some (ob, v) => some (v H.length, H ++ [ob]) | none => none
    | .eff => aeff P T o H

/-- the calls are right -/
def CallOk (P : Program) (call : Call1) : Prop := ∀ f as H v H', call f as H = some (v, H') → SoundX P f as H fun u K => u = v ∧ K = H'

theorem rOp_sound {P : Program} {call : Call1} (hc : CallOk P call) {T : Tm} {o : Oper} {H H' : AHeap} {v : Value} {K : Value → AHeap → Prop} (h : rOp P call T o H = some (v, H')) (hk : K v H') : aop P T o H K := by
  have rd : ∀ {x : Option Value}, (match x with | some v => some (v, H) | none => none) = some (v, H') → bindO x fun v => K v H := fun {x} h => by
    cases x with
    | none => simp at h
    | some u => simp only [Option.some.injEq, Prod.mk.injEq] at h; obtain ⟨rfl, rfl⟩ := h; exact hk
  have ef : ∀ {x : Option (Value × AHeap)}, x = some (v, H') → bindO x fun p => K p.1 p.2 := fun {x} h => by subst h; exact hk
  obtain ⟨d, op, ty, pos, aft, gd⟩ := o
  unfold rOp at h
  split at h
  · rename_i q; simp only at q; subst q; exact ef h
  · rename_i q; simp only at q; subst q; exact rNext_sound h hk
  · rename_i q; simp only at q; subst q; exact rd h
  · rename_i q; simp only at q; subst q; exact rd h
  · rename_i q; simp only at q; subst q; exact rd h
  · rename_i q; simp only at q; subst q; exact rd h
  · rename_i b a t n1 n2 n3 n0 q
    simp only at q; subst q
    cases b <;> first | (exact (n1 rfl).elim) | (exact (n2 rfl).elim) | (exact (n3 rfl).elim) | (exact (n0 rfl).elim) | exact ef h
  · rename_i c n0 n1 n2 n3 n4 q
    simp only at q; subst q
    obtain ⟨callee, as, ts⟩ := c
    have : bindO (acallee P T { callee := callee, args := as, argTypes := ts }) fun p => SoundX P p.1 p.2 H K := by
      cases ha : acallee P T { callee := callee, args := as, argTypes := ts } with
      | none => rw [ha] at h; simp at h
      | some p =>
        rw [ha] at h
        exact (hc _ _ _ _ _ h).mono fun u L hu => by obtain ⟨rfl, rfl⟩ := hu; exact hk
    cases callee with
    | builtin b => exact (n4 _ _ _ rfl).elim
    | value f => exact this
    | invoke r m => exact this
  · rename_i n1 n2 n3 n4 n5 n6 n7 n8
    have tail : (match cls P ⟨d, op, ty, pos, aft, gd⟩ with
      | .read => bindO (aread P T ⟨d, op, ty, pos, aft, gd⟩ H) fun v => K v H
      | .alloc => bindO (aalloc P T ⟨d, op, ty, pos, aft, gd⟩) fun p => K (p.2 H.length) (H ++ [p.1])
      | .eff => bindO (aeff P T ⟨d, op, ty, pos, aft, gd⟩ H) fun p => K p.1 p.2) := by
      split at h
      · exact rd h
      · cases ha : aalloc P T ⟨d, op, ty, pos, aft, gd⟩ with
        | none => rw [ha] at h; simp at h
        | some p => rw [ha] at h; simp only [Option.some.injEq, Prod.mk.injEq] at h; obtain ⟨rfl, rfl⟩ := h; exact hk
      · exact ef h
    unfold aop
    cases op with
    | next it b => cases b; exact absurd rfl (n2 it); exact absurd rfl (n1 it)
    | call c => exact absurd rfl (n8 c)
    | _ => exact tail

end Go.AW
namespace Go.AW
open Go

/-! ### regions, code, functions -/
def rOps (P : Program) (call : Call1) (ops : Array Oper) : List Oper → Tr → AHeap → Option (Tr × AHeap)
  | [], T, H => some (T, H)
  | o :: os, T, H =>
    match aguard ops T.fn o with
    | some true => match rOp P call T.fn o H with
      | some (v, H') => fVal v fun v => fHeap H' fun H' => match T.set o.dst v with | some T' => rOps P call ops os T' H' | none => none
      | none => none
    | some false => match T.set o.dst undef with | some T' => rOps P call ops os T' H | none => none
    | none => none
theorem rOps_sound {P : Program} {call : Call1} (hc : CallOk P call) {ops : Array Oper} {K : Tm → AHeap → Prop} : ∀ (l : List Oper) (T : Tr) (H : AHeap) (T' : Tr) (H' : AHeap), rOps P call ops l T H = some (T', H') → K T'.fn H' → aops P ops K l T.fn H
  | [], T, H, T', H', h, hk => by cases h; exact hk
  | o :: os, T, H, T', H', h, hk => by
    simp only [rOps, fVal_eq, fHeap_eq] at h
    simp only [aops]
    cases hg : aguard ops T.fn o with
    | none => rw [hg] at h; simp at h
    | some g =>
      rw [hg] at h
      cases g with
      | true =>
        simp only at h
        simp only [bindO_some, acond_true]
        cases hr : rOp P call T.fn o H with
        | none => rw [hr] at h; simp at h
        | some p =>
          obtain ⟨v, H1⟩ := p
          rw [hr] at h
          simp only at h
          cases ht : T.set o.dst v with
          | none => rw [ht] at h; simp at h
          | some T1 =>
            rw [ht] at h
            refine rOp_sound hc hr ?_
            rw [← Tr.set_fn ht]
            exact rOps_sound hc os T1 H1 T' H' h hk
      | false =>
        simp only at h
        simp only [bindO_some, acond_false]
        cases ht : T.set o.dst undef with
        | none => rw [ht] at h; simp at h
        | some T1 =>
          rw [ht] at h
          rw [← Tr.set_fn ht]
          exact rOps_sound hc os T1 H T' H' h hk

/-! ### values held against each other -/
def kEq : IntKind → IntKind → Bool := fun a b => decide (a = b)
def bsEq : List UInt8 → List UInt8 → Bool
  | [], [] => true
  | a :: as, b :: bs => Nat.beq a.toNat b.toNat && bsEq as bs
  | _, _ => false
theorem bsEq_eq : ∀ {a b : List UInt8}, bsEq a b = true → a = b
  | [], [], _ => rfl
  | a :: as, b :: bs, h => by
    simp only [bsEq, Bool.and_eq_true] at h
    rw [bsEq_eq h.2, UInt8.toNat_inj.1 (Nat.eq_of_beq_eq_true h.1)]
  | [], _ :: _, h => by simp [bsEq] at h
  | _ :: _, [], h => by simp [bsEq] at h
def aEq (a b : Addr) : Bool := Nat.beq a.block b.block && Nat.beq a.off b.off && (match a.spot, b.spot with | none, none => true | some x, some y => Nat.beq x y | _, _ => false)
theorem aEq_eq {a b : Addr} (h : aEq a b = true) : a = b := by
  obtain ⟨x, y, z⟩ := a
  obtain ⟨u, v, w⟩ := b
  simp only [aEq, Bool.and_eq_true] at h
  obtain ⟨⟨h1, h2⟩, h3⟩ := h
  rw [Nat.eq_of_beq_eq_true h1, Nat.eq_of_beq_eq_true h2]
  cases z <;> cases w <;> simp at h3 ⊢
  exact h3
def listEq {α : Type} (f : α → α → Bool) : List α → List α → Bool
  | [], [] => true
  | a :: as, b :: bs => f a b && listEq f as bs
  | _, _ => false
theorem listEq_eq {α : Type} {f : α → α → Bool} (hf : ∀ a b, f a b = true → a = b) : ∀ {a b : List α}, listEq f a b = true → a = b
  | [], [], _ => rfl
  | a :: as, b :: bs, h => by
    simp only [listEq, Bool.and_eq_true] at h
    rw [hf _ _ h.1, listEq_eq hf h.2]
  | [], _ :: _, h => by simp [listEq] at h
  | _ :: _, [], h => by simp [listEq] at h
def vEq : Nat → Value → Value → Bool
  | 0, _, _ => false
  | d + 1, a, b =>
    match a, b with
    | .bool x, .bool y => match x, y with | true, true => true | false, false => true | _, _ => false
    | .int k x, .int k' y => kEq k k' && decide (x = y)
    | .string s, .string t => bsEq s.data.toList t.data.toList
    | .pointer none, .pointer none => true
    | .pointer (some x), .pointer (some y) => aEq x y
    | .slice none n c, .slice none m e => Nat.beq n m && Nat.beq c e
    | .slice (some x) n c, .slice (some y) m e => aEq x y && Nat.beq n m && Nat.beq c e
    | .map none, .map none => true
    | .map (some x), .map (some y) => Nat.beq x y
    | .nilFunc, .nilFunc => true
    | .func (.func f) as bs, .func (.func g) as' bs' => Nat.beq f g && listEq (vEq d) as.toList as'.toList && listEq (vEq d) bs.toList bs'.toList
    | .nilIface, .nilIface => true
    | .iface t x, .iface u y => Nat.beq t u && vEq d x y
    | .agg xs, .agg ys => listEq (vEq d) xs.toList ys.toList
    | .tuple xs, .tuple ys => listEq (vEq d) xs.toList ys.toList
    | _, _ => false
theorem vEq_eq : ∀ (d : Nat) (a b : Value), vEq d a b = true → a = b
  | 0, _, _, h => by simp [vEq] at h
  | d + 1, a, b, h => by
    have li : ∀ {xs ys : Array Value}, listEq (vEq d) xs.toList ys.toList = true → xs = ys := fun h => Array.toList_inj.1 (listEq_eq (vEq_eq d) h)
    unfold vEq at h
    split at h
    · split at h <;> first | rfl | cases h
    · simp only [Bool.and_eq_true, kEq, decide_eq_true_eq] at h; rw [h.1, h.2]
    · have := bsEq_eq h
      rename_i s t
      obtain ⟨s⟩ := s; obtain ⟨t⟩ := t
      have e : s = t := Array.toList_inj.1 this
      rw [e]
    · rfl
    · rw [aEq_eq h]
    · simp only [Bool.and_eq_true] at h; rw [Nat.eq_of_beq_eq_true h.1, Nat.eq_of_beq_eq_true h.2]
    · simp only [Bool.and_eq_true] at h; rw [aEq_eq h.1.1, Nat.eq_of_beq_eq_true h.1.2, Nat.eq_of_beq_eq_true h.2]
    · rfl
    · rw [Nat.eq_of_beq_eq_true h]
    · rfl
    · simp only [Bool.and_eq_true] at h; rw [Nat.eq_of_beq_eq_true h.1.1, li h.1.2, li h.2]
    · rfl
    · simp only [Bool.and_eq_true] at h; rw [Nat.eq_of_beq_eq_true h.1, vEq_eq d _ _ h.2]
    · rw [li h]
    · rw [li h]
    · cases h
def oEq : AObj → AObj → Bool
  | .row cs k w, .row ds j u => listEq (vEq 50) cs ds && Nat.beq k j && (match w, u with | true, true => true | false, false => true | _, _ => false)
  | .map es c, .map fs e => (match es.toList, fs.toList with | [], [] => true | _, _ => false) && Nat.beq c e
  | _, _ => false
theorem oEq_eq {a b : AObj} (h : oEq a b = true) : a = b := by
  unfold oEq at h
  split at h
  · simp only [Bool.and_eq_true] at h
    obtain ⟨⟨h1, h2⟩, h3⟩ := h
    rw [listEq_eq (vEq_eq 50) h1, Nat.eq_of_beq_eq_true h2]
    split at h3 <;> first | rfl | cases h3
  · simp only [Bool.and_eq_true] at h
    obtain ⟨h1, h2⟩ := h
    split at h1
    · rename_i h3 h4
      rw [Nat.eq_of_beq_eq_true h2, Array.toList_inj.1 (h3.trans h4.symm)]
    · cases h1
  · cases h

/-- does this hang on no memory? -/
def dry (o : Oper) : Bool := match o.op with | .move _ | .assign _ | .pick .. | .nilCheck _ | .unOp .. | .makeInterface .. | .makeFunc .. | .field .. | .index .. | .fieldAddr .. | .indexAddr .. | .build .. | .extract .. => true | _ => false
theorem dry_read {P : Program} {T : Tm} {o : Oper} (h : dry o = true) (H H' : AHeap) : aread P T o H = aread P T o H' := by
  obtain ⟨d, op, ty, pos, aft, gd⟩ := o
  cases op <;> first | rfl | (simp [dry] at h)
def recheckB (P : Program) (l : List Oper) (H : AHeap) (r : Rec) : Bool :=
  match r.skip, opAt l r.i with
  | true, _ => true
  | false, some o =>
    match r.id with
    | none => match aread P r.T o H with | some v => vEq 50 v r.v | none => false
    | some id => match aalloc P r.T o, H[id]? with | some p, some q => oEq q p.1 | _, _ => false
  | false, none => false
theorem recheckB_ok {P : Program} {l : List Oper} {H : AHeap} {r : Rec} (h : recheckB P l H r = true) : recheck P l.toArray H r := by
  obtain ⟨i, T, v, id, skip⟩ := r
  unfold recheckB at h
  unfold recheck
  have e : l.toArray[i]? = opAt l i := by rw [opAt_eq]; simp
  cases skip with
  | true => trivial
  | false =>
    simp only at h ⊢
    rw [e]
    cases ho : opAt l i with
    | none => rw [ho] at h; simp at h
    | some o =>
      rw [ho] at h
      simp only at h ⊢
      cases id with
      | none =>
        simp only at h ⊢
        cases hr : aread P T o H with
        | none => rw [hr] at h; simp at h
        | some u => rw [hr] at h; rw [vEq_eq _ _ _ h]
      | some id =>
        simp only at h ⊢
        cases ha : aalloc P T o with
        | none => rw [ha] at h; simp at h
        | some p =>
          rw [ha] at h
          cases hq : H[id]? with
          | none => rw [hq] at h; simp at h
          | some q => rw [hq] at h; simp only [bindO_some]; rw [oEq_eq h]
def rechecksB (P : Program) (l : List Oper) (H : AHeap) (chk : List Nat) : List Rec → Bool
  | [] => true
  | r :: rs => (bif chk.any (Nat.beq r.i) then recheckB P l H r else true) && rechecksB P l H chk rs
theorem rechecksB_ok {P : Program} {l : List Oper} {H : AHeap} {chk : List Nat} : ∀ {rs : List Rec}, rechecksB P l H chk rs = true → rechecks P l.toArray H chk rs
  | [], _ => trivial
  | r :: rs, h => by
    simp only [rechecksB, Bool.and_eq_true] at h
    refine ⟨?_, rechecksB_ok h.2⟩
    split
    · rename_i hc
      have hc' : chk.any (Nat.beq r.i) = true := by
        rw [List.any_eq_true]
        exact ⟨r.i, by simpa using hc, Nat.beq_refl _⟩
      have := h.1
      rw [hc', cond_true] at this
      exact recheckB_ok this
    · trivial

/-- along a plan -/
def rDraw (P : Program) (call : Call1) (l : List Oper) : List (Nat × List Nat) → List Rec → Tr → AHeap → Option (Tr × AHeap)
  | [], _, T, H => some (T, H)
  | (i, chk) :: is, recs, T, H =>
    match opAt l i with
    | none => none
    | some o =>
      match aguard l.toArray T.fn o with
      | some true =>
        match cls P o with
        | .read => match aread P T.fn o H with
          | some v => fVal v fun v => match T.set o.dst v with | some T' => rDraw P call l is (⟨i, T.fn, v, none, false⟩ :: recs) T' H | none => none
          | none => none
        | .alloc => match aalloc P T.fn o with
          | some (ob, v) => fHeap (H ++ [ob]) fun H' => match T.set o.dst (v H.length) with | some T' => rDraw P call l is (⟨i, T.fn, v H.length, some H.length, false⟩ :: recs) T' H' | none => none
          | none => none
        | .eff => match rOp P call T.fn o H with
          | some (v, H') => fVal v fun v => fHeap H' fun H' => bif rechecksB P l H' chk recs then match T.set o.dst v with | some T' => rDraw P call l is recs T' H' | none => none else none
          | none => none
      | some false => match T.set o.dst undef with
        | some T' => match cls P o with
          | .eff => rDraw P call l is recs T' H
          | _ => rDraw P call l is (⟨i, T.fn, undef, none, true⟩ :: recs) T' H
        | none => none
      | none => none
theorem rDraw_sound {P : Program} {call : Call1} (hc : CallOk P call) {l : List Oper} {K : Tm → AHeap → Prop} : ∀ (is : List (Nat × List Nat)) (recs : List Rec) (T : Tr) (H : AHeap) (T' : Tr) (H' : AHeap), rDraw P call l is recs T H = some (T', H') → K T'.fn H' → adraw P l.toArray K is recs T.fn H
  | [], _, T, H, T', H', h, hk => by cases h; exact hk
  | (i, chk) :: is, recs, T, H, T', H', h, hk => by
    simp only [rDraw, fVal_eq, fHeap_eq] at h
    simp only [adraw]
    have e : l.toArray[i]? = opAt l i := by rw [opAt_eq]; simp
    rw [e]
    cases ho : opAt l i with
    | none => rw [ho] at h; simp at h
    | some o =>
      rw [ho] at h
      simp only at h
      simp only [bindO_some]
      cases hg : aguard l.toArray T.fn o with
      | none => rw [hg] at h; simp at h
      | some g =>
        rw [hg] at h
        cases g with
        | true =>
          simp only at h
          simp only [bindO_some, acond_true]
          cases hcl : cls P o with
          | read =>
            rw [hcl] at h
            simp only at h ⊢
            cases hr : aread P T.fn o H with
            | none => rw [hr] at h; simp at h
            | some v =>
              rw [hr] at h
              simp only at h
              simp only [bindO_some]
              cases ht : T.set o.dst v with
              | none => rw [ht] at h; simp at h
              | some T1 =>
                rw [ht] at h
                rw [← Tr.set_fn ht]
                exact rDraw_sound hc is _ T1 H T' H' h hk
          | alloc =>
            rw [hcl] at h
            simp only at h ⊢
            cases hr : aalloc P T.fn o with
            | none => rw [hr] at h; simp at h
            | some p =>
              obtain ⟨ob, v⟩ := p
              rw [hr] at h
              simp only at h
              simp only [bindO_some]
              cases ht : T.set o.dst (v H.length) with
              | none => rw [ht] at h; simp at h
              | some T1 =>
                rw [ht] at h
                rw [← Tr.set_fn ht]
                exact rDraw_sound hc is _ T1 _ T' H' h hk
          | eff =>
            rw [hcl] at h
            simp only at h ⊢
            cases hr : rOp P call T.fn o H with
            | none => rw [hr] at h; simp at h
            | some p =>
              obtain ⟨v, H1⟩ := p
              rw [hr] at h
              simp only at h
              cases hq : rechecksB P l H1 chk recs with
              | false => rw [hq] at h; simp at h
              | true =>
                rw [hq, cond_true] at h
                cases ht : T.set o.dst v with
                | none => rw [ht] at h; simp at h
                | some T1 =>
                  rw [ht] at h
                  refine rOp_sound hc hr ⟨rechecksB_ok hq, ?_⟩
                  rw [← Tr.set_fn ht]
                  exact rDraw_sound hc is _ T1 H1 T' H' h hk
        | false =>
          simp only at h
          simp only [bindO_some, acond_false]
          cases ht : T.set o.dst undef with
          | none => rw [ht] at h; simp at h
          | some T1 =>
            rw [ht] at h
            simp only at h
            rw [← Tr.set_fn ht]
            cases hcl : cls P o with
            | read => rw [hcl] at h; exact rDraw_sound hc is _ T1 H T' H' h hk
            | alloc => rw [hcl] at h; exact rDraw_sound hc is _ T1 H T' H' h hk
            | eff => rw [hcl] at h; exact rDraw_sound hc is _ T1 H T' H' h hk

/-- a plan out of an order: behind an effect all is looked at again that it doesn't hang on -/
def rPlan (P : Program) (l : List Oper) (an : List Nat) : List Nat → List Nat → List (Nat × List Nat)
  | [], _ => []
  | i :: is, seen =>
    (i, match opAt l i with | some o => (match cls P o with | .eff => seen.filter fun j => !(an.getD i 0).testBit j | _ => []) | none => []) :: rPlan P l an is (i :: seen)

abbrev Out := Option (Exit × Tr × AHeap)
def rLoop (body : Tr → AHeap → Out) : Nat → Tr → AHeap → Out
  | 0, _, _ => none
  | n + 1, T, H => match body T H with
    | some (.normal, T', H') => rLoop body n T' H'
    | r => r
/-- the order of a region that draws it: as a table says; else as the text stands -/
def planFor (pl : List (Nat × List Nat)) (id n : Nat) : List Nat := match pl.find? fun p => Nat.beq p.1 id with | some p => p.2 | none => List.range n
def rCode (P : Program) (call : Call1) (pl : List (Nat × List Nat)) (lf : Nat) : Code → Tr → AHeap → Out
  | .skip, T, H => some (.normal, T, H)
  | .label _, T, H => some (.normal, T, H)
  | .exit id, T, H => some (.exit id, T, H)
  | .ret, T, H => some (.ret, T, H)
  | .region _ ops false, T, H => match rOps P call ops ops.toList T H with | some (T', H') => some (.normal, T', H') | none => none
  | .region id ops true, T, H => bif planOk P ops (rPlan P ops.toList (ancs ops) (planFor pl id ops.size) []) then match rDraw P call ops.toList (rPlan P ops.toList (ancs ops) (planFor pl id ops.size) []) [] T H with | some (T', H') => some (.normal, T', H') | none => none else none
  | .seq a b, T, H => match rCode P call pl lf a T H with
    | some (.normal, T', H') => rCode P call pl lf b T' H'
    | r => r
  | .cond c a b, T, H => match aev T.fn c with
    | .bool true => rCode P call pl lf a T H
    | .bool false => rCode P call pl lf b T H
    | _ => none
  | .block id c, T, H => match rCode P call pl lf c T H with
    | some (.exit id', T', H') => bif Nat.beq id' id then some (.normal, T', H') else some (.exit id', T', H')
    | r => r
  | .loop c, T, H => rLoop (rCode P call pl lf c) lf T H
  | _, _, _ => none

theorem rCode_sound {P : Program} {call : Call1} (hc : CallOk P call) {pl : List (Nat × List Nat)} {lf : Nat} : ∀ (c : Code) (T : Tr) (H : AHeap) (e : Exit) (T' : Tr) (H' : AHeap), rCode P call pl lf c T H = some (e, T', H') →
    ∀ Q : Exit → Tm → AHeap → Prop, Q e T'.fn H' → awp P c Q T.fn H := by
  intro c
  induction c with
  | skip => intro T H e T' H' h Q hq; cases h; exact hq
  | label l => intro T H e T' H' h Q hq; cases h; exact hq
  | exit id => intro T H e T' H' h Q hq; cases h; exact hq
  | ret => intro T H e T' H' h Q hq; cases h; exact hq
  | goto l => intro T H e T' H' h; cases h
  | scope c ih => intro T H e T' H' h; cases h
  | refuse s => intro T H e T' H' h; cases h
  | rangeFunc f ps x y => intro T H e T' H' h; cases h
  | region id ops draw =>
    intro T H e T' H' h Q hq
    cases draw with
    | false =>
      simp only [rCode] at h
      cases hr : rOps P call ops ops.toList T H with
      | none => rw [hr] at h; simp at h
      | some p => obtain ⟨T1, H1⟩ := p; rw [hr] at h; cases h; exact rOps_sound hc _ _ _ _ _ hr hq
    | true =>
      simp only [rCode] at h
      generalize rPlan P ops.toList (ancs ops) (planFor pl id ops.size) [] = plan at h
      cases hp : planOk P ops plan with
      | false => rw [hp] at h; simp at h
      | true =>
        rw [hp, cond_true] at h
        cases hr : rDraw P call ops.toList plan [] T H with
        | none => rw [hr] at h; simp at h
        | some p =>
          obtain ⟨T1, H1⟩ := p
          rw [hr] at h; cases h
          have := rDraw_sound (K := Q .normal) hc plan [] T H _ _ hr hq
          exact ⟨_, hp, this⟩
  | seq a b iha ihb =>
    intro T H e T' H' h Q hq
    simp only [rCode] at h
    simp only [awp]
    cases hr : rCode P call pl lf a T H with
    | none => rw [hr] at h; simp at h
    | some p =>
      obtain ⟨e1, T1, H1⟩ := p
      rw [hr] at h
      cases e1 with
      | normal => exact iha _ _ _ _ _ hr _ (ihb _ _ _ _ _ h _ hq)
      | _ => cases h; exact iha _ _ _ _ _ hr _ hq
  | cond c a b iha ihb =>
    intro T H e T' H' h Q hq
    simp only [rCode] at h
    simp only [awp]
    split at h
    · rename_i q; rw [q]; exact iha _ _ _ _ _ h _ hq
    · rename_i q; rw [q]; exact ihb _ _ _ _ _ h _ hq
    · cases h
  | block id c ih =>
    intro T H e T' H' h Q hq
    simp only [rCode] at h
    simp only [awp]
    cases hr : rCode P call pl lf c T H with
    | none => rw [hr] at h; simp at h
    | some p =>
      obtain ⟨e1, T1, H1⟩ := p
      rw [hr] at h
      refine ih _ _ _ _ _ hr _ ?_
      cases e1 with
      | exit id' =>
        simp only at h
        simp only [Exit.inBlockA]
        cases hb : Nat.beq id' id with
        | true => rw [hb, cond_true] at h; cases h; rw [if_pos (by simpa using hb)]; exact hq
        | false => rw [hb, cond_false] at h; cases h; rw [if_neg (fun q => by rw [q, Nat.beq_refl] at hb; cases hb)]; exact hq
      | _ => cases h; exact hq
  | loop c ih =>
    intro T H e T' H' h Q hq
    simp only [rCode] at h
    have key : ∀ (n : Nat) (T : Tr) (H : AHeap), rLoop (rCode P call pl lf c) n T H = some (e, T', H') → arounds (awp P c) Q n T.fn H := by
      intro n
      induction n with
      | zero => intro T H h; cases h
      | succ n ihn =>
        intro T H h
        simp only [rLoop] at h
        simp only [arounds]
        cases hr : rCode P call pl lf c T H with
        | none => rw [hr] at h; simp at h
        | some p =>
          obtain ⟨e1, T1, H1⟩ := p
          rw [hr] at h
          refine ih _ _ _ _ _ hr _ ?_
          cases e1 with
          | normal => exact ihn _ _ h
          | _ => cases h; exact hq
    exact ⟨lf, key lf T H h⟩

def Tr.ofList : Nat → List Value → Tr → Tr
  | _, [], T => T
  | i, v :: vs, T => Tr.ofList (i + 1) vs (Tr.put 12 T i v)
theorem Tr.ofList_fn : ∀ (l : List Value) (i : Nat) (T : Tr), i + l.length ≤ 4095 → (Tr.ofList i l T).fn = fun t => if i ≤ t ∧ t < i + l.length then l.getD (t - i) undef else T.fn t
  | [], i, T, _ => by funext t; rw [if_neg (by simp)]; rfl
  | v :: vs, i, T, h => by
    simp only [List.length_cons] at h
    rw [Tr.ofList, Tr.ofList_fn vs (i + 1) _ (by omega)]
    funext t
    have e : (Tr.put 12 T i v).fn t = if t = i then v else T.fn t := Tr.get_put 12 T i v t (by omega)
    rw [e]
    by_cases h1 : t = i
    · subst h1
      rw [if_neg (by omega), if_pos rfl, if_pos (by simp only [List.length_cons]; omega), Nat.sub_self]; rfl
    · by_cases h2 : i + 1 ≤ t ∧ t < i + 1 + vs.length
      · rw [if_pos h2, if_pos (by simp; omega)]
        obtain ⟨d, rfl⟩ : ∃ d, t = i + 1 + d := ⟨t - i - 1, by omega⟩
        rw [show i + 1 + d - i = d + 1 by omega, show i + 1 + d - (i + 1) = d by omega]; simp
      · rw [if_neg h2, if_neg h1, if_neg (by simp; omega)]

/-- a table of the orders of regions, function by function -/
abbrev Plans := List (FuncId × List (Nat × List Nat))
def plansOf (pl : Plans) (f : FuncId) : List (Nat × List Nat) := match pl.find? fun p => Nat.beq p.1 f with | some p => p.2 | none => []

/-- a function, run; 'ext': what others have proved -/
def rFn (P : Program) (pl : Plans) (lf : Nat) (ext : Call1) : Nat → Call1
  | 0, _, _, _ => none
  | n + 1, f, as, H =>
    match ext f as H with
    | some r => some r
    | none =>
      match P.funcs[f]? with
      | none => none
      | some fn =>
        match fn.body with
        | none => none
        | some c =>
          bif funcOk fn && Nat.ble as.length fn.ntmps && Nat.ble fn.ntmps 4000 then
            match rCode P (rFn P pl lf ext n) (plansOf pl f) lf c (Tr.ofList 0 as .leaf) H with
            | some (.normal, T, H') | some (.ret, T, H') => match aresults fn.results.toList P T.fn H' with | some vs => some (ares vs, H') | none => none
            | _ => none
          else none

def noExt : Call1 := fun _ _ _ => none
theorem noExt_ok (P : Program) : CallOk P noExt := fun _ _ _ _ _ h => by cases h

theorem rFn_body {P : Program} (hm : P.follows .mixedOrders = true) {pl : Plans} {lf : Nat} {ext : Call1} {call : Call1} (hc : CallOk P call) {f : FuncId} {as : List Value} {H H' : AHeap} {v : Value} {fn : Func} {c : Code} (hf : P.funcs[f]? = some fn) (hb : fn.body = some c)
    (h : (bif funcOk fn && Nat.ble as.length fn.ntmps && Nat.ble fn.ntmps 4000 then
            match rCode P call (plansOf pl f) lf c (Tr.ofList 0 as .leaf) H with
            | some (.normal, T, H') | some (.ret, T, H') => match aresults fn.results.toList P T.fn H' with | some vs => some (ares vs, H') | none => none
            | _ => none
          else none) = some (v, H')) : Sound P f as H fun u K => u = v ∧ K = H' := by
  cases hk : (funcOk fn && Nat.ble as.length fn.ntmps && Nat.ble fn.ntmps 4000) with
  | false => rw [hk] at h; simp at h
  | true =>
    rw [hk, cond_true] at h
    simp only [Bool.and_eq_true] at hk
    obtain ⟨⟨k1, k2⟩, k3⟩ := hk
    have b1 := Nat.le_of_ble_eq_true k2
    have b2 := Nat.le_of_ble_eq_true k3
    refine Sound.of_body hm hf hb k1 rfl k2 ?_
    have hT : (fun t => as.getD t undef) = (Tr.ofList 0 as .leaf).fn := by
      rw [Tr.ofList_fn as 0 .leaf (by omega)]
      funext t
      by_cases ht : t < as.length
      · rw [if_pos (by omega)]; rfl
      · rw [if_neg (by omega), List.getD_eq_getElem?_getD, List.getElem?_eq_none (by omega)]; exact (Tr.get_leaf 12 t).symm
    rw [hT]
    cases hr : rCode P call (plansOf pl f) lf c (Tr.ofList 0 as .leaf) H with
    | none => rw [hr] at h; simp at h
    | some p =>
      obtain ⟨e, T, H1⟩ := p
      rw [hr] at h
      have fin : ∀ {T : Tr} {H1 : AHeap}, (match aresults fn.results.toList P T.fn H1 with | some vs => some (ares vs, H1) | none => none) = some (v, H') → bindO (aresults fn.results.toList P T.fn H1) fun vs => ares vs = v ∧ H1 = H' := fun {T H1} h => by
        cases hx : aresults fn.results.toList P T.fn H1 with
        | none => rw [hx] at h; simp at h
        | some vs => rw [hx] at h; simp only [Option.some.injEq, Prod.mk.injEq] at h; exact h
      refine rCode_sound hc _ _ _ _ _ _ hr _ ?_
      cases e with
      | normal => exact fin h
      | ret => exact fin h
      | _ => simp at h

theorem rFn_ok {P : Program} (hm : P.follows .mixedOrders = true) {pl : Plans} {lf : Nat} {ext : Call1} (he : CallOk P ext) : ∀ n, CallOk P (rFn P pl lf ext n)
  | 0 => fun _ _ _ _ _ h => by cases h
  | n + 1 => fun f as H v H' h => by
    simp only [rFn] at h
    cases hx : ext f as H with
    | some r => rw [hx] at h; cases h; exact he _ _ _ _ _ hx
    | none =>
      rw [hx] at h
      simp only at h
      cases hf : P.funcs[f]? with
      | none => rw [hf] at h; simp at h
      | some fn =>
        rw [hf] at h
        simp only at h
        cases hb : fn.body with
        | none => rw [hb] at h; simp at h
        | some c =>
          rw [hb] at h
          exact (rFn_body (ext := ext) hm (rFn_ok hm he n) hf hb h).x

/-- A CONTRACT OUT OF A RUN. -/
theorem Sound.of_run {P : Program} (hm : P.follows .mixedOrders = true) {pl : Plans} {lf n : Nat} {ext : Call1} (he : CallOk P ext) {f : FuncId} {as : List Value} {H H' : AHeap} {v : Value} (h0 : ext f as H = none) (h : rFn P pl lf ext (n + 1) f as H = some (v, H')) :
    Sound P f as H fun u K => u = v ∧ K = H' := by
  simp only [rFn] at h
  rw [h0] at h
  simp only at h
  cases hf : P.funcs[f]? with
  | none => rw [hf] at h; simp at h
  | some fn =>
    rw [hf] at h
    simp only at h
    cases hb : fn.body with
    | none => rw [hb] at h; simp at h
    | some c =>
      rw [hb] at h
      exact rFn_body (ext := ext) hm (rFn_ok hm he n) hf hb h

/-- a run that answers true -/
def saysTrue : Option (Value × AHeap) → Bool
  | some (.bool true, _) => true
  | _ => false
theorem Sound.of_true {P : Program} (hm : P.follows .mixedOrders = true) {pl : Plans} {lf n : Nat} {ext : Call1} (he : CallOk P ext) {f : FuncId} {as : List Value} {H : AHeap} (h0 : ext f as H = none) (h : saysTrue (rFn P pl lf ext (n + 1) f as H) = true) :
    Sound P f as H fun u _ => u = .bool true := by
  unfold saysTrue at h
  split at h
  · rename_i e; exact (Sound.of_run hm he h0 e).mono fun u _ hu => hu.1
  · cases h

/-! ### what a closed call does to others' memory: nothing -/
/-- all that lies in a world, as a frame -/
def Frm.all (w : World) : Frm := ⟨fun b => w.heap[b]?, w.tape, w.os, w.output, w.drawn, w.heap.size⟩
theorem Rel.of_all {ρ : Ren} {H : AHeap} {F : Frm} {w w' : World} (h : Rel ρ H F w) (hw : (Frm.all w).ok w') : Rel ρ H F w' := by
  have same : ∀ b o, w.heap[b]? = some o → w'.heap[b]? = some o := hw.heap
  refine ⟨h.dom, ⟨fun b o hb => same _ _ (h.frm.heap b o hb), ?_, ?_, ?_, ?_, ?_⟩, fun id l o hl ho => ?_, h.sep⟩
  · exact hw.tape.trans h.frm.tape
  · exact hw.os.trans h.frm.os
  · exact hw.output.trans h.frm.output
  · exact Nat.le_trans h.frm.drawn hw.drawn
  · exact Nat.le_trans h.frm.size hw.size
  · have hob := h.obj id l o hl ho
    cases o with
    | gone => trivial
    | row cs k own => have hob2 := hob; obtain ⟨arr, e', fz, h1, _⟩ := hob2; rw [same _ _ h1, ← h1]; exact hob
    | map es ck => have hob2 := hob; obtain ⟨_, _, es', h3, _⟩ := hob2; rw [same _ _ h3, ← h3]; exact hob
    | mapIter a b c d => obtain ⟨O', hO'⟩ := ObjAt.some hob rfl; rw [same _ _ hO', ← hO']; exact hob
    | strIter a b => obtain ⟨O', hO'⟩ := ObjAt.some hob rfl; rw [same _ _ hO', ← hO']; exact hob
    | rowx a b c => obtain ⟨O', hO'⟩ := ObjAt.some hob rfl; rw [same _ _ hO', ← hO']; exact hob
theorem Rel.none_all (w : World) : Rel (fun _ => none) [] (Frm.all w) w :=
  ⟨fun _ _ h => by simp at h, ⟨fun _ _ h => h, rfl, rfl, rfl, Nat.le_refl _, Nat.le_refl _⟩, fun _ _ _ h => by simp at h, fun _ _ _ _ _ _ h => by simp at h⟩

/-- without an address -/
inductive Bare : Value → Prop
  | bool (b : Bool) : Bare (.bool b)
  | int (k : IntKind) (n : Int) : Bare (.int k n)
  | string (s : ByteArray) : Bare (.string s)
  | ptrNil : Bare (.pointer none)
  | sliceNil : Bare (.slice none 0 0)
  | mapNil : Bare (.map none)
  | nilFunc : Bare .nilFunc
  | nilIface : Bare .nilIface
  | func (fn : Fn) {as bs : Array Value} (h1 : ∀ v ∈ as, Bare v) (h2 : ∀ v ∈ bs, Bare v) : Bare (.func fn as bs)
  | agg {as : Array Value} (h : ∀ v ∈ as, Bare v) : Bare (.agg as)
  | tuple {as : Array Value} (h : ∀ v ∈ as, Bare v) : Bare (.tuple as)
theorem Bare.any {v v' : Value} {ρ ρ' : Ren} (hb : Bare v) : VR ρ v v' → VR ρ' v v' := by
  induction hb generalizing v' with
  | bool b => intro h; cases h; exact .bool b
  | int k n => intro h; cases h; exact .int k n
  | string s => intro h; cases h; exact .string s
  | ptrNil => intro h; cases h; exact .ptrNil
  | sliceNil => intro h; cases h; exact .sliceNil
  | mapNil => intro h; cases h; exact .mapNil
  | nilFunc => intro h; cases h; exact .nilFunc
  | nilIface => intro h; cases h; exact .nilIface
  | func fn _ _ i1 i2 =>
    intro h
    cases h with
    | func _ ha hb h1 h2 => exact .func fn ha hb (fun i u u' hu hu' => i1 u (Array.mem_of_getElem? hu) (h1 i u u' hu hu')) (fun i u u' hu hu' => i2 u (Array.mem_of_getElem? hu) (h2 i u u' hu hu'))
  | agg _ ih =>
    intro h
    cases h with
    | agg ha h => exact .agg ha fun i u u' hu hu' => ih u (Array.mem_of_getElem? hu) (h i u u' hu hu')
  | tuple _ ih =>
    intro h
    cases h with
    | tuple ha h => exact .tuple ha fun i u u' hu hu' => ih u (Array.mem_of_getElem? hu) (h i u u' hu hu')
/-- a check for it -/
def bareB : Nat → Value → Bool
  | _, .bool _ | _, .int _ _ | _, .string _ | _, .pointer none | _, .slice none 0 0 | _, .map none | _, .nilFunc | _, .nilIface => true
  | d + 1, .func (.func _) as bs => as.toList.all (bareB d) && bs.toList.all (bareB d)
  | d + 1, .agg as => as.toList.all (bareB d)
  | d + 1, .tuple as => as.toList.all (bareB d)
  | _, _ => false
theorem bareB_ok : ∀ (d : Nat) (v : Value), bareB d v = true → Bare v := by
  intro d
  induction d with
  | zero =>
    intro v h
    unfold bareB at h
    split at h <;> first | (constructor; done) | (exfalso; omega) | cases h
  | succ d ih =>
    intro v h
    have li : ∀ {as : Array Value}, as.toList.all (bareB d) = true → ∀ v ∈ as, Bare v := fun h v hv => ih v (List.all_eq_true.1 h v (by simpa using hv))
    unfold bareB at h
    split at h
    · exact .bool _
    · exact .int _ _
    · exact .string _
    · exact .ptrNil
    · exact .sliceNil
    · exact .mapNil
    · exact .nilFunc
    · exact .nilIface
    · rename_i hd; cases hd
      simp only [Bool.and_eq_true] at h; exact .func _ (li h.1) (li h.2)
    · rename_i hd; cases hd; exact .agg (li h)
    · rename_i hd; cases hd; exact .tuple (li h)
    · cases h
/-- A CLOSED CALL, ANYWHERE -/
theorem Sound.closed {P : Program} {f : FuncId} {as : List Value} {K : Value → AHeap → Prop} (h : Sound P f as [] K) (ha : ∀ v ∈ as, Bare v) (hk : ∀ v H', K v H' → Bare v) (H : AHeap) : Sound P f as H fun v H' => (∃ H0, K v H0) ∧ H' = H := by
  refine ⟨h.1, fun ρ F w args' hR hv => ?_⟩
  have hv' : VRs (fun _ => none) as args' := ⟨hv.1, fun i u u' hu hu' => (ha u (List.mem_of_getElem? hu)).any (hv.2 i u u' hu hu')⟩
  refine (h.2 _ (Frm.all w) w args' (Rel.none_all w) hv').mono ?_
  rintro e w' ⟨v, v', H', ρ', rfl, hK, hR', hX, hL, hvr⟩
  exact ⟨v, v', H, ρ, rfl, ⟨⟨H', hK⟩, rfl⟩, hR.of_all hR'.frm, Ext.refl _ _, Nat.le_refl _, (hk _ _ hK).any hvr⟩

/-- a closed call, run once: its value -/
def ranTo (v : Value) : Option (Value × AHeap) → Bool
  | some (u, _) => vEq 50 u v
  | none => false
theorem Sound.of_ran {P : Program} (hm : P.follows .mixedOrders = true) {pl : Plans} {lf n : Nat} {ext : Call1} (he : CallOk P ext) {f : FuncId} {as : List Value} {v : Value} (h0 : ext f as [] = none) (h : ranTo v (rFn P pl lf ext (n + 1) f as []) = true) (ha : as.all (bareB 20) = true) (hb : bareB 20 v = true) (H : AHeap) :
    Sound P f as H fun u K => u = v ∧ K = H := by
  unfold ranTo at h
  split at h
  · rename_i u H' e
    have hv : u = v := vEq_eq _ _ _ h
    subst hv
    refine ((Sound.of_run hm he h0 e).closed (fun x hx => bareB_ok 20 x (List.all_eq_true.1 ha x hx)) (fun x K hk => by rw [hk.1]; exact bareB_ok 20 _ hb) H).mono ?_
    rintro x K ⟨⟨H0, h1, _⟩, rfl⟩
    exact ⟨h1, rfl⟩
  · cases h
def cutR (ρ : Ren) (n : Nat) : Ren := fun id => if id < n then ρ id else none
/-- no empty slice points past the heap -/
def cleanV (n : Nat) : Nat → Value → Bool
  | _, .slice (some a) 0 0 => a.spot.isSome || Nat.blt a.block n
  | 0, .agg _ | 0, .tuple _ | 0, .iface _ _ | 0, .func _ _ _ => false
  | d + 1, .agg as | d + 1, .tuple as => as.toList.all (cleanV n d)
  | d + 1, .iface _ v => cleanV n d v
  | d + 1, .func _ as bs => as.toList.all (cleanV n d) && bs.toList.all (cleanV n d)
  | _, _ => true
def cleanO (n : Nat) : AObj → Bool
  | .row cs _ _ => cs.all (cleanV n 20)
  | .map es _ => es.toList.all fun e => cleanV n 20 e.val
  | .rowx cs _ _ => cs.all (cleanV n 20)
  | _ => true
theorem VR.cut {ρ ρ' : Ren} {n : Nat} {v v0 v' : Value} (h : VR ρ v v0) (hd : ∀ id l, ρ id = some l → id < n) {d : Nat} (hc : cleanV n d v = true) (h' : VR ρ' v v') : VR (cutR ρ' n) v v' := by
  induction h generalizing v' d with
  | bool b => cases h'; exact .bool b
  | int k n => cases h'; exact .int k n
  | float k b => cases h'; exact .float k b
  | string s => cases h'; exact .string s
  | ptrNil => cases h'; exact .ptrNil
  | ptr hl => cases h' with
    | ptr hl' => exact .ptr (by simp only [cutR, if_pos (hd _ _ hl)]; exact hl')
  | glob g => cases h'; exact .glob g
  | sliceNil => cases h'; exact .sliceNil
  | slice hl hc hn => cases h' with
    | slice hl' hc' hn' => exact .slice (by simp only [cutR, if_pos (hd _ _ hl)]; exact hl') hc' hn'
    | sliceU hl' hn' hb' => exact absurd hc (by omega)
    | sliceZ _ _ a' => exact .sliceZ _ _ a'
  | sliceU hl hn hb => cases h' with
    | slice hl' hc' hn' => exact absurd hc' (by omega)
    | sliceU hl' hn' hb' => exact .sliceU (by simp only [cutR, if_pos (hd _ _ hl)]; exact hl') hn' hb'
    | sliceZ _ _ a' => exact .sliceZ _ _ a'
  | sliceZ id off a' => cases h' with
    | slice hl' hc' hn' => exact absurd hc' (by omega)
    | sliceU hl' hn' hb' => exact .sliceU (by simp only [cutR, if_pos (by cases d <;> simpa [cleanV, Nat.blt_eq] using hc)]; exact hl') hn' hb'
    | sliceZ _ _ a' => exact .sliceZ _ _ a'
  | sliceE a' => cases h' with
    | sliceE a' => exact .sliceE a'
  | mapNil => cases h'; exact .mapNil
  | map hl => cases h' with
    | map hl' => exact .map (by simp only [cutR, if_pos (hd _ _ hl)]; exact hl')
  | nilFunc => cases h'; exact .nilFunc
  | func fn ha hb h1 h2 i1 i2 => cases h' with
    | func _ ha' hb' h1' h2' =>
      rename_i as as0 bs bs0 as1 bs1
      cases d with
      | zero => cases hc
      | succ d =>
        simp only [cleanV, Bool.and_eq_true] at hc
        refine .func fn ha' hb' (fun i u u' hu hu' => ?_) (fun i u u' hu hu' => ?_)
        · have hlt : i < as.size := (Array.getElem?_eq_some_iff.1 hu).1
          exact i1 i u _ hu (Array.getElem?_eq_getElem (by omega)) (d := d) (List.all_eq_true.1 hc.1 u (by simpa using Array.mem_of_getElem? hu)) (h1' i u u' hu hu')
        · have hlt : i < bs.size := (Array.getElem?_eq_some_iff.1 hu).1
          exact i2 i u _ hu (Array.getElem?_eq_getElem (by omega)) (d := d) (List.all_eq_true.1 hc.2 u (by simpa using Array.mem_of_getElem? hu)) (h2' i u u' hu hu')
  | nilIface => cases h'; exact .nilIface
  | iface t _ ih => cases h' with
    | iface _ hv =>
      cases d with
      | zero => cases hc
      | succ d => exact .iface t (ih (d := d) hc hv)
  | agg ha h1 i1 => cases h' with
    | agg ha' h1' =>
      rename_i as as0 as1
      cases d with
      | zero => cases hc
      | succ d =>
        refine .agg ha' fun i u u' hu hu' => ?_
        have hlt : i < as.size := (Array.getElem?_eq_some_iff.1 hu).1
        exact i1 i u _ hu (Array.getElem?_eq_getElem (by omega)) (d := d) (List.all_eq_true.1 hc u (by simpa using Array.mem_of_getElem? hu)) (h1' i u u' hu hu')
  | tuple ha h1 i1 => cases h' with
    | tuple ha' h1' =>
      rename_i as as0 as1
      cases d with
      | zero => cases hc
      | succ d =>
        refine .tuple ha' fun i u u' hu hu' => ?_
        have hlt : i < as.size := (Array.getElem?_eq_some_iff.1 hu).1
        exact i1 i u _ hu (Array.getElem?_eq_getElem (by omega)) (d := d) (List.all_eq_true.1 hc u (by simpa using Array.mem_of_getElem? hu)) (h1' i u u' hu hu')
/-- what was made meanwhile may be forgotten, where the value has no address -/
theorem Sound.forget {P : Program} {f : FuncId} {as : List Value} {H : AHeap} {v : Value} (h : Sound P f as H fun u K => u = v ∧ H <+: K) (hb : Bare v) (hcl : H.all (cleanO H.length) = true) : Sound P f as H fun u K => u = v ∧ K = H := by
  refine ⟨h.1, fun ρ F w args' hR hv => (h.2 ρ F w args' hR hv).mono ?_⟩
  rintro e w' ⟨u, v', H', ρ', rfl, ⟨rfl, hp⟩, hR', hX, hL, hvr⟩
  refine ⟨u, v', H, cutR ρ' H.length, rfl, ⟨rfl, rfl⟩, ?_, fun id hid => by simp only [cutR, if_pos hid]; exact hX id hid, Nat.le_refl _, hb.any hvr⟩
  have hg : ∀ {id : Nat} {o : AObj}, H[id]? = some o → H'[id]? = some o := fun {id o} hi => by
    obtain ⟨t, rfl⟩ := hp
    rw [List.getElem?_append_left (by rcases Nat.lt_or_ge id H.length with q | q; exact q; rw [List.getElem?_eq_none q] at hi; cases hi)]; exact hi
  have sub : ∀ {id : Nat} {l : Loc}, cutR ρ' H.length id = some l → id < H.length ∧ ρ' id = some l ∧ ρ id = some l := fun {id l} h => by
    unfold cutR at h
    split at h
    · rename_i q; exact ⟨q, h, by rw [← hX id q]; exact h⟩
    · cases h
  have vcut : ∀ {x x0 x1 : Value}, cleanV H.length 20 x = true → VR ρ x x0 → VR ρ' x x1 → VR (cutR ρ' H.length) x x1 := fun hc h0 h1 => h0.cut hR.dom hc h1
  refine ⟨fun id l h => (sub h).1, hR'.frm, fun id l o hl ho => ?_, fun i j l m o q hl hm ho hq => hR'.sep i j l m o q (sub hl).2.1 (sub hm).2.1 (hg ho) (hg hq)⟩
  obtain ⟨hid, hl1, hl0⟩ := sub hl
  have co := List.all_eq_true.1 hcl o (List.mem_of_getElem? ho)
  have n0 := hR.obj id l o hl0 ho
  have n1 := hR'.obj id l o hl1 (hg ho)
  cases o with
  | gone => trivial
  | row cs k own =>
    obtain ⟨arr0, e0, fz0, g1, g2, g3, _⟩ := n0
    obtain ⟨arr, e, fz, h1, h2, h3, h4⟩ := n1
    refine ⟨arr, e, fz, h1, h2, fun i x x' hx hx' => ?_, h4⟩
    have hlt : i < cs.length := by rcases Nat.lt_or_ge i cs.length with q | q; exact q; rw [List.getElem?_eq_none q] at hx; cases hx
    exact vcut (List.all_eq_true.1 co x (List.mem_of_getElem? hx)) (g3 i x _ hx (Array.getElem?_eq_getElem (by omega))) (h3 i x x' hx hx')
  | map es ck =>
    obtain ⟨_, _, es0, _, g2⟩ := n0
    obtain ⟨h1, h2, es', h3, h4⟩ := n1
    refine ⟨h1, h2, es', h3, h4.1, fun i x x' hx hx' => ?_⟩
    have hlt : i < es.toList.length := by rcases Nat.lt_or_ge i es.toList.length with q | q; exact q; rw [List.getElem?_eq_none q] at hx; cases hx
    have c0 := g2.2 i x _ hx (List.getElem?_eq_getElem (by rw [← g2.1]; exact hlt))
    have c1 := h4.2 i x x' hx hx'
    exact ⟨c1.plain, c1.key, vcut (List.all_eq_true.1 co x (List.mem_of_getElem? hx)) c0.val c1.val, c1.born⟩
  | mapIter m since seen last =>
    obtain ⟨_, _, g3⟩ := n0
    obtain ⟨h1, h2, h3⟩ := n1
    refine ⟨h1, h2, ?_⟩
    cases m with
    | none => exact h3
    | some mid =>
      obtain ⟨l0, q0, _⟩ := g3
      obtain ⟨l1, q1, q2⟩ := h3
      exact ⟨l1, by simp only [cutR, if_pos (hR.dom _ _ q0)]; exact q1, q2⟩
  | strIter a b => exact n1
  | rowx cs k ext =>
    obtain ⟨arr0, e0, fz0, g1, g2, g3, _⟩ := n0
    obtain ⟨arr, e, fz, h1, h2, h3, h4⟩ := n1
    refine ⟨arr, e, fz, h1, h2, fun i x x' hx hx' => ?_, h4⟩
    have hlt : i < cs.length := by rcases Nat.lt_or_ge i cs.length with q | q; exact q; rw [List.getElem?_eq_none q] at hx; cases hx
    exact vcut (List.all_eq_true.1 co x (List.mem_of_getElem? hx)) (g3 i x _ hx (Array.getElem?_eq_getElem (by omega))) (h3 i x x' hx hx')
end Go.AW
