/-
  Parts of the proof, joined: AwRun, Name, Told, Replay, Log1, Num0, Num1, Num2, Num3, Num4, Num5, Num6, Num7, Num.
-/
import Derived.Test.YtekpdopbiklkfaaGreatDoorPf15
section
set_option linter.unusedVariables false
set_option linter.unusedSimpArgs false
namespace Go.AW
open Go
inductive Tr where
  | leaf
  | node (v : Value) (l r : Tr)
theorem beqF {a b : Nat} (h : a ≠ b) : Nat.beq a b = false := by cases q : Nat.beq a b with | false => rfl | true => exact absurd (Nat.eq_of_beq_eq_true q) h
def Tr.get : Nat → Tr → Nat → Value
  | 0, _, _ => undef
  | _ + 1, .leaf, _ => undef
  | n + 1, .node v l r, t => bif Nat.beq t 0 then v else bif Nat.beq (t % 2) 1 then Tr.get n l (t / 2) else Tr.get n r (t / 2 - 1)
def Tr.put : Nat → Tr → Nat → Value → Tr
  | 0, T, _, _ => T
  | n + 1, .leaf, t, x => bif Nat.beq t 0 then .node x .leaf .leaf else bif Nat.beq (t % 2) 1 then .node undef (Tr.put n .leaf (t / 2) x) .leaf else .node undef .leaf (Tr.put n .leaf (t / 2 - 1) x)
  | n + 1, .node v l r, t, x => bif Nat.beq t 0 then .node x l r else bif Nat.beq (t % 2) 1 then .node v (Tr.put n l (t / 2) x) r else .node v l (Tr.put n r (t / 2 - 1) x)
theorem Tr.get_leaf (n t : Nat) : Tr.get n .leaf t = undef := by cases n <;> rfl
theorem Tr.get_put : ∀ (n : Nat) (T : Tr) (d : Nat) (x : Value) (t : Nat), d < 2 ^ n - 1 → Tr.get n (Tr.put n T d x) t = if t = d then x else Tr.get n T t := by
  intro n
  induction n with
  | zero => intro T d x t h; simp at h
  | succ n ih =>
    intro T d x t h
    have key : ∀ (v : Value) (l r : Tr), Tr.get (n + 1) (bif Nat.beq d 0 then .node x l r else bif Nat.beq (d % 2) 1 then .node v (Tr.put n l (d / 2) x) r else .node v l (Tr.put n r (d / 2 - 1) x)) t = if t = d then x else Tr.get (n + 1) (.node v l r) t := by
      intro v l r
      have hp : 2 ^ (n + 1) = 2 * 2 ^ n := by rw [Nat.pow_succ]; omega
      by_cases h0 : d = 0
      · subst h0
        by_cases ht : t = 0
        · subst ht; rfl
        · rw [if_neg ht]
          simp [Tr.get, beqF ht]
      · by_cases h1 : d % 2 = 1
        · have hd : (bif Nat.beq d 0 then Tr.node x l r else bif Nat.beq (d % 2) 1 then .node v (Tr.put n l (d / 2) x) r else .node v l (Tr.put n r (d / 2 - 1) x)) = .node v (Tr.put n l (d / 2) x) r := by
            have e1 : Nat.beq d 0 = false := beqF h0
            rw [e1, h1]; rfl
          rw [hd]
          by_cases ht : t = 0
          · subst ht; rw [if_neg (by omega)]; simp [Tr.get]
          · have e1 : Nat.beq t 0 = false := beqF ht
            by_cases h2 : t % 2 = 1
            · have e2 : Nat.beq (t % 2) 1 = true := by rw [h2]; rfl
              simp only [Tr.get, e1, e2, cond_true, cond_false]
              rw [ih l (d / 2) x (t / 2) (by omega)]
              by_cases e : t = d
              · rw [if_pos e, if_pos (by rw [e])]
              · rw [if_neg e, if_neg (by omega)]
            · have e2 : Nat.beq (t % 2) 1 = false := beqF h2
              simp only [Tr.get, e1, e2, cond_false]
              rw [if_neg (by omega)]
        · have hd : (bif Nat.beq d 0 then Tr.node x l r else bif Nat.beq (d % 2) 1 then .node v (Tr.put n l (d / 2) x) r else .node v l (Tr.put n r (d / 2 - 1) x)) = .node v l (Tr.put n r (d / 2 - 1) x) := by
            have e1 : Nat.beq d 0 = false := beqF h0
            have e2 : Nat.beq (d % 2) 1 = false := beqF h1
            rw [e1, e2]; rfl
          rw [hd]
          by_cases ht : t = 0
          · subst ht; rw [if_neg (by omega)]; simp [Tr.get]
          · have e1 : Nat.beq t 0 = false := beqF ht
            by_cases h2 : t % 2 = 1
            · have e2 : Nat.beq (t % 2) 1 = true := by rw [h2]; rfl
              simp only [Tr.get, e1, e2, cond_true, cond_false]
              rw [if_neg (by omega)]
            · have e2 : Nat.beq (t % 2) 1 = false := beqF h2
              simp only [Tr.get, e1, e2, cond_false]
              rw [ih r (d / 2 - 1) x (t / 2 - 1) (by omega)]
              by_cases e : t = d
              · rw [if_pos e, if_pos (by rw [e])]
              · rw [if_neg e, if_neg (by omega)]
    cases T with
    | leaf =>
      have := key undef .leaf .leaf
      have e : Tr.get (n + 1) (.node undef .leaf .leaf) t = Tr.get (n + 1) .leaf t := by
        simp only [Tr.get, Tr.get_leaf]
        cases Nat.beq t 0 <;> cases Nat.beq (t % 2) 1 <;> rfl
      rw [e] at this
      exact this
    | node v l r => exact key v l r
abbrev Tr.fn (T : Tr) : Tm := fun t => Tr.get 12 T t
def Tr.set (T : Tr) (d : Option Tmp) (v : Value) : Option Tr := match d with | none => some T | some d => bif Nat.blt d 4095 then some (Tr.put 12 T d v) else none
theorem Tr.set_fn {T T' : Tr} {d : Option Tmp} {v : Value} (h : T.set d v = some T') : T'.fn = T.fn.put d v := by
  cases d with
  | none => cases h; rfl
  | some d =>
    simp only [Tr.set] at h
    cases hb : Nat.blt d 4095 with
    | false => rw [hb] at h; cases h
    | true =>
      rw [hb] at h; cases h
      have hd : d < 4095 := by simpa [Nat.blt_eq] using hb
      funext t
      exact Tr.get_put 12 T d v t hd
def fList {α : Type} {β : Type} : List α → (List α → β) → β
  | [], k => k []
  | x :: xs, k => fList xs fun l => k (x :: l)
theorem fList_eq {α β : Type} : ∀ (l : List α) (k : List α → β), fList l k = k l
  | [], _ => rfl
  | x :: xs, k => fList_eq xs fun l => k (x :: l)
def fObj {β : Type} (o : AObj) (k : AObj → β) : β :=
  match o with
  | .row cs e w => fList cs fun cs => k (.row cs e w)
  | .map es ck => k (.map es ck)
  | .mapIter a b c d => k (.mapIter a b c d)
  | .strIter a b => k (.strIter a b)
  | .gone => k .gone
  | .rowx a b c => k (.rowx a b c)
theorem fObj_eq {β : Type} (o : AObj) (k : AObj → β) : fObj o k = k o := by
  cases o <;> first | rfl | exact fList_eq _ _
def fHeap {β : Type} : AHeap → (AHeap → β) → β
  | [], k => k []
  | o :: os, k => fObj o fun o => fHeap os fun l => k (o :: l)
theorem fHeap_eq {β : Type} : ∀ (l : AHeap) (k : AHeap → β), fHeap l k = k l
  | [], _ => rfl
  | x :: xs, k => by rw [fHeap, fObj_eq, fHeap_eq]
def fVal {β : Type} (v : Value) (k : Value → β) : β :=
  match v with
  | .agg cs => fList cs.toList fun l => k (.agg l.toArray)
  | .tuple cs => fList cs.toList fun l => k (.tuple l.toArray)
  | .int a b => k (.int a b)
  | .bool b => k (.bool b)
  | .pointer a => k (.pointer a)
  | .slice a b c => k (.slice a b c)
  | .string s => k (.string s)
  | v => k v
theorem fVal_eq {β : Type} (v : Value) (k : Value → β) : fVal v k = k v := by
  cases v <;> first | rfl | (simp only [fVal, fList_eq])
abbrev Call1 := FuncId → List Value → AHeap → Option (Value × AHeap)
def rNext (H : AHeap) (it : Value) : Option (Value × AHeap) :=
  match mapIterOf H it with
  | some (_, none, _, _, _) => some (.tuple #[.bool false], H)
  | some (r, some m, since, seen, last) =>
    match H[m]? with
    | some (.map es clock) =>
      bif (!seen.isEmpty && !es.isEmpty && es.all (·.born ≥ last)) then none else
      match (es.filter fun e => !seen.contains e.born).toList with
      | [] => some (.tuple #[.bool false], H)
      | [e] => bif Nat.blt e.born since then some (.tuple #[.bool true, e.key, e.val], H.set r (.mapIter (some m) since (seen.push e.born) clock)) else none
      | _ => none
    | _ => none
  | none => none
theorem rNext_sound {H H' : AHeap} {it v : Value} {K : Value → AHeap → Prop} (h : rNext H it = some (v, H')) (hk : K v H') : anext H it K := by
  unfold rNext at h
  unfold anext
  split at h
  · rename_i e; rw [e]; cases h; exact hk
  · rename_i r m since seen last e
    rw [e]
    simp only
    cases hm : H[m]? with
    | none => rw [hm] at h; simp at h
    | some o =>
      rw [hm] at h
      cases o with
      | map es clock =>
        simp only at h ⊢
        cases hb : (!seen.isEmpty && !es.isEmpty && es.all (·.born ≥ last)) with
        | true => rw [hb] at h; simp at h
        | false =>
          rw [hb, cond_false] at h
          refine ⟨rfl, ?_⟩
          cases hl : (es.filter fun e => !seen.contains e.born).toList with
          | nil =>
            have hl' : es.filter (fun e => !seen.contains e.born) = #[] := by simpa using hl
            rw [hl] at h; cases h
            rw [hl']
            exact ⟨fun _ => hk, fun e he => by simp at he⟩
          | cons e l =>
            rw [hl] at h
            cases l with
            | cons e2 l => simp at h
            | nil =>
              simp only at h
              have hl' : es.filter (fun e => !seen.contains e.born) = #[e] := by
                apply Array.toList_inj.1; exact hl
              rw [hl']
              cases hlt : Nat.blt e.born since with
              | false => rw [hlt] at h; simp at h
              | true =>
                rw [hlt, cond_true] at h; cases h
                have hlt' : e.born < since := by simpa [Nat.blt_eq] using hlt
                refine ⟨fun q => ?_, fun e2 he => ?_⟩
                · simp [hlt'] at q
                · have : e2 = e := by
                    simp only [Array.mem_append, Array.mem_filter, Array.mem_singleton] at he
                    rcases he with ⟨rfl, _⟩ | ⟨rfl, _⟩ <;> rfl
                  subst this; exact hk
      | _ => simp at h
  · simp at h
def rOp (P : Program) (call : Call1) (T : Tm) (o : Oper) (H : AHeap) : Option (Value × AHeap) :=
  match o.op with
  | .next it true => anextS H (aev T it)
  | .next it false => rNext H (aev T it)
  | .call { callee := .builtin .len, .. } | .call { callee := .builtin .cap, .. } | .call { callee := .builtin .max, .. } | .call { callee := .builtin .min, .. } => match aread P T o H with | some v => some (v, H) | none => none
  | .call { callee := .builtin _, .. } => aeff P T o H
  | .call c => match acallee P T c with | some (f, asx9) => call f asx9 H | none => none
  | _ => match cls P o with
    | .read => match aread P T o H with | some v => some (v, H) | none => none
    | .alloc => match aalloc P T o with | some (ob, v) => some (v H.length, H ++ [ob]) | none => none
    | .eff => aeff P T o H
def CallOk (P : Program) (call : Call1) : Prop := ∀ f asx9 H v H', call f asx9 H = some (v, H') → SoundX P f asx9 H fun u K => u = v ∧ K = H'
theorem rOp_sound {P : Program} {call : Call1} (hc : CallOk P call) {T : Tm} {o : Oper} {H H' : AHeap} {v : Value} {K : Value → AHeap → Prop} (h : rOp P call T o H = some (v, H')) (hk : K v H') : aop P T o H K := by
  have rd : ∀ {x : Option Value}, (match x with | some v => some (v, H) | none => none) = some (v, H') → bindO x fun v => K v H := fun {x} h => by
    cases x with
    | none => simp at h
    | some u => simp only [Option.some.injEq, Prod.mk.injEq] at h; obtain ⟨rfl, rfl⟩ := h; exact hk
  have ef : ∀ {x : Option (Value × AHeap)}, x = some (v, H') → bindO x fun p => K p.1 p.2 := fun {x} h => by subst h; exact hk
  obtain ⟨d, op, ty, pos, aft, gd⟩ := o
  unfold rOp at h
  split at h
  · rename_i q; simp only at q; subst q; exact ef h
  · rename_i q; simp only at q; subst q; exact rNext_sound h hk
  · rename_i q; simp only at q; subst q; exact rd h
  · rename_i q; simp only at q; subst q; exact rd h
  · rename_i q; simp only at q; subst q; exact rd h
  · rename_i q; simp only at q; subst q; exact rd h
  · rename_i b a t n1 n2 n3 n0 q
    simp only at q; subst q
    cases b <;> first | (exact (n1 rfl).elim) | (exact (n2 rfl).elim) | (exact (n3 rfl).elim) | (exact (n0 rfl).elim) | exact ef h
  · rename_i c n0 n1 n2 n3 n4 q
    simp only at q; subst q
    obtain ⟨callee, asx9, ts⟩ := c
    have : bindO (acallee P T { callee := callee, args := asx9, argTypes := ts }) fun p => SoundX P p.1 p.2 H K := by
      cases ha : acallee P T { callee := callee, args := asx9, argTypes := ts } with
      | none => rw [ha] at h; simp at h
      | some p =>
        rw [ha] at h
        exact (hc _ _ _ _ _ h).mono fun u L hu => by obtain ⟨rfl, rfl⟩ := hu; exact hk
    cases callee with
    | builtin b => exact (n4 _ _ _ rfl).elim
    | value f => exact this
    | invoke r m => exact this
  · rename_i n1 n2 n3 n4 n5 n6 n7 n8
    have tail : (match cls P ⟨d, op, ty, pos, aft, gd⟩ with
      | .read => bindO (aread P T ⟨d, op, ty, pos, aft, gd⟩ H) fun v => K v H
      | .alloc => bindO (aalloc P T ⟨d, op, ty, pos, aft, gd⟩) fun p => K (p.2 H.length) (H ++ [p.1])
      | .eff => bindO (aeff P T ⟨d, op, ty, pos, aft, gd⟩ H) fun p => K p.1 p.2) := by
      split at h
      · exact rd h
      · cases ha : aalloc P T ⟨d, op, ty, pos, aft, gd⟩ with
        | none => rw [ha] at h; simp at h
        | some p => rw [ha] at h; simp only [Option.some.injEq, Prod.mk.injEq] at h; obtain ⟨rfl, rfl⟩ := h; exact hk
      · exact ef h
    unfold aop
    cases op with
    | next it b => cases b; exact absurd rfl (n2 it); exact absurd rfl (n1 it)
    | call c => exact absurd rfl (n8 c)
    | _ => exact tail
end Go.AW
namespace Go.AW
open Go
def rOps (P : Program) (call : Call1) (ops : Array Oper) : List Oper → Tr → AHeap → Option (Tr × AHeap)
  | [], T, H => some (T, H)
  | o :: os, T, H =>
    match aguard ops T.fn o with
    | some true => match rOp P call T.fn o H with
      | some (v, H') => fVal v fun v => fHeap H' fun H' => match T.set o.dst v with | some T' => rOps P call ops os T' H' | none => none
      | none => none
    | some false => match T.set o.dst undef with | some T' => rOps P call ops os T' H | none => none
    | none => none
theorem rOps_sound {P : Program} {call : Call1} (hc : CallOk P call) {ops : Array Oper} {K : Tm → AHeap → Prop} : ∀ (l : List Oper) (T : Tr) (H : AHeap) (T' : Tr) (H' : AHeap), rOps P call ops l T H = some (T', H') → K T'.fn H' → aops P ops K l T.fn H
  | [], T, H, T', H', h, hk => by cases h; exact hk
  | o :: os, T, H, T', H', h, hk => by
    simp only [rOps, fVal_eq, fHeap_eq] at h
    simp only [aops]
    cases hg : aguard ops T.fn o with
    | none => rw [hg] at h; simp at h
    | some g =>
      rw [hg] at h
      cases g with
      | true =>
        simp only at h
        simp only [bindO_some, acond_true]
        cases hr : rOp P call T.fn o H with
        | none => rw [hr] at h; simp at h
        | some p =>
          obtain ⟨v, H1⟩ := p
          rw [hr] at h
          simp only at h
          cases ht : T.set o.dst v with
          | none => rw [ht] at h; simp at h
          | some T1 =>
            rw [ht] at h
            refine rOp_sound hc hr ?_
            rw [← Tr.set_fn ht]
            exact rOps_sound hc os T1 H1 T' H' h hk
      | false =>
        simp only at h
        simp only [bindO_some, acond_false]
        cases ht : T.set o.dst undef with
        | none => rw [ht] at h; simp at h
        | some T1 =>
          rw [ht] at h
          rw [← Tr.set_fn ht]
          exact rOps_sound hc os T1 H T' H' h hk
def kEq : IntKind → IntKind → Bool := fun a b => decide (a = b)
def bsEq : List UInt8 → List UInt8 → Bool
  | [], [] => true
  | a :: asx9, b :: bs => Nat.beq a.toNat b.toNat && bsEq asx9 bs
  | _, _ => false
theorem bsEq_eq : ∀ {a b : List UInt8}, bsEq a b = true → a = b
  | [], [], _ => rfl
  | a :: asx9, b :: bs, h => by
    simp only [bsEq, Bool.and_eq_true] at h
    rw [bsEq_eq h.2, UInt8.toNat_inj.1 (Nat.eq_of_beq_eq_true h.1)]
  | [], _ :: _, h => by simp [bsEq] at h
  | _ :: _, [], h => by simp [bsEq] at h
def aEq (a b : Addr) : Bool := Nat.beq a.block b.block && Nat.beq a.off b.off && (match a.spot, b.spot with | none, none => true | some x, some y => Nat.beq x y | _, _ => false)
theorem aEq_eq {a b : Addr} (h : aEq a b = true) : a = b := by
  obtain ⟨x, y, z⟩ := a
  obtain ⟨u, v, w⟩ := b
  simp only [aEq, Bool.and_eq_true] at h
  obtain ⟨⟨h1, h2⟩, h3⟩ := h
  rw [Nat.eq_of_beq_eq_true h1, Nat.eq_of_beq_eq_true h2]
  cases z <;> cases w <;> simp at h3 ⊢
  exact h3
def listEq {α : Type} (f : α → α → Bool) : List α → List α → Bool
  | [], [] => true
  | a :: asx9, b :: bs => f a b && listEq f asx9 bs
  | _, _ => false
theorem listEq_eq {α : Type} {f : α → α → Bool} (hf : ∀ a b, f a b = true → a = b) : ∀ {a b : List α}, listEq f a b = true → a = b
  | [], [], _ => rfl
  | a :: asx9, b :: bs, h => by
    simp only [listEq, Bool.and_eq_true] at h
    rw [hf _ _ h.1, listEq_eq hf h.2]
  | [], _ :: _, h => by simp [listEq] at h
  | _ :: _, [], h => by simp [listEq] at h
def vEq : Nat → Value → Value → Bool
  | 0, _, _ => false
  | d + 1, a, b =>
    match a, b with
    | .bool x, .bool y => match x, y with | true, true => true | false, false => true | _, _ => false
    | .int k x, .int k' y => kEq k k' && decide (x = y)
    | .string s, .string t => bsEq s.data.toList t.data.toList
    | .pointer none, .pointer none => true
    | .pointer (some x), .pointer (some y) => aEq x y
    | .slice none n c, .slice none m e => Nat.beq n m && Nat.beq c e
    | .slice (some x) n c, .slice (some y) m e => aEq x y && Nat.beq n m && Nat.beq c e
    | .map none, .map none => true
    | .map (some x), .map (some y) => Nat.beq x y
    | .nilFunc, .nilFunc => true
    | .func (.func f) asx9 bs, .func (.func g) asx9' bs' => Nat.beq f g && listEq (vEq d) asx9.toList asx9'.toList && listEq (vEq d) bs.toList bs'.toList
    | .nilIface, .nilIface => true
    | .iface t x, .iface u y => Nat.beq t u && vEq d x y
    | .agg xs, .agg ys => listEq (vEq d) xs.toList ys.toList
    | .tuple xs, .tuple ys => listEq (vEq d) xs.toList ys.toList
    | _, _ => false
theorem vEq_eq : ∀ (d : Nat) (a b : Value), vEq d a b = true → a = b
  | 0, _, _, h => by simp [vEq] at h
  | d + 1, a, b, h => by
    have li : ∀ {xs ys : Array Value}, listEq (vEq d) xs.toList ys.toList = true → xs = ys := fun h => Array.toList_inj.1 (listEq_eq (vEq_eq d) h)
    unfold vEq at h
    split at h
    · split at h <;> first | rfl | cases h
    · simp only [Bool.and_eq_true, kEq, decide_eq_true_eq] at h; rw [h.1, h.2]
    · have := bsEq_eq h
      rename_i s t
      obtain ⟨s⟩ := s; obtain ⟨t⟩ := t
      have e : s = t := Array.toList_inj.1 this
      rw [e]
    · rfl
    · rw [aEq_eq h]
    · simp only [Bool.and_eq_true] at h; rw [Nat.eq_of_beq_eq_true h.1, Nat.eq_of_beq_eq_true h.2]
    · simp only [Bool.and_eq_true] at h; rw [aEq_eq h.1.1, Nat.eq_of_beq_eq_true h.1.2, Nat.eq_of_beq_eq_true h.2]
    · rfl
    · rw [Nat.eq_of_beq_eq_true h]
    · rfl
    · simp only [Bool.and_eq_true] at h; rw [Nat.eq_of_beq_eq_true h.1.1, li h.1.2, li h.2]
    · rfl
    · simp only [Bool.and_eq_true] at h; rw [Nat.eq_of_beq_eq_true h.1, vEq_eq d _ _ h.2]
    · rw [li h]
    · rw [li h]
    · cases h
def oEq : AObj → AObj → Bool
  | .row cs k w, .row ds j u => listEq (vEq 50) cs ds && Nat.beq k j && (match w, u with | true, true => true | false, false => true | _, _ => false)
  | .map es c, .map fs e => (match es.toList, fs.toList with | [], [] => true | _, _ => false) && Nat.beq c e
  | _, _ => false
theorem oEq_eq {a b : AObj} (h : oEq a b = true) : a = b := by
  unfold oEq at h
  split at h
  · simp only [Bool.and_eq_true] at h
    obtain ⟨⟨h1, h2⟩, h3⟩ := h
    rw [listEq_eq (vEq_eq 50) h1, Nat.eq_of_beq_eq_true h2]
    split at h3 <;> first | rfl | cases h3
  · simp only [Bool.and_eq_true] at h
    obtain ⟨h1, h2⟩ := h
    split at h1
    · rename_i h3 h4
      rw [Nat.eq_of_beq_eq_true h2, Array.toList_inj.1 (h3.trans h4.symm)]
    · cases h1
  · cases h
def recheckB (P : Program) (l : List Oper) (H : AHeap) (r : Rec) : Bool :=
  match r.skip, opAt l r.i with
  | true, _ => true
  | false, some o =>
    match r.id with
    | none => match aread P r.T o H with | some v => vEq 50 v r.v | none => false
    | some id => match aalloc P r.T o, H[id]? with | some p, some q => oEq q p.1 | _, _ => false
  | false, none => false
theorem recheckB_ok {P : Program} {l : List Oper} {H : AHeap} {r : Rec} (h : recheckB P l H r = true) : recheck P l.toArray H r := by
  obtain ⟨i, T, v, id, skip⟩ := r
  unfold recheckB at h
  unfold recheck
  have e : l.toArray[i]? = opAt l i := by rw [opAt_eq]; simp
  cases skip with
  | true => trivial
  | false =>
    simp only at h ⊢
    rw [e]
    cases ho : opAt l i with
    | none => rw [ho] at h; simp at h
    | some o =>
      rw [ho] at h
      simp only at h ⊢
      cases id with
      | none =>
        simp only at h ⊢
        cases hr : aread P T o H with
        | none => rw [hr] at h; simp at h
        | some u => rw [hr] at h; rw [vEq_eq _ _ _ h]
      | some id =>
        simp only at h ⊢
        cases ha : aalloc P T o with
        | none => rw [ha] at h; simp at h
        | some p =>
          rw [ha] at h
          cases hq : H[id]? with
          | none => rw [hq] at h; simp at h
          | some q => rw [hq] at h; simp only [bindO_some]; rw [oEq_eq h]
def rechecksB (P : Program) (l : List Oper) (H : AHeap) (chk : List Nat) : List Rec → Bool
  | [] => true
  | r :: rs => (bif chk.any (Nat.beq r.i) then recheckB P l H r else true) && rechecksB P l H chk rs
theorem rechecksB_ok {P : Program} {l : List Oper} {H : AHeap} {chk : List Nat} : ∀ {rs : List Rec}, rechecksB P l H chk rs = true → rechecks P l.toArray H chk rs
  | [], _ => trivial
  | r :: rs, h => by
    simp only [rechecksB, Bool.and_eq_true] at h
    refine ⟨?_, rechecksB_ok h.2⟩
    split
    · rename_i hc
      have hc' : chk.any (Nat.beq r.i) = true := by
        rw [List.any_eq_true]
        exact ⟨r.i, by simpa using hc, Nat.beq_refl _⟩
      have := h.1
      rw [hc', cond_true] at this
      exact recheckB_ok this
    · trivial
def rDraw (P : Program) (call : Call1) (l : List Oper) : List (Nat × List Nat) → List Rec → Tr → AHeap → Option (Tr × AHeap)
  | [], _, T, H => some (T, H)
  | (i, chk) :: is, recs, T, H =>
    match opAt l i with
    | none => none
    | some o =>
      match aguard l.toArray T.fn o with
      | some true =>
        match cls P o with
        | .read => match aread P T.fn o H with
          | some v => fVal v fun v => match T.set o.dst v with | some T' => rDraw P call l is (⟨i, T.fn, v, none, false⟩ :: recs) T' H | none => none
          | none => none
        | .alloc => match aalloc P T.fn o with
          | some (ob, v) => fHeap (H ++ [ob]) fun H' => match T.set o.dst (v H.length) with | some T' => rDraw P call l is (⟨i, T.fn, v H.length, some H.length, false⟩ :: recs) T' H' | none => none
          | none => none
        | .eff => match rOp P call T.fn o H with
          | some (v, H') => fVal v fun v => fHeap H' fun H' => bif rechecksB P l H' chk recs then match T.set o.dst v with | some T' => rDraw P call l is recs T' H' | none => none else none
          | none => none
      | some false => match T.set o.dst undef with
        | some T' => match cls P o with
          | .eff => rDraw P call l is recs T' H
          | _ => rDraw P call l is (⟨i, T.fn, undef, none, true⟩ :: recs) T' H
        | none => none
      | none => none
theorem rDraw_sound {P : Program} {call : Call1} (hc : CallOk P call) {l : List Oper} {K : Tm → AHeap → Prop} : ∀ (is : List (Nat × List Nat)) (recs : List Rec) (T : Tr) (H : AHeap) (T' : Tr) (H' : AHeap), rDraw P call l is recs T H = some (T', H') → K T'.fn H' → adraw P l.toArray K is recs T.fn H
  | [], _, T, H, T', H', h, hk => by cases h; exact hk
  | (i, chk) :: is, recs, T, H, T', H', h, hk => by
    simp only [rDraw, fVal_eq, fHeap_eq] at h
    simp only [adraw]
    have e : l.toArray[i]? = opAt l i := by rw [opAt_eq]; simp
    rw [e]
    cases ho : opAt l i with
    | none => rw [ho] at h; simp at h
    | some o =>
      rw [ho] at h
      simp only at h
      simp only [bindO_some]
      cases hg : aguard l.toArray T.fn o with
      | none => rw [hg] at h; simp at h
      | some g =>
        rw [hg] at h
        cases g with
        | true =>
          simp only at h
          simp only [bindO_some, acond_true]
          cases hcl : cls P o with
          | read =>
            rw [hcl] at h
            simp only at h ⊢
            cases hr : aread P T.fn o H with
            | none => rw [hr] at h; simp at h
            | some v =>
              rw [hr] at h
              simp only at h
              simp only [bindO_some]
              cases ht : T.set o.dst v with
              | none => rw [ht] at h; simp at h
              | some T1 =>
                rw [ht] at h
                rw [← Tr.set_fn ht]
                exact rDraw_sound hc is _ T1 H T' H' h hk
          | alloc =>
            rw [hcl] at h
            simp only at h ⊢
            cases hr : aalloc P T.fn o with
            | none => rw [hr] at h; simp at h
            | some p =>
              obtain ⟨ob, v⟩ := p
              rw [hr] at h
              simp only at h
              simp only [bindO_some]
              cases ht : T.set o.dst (v H.length) with
              | none => rw [ht] at h; simp at h
              | some T1 =>
                rw [ht] at h
                rw [← Tr.set_fn ht]
                exact rDraw_sound hc is _ T1 _ T' H' h hk
          | eff =>
            rw [hcl] at h
            simp only at h ⊢
            cases hr : rOp P call T.fn o H with
            | none => rw [hr] at h; simp at h
            | some p =>
              obtain ⟨v, H1⟩ := p
              rw [hr] at h
              simp only at h
              cases hq : rechecksB P l H1 chk recs with
              | false => rw [hq] at h; simp at h
              | true =>
                rw [hq, cond_true] at h
                cases ht : T.set o.dst v with
                | none => rw [ht] at h; simp at h
                | some T1 =>
                  rw [ht] at h
                  refine rOp_sound hc hr ⟨rechecksB_ok hq, ?_⟩
                  rw [← Tr.set_fn ht]
                  exact rDraw_sound hc is _ T1 H1 T' H' h hk
        | false =>
          simp only at h
          simp only [bindO_some, acond_false]
          cases ht : T.set o.dst undef with
          | none => rw [ht] at h; simp at h
          | some T1 =>
            rw [ht] at h
            simp only at h
            rw [← Tr.set_fn ht]
            cases hcl : cls P o with
            | read => rw [hcl] at h; exact rDraw_sound hc is _ T1 H T' H' h hk
            | alloc => rw [hcl] at h; exact rDraw_sound hc is _ T1 H T' H' h hk
            | eff => rw [hcl] at h; exact rDraw_sound hc is _ T1 H T' H' h hk
def rPlan (P : Program) (l : List Oper) (an : List Nat) : List Nat → List Nat → List (Nat × List Nat)
  | [], _ => []
  | i :: is, seen =>
    (i, match opAt l i with | some o => (match cls P o with | .eff => seen.filter fun j => !(an.getD i 0).testBit j | _ => []) | none => []) :: rPlan P l an is (i :: seen)
abbrev Out := Option (Exit × Tr × AHeap)
def rLoop (body : Tr → AHeap → Out) : Nat → Tr → AHeap → Out
  | 0, _, _ => none
  | n + 1, T, H => match body T H with
    | some (.normal, T', H') => rLoop body n T' H'
    | r => r
def planFor (pl : List (Nat × List Nat)) (id n : Nat) : List Nat := match pl.find? fun p => Nat.beq p.1 id with | some p => p.2 | none => List.range n
def rCode (P : Program) (call : Call1) (pl : List (Nat × List Nat)) (lf : Nat) : Code → Tr → AHeap → Out
  | .skip, T, H => some (.normal, T, H)
  | .label _, T, H => some (.normal, T, H)
  | .exit id, T, H => some (.exit id, T, H)
  | .ret, T, H => some (.ret, T, H)
  | .region _ ops false, T, H => match rOps P call ops ops.toList T H with | some (T', H') => some (.normal, T', H') | none => none
  | .region id ops true, T, H => bif planOk P ops (rPlan P ops.toList (ancs ops) (planFor pl id ops.size) []) then match rDraw P call ops.toList (rPlan P ops.toList (ancs ops) (planFor pl id ops.size) []) [] T H with | some (T', H') => some (.normal, T', H') | none => none else none
  | .seq a b, T, H => match rCode P call pl lf a T H with
    | some (.normal, T', H') => rCode P call pl lf b T' H'
    | r => r
  | .cond c a b, T, H => match aev T.fn c with
    | .bool true => rCode P call pl lf a T H
    | .bool false => rCode P call pl lf b T H
    | _ => none
  | .block id c, T, H => match rCode P call pl lf c T H with
    | some (.exit id', T', H') => bif Nat.beq id' id then some (.normal, T', H') else some (.exit id', T', H')
    | r => r
  | .loop c, T, H => rLoop (rCode P call pl lf c) lf T H
  | _, _, _ => none
theorem rCode_sound {P : Program} {call : Call1} (hc : CallOk P call) {pl : List (Nat × List Nat)} {lf : Nat} : ∀ (c : Code) (T : Tr) (H : AHeap) (e : Exit) (T' : Tr) (H' : AHeap), rCode P call pl lf c T H = some (e, T', H') →
    ∀ Q : Exit → Tm → AHeap → Prop, Q e T'.fn H' → awp P c Q T.fn H := by
  intro c
  induction c with
  | skip => intro T H e T' H' h Q hq; cases h; exact hq
  | label l => intro T H e T' H' h Q hq; cases h; exact hq
  | exit id => intro T H e T' H' h Q hq; cases h; exact hq
  | ret => intro T H e T' H' h Q hq; cases h; exact hq
  | goto l => intro T H e T' H' h; cases h
  | scope c ih => intro T H e T' H' h; cases h
  | refuse s => intro T H e T' H' h; cases h
  | rangeFunc f ps x y => intro T H e T' H' h; cases h
  | region id ops draw =>
    intro T H e T' H' h Q hq
    cases draw with
    | false =>
      simp only [rCode] at h
      cases hr : rOps P call ops ops.toList T H with
      | none => rw [hr] at h; simp at h
      | some p => obtain ⟨T1, H1⟩ := p; rw [hr] at h; cases h; exact rOps_sound hc _ _ _ _ _ hr hq
    | true =>
      simp only [rCode] at h
      generalize rPlan P ops.toList (ancs ops) (planFor pl id ops.size) [] = plan at h
      cases hp : planOk P ops plan with
      | false => rw [hp] at h; simp at h
      | true =>
        rw [hp, cond_true] at h
        cases hr : rDraw P call ops.toList plan [] T H with
        | none => rw [hr] at h; simp at h
        | some p =>
          obtain ⟨T1, H1⟩ := p
          rw [hr] at h; cases h
          have := rDraw_sound (K := Q .normal) hc plan [] T H _ _ hr hq
          exact ⟨_, hp, this⟩
  | seq a b iha ihb =>
    intro T H e T' H' h Q hq
    simp only [rCode] at h
    simp only [awp]
    cases hr : rCode P call pl lf a T H with
    | none => rw [hr] at h; simp at h
    | some p =>
      obtain ⟨e1, T1, H1⟩ := p
      rw [hr] at h
      cases e1 with
      | normal => exact iha _ _ _ _ _ hr _ (ihb _ _ _ _ _ h _ hq)
      | _ => cases h; exact iha _ _ _ _ _ hr _ hq
  | cond c a b iha ihb =>
    intro T H e T' H' h Q hq
    simp only [rCode] at h
    simp only [awp]
    split at h
    · rename_i q; rw [q]; exact iha _ _ _ _ _ h _ hq
    · rename_i q; rw [q]; exact ihb _ _ _ _ _ h _ hq
    · cases h
  | block id c ih =>
    intro T H e T' H' h Q hq
    simp only [rCode] at h
    simp only [awp]
    cases hr : rCode P call pl lf c T H with
    | none => rw [hr] at h; simp at h
    | some p =>
      obtain ⟨e1, T1, H1⟩ := p
      rw [hr] at h
      refine ih _ _ _ _ _ hr _ ?_
      cases e1 with
      | exit id' =>
        simp only at h
        simp only [Exit.inBlockA]
        cases hb : Nat.beq id' id with
        | true => rw [hb, cond_true] at h; cases h; rw [if_pos (by simpa using hb)]; exact hq
        | false => rw [hb, cond_false] at h; cases h; rw [if_neg (fun q => by rw [q, Nat.beq_refl] at hb; cases hb)]; exact hq
      | _ => cases h; exact hq
  | loop c ih =>
    intro T H e T' H' h Q hq
    simp only [rCode] at h
    have key : ∀ (n : Nat) (T : Tr) (H : AHeap), rLoop (rCode P call pl lf c) n T H = some (e, T', H') → arounds (awp P c) Q n T.fn H := by
      intro n
      induction n with
      | zero => intro T H h; cases h
      | succ n ihn =>
        intro T H h
        simp only [rLoop] at h
        simp only [arounds]
        cases hr : rCode P call pl lf c T H with
        | none => rw [hr] at h; simp at h
        | some p =>
          obtain ⟨e1, T1, H1⟩ := p
          rw [hr] at h
          refine ih _ _ _ _ _ hr _ ?_
          cases e1 with
          | normal => exact ihn _ _ h
          | _ => cases h; exact hq
    exact ⟨lf, key lf T H h⟩
def Tr.ofList : Nat → List Value → Tr → Tr
  | _, [], T => T
  | i, v :: vs, T => Tr.ofList (i + 1) vs (Tr.put 12 T i v)
theorem Tr.ofList_fn : ∀ (l : List Value) (i : Nat) (T : Tr), i + l.length ≤ 4095 → (Tr.ofList i l T).fn = fun t => if i ≤ t ∧ t < i + l.length then l.getD (t - i) undef else T.fn t
  | [], i, T, _ => by funext t; rw [if_neg (by simp)]; rfl
  | v :: vs, i, T, h => by
    simp only [List.length_cons] at h
    rw [Tr.ofList, Tr.ofList_fn vs (i + 1) _ (by omega)]
    funext t
    have e : (Tr.put 12 T i v).fn t = if t = i then v else T.fn t := Tr.get_put 12 T i v t (by omega)
    rw [e]
    by_cases h1 : t = i
    · subst h1
      rw [if_neg (by omega), if_pos rfl, if_pos (by simp only [List.length_cons]; omega), Nat.sub_self]; rfl
    · by_cases h2 : i + 1 ≤ t ∧ t < i + 1 + vs.length
      · rw [if_pos h2, if_pos (by simp; omega)]
        obtain ⟨d, rfl⟩ : ∃ d, t = i + 1 + d := ⟨t - i - 1, by omega⟩
        rw [show i + 1 + d - i = d + 1 by omega, show i + 1 + d - (i + 1) = d by omega]; simp
      · rw [if_neg h2, if_neg h1, if_neg (by simp; omega)]
abbrev Plans := List (FuncId × List (Nat × List Nat))
def plansOf (pl : Plans) (f : FuncId) : List (Nat × List Nat) := match pl.find? fun p => Nat.beq p.1 f with | some p => p.2 | none => []
def rFn (P : Program) (pl : Plans) (lf : Nat) (ext : Call1) : Nat → Call1
  | 0, _, _, _ => none
  | n + 1, f, asx9, H =>
    match ext f asx9 H with
    | some r => some r
    | none =>
      match P.funcs[f]? with
      | none => none
      | some fn =>
        match fn.body with
        | none => none
        | some c =>
          bif funcOk fn && Nat.ble asx9.length fn.ntmps && Nat.ble fn.ntmps 4000 then
            match rCode P (rFn P pl lf ext n) (plansOf pl f) lf c (Tr.ofList 0 asx9 .leaf) H with
            | some (.normal, T, H') | some (.ret, T, H') => match aresults fn.results.toList P T.fn H' with | some vs => some (ares vs, H') | none => none
            | _ => none
          else none
def noExt : Call1 := fun _ _ _ => none
theorem noExt_ok (P : Program) : CallOk P noExt := fun _ _ _ _ _ h => by cases h
theorem rFn_body {P : Program} (hm : P.follows .mixedOrders = true) {pl : Plans} {lf : Nat} {ext : Call1} {call : Call1} (hc : CallOk P call) {f : FuncId} {asx9 : List Value} {H H' : AHeap} {v : Value} {fn : Func} {c : Code} (hf : P.funcs[f]? = some fn) (hb : fn.body = some c)
    (h : (bif funcOk fn && Nat.ble asx9.length fn.ntmps && Nat.ble fn.ntmps 4000 then
            match rCode P call (plansOf pl f) lf c (Tr.ofList 0 asx9 .leaf) H with
            | some (.normal, T, H') | some (.ret, T, H') => match aresults fn.results.toList P T.fn H' with | some vs => some (ares vs, H') | none => none
            | _ => none
          else none) = some (v, H')) : Sound P f asx9 H fun u K => u = v ∧ K = H' := by
  cases hk : (funcOk fn && Nat.ble asx9.length fn.ntmps && Nat.ble fn.ntmps 4000) with
  | false => rw [hk] at h; simp at h
  | true =>
    rw [hk, cond_true] at h
    simp only [Bool.and_eq_true] at hk
    obtain ⟨⟨k1, k2⟩, k3⟩ := hk
    have b1 := Nat.le_of_ble_eq_true k2
    have b2 := Nat.le_of_ble_eq_true k3
    refine Sound.of_body hm hf hb k1 rfl k2 ?_
    have hT : (fun t => asx9.getD t undef) = (Tr.ofList 0 asx9 .leaf).fn := by
      rw [Tr.ofList_fn asx9 0 .leaf (by omega)]
      funext t
      by_cases ht : t < asx9.length
      · rw [if_pos (by omega)]; rfl
      · rw [if_neg (by omega), List.getD_eq_getElem?_getD, List.getElem?_eq_none (by omega)]; exact (Tr.get_leaf 12 t).symm
    rw [hT]
    cases hr : rCode P call (plansOf pl f) lf c (Tr.ofList 0 asx9 .leaf) H with
    | none => rw [hr] at h; simp at h
    | some p =>
      obtain ⟨e, T, H1⟩ := p
      rw [hr] at h
      have fin : ∀ {T : Tr} {H1 : AHeap}, (match aresults fn.results.toList P T.fn H1 with | some vs => some (ares vs, H1) | none => none) = some (v, H') → bindO (aresults fn.results.toList P T.fn H1) fun vs => ares vs = v ∧ H1 = H' := fun {T H1} h => by
        cases hx : aresults fn.results.toList P T.fn H1 with
        | none => rw [hx] at h; simp at h
        | some vs => rw [hx] at h; simp only [Option.some.injEq, Prod.mk.injEq] at h; exact h
      refine rCode_sound hc _ _ _ _ _ _ hr _ ?_
      cases e with
      | normal => exact fin h
      | ret => exact fin h
      | _ => simp at h
theorem rFn_ok {P : Program} (hm : P.follows .mixedOrders = true) {pl : Plans} {lf : Nat} {ext : Call1} (he : CallOk P ext) : ∀ n, CallOk P (rFn P pl lf ext n)
  | 0 => fun _ _ _ _ _ h => by cases h
  | n + 1 => fun f asx9 H v H' h => by
    simp only [rFn] at h
    cases hx : ext f asx9 H with
    | some r => rw [hx] at h; cases h; exact he _ _ _ _ _ hx
    | none =>
      rw [hx] at h
      simp only at h
      cases hf : P.funcs[f]? with
      | none => rw [hf] at h; simp at h
      | some fn =>
        rw [hf] at h
        simp only at h
        cases hb : fn.body with
        | none => rw [hb] at h; simp at h
        | some c =>
          rw [hb] at h
          exact (rFn_body (ext := ext) hm (rFn_ok hm he n) hf hb h).x
theorem Sound.of_run {P : Program} (hm : P.follows .mixedOrders = true) {pl : Plans} {lf n : Nat} {ext : Call1} (he : CallOk P ext) {f : FuncId} {asx9 : List Value} {H H' : AHeap} {v : Value} (h0 : ext f asx9 H = none) (h : rFn P pl lf ext (n + 1) f asx9 H = some (v, H')) :
    Sound P f asx9 H fun u K => u = v ∧ K = H' := by
  simp only [rFn] at h
  rw [h0] at h
  simp only at h
  cases hf : P.funcs[f]? with
  | none => rw [hf] at h; simp at h
  | some fn =>
    rw [hf] at h
    simp only at h
    cases hb : fn.body with
    | none => rw [hb] at h; simp at h
    | some c =>
      rw [hb] at h
      exact rFn_body (ext := ext) hm (rFn_ok hm he n) hf hb h
def Frm.all (w : World) : Frm := ⟨fun b => w.heap[b]?, w.tape, w.os, w.output, w.drawn, w.heap.size⟩
theorem Rel.of_all {ρ : Ren} {H : AHeap} {F : Frm} {w w' : World} (h : Rel ρ H F w) (hw : (Frm.all w).ok w') : Rel ρ H F w' := by
  have same : ∀ b o, w.heap[b]? = some o → w'.heap[b]? = some o := hw.heap
  refine ⟨h.dom, ⟨fun b o hb => same _ _ (h.frm.heap b o hb), ?_, ?_, ?_, ?_, ?_⟩, fun id l o hl ho => ?_, h.sep⟩
  · exact hw.tape.trans h.frm.tape
  · exact hw.os.trans h.frm.os
  · exact hw.output.trans h.frm.output
  · exact Nat.le_trans h.frm.drawn hw.drawn
  · exact Nat.le_trans h.frm.size hw.size
  · have hob := h.obj id l o hl ho
    cases o with
    | gone => trivial
    | row cs k own => have hob2 := hob; obtain ⟨arr, e', fz, h1, _⟩ := hob2; rw [same _ _ h1, ← h1]; exact hob
    | map es ck => have hob2 := hob; obtain ⟨_, _, es', h3, _⟩ := hob2; rw [same _ _ h3, ← h3]; exact hob
    | mapIter a b c d => obtain ⟨O', hO'⟩ := ObjAt.some hob rfl; rw [same _ _ hO', ← hO']; exact hob
    | strIter a b => obtain ⟨O', hO'⟩ := ObjAt.some hob rfl; rw [same _ _ hO', ← hO']; exact hob
    | rowx a b c => obtain ⟨O', hO'⟩ := ObjAt.some hob rfl; rw [same _ _ hO', ← hO']; exact hob
theorem Rel.none_all (w : World) : Rel (fun _ => none) [] (Frm.all w) w :=
  ⟨fun _ _ h => by simp at h, ⟨fun _ _ h => h, rfl, rfl, rfl, Nat.le_refl _, Nat.le_refl _⟩, fun _ _ _ h => by simp at h, fun _ _ _ _ _ _ h => by simp at h⟩
inductive Bare : Value → Prop
  | bool (b : Bool) : Bare (.bool b)
  | int (k : IntKind) (n : Int) : Bare (.int k n)
  | string (s : ByteArray) : Bare (.string s)
  | ptrNil : Bare (.pointer none)
  | sliceNil : Bare (.slice none 0 0)
  | mapNil : Bare (.map none)
  | nilFunc : Bare .nilFunc
  | nilIface : Bare .nilIface
  | func (fn : Fn) {asx9 bs : Array Value} (h1 : ∀ v ∈ asx9, Bare v) (h2 : ∀ v ∈ bs, Bare v) : Bare (.func fn asx9 bs)
  | agg {asx9 : Array Value} (h : ∀ v ∈ asx9, Bare v) : Bare (.agg asx9)
  | tuple {asx9 : Array Value} (h : ∀ v ∈ asx9, Bare v) : Bare (.tuple asx9)
theorem Bare.any {v v' : Value} {ρ ρ' : Ren} (hb : Bare v) : VR ρ v v' → VR ρ' v v' := by
  induction hb generalizing v' with
  | bool b => intro h; cases h; exact .bool b
  | int k n => intro h; cases h; exact .int k n
  | string s => intro h; cases h; exact .string s
  | ptrNil => intro h; cases h; exact .ptrNil
  | sliceNil => intro h; cases h; exact .sliceNil
  | mapNil => intro h; cases h; exact .mapNil
  | nilFunc => intro h; cases h; exact .nilFunc
  | nilIface => intro h; cases h; exact .nilIface
  | func fn _ _ i1 i2 =>
    intro h
    cases h with
    | func _ ha hb h1 h2 => exact .func fn ha hb (fun i u u' hu hu' => i1 u (Array.mem_of_getElem? hu) (h1 i u u' hu hu')) (fun i u u' hu hu' => i2 u (Array.mem_of_getElem? hu) (h2 i u u' hu hu'))
  | agg _ ih =>
    intro h
    cases h with
    | agg ha h => exact .agg ha fun i u u' hu hu' => ih u (Array.mem_of_getElem? hu) (h i u u' hu hu')
  | tuple _ ih =>
    intro h
    cases h with
    | tuple ha h => exact .tuple ha fun i u u' hu hu' => ih u (Array.mem_of_getElem? hu) (h i u u' hu hu')
def bareB : Nat → Value → Bool
  | _, .bool _ | _, .int _ _ | _, .string _ | _, .pointer none | _, .slice none 0 0 | _, .map none | _, .nilFunc | _, .nilIface => true
  | d + 1, .func (.func _) asx9 bs => asx9.toList.all (bareB d) && bs.toList.all (bareB d)
  | d + 1, .agg asx9 => asx9.toList.all (bareB d)
  | d + 1, .tuple asx9 => asx9.toList.all (bareB d)
  | _, _ => false
theorem bareB_ok : ∀ (d : Nat) (v : Value), bareB d v = true → Bare v := by
  intro d
  induction d with
  | zero =>
    intro v h
    unfold bareB at h
    split at h <;> first | (constructor; done) | (exfalso; omega) | cases h
  | succ d ih =>
    intro v h
    have li : ∀ {asx9 : Array Value}, asx9.toList.all (bareB d) = true → ∀ v ∈ asx9, Bare v := fun h v hv => ih v (List.all_eq_true.1 h v (by simpa using hv))
    unfold bareB at h
    split at h
    · exact .bool _
    · exact .int _ _
    · exact .string _
    · exact .ptrNil
    · exact .sliceNil
    · exact .mapNil
    · exact .nilFunc
    · exact .nilIface
    · rename_i hd; cases hd
      simp only [Bool.and_eq_true] at h; exact .func _ (li h.1) (li h.2)
    · rename_i hd; cases hd; exact .agg (li h)
    · rename_i hd; cases hd; exact .tuple (li h)
    · cases h
theorem Sound.closed {P : Program} {f : FuncId} {asx9 : List Value} {K : Value → AHeap → Prop} (h : Sound P f asx9 [] K) (ha : ∀ v ∈ asx9, Bare v) (hk : ∀ v H', K v H' → Bare v) (H : AHeap) : Sound P f asx9 H fun v H' => (∃ H0, K v H0) ∧ H' = H := by
  refine ⟨h.1, fun ρ F w args' hR hv => ?_⟩
  have hv' : VRs (fun _ => none) asx9 args' := ⟨hv.1, fun i u u' hu hu' => (ha u (List.mem_of_getElem? hu)).any (hv.2 i u u' hu hu')⟩
  refine (h.2 _ (Frm.all w) w args' (Rel.none_all w) hv').mono ?_
  rintro e w' ⟨v, v', H', ρ', rfl, hK, hR', hX, hL, hvr⟩
  exact ⟨v, v', H, ρ, rfl, ⟨⟨H', hK⟩, rfl⟩, hR.of_all hR'.frm, Ext.refl _ _, Nat.le_refl _, (hk _ _ hK).any hvr⟩
def ranTo (v : Value) : Option (Value × AHeap) → Bool
  | some (u, _) => vEq 50 u v
  | none => false
theorem Sound.of_ran {P : Program} (hm : P.follows .mixedOrders = true) {pl : Plans} {lf n : Nat} {ext : Call1} (he : CallOk P ext) {f : FuncId} {asx9 : List Value} {v : Value} (h0 : ext f asx9 [] = none) (h : ranTo v (rFn P pl lf ext (n + 1) f asx9 []) = true) (ha : asx9.all (bareB 20) = true) (hb : bareB 20 v = true) (H : AHeap) :
    Sound P f asx9 H fun u K => u = v ∧ K = H := by
  unfold ranTo at h
  split at h
  · rename_i u H' e
    have hv : u = v := vEq_eq _ _ _ h
    subst hv
    refine ((Sound.of_run hm he h0 e).closed (fun x hx => bareB_ok 20 x (List.all_eq_true.1 ha x hx)) (fun x K hk => by rw [hk.1]; exact bareB_ok 20 _ hb) H).mono ?_
    rintro x K ⟨⟨H0, h1, _⟩, rfl⟩
    exact ⟨h1, rfl⟩
  · cases h
def cutR (ρ : Ren) (n : Nat) : Ren := fun id => if id < n then ρ id else none
def cleanV (n : Nat) : Nat → Value → Bool
  | _, .slice (some a) 0 0 => a.spot.isSome || Nat.blt a.block n
  | 0, .agg _ | 0, .tuple _ | 0, .iface _ _ | 0, .func _ _ _ => false
  | d + 1, .agg asx9 | d + 1, .tuple asx9 => asx9.toList.all (cleanV n d)
  | d + 1, .iface _ v => cleanV n d v
  | d + 1, .func _ asx9 bs => asx9.toList.all (cleanV n d) && bs.toList.all (cleanV n d)
  | _, _ => true
theorem VR.cut {ρ ρ' : Ren} {n : Nat} {v v0 v' : Value} (h : VR ρ v v0) (hd : ∀ id l, ρ id = some l → id < n) {d : Nat} (hc : cleanV n d v = true) (h' : VR ρ' v v') : VR (cutR ρ' n) v v' := by
  induction h generalizing v' d with
  | bool b => cases h'; exact .bool b
  | int k n => cases h'; exact .int k n
  | float k b => cases h'; exact .float k b
  | string s => cases h'; exact .string s
  | ptrNil => cases h'; exact .ptrNil
  | ptr hl => cases h' with
    | ptr hl' => exact .ptr (by simp only [cutR, if_pos (hd _ _ hl)]; exact hl')
  | glob g => cases h'; exact .glob g
  | sliceNil => cases h'; exact .sliceNil
  | slice hl hc hn => cases h' with
    | slice hl' hc' hn' => exact .slice (by simp only [cutR, if_pos (hd _ _ hl)]; exact hl') hc' hn'
    | sliceU hl' hn' hb' => exact absurd hc (by omega)
    | sliceZ _ _ a' => exact .sliceZ _ _ a'
  | sliceU hl hn hb => cases h' with
    | slice hl' hc' hn' => exact absurd hc' (by omega)
    | sliceU hl' hn' hb' => exact .sliceU (by simp only [cutR, if_pos (hd _ _ hl)]; exact hl') hn' hb'
    | sliceZ _ _ a' => exact .sliceZ _ _ a'
  | sliceZ id off a' => cases h' with
    | slice hl' hc' hn' => exact absurd hc' (by omega)
    | sliceU hl' hn' hb' => exact .sliceU (by simp only [cutR, if_pos (by cases d <;> simpa [cleanV, Nat.blt_eq] using hc)]; exact hl') hn' hb'
    | sliceZ _ _ a' => exact .sliceZ _ _ a'
  | sliceE a' => cases h' with
    | sliceE a' => exact .sliceE a'
  | mapNil => cases h'; exact .mapNil
  | map hl => cases h' with
    | map hl' => exact .map (by simp only [cutR, if_pos (hd _ _ hl)]; exact hl')
  | nilFunc => cases h'; exact .nilFunc
  | func fn ha hb h1 h2 i1 i2 => cases h' with
    | func _ ha' hb' h1' h2' =>
      rename_i asx9 as0 bs bs0 as1 bs1
      cases d with
      | zero => cases hc
      | succ d =>
        simp only [cleanV, Bool.and_eq_true] at hc
        refine .func fn ha' hb' (fun i u u' hu hu' => ?_) (fun i u u' hu hu' => ?_)
        · have hlt : i < asx9.size := (Array.getElem?_eq_some_iff.1 hu).1
          exact i1 i u _ hu (Array.getElem?_eq_getElem (by omega)) (d := d) (List.all_eq_true.1 hc.1 u (by simpa using Array.mem_of_getElem? hu)) (h1' i u u' hu hu')
        · have hlt : i < bs.size := (Array.getElem?_eq_some_iff.1 hu).1
          exact i2 i u _ hu (Array.getElem?_eq_getElem (by omega)) (d := d) (List.all_eq_true.1 hc.2 u (by simpa using Array.mem_of_getElem? hu)) (h2' i u u' hu hu')
  | nilIface => cases h'; exact .nilIface
  | iface t _ ih => cases h' with
    | iface _ hv =>
      cases d with
      | zero => cases hc
      | succ d => exact .iface t (ih (d := d) hc hv)
  | agg ha h1 i1 => cases h' with
    | agg ha' h1' =>
      rename_i asx9 as0 as1
      cases d with
      | zero => cases hc
      | succ d =>
        refine .agg ha' fun i u u' hu hu' => ?_
        have hlt : i < asx9.size := (Array.getElem?_eq_some_iff.1 hu).1
        exact i1 i u _ hu (Array.getElem?_eq_getElem (by omega)) (d := d) (List.all_eq_true.1 hc u (by simpa using Array.mem_of_getElem? hu)) (h1' i u u' hu hu')
  | tuple ha h1 i1 => cases h' with
    | tuple ha' h1' =>
      rename_i asx9 as0 as1
      cases d with
      | zero => cases hc
      | succ d =>
        refine .tuple ha' fun i u u' hu hu' => ?_
        have hlt : i < asx9.size := (Array.getElem?_eq_some_iff.1 hu).1
        exact i1 i u _ hu (Array.getElem?_eq_getElem (by omega)) (d := d) (List.all_eq_true.1 hc u (by simpa using Array.mem_of_getElem? hu)) (h1' i u u' hu hu')
end Go.AW
end
section
set_option linter.unusedVariables false
set_option linter.unusedSimpArgs false
namespace Go.Proofs.YtekpdopbiklkfaaGreatDoor
open Go Go.AW
set_option linter.unusedSimpArgs false
set_option maxRecDepth 100000
def plans : Plans := [(3, [(13, [0, 2, 4, 1, 3, 5]), (39, [0, 2, 1, 3, 4])]),
  (4, [(26, [0, 1, 2, 3, 4, 7, 5, 6, 8, 9, 10, 11, 12, 13, 14, 15]), (31, [0, 1, 2, 3, 4, 5, 6, 7, 8, 9, 10, 11, 12, 13, 14, 15, 16, 17, 19, 18, 20, 21, 22])]),
  (5, [(28, [0, 1, 3, 2, 4, 5])]),
  (6, [(23, [0, 1, 2, 3, 4, 5, 6, 7, 8, 9, 10, 11, 12, 13, 14, 15, 16, 17, 18, 19, 20, 22, 21, 23, 24, 25]), (31, [0, 1, 2, 3, 5, 4, 6, 7, 8])]),
  (7, [(40, [0, 2, 1, 3, 4])]),
  (8, [(13, [0, 1, 3, 9, 2, 4, 5, 6, 7, 8, 10, 11]), (20, [0, 1, 3, 4, 5, 6, 10, 2, 7, 8, 9, 11]), (25, [0, 1, 2, 3, 5, 4, 6, 7, 8])]),
  (9, [(15, [0, 1, 3, 4, 5, 6, 10, 11, 12, 13, 2, 7, 8, 9, 14]), (41, [0, 2, 1, 3, 4]), (43, [0, 1, 2, 3, 4, 5, 6, 7, 8, 10, 9, 11, 12, 13, 14, 15, 16, 17, 18]), (53, [0, 1, 2, 3, 5, 4, 6, 7, 8])]),
  (10, [(10, [0, 1, 2, 3, 4, 5, 6, 7, 8, 9, 10, 11, 12, 13, 14, 15, 16, 17, 18, 19, 20, 21, 22, 23, 24, 26, 25, 27, 28, 29])]),
  (14, [(34, [0, 1, 2, 3, 4, 5, 6, 7, 9, 10, 11, 16, 8, 12, 13, 14, 15, 17])]),
  (16, [(7, [0, 1, 2, 4, 5, 6, 7, 8, 3, 9, 10, 11, 12])]),
  (26, [(9, [0, 1, 2, 3, 5, 4, 6, 7, 8])]),
  (35, [(2, [0, 1, 2, 3, 4, 5, 10, 11, 14, 15, 18, 19, 6, 7, 8, 9, 12, 13, 16, 17, 20, 21, 22, 23])]),
  (42, [(8, [0, 1, 2, 3, 4, 5, 6, 7, 9, 8, 10, 11])]),
  (43, [(10, [0, 1, 2, 3, 5, 6, 4, 7, 8, 9])]),
  (77, [(1, [0, 1, 3, 4, 5, 8, 9, 10, 12, 13, 2, 6, 7, 11, 14, 15])]),
  (107, [(1, [0, 1, 2, 3, 4, 5, 7, 8, 9, 10, 11, 12, 14, 15, 16, 17, 19, 20, 21, 22, 6, 13, 18, 23, 24, 25, 26])]),
  (151, [(3, [0, 1, 2, 3, 5, 6, 7, 8, 9, 11, 4, 10, 12])]),
  (154, [(1, [0, 1, 2, 3, 5, 6, 7, 8, 9, 4, 10, 11])]),
  (170, [(1, [0, 1, 3, 2, 4, 5, 6])]),
  (171, [(1, [0, 1, 3, 2, 4, 5, 6])]),
  (194, [(0, [0, 1, 2, 3, 6, 9, 10, 11, 12, 13, 4, 5, 7, 8, 14, 15])])]
def nmB (k : Nat) : ByteArray := ⟨#[109, 46, 48, 48, 48, 48, 48, 48, 48, 48, 48, 48, 48, 48, 48, 48, 48, 48, 48, UInt8.ofNat (48 + k / 10), UInt8.ofNat (48 + k % 10)]⟩
theorem nameRuns : ((List.range 64).all fun k => ranTo (.string (nmB k)) (rFn Tryz.prog plans 100 noExt 61 74 [.int .u64 (k : Nat)] [])) = true := by kernel_rfl
theorem nameLaw (k : Nat) (hk : k < 64) (H : AHeap) : Sound Tryz.prog 74 [.int .u64 (k : Nat)] H fun v K => v = .string (nmB k) ∧ K = H :=
  Sound.of_ran (pl := plans) (lf := 100) (n := 60) (ext := noExt) mixed (noExt_ok _) rfl (List.all_eq_true.1 nameRuns k (List.mem_range.2 hk)) rfl rfl H
theorem nameGood : ((List.range 64).all fun k => nameB (nmB k) && pfxB (nmB k) ⟨#[109, 46]⟩ && !pfxB (nmB k) ⟨#[109, 46, 100, 114, 97, 102, 116]⟩) = true := by kernel_rfl
abbrev pfxM : ByteArray := ⟨#[109, 46]⟩
abbrev draftM : ByteArray := ⟨#[109, 46, 100, 114, 97, 102, 116]⟩
theorem nm_ok {k : Nat} (hk : k < 64) : nameB (nmB k) = true ∧ pfxB (nmB k) pfxM = true ∧ pfxB (nmB k) draftM = false := by
  have := List.all_eq_true.1 nameGood k (List.mem_range.2 hk)
  simp only [Bool.and_eq_true, Bool.not_eq_true'] at this
  exact ⟨this.1.1, this.1.2, this.2⟩
theorem nm_inj {k j : Nat} (hk : k < 64) (hj : j < 64) (h : nmB k = nmB j) : k = j := by
  have h2 := congrArg (fun s => s.data.toList.map UInt8.toNat) h
  simp only [nmB, List.map_cons, List.map_nil, UInt8.toNat_ofNat', List.cons.injEq, true_and, and_true] at h2
  omega
theorem draft_ok : nameB draftM = true ∧ pfxB draftM pfxM = true ∧ pfxB draftM draftM = true := by
  refine ⟨?_, ?_, ?_⟩ <;> kernel_rfl
end Go.Proofs.YtekpdopbiklkfaaGreatDoor
end
section
set_option linter.unusedVariables false
set_option linter.unusedSimpArgs false
namespace Go.Proofs.YtekpdopbiklkfaaGreatDoor
open Go Go.AW
set_option linter.unusedSimpArgs false
inductive Rec where
  | txn (t : Txn)
  | elect (n : Int)
def Rec.B : Rec → List UInt8
  | .txn t => t.B
  | .elect n => electB n
def electS (s : St) (n : Int) : St := { s with term := s.term + 1, leader := n }
def Rec.run (s : St) : Rec → St
  | .txn t => doneS s t
  | .elect n => electS s n
structure Good (s : St) : Prop where
  ok : s.Ok
  ranked : Ranked s.metas
  n1 : 1 ≤ s.offs.length
  e : s.epoch < 4611686018427387904
  t : s.term < 4611686018427387904
structure TxnOk (s : St) (t : Txn) : Prop where
  ok : t.Ok
  fresh : Fresh (t.drop.foldl dropL s.metas) t.add
  moves : ∀ m ∈ t.moves, 0 ≤ m.stream ∧ m.stream < s.offs.length
def Rec.Ok (s : St) : Rec → Prop
  | .txn t => TxnOk s t
  | .elect n => N63 n
theorem St.B_le {s : St} (h : s.Ok) : s.B.length ≤ 1048576 ∧ 0 < s.B.length := by
  have h1 := flatLe uintB 10 s.offs (fun x hx => uintB_le (h.offs x hx))
  have h2 := flatLe Meta.B 142 s.metas (fun x hx => Meta.B_le (h.metas x hx))
  have h3 := h.len
  have h4 := h.lenO
  have l1 := intB_le h.epoch
  have l2 := intB_le h.term
  have l3 := intB_le h.leader
  have l4 := intB_le (n := (s.offs.length : Int)) ⟨by omega, by omega⟩
  have p := numB_pos (2 * s.epoch.toNat)
  rw [St.B_eq]
  simp only [List.length_append, intB] at *
  omega
theorem Txn.B_le {t : Txn} (h : t.Ok) : t.B.length ≤ 1048576 ∧ 0 < t.B.length := by
  have h1 := flatLe Seg.B 50 t.drop (fun x hx => Seg.B_le (h.drop x hx))
  have h2 := flatLe Move.B 20 t.moves (fun x hx => Move.B_le (h.moves x hx))
  have h3 := flatLe Meta.B 142 t.add (fun x hx => Meta.B_le (h.add x hx))
  have h4 := h.lenA
  have h5 := h.lenD
  have h6 := h.lenM
  have l1 := intB_le (n := 1) ⟨by omega, by omega⟩
  have l2 := intB_le (n := (t.drop.length : Int)) ⟨by omega, by omega⟩
  have l3 := intB_le (n := (t.moves.length : Int)) ⟨by omega, by omega⟩
  have p := numB_pos (2 * (1 : Int).toNat)
  rw [Txn.B_eq]
  simp only [List.length_append, intB] at *
  omega
theorem Rec.B_le {s : St} {r : Rec} (h : r.Ok s) : r.B.length ≤ 1048576 ∧ 0 < r.B.length := by
  cases r with
  | txn t => exact Txn.B_le (TxnOk.ok h)
  | elect n =>
    have l1 := intB_le (n := 2) ⟨by omega, by omega⟩
    have l2 := intB_le (n := n) h
    have p := numB_pos (2 * (2 : Int).toNat)
    show (electB n).length ≤ _ ∧ 0 < (electB n).length
    rw [electB]
    simp only [List.length_append, intB] at *
    omega
def OkRecs : St → List Rec → Prop
  | s, [] => Good s
  | s, r :: rs => Good s ∧ r.Ok s ∧ OkRecs (r.run s) rs
def runs (s : St) (l : List Rec) : St := l.foldl Rec.run s
theorem OkRecs.good {s : St} {l : List Rec} (h : OkRecs s l) : Good s := by
  cases l with
  | nil => exact h
  | cons r l => exact h.1
theorem OkRecs.last : ∀ {l : List Rec} {s : St}, OkRecs s l → Good (runs s l)
  | [], _, h => h
  | r :: l, s, h => OkRecs.last (l := l) (s := r.run s) h.2.2
theorem OkRecs.snoc : ∀ {l : List Rec} {s : St} {r : Rec}, OkRecs s l → r.Ok (runs s l) → Good (r.run (runs s l)) → OkRecs s (l ++ [r])
  | [], s, r, h, h1, h2 => ⟨h, h1, h2⟩
  | q :: l, s, r, h, h1, h2 => ⟨h.1, h.2.1, OkRecs.snoc (l := l) (s := q.run s) h.2.2 h1 h2⟩
theorem offs_len (s : St) (r : Rec) : (r.run s).offs.length = s.offs.length := by
  cases r with
  | txn t => exact moves_len t.moves s.offs
  | elect n => rfl
theorem runs_len : ∀ (l : List Rec) (s : St), (runs s l).offs.length = s.offs.length
  | [], _ => rfl
  | r :: l, s => (runs_len l (r.run s)).trans (offs_len s r)
def recsB (l : List Rec) : List UInt8 := l.flatMap fun r => frameB r.B
def Tells (bytes : List UInt8) (s : St) : Prop := ∃ s0 l, OkRecs s0 l ∧ bytes = frameB s0.B ++ recsB l ∧ s = runs s0 l
theorem Tells.base {s : St} (h : Good s) : Tells (frameB s.B) s := ⟨s, [], h, by simp [recsB], rfl⟩
theorem Tells.step {bytes : List UInt8} {s : St} (h : Tells bytes s) (r : Rec) (h1 : r.Ok s) (h2 : Good (r.run s)) : Tells (bytes ++ frameB r.B) (r.run s) := by
  obtain ⟨s0, l, h3, rfl, rfl⟩ := h
  exact ⟨s0, l ++ [r], h3.snoc h1 h2, by simp [recsB], by simp [runs]⟩
theorem Tells.good {bytes : List UInt8} {s : St} (h : Tells bytes s) : Good s := by
  obtain ⟨s0, l, h3, rfl, rfl⟩ := h
  exact h3.last
theorem Tells.ne {bytes : List UInt8} {s : St} (h : Tells bytes s) : bytes ≠ [] := by
  obtain ⟨s0, l, h3, rfl, rfl⟩ := h
  intro q
  have := congrArg List.length q
  rw [List.length_append, frameB_len, List.length_nil] at this
  omega
end Go.Proofs.YtekpdopbiklkfaaGreatDoor
end
section
set_option linter.unusedVariables false
set_option linter.unusedSimpArgs false
namespace Go.Proofs.YtekpdopbiklkfaaGreatDoor
open Go Go.AW
set_option linter.unusedSimpArgs false
set_option maxRecDepth 20000
abbrev logC (d : Nat) (s : St) (vm vo : Value) (gen : Nat) (own : Bool) : List Value := [ptrV d, .int .i64 s.epoch, .int .i64 s.term, .int .i64 s.leader, vm, vo, .int .u64 (gen : Nat), .bool own, .bool false]
theorem nextLaw (s : St) (hs : Good s) (r : Rec) (hr : r.Ok s) {b : Nat} {vm vo v : Value} {H : AHeap} (hb : b ≤ H.length) (om : Own b H Meta.cells 8 vm s.metas) (oo : Own b H encU 1 vo s.offs) (hv : BAt H v r.B) :
    Sound Tryz.prog 96 [.agg (stV s.epoch s.term s.leader vm vo).toArray, v] H fun w H' => H <+: H' ∧ ∃ vm' vo', w = .tuple #[.agg (stV (r.run s).epoch (r.run s).term (r.run s).leader vm' vo').toArray, .bool true] ∧ Own b H' Meta.cells 8 vm' (r.run s).metas ∧ Own b H' encU 1 vo' (r.run s).offs := by
  obtain ⟨am, cm, rfl, sm⟩ := om.sl (fun _ => rfl)
  obtain ⟨ao, co, rfl, so⟩ := oo.sl (fun _ => rfl)
  cases r with
  | txn t =>
    refine (nextTxn s hs.ok t (TxnOk.ok hr) hs.ranked (TxnOk.fresh hr) (TxnOk.moves hr) hs.e (Rec.B_le (r := .txn t) hr).1 am ao cm co sm so hv).mono ?_
    rintro w H' ⟨hp, vm', vo', rfl, h1, h2⟩
    exact ⟨hp, vm', vo', rfl, h1.mono hb, h2.mono hb⟩
  | elect n =>
    refine (nextElect s n hr ⟨hs.ok.term.1, hs.t⟩ am ao cm co hv).mono ?_
    rintro w H' ⟨hp, rfl⟩
    exact ⟨hp, _, _, rfl, om.pre hp, oo.pre hp⟩
set_option maxHeartbeats 2000000 in
theorem replayLaw {b : Nat} {H : AHeap} {p d m gen : Nat} {s1 s : St} {vm1 vo1 : Value} {ops at_ part : Int} {A B : List FileS} {x : FileS} (hp : H[p]? = some (.row (logC d s1 vm1 vo1 gen false) 9 true)) (hd : DiskAt b H d m false ops at_ part (A ++ x :: B))
    (hg : gen < 64) (hx : x.name = nmB gen) (ht : Tells x.l s) (hl : x.l.length < 3500000) (hpd : ∀ j, footD d m (A ++ x :: B) j → j ≠ p) :
    Sound Tryz.prog 59 [ptrV p, .int .i64 s.offs.length] H fun v H' => v = .nilIface ∧ But p H H' ∧ ∃ vm vo, H'[p]? = some (.row (logC d s vm vo gen false) 9 true) ∧ Own H.length H' Meta.cells 8 vm s.metas ∧ Own H.length H' encU 1 vo s.offs := by
  refine Sound.of_body (rs := [.tmp 4]) mixed Tryz.func59 rfl (by kernel_rfl) rfl (by kernel_rfl) ?_
  have hne := ht.ne
  have hnm := nm_ok hg
  obtain ⟨s0, l, hok, hbytes, rfl⟩ := ht
  simp -dsimp only [go_sem, ↓reduceIte, Nat.reduceEqDiff, Nat.reduceAdd, Nat.reduceMul, Nat.reduceSub, Nat.reduceLeDiff, Nat.reduceLT]
  refine adrawnP_of2 [(0, false), (1, false), (2, false), (3, false), (4, false), (5, false), (6, false), (7, false), (8, true), (9, false), (10, false), (11, false), (12, false), (13, false), (14, false)] (by kernel_rfl) ?_
  simp -dsimp only [go_sem, ↓reduceIte, Nat.reduceEqDiff, Nat.reduceAdd, Nat.reduceMul, Nat.reduceSub, Nat.reduceLeDiff, Nat.reduceLT, hp]
  refine SoundP_of (nameLaw gen hg H) ?_
  rintro _ K ⟨rfl, hK⟩
  rw [hK]
  clear hK
  have hrd := readD hd (by rw [hx]; exact hnm.1) hne hl
  rw [hx] at hrd
  simp -dsimp only [go_sem, ↓reduceIte, Nat.reduceEqDiff, Nat.reduceAdd, Nat.reduceMul, Nat.reduceSub, Nat.reduceLeDiff, Nat.reduceLT]
  refine SoundP_of hrd ?_
  rintro _ H1 ⟨p1, w, rfl, bw⟩
  refine grown_any p1 ?_
  have hp1 := pre_get p1 hp
  rw [hbytes] at bw
  have hs0 := hok.good
  have hle0 := St.B_le hs0.ok
  have hrl : (recsB l).length < 4000000000 := by
    have := congrArg List.length hbytes
    rw [List.length_append] at this
    omega
  simp -dsimp only [go_sem, ↓reduceIte, Nat.reduceEqDiff, Nat.reduceAdd, Nat.reduceMul, Nat.reduceSub, Nat.reduceLeDiff, Nat.reduceLT, Int.reduceBNe]
  refine SoundP_of (frameLaw2 s0.B (recsB l) hle0.2 hle0.1 hrl bw) ?_
  rintro _ H2 ⟨p2, v1, v2, rfl, b1, b2⟩
  simp -dsimp only [go_sem, ↓reduceIte, Nat.reduceEqDiff, Nat.reduceAdd, Nat.reduceMul, Nat.reduceSub, Nat.reduceLeDiff, Nat.reduceLT]
  refine SoundP_of (readStateLaw s0 hs0.ok hs0.n1 b1) ?_
  rintro _ H3 ⟨p3, vm, vo, rfl, om, oo⟩
  have q3 := (p1.trans p2).trans p3
  have hp3 := pre_get q3 hp
  have b3 := b2.pre p3
  have px := List.prefix_append H3 [AObj.row (stV s0.epoch s0.term s0.leader vm vo) 5 true]
  have cx := get_end H3 (AObj.row (stV s0.epoch s0.term s0.leader vm vo) 5 true) []
  have hlen := runs_len l s0
  obtain ⟨ao, co, rfl, so⟩ := oo.sl (fun _ => rfl)
  have z1 : ((s0.offs.length : Int) != ((runs s0 l).offs.length : Int)) = false := by rw [hlen]; simp
  simp -dsimp only [go_sem, ↓reduceIte, Nat.reduceEqDiff, Nat.reduceAdd, Nat.reduceMul, Nat.reduceSub, Nat.reduceLeDiff, Nat.reduceLT, own_one om, z1]
  have lt3 := pre_len q3
  have hpl := get_lt hp
  have oo' : Own H.length H3 encU 1 (.slice ao s0.offs.length co) s0.offs := oo.mono (pre_len (p1.trans p2))
  have om' := om.mono (pre_len (p1.trans p2))
  generalize (Value.slice ao s0.offs.length co) = vo at *
  refine aloopP_of (fun k T H' => ∃ (l1 l2 : List Rec) (v8 vm vo vmp vop : Value) (sp : St), k = l2.length ∧ l = l1 ++ l2 ∧ H.length ≤ H'.length ∧ But p H H' ∧ H'[p]? = some (.row (logC d sp vmp vop gen false) 9 true) ∧ H'[H3.length]? = some (.row (stV (runs s0 l1).epoch (runs s0 l1).term (runs s0 l1).leader vm vo) 5 true) ∧
      Own H.length H' Meta.cells 8 vm (runs s0 l1).metas ∧ Own H.length H' encU 1 vo (runs s0 l1).offs ∧ BAt H' v8 (recsB l2) ∧ OkRecs (runs s0 l1) l2 ∧ T 0 = ptrV p ∧ T 8 = v8 ∧ T 10 = ptrV H3.length) (n := l.length) ?_ ?_
  · refine ⟨[], l, v2, vm, vo, vm1, vo1, s1, ?_⟩
    simp -dsimp only [go_sem, ↓reduceIte, Nat.reduceEqDiff, Nat.reduceAdd, Nat.reduceMul, Nat.reduceSub, Nat.reduceLeDiff, Nat.reduceLT]
    exact ⟨by omega, but_pre (q3.trans px), pre_get px hp3, rfl, om'.pre px, oo'.pre px, b3.pre px, hok⟩
  · rintro k T H' ⟨l1, l2, v8, vm, vo, vmp, vop, sp, rfl, rfl, hlen', hb, hpp, hq, om, oo, b8, hok2, t0, t8, t10⟩
    have hG := hok2.good
    have hs2 : ∀ j, j ≠ p → (H'.set p (.row (logC d (runs s0 l1) vm vo gen false) 9 true))[j]? = H'[j]? := fun j hj => List.getElem?_set_ne (Ne.symm hj)
    have hpp2 := List.getElem?_set_self (a := AObj.row (logC d (runs s0 l1) vm vo gen false) 9 true) (get_lt hpp)
    have hq2 := (hs2 _ (show H3.length ≠ p by omega)).trans hq
    have om2 := own_set hpp om (by decide) (.row (logC d (runs s0 l1) vm vo gen false) 9 true)
    have oo2 := own_set hpp oo (by decide) (.row (logC d (runs s0 l1) vm vo gen false) 9 true)
    have b82 : BAt (H'.set p (.row (logC d (runs s0 l1) vm vo gen false) 9 true)) v8 (recsB l2) := b8.keep fun id hid => hs2 id fun e => by
      subst e
      obtain ⟨cs, h2⟩ := b8.row1 hid
      rw [hpp] at h2
      simp at h2
    have hb2 : But p H (H'.set p (.row (logC d (runs s0 l1) vm vo gen false) 9 true)) := ⟨by rw [List.length_set]; omega, fun j hj hn => (hs2 j hn).trans (hb.2 j hj hn)⟩
    have hl2 : (H'.set p (.row (logC d (runs s0 l1) vm vo gen false) 9 true)).length = H'.length := List.length_set
    simp -dsimp only [go_sem, ↓reduceIte, Nat.reduceEqDiff, Nat.reduceAdd, Nat.reduceMul, Nat.reduceSub, Nat.reduceLeDiff, Nat.reduceLT, t0, t8, t10, hq, hpp, own_one om, own_one oo]
    generalize H'.set p (.row (logC d (runs s0 l1) vm vo gen false) 9 true) = H4 at *
    cases l2 with
    | nil =>
      refine SoundP_of (frameNone b82) ?_
      rintro _ K ⟨rfl, hK⟩
      rw [hK]
      clear hK
      simp -dsimp only [go_sem, ↓reduceIte, Nat.reduceEqDiff, Nat.reduceAdd, Nat.reduceMul, Nat.reduceSub, Nat.reduceLeDiff, Nat.reduceLT, t0, t8, t10]
      rw [List.append_nil]
      exact ⟨hb2, vm, vo, hpp2, om2, oo2⟩
    | cons r l2 =>
      have hrb := Rec.B_le hok2.2.1
      have hrl2 : (recsB l2).length < 4000000000 := by
        have : (recsB (l1 ++ r :: l2)).length < 4000000000 := hrl
        simp only [recsB, List.flatMap_append, List.flatMap_cons, List.length_append] at this ⊢
        omega
      refine SoundP_of (frameLaw2 r.B (recsB l2) hrb.2 hrb.1 hrl2 b82) ?_
      rintro _ H5 ⟨p5, w1, w2, rfl, bw1, bw2⟩
      have hq5 := pre_get p5 hq2
      simp -dsimp only [go_sem, ↓reduceIte, Nat.reduceEqDiff, Nat.reduceAdd, Nat.reduceMul, Nat.reduceSub, Nat.reduceLeDiff, Nat.reduceLT, t0, t8, t10, hq5]
      refine SoundP_of (nextLaw (runs s0 l1) hG r hok2.2.1 (by have := pre_len p5; omega) (om2.pre p5) (oo2.pre p5) bw1) ?_
      rintro _ H6 ⟨p6, vm6, vo6, rfl, om6, oo6⟩
      have q6 := p5.trans p6
      have hq6 := pre_get q6 hq2
      have hpp6 := pre_get q6 hpp2
      have hrun : runs s0 (l1 ++ [r]) = r.run (runs s0 l1) := by simp [runs]
      have hs6 : ∀ j, j ≠ H3.length → (H6.set H3.length (.row (stV (r.run (runs s0 l1)).epoch (r.run (runs s0 l1)).term (r.run (runs s0 l1)).leader vm6 vo6) 5 true))[j]? = H6[j]? := fun j hj => List.getElem?_set_ne (Ne.symm hj)
      have hl6 := pre_len q6
      simp -dsimp only [go_sem, ↓reduceIte, Nat.reduceEqDiff, Nat.reduceAdd, Nat.reduceMul, Nat.reduceSub, Nat.reduceLeDiff, Nat.reduceLT, t0, t8, t10, hq6, own_one om6, own_one oo6]
      refine ⟨_, Nat.lt_succ_self _, l1 ++ [r], l2, w2, vm6, vo6, vm, vo, runs s0 l1, rfl, by simp, by rw [List.length_set]; omega, ⟨by rw [List.length_set]; omega, fun j hj hn => ?_⟩, (hs6 p (by omega)).trans hpp6, ?_, ?_, ?_, ?_, ?_, rfl⟩
      · rw [hs6 j (by omega)]
        obtain ⟨L, rfl⟩ := q6
        rw [List.getElem?_append_left (by omega)]
        exact hb2.2 j hj hn
      · rw [hrun]; exact List.getElem?_set_self (get_lt hq6)
      · rw [hrun]; exact own_set hq6 om6 (by decide) _
      · rw [hrun]; exact own_set hq6 oo6 (by decide) _
      · exact (bw2.pre p6).keep fun id hid => hs6 id fun e => by
          subst e
          obtain ⟨cs, h2⟩ := (bw2.pre p6).row1 hid
          rw [hq6] at h2
          simp at h2
      · rw [hrun]; exact hok2.2.2
end Go.Proofs.YtekpdopbiklkfaaGreatDoor
end
section
set_option linter.unusedVariables false
set_option linter.unusedSimpArgs false
namespace Go.Proofs.YtekpdopbiklkfaaGreatDoor
open Go Go.AW
set_option linter.unusedSimpArgs false
set_option maxRecDepth 20000
structure LogAt (b : Nat) (H : AHeap) (p d m gen : Nat) (own : Bool) (s : St) (vm vo : Value) (ops : Int) (M : List FileS) : Prop where
  bp : b ≤ p
  at_ : H[p]? = some (.row (logC d s vm vo gen own) 9 true)
  om : Own b H Meta.cells 8 vm s.metas
  oo : Own b H encU 1 vo s.offs
  disk : DiskAt b H d m false ops (-1) 0 M
  sep : ∀ x ∈ M, ∀ j, owner vo = some j → owner x.v ≠ some j
def footL (p d m : Nat) (vm vo : Value) (M : List FileS) (j : Nat) : Prop := j = p ∨ owner vm = some j ∨ owner vo = some j ∨ footD d m M j
variable {b : Nat} {H H' : AHeap} {p d m gen : Nat} {own : Bool} {s : St} {vm vo : Value} {ops : Int} {M M' : List FileS}
theorem LogAt.lt (h : LogAt b H p d m gen own s vm vo ops M) : p < H.length := get_lt h.at_
theorem LogAt.pre (h : LogAt b H p d m gen own s vm vo ops M) (hp : H <+: H') : LogAt b H' p d m gen own s vm vo ops M :=
  ⟨h.bp, pre_get hp h.at_, h.om.pre hp, h.oo.pre hp, h.disk.pre hp, h.sep⟩
theorem disk_kinds {ops at_ part : Int} {off : Bool} (h : DiskAt b H d m off ops at_ part M) {j : Nat} (hj : footD d m M j) : (∃ cs k, H[j]? = some (.row cs k true) ∧ (k = 5 ∨ k = 2 ∨ (k = 1 ∧ ∃ x ∈ M, owner x.v = some j))) ∨ (∃ es ck, H[j]? = some (.map es ck)) := by
  rcases hj with rfl | rfl | ⟨x, hx, rfl | hj⟩
  · exact .inl ⟨_, 5, h.at_, .inl rfl⟩
  · obtain ⟨es, ck, h1, _⟩ := h.dict
    exact .inr ⟨es, ck, h1⟩
  · exact .inl ⟨_, 2, (h.files x hx).at_, .inr (.inl rfl)⟩
  · obtain ⟨cs, h1⟩ := own_rowK (h.files x hx).own hj
    exact .inl ⟨cs, 1, h1, .inr (.inr ⟨rfl, x, hx, hj⟩)⟩
theorem row_notD {ops at_ part : Int} {off : Bool} (h : DiskAt b H d m off ops at_ part M) {j k : Nat} {cs : List Value} (hj : H[j]? = some (.row cs k true)) (hk : k ≠ 5 ∧ k ≠ 2 ∧ k ≠ 1) : ¬ footD d m M j := fun q => by
  rcases disk_kinds h q with ⟨cs2, k2, h2, h3⟩ | ⟨es, ck, h2⟩
  · rw [hj] at h2
    simp at h2
    omega
  · rw [hj] at h2; cases h2
theorem LogAt.p_notD (h : LogAt b H p d m gen own s vm vo ops M) : ¬ footD d m M p := row_notD h.disk h.at_ (by decide)
theorem LogAt.m_notD (h : LogAt b H p d m gen own s vm vo ops M) {j : Nat} (hj : owner vm = some j) : ¬ footD d m M j := by
  obtain ⟨cs, h1⟩ := own_rowK h.om hj
  exact row_notD h.disk h1 (by decide)
theorem LogAt.o_notD (h : LogAt b H p d m gen own s vm vo ops M) {j : Nat} (hj : owner vo = some j) : ¬ footD d m M j := fun q => by
  obtain ⟨cs, h1⟩ := own_rowK h.oo hj
  rcases disk_kinds h.disk q with ⟨cs2, k2, h2, h3⟩ | ⟨es, ck, h2⟩
  · rw [h1] at h2
    simp only [Option.some.injEq, AObj.row.injEq] at h2
    rcases h3 with h3 | h3 | ⟨-, x, hx, h3⟩
    · omega
    · omega
    · exact h.sep x hx j hj h3
  · rw [h1] at h2; cases h2
theorem LogAt.step {ops' : Int} (h : LogAt b H p d m gen own s vm vo ops M) (hd : DiskAt b H' d m false ops' (-1) 0 M') (hc : Chg (footD d m M) (footD d m M') H H') : LogAt b H' p d m gen own s vm vo ops' M' := by
  refine ⟨h.bp, (hc.fr p h.lt h.p_notD).trans h.at_, h.om.keep fun id hid => hc.fr id (h.om.owner_ge hid).2 (h.m_notD hid), h.oo.keep fun id hid => hc.fr id (h.oo.owner_ge hid).2 (h.o_notD hid), hd, fun x hx j hj hj2 => ?_⟩
  rcases hc.ow j (.inr (.inr ⟨x, hx, .inr hj2⟩)) with q | q
  · exact h.o_notD hj q
  · have := (h.oo.owner_ge hj).2; omega
theorem LogAt.step_chg {F F' : Nat → Prop} (hc : Chg F F' H H') : Chg (fun j => j = p ∨ owner vm = some j ∨ owner vo = some j ∨ F j) (fun j => j = p ∨ owner vm = some j ∨ owner vo = some j ∨ F' j) H H' :=
  ⟨hc.len, fun j hj hn => hc.fr j hj fun q => hn (.inr (.inr (.inr q))), fun j hj => by
    rcases hj with h | h | h | h
    · exact .inl (.inl h)
    · exact .inl (.inr (.inl h))
    · exact .inl (.inr (.inr (.inl h)))
    · exact (hc.ow j h).imp (fun q => .inr (.inr (.inr q))) fun q => q⟩
theorem LogAt.set (h : LogAt b H p d m gen own s vm vo ops M) (gen2 : Nat) (own2 : Bool) {s2 : St} {vm2 vo2 : Value} (om2 : Own b H Meta.cells 8 vm2 s2.metas) (oo2 : Own b H encU 1 vo2 s2.offs) (hs : ∀ x ∈ M, ∀ j, owner vo2 = some j → owner x.v ≠ some j) :
    LogAt b (H.set p (.row (logC d s2 vm2 vo2 gen2 own2) 9 true)) p d m gen2 own2 s2 vm2 vo2 ops M := by
  have f : ∀ j, j ≠ p → (H.set p (.row (logC d s2 vm2 vo2 gen2 own2) 9 true))[j]? = H[j]? := fun j hj => List.getElem?_set_ne (Ne.symm hj)
  exact ⟨h.bp, List.getElem?_set_self h.lt, own_set h.at_ om2 (by decide) _, own_set h.at_ oo2 (by decide) _, h.disk.keep fun j hj => f j fun e => h.p_notD (e ▸ hj), hs⟩
theorem chg_p {F : Nat → Prop} (o : AObj) (hp : F p) : Chg F F H (H.set p o) :=
  ⟨by rw [List.length_set]; exact Nat.le_refl _, fun j _ hn => List.getElem?_set_ne fun q => by subst q; exact hn hp, fun _ h => .inl h⟩
theorem LogAt.foot (h : LogAt b H p d m gen own s vm vo ops M) {j : Nat} (hj : footL p d m vm vo M j) : b ≤ j ∧ j < H.length := by
  rcases hj with rfl | hj | hj | hj
  · exact ⟨h.bp, h.lt⟩
  · exact h.om.owner_ge hj
  · exact h.oo.owner_ge hj
  · exact h.disk.foot hj
theorem LogAt.keep (h : LogAt b H p d m gen own s vm vo ops M) (hk : ∀ j, footL p d m vm vo M j → H'[j]? = H[j]?) : LogAt b H' p d m gen own s vm vo ops M :=
  ⟨h.bp, (hk p (.inl rfl)).trans h.at_, h.om.keep fun j hj => hk j (.inr (.inl hj)), h.oo.keep fun j hj => hk j (.inr (.inr (.inl hj))), h.disk.keep fun j hj => hk j (.inr (.inr (.inr hj))), h.sep⟩
end Go.Proofs.YtekpdopbiklkfaaGreatDoor
end
section
set_option linter.unusedVariables false
set_option linter.unusedSimpArgs false
namespace Go.Proofs.YtekpdopbiklkfaaGreatDoor
open Go Go.AW
set_option maxRecDepth 100000
theorem numberRuns0 : ((List.range 8).all fun k => ranTo (.int .u64 ((0 + k : Nat) : Int)) (rFn Tryz.prog plans 100 noExt 61 58 [.string (nmB (0 + k))] [])) = true := by kernel_rfl
end Go.Proofs.YtekpdopbiklkfaaGreatDoor
end
section
set_option linter.unusedVariables false
set_option linter.unusedSimpArgs false
namespace Go.Proofs.YtekpdopbiklkfaaGreatDoor
open Go Go.AW
set_option maxRecDepth 100000
theorem numberRuns1 : ((List.range 8).all fun k => ranTo (.int .u64 ((8 + k : Nat) : Int)) (rFn Tryz.prog plans 100 noExt 61 58 [.string (nmB (8 + k))] [])) = true := by kernel_rfl
end Go.Proofs.YtekpdopbiklkfaaGreatDoor
end
section
set_option linter.unusedVariables false
set_option linter.unusedSimpArgs false
namespace Go.Proofs.YtekpdopbiklkfaaGreatDoor
open Go Go.AW
set_option maxRecDepth 100000
theorem numberRuns2 : ((List.range 8).all fun k => ranTo (.int .u64 ((16 + k : Nat) : Int)) (rFn Tryz.prog plans 100 noExt 61 58 [.string (nmB (16 + k))] [])) = true := by kernel_rfl
end Go.Proofs.YtekpdopbiklkfaaGreatDoor
end
section
set_option linter.unusedVariables false
set_option linter.unusedSimpArgs false
namespace Go.Proofs.YtekpdopbiklkfaaGreatDoor
open Go Go.AW
set_option maxRecDepth 100000
theorem numberRuns3 : ((List.range 8).all fun k => ranTo (.int .u64 ((24 + k : Nat) : Int)) (rFn Tryz.prog plans 100 noExt 61 58 [.string (nmB (24 + k))] [])) = true := by kernel_rfl
end Go.Proofs.YtekpdopbiklkfaaGreatDoor
end
section
set_option linter.unusedVariables false
set_option linter.unusedSimpArgs false
namespace Go.Proofs.YtekpdopbiklkfaaGreatDoor
open Go Go.AW
set_option maxRecDepth 100000
theorem numberRuns4 : ((List.range 8).all fun k => ranTo (.int .u64 ((32 + k : Nat) : Int)) (rFn Tryz.prog plans 100 noExt 61 58 [.string (nmB (32 + k))] [])) = true := by kernel_rfl
end Go.Proofs.YtekpdopbiklkfaaGreatDoor
end
section
set_option linter.unusedVariables false
set_option linter.unusedSimpArgs false
namespace Go.Proofs.YtekpdopbiklkfaaGreatDoor
open Go Go.AW
set_option maxRecDepth 100000
theorem numberRuns5 : ((List.range 8).all fun k => ranTo (.int .u64 ((40 + k : Nat) : Int)) (rFn Tryz.prog plans 100 noExt 61 58 [.string (nmB (40 + k))] [])) = true := by kernel_rfl
end Go.Proofs.YtekpdopbiklkfaaGreatDoor
end
section
set_option linter.unusedVariables false
set_option linter.unusedSimpArgs false
namespace Go.Proofs.YtekpdopbiklkfaaGreatDoor
open Go Go.AW
set_option maxRecDepth 100000
theorem numberRuns6 : ((List.range 8).all fun k => ranTo (.int .u64 ((48 + k : Nat) : Int)) (rFn Tryz.prog plans 100 noExt 61 58 [.string (nmB (48 + k))] [])) = true := by kernel_rfl
end Go.Proofs.YtekpdopbiklkfaaGreatDoor
end
section
set_option linter.unusedVariables false
set_option linter.unusedSimpArgs false
namespace Go.Proofs.YtekpdopbiklkfaaGreatDoor
open Go Go.AW
set_option maxRecDepth 100000
theorem numberRuns7 : ((List.range 8).all fun k => ranTo (.int .u64 ((56 + k : Nat) : Int)) (rFn Tryz.prog plans 100 noExt 61 58 [.string (nmB (56 + k))] [])) = true := by kernel_rfl
end Go.Proofs.YtekpdopbiklkfaaGreatDoor
end
section
set_option linter.unusedVariables false
set_option linter.unusedSimpArgs false
namespace Go.Proofs.YtekpdopbiklkfaaGreatDoor
open Go Go.AW
set_option maxRecDepth 100000
theorem numberAt (c k : Nat) (hk : k < 8) (hr : ((List.range 8).all fun k => ranTo (.int .u64 ((c + k : Nat) : Int)) (rFn Tryz.prog plans 100 noExt 61 58 [.string (nmB (c + k))] [])) = true) (H : AHeap) :
    Sound Tryz.prog 58 [.string (nmB (c + k))] H fun v K => v = .int .u64 ((c + k : Nat) : Int) ∧ K = H :=
  Sound.of_ran (pl := plans) (lf := 100) (n := 60) (ext := noExt) mixed (noExt_ok _) rfl (List.all_eq_true.1 hr k (List.mem_range.2 hk)) rfl rfl H
theorem numberLaw' (k : Nat) (hk : k < 64) (H : AHeap) : Sound Tryz.prog 58 [.string (nmB k)] H fun v K => v = .int .u64 (k : Nat) ∧ K = H := by
  obtain ⟨c, i, hi, rfl⟩ : ∃ c i, i < 8 ∧ k = 8 * c + i := ⟨k / 8, k % 8, Nat.mod_lt _ (by omega), by omega⟩
  obtain h | h | h | h | h | h | h | h : c = 0 ∨ c = 1 ∨ c = 2 ∨ c = 3 ∨ c = 4 ∨ c = 5 ∨ c = 6 ∨ c = 7 := by omega
  · subst h; exact numberAt 0 i hi numberRuns0 H
  · subst h; exact numberAt 8 i hi numberRuns1 H
  · subst h; exact numberAt 16 i hi numberRuns2 H
  · subst h; exact numberAt 24 i hi numberRuns3 H
  · subst h; exact numberAt 32 i hi numberRuns4 H
  · subst h; exact numberAt 40 i hi numberRuns5 H
  · subst h; exact numberAt 48 i hi numberRuns6 H
  · subst h; exact numberAt 56 i hi numberRuns7 H
end Go.Proofs.YtekpdopbiklkfaaGreatDoor
end
