/-
  The document's Add and Remove. The document's Remove.
-/
import Derived.Test.YthbifkeadbmcnaaRefLook
set_option linter.unusedVariables false
set_option linter.unusedSimpArgs false
namespace Go.Proofs.Ythbifkeadbmcnaa
open Go Go.AW Go.Bub
set_option linter.unusedSimpArgs false
set_option maxRecDepth 20000

/-- a Line of our own -/
structure LineAt (b : Nat) (H : AHeap) (q : Nat) (v : Value) (L : List Seg) : Prop where
  bq : b ≤ q
  at_ : H[q]? = some (.row [v] 1 true)
  own : OwnS b H v L
  ne : owner v ≠ some q
theorem LineAt.pre {b : Nat} {H H' : AHeap} {q : Nat} {v : Value} {L : List Seg} (h : LineAt b H q v L) (hp : H <+: H') : LineAt b H' q v L := ⟨h.bq, pre_get hp h.at_, h.own.pre hp, h.ne⟩
theorem LineAt.keep {b : Nat} {H H' : AHeap} {q : Nat} {v : Value} {L : List Seg} (h : LineAt b H q v L) (hq : H'[q]? = H[q]?) (ho : ∀ j, owner v = some j → H'[j]? = H[j]?) : LineAt b H' q v L := ⟨h.bq, by rw [hq]; exact h.at_, h.own.keep ho, h.ne⟩
theorem LineAt.read {b : Nat} {H : AHeap} {q : Nat} {v : Value} {L : List Seg} (h : LineAt b H q v L) : ∃ a c, v = .slice a L.length c ∧ LineR H q a c L := by
  obtain ⟨a, c, rfl, sl⟩ := h.own.sl (fun _ => rfl)
  exact ⟨a, c, rfl, h.at_, sl⟩
def otherP (s z : Seg) : Bool := decide (z.key = s.key) && (z.c != s.c)
def twiceP (s z : Seg) : Bool := decide (z.key = s.key) && z.p == s.p
/-- what Add answers -/
def addE (L : List Seg) (s : Seg) : Int := if mayB s = false then 1 else if L.any (twiceP s) = true then 121 else if L.any (otherP s) = true then 12 else 0
structure AddL (L : List Seg) (s : Seg) (e : Int) (L' : List Seg) : Prop where
  err : e = addE L s
  bad : e ≠ 0 → L' = L
  sort : e = 0 → StandL L'
  perm : e = 0 → L'.Perm (L ++ [s])
theorem standL_once {L : List Seg} (h : StandL L) : OnceL L := h.imp fun {a b} (h : standsR a b = true) q => by
  rw [standsR_iff] at h
  have kf : a.f = b.f := congrArg Key.f q.1
  have kt : a.t = b.t := congrArg Key.t q.1
  have kv : a.v = b.v := congrArg Key.v q.1
  have := q.2
  omega
theorem stands_trans {x y z : Seg} (h : standsR x y = true) (h2 : standsR y z = true) : standsR x z = true := by rw [standsR_iff] at *; omega
theorem wr64' {i : Nat} (h : i < 4611686018427387904) : IntKind.i64.wrap ((i : Int) + 1 - 1) = (i : Int) := by
  rw [show (i : Int) + 1 - 1 = i by omega]; exact wr64 (by omega) (by omega)
set_option maxHeartbeats 1000000 in
theorem refAdd (L : List Seg) (s : Seg) (b : Nat) (H : AHeap) (q : Nat) (v : Value) (h : LineAt b H q v L) (hb : b ≤ H.length) (hS : StandL L) (hl : L.length < 90000) :
    Sound Try.prog 33 [ptrV q, s.val] H fun r H' => ∃ v' L' e, r = .int .i64 e ∧ LineAt b H' q v' L' ∧ AddL L s e L' ∧ H.length ≤ H'.length ∧
      (∀ j, j < H.length → j ≠ q → owner v ≠ some j → H'[j]? = H[j]?) ∧ ∀ j, owner v' = some j → owner v = some j ∨ H.length ≤ j := by
  refine Sound.of_body (rs := [.tmp 4]) mixed Try.func33 rfl (by kernel_rfl) rfl (by kernel_rfl) ?_
  have p0 := List.prefix_append H [AObj.row s.cells 5 true]
  have b0 := get_end H (AObj.row s.cells 5 true) []
  dsimp only [Seg.cells] at p0 b0
  simp -dsimp only [go_sem, ↓reduceIte, Nat.reduceEqDiff, Nat.reduceAdd, Nat.reduceMul, Nat.reduceSub, Nat.reduceLeDiff, Nat.reduceLT, b0]
  obtain ⟨ib, hib⟩ : ∃ ib, H.length = ib := ⟨_, rfl⟩
  rw [hib] at b0
  rw [hib]
  obtain ⟨H1, hH1⟩ : ∃ H1, H ++ [AObj.row [.int .i64 s.f, .int .i64 s.t, .int .i64 s.v, .int .i64 s.p, .int .i64 s.c] 5 true] = H1 := ⟨_, rfl⟩
  have l1 : H1.length = H.length + 1 := by rw [← hH1]; simp
  have hq := get_lt h.at_
  have owl := fun j (hj : owner v = some j) => h.own.owner_ge hj
  rw [hH1] at p0 b0
  rw [hH1]
  refine SoundP_of (refMay s H1) ?_
  rintro _ H2 ⟨rfl, p2⟩
  have p02 := p0.trans p2
  have b2 := pre_get p2 b0
  have same : ∀ H', H <+: H' → ∀ e, e = addE L s → e ≠ 0 → ∃ v' L' e', Value.int .i64 e = Value.int .i64 e' ∧ LineAt b H' q v' L' ∧ AddL L s e' L' ∧ ib ≤ H'.length ∧
      (∀ j, j < ib → j ≠ q → owner v ≠ some j → H'[j]? = H[j]?) ∧ ∀ j, owner v' = some j → owner v = some j ∨ ib ≤ j := fun H' pp e he h0 =>
    ⟨v, L, e, rfl, h.pre pp, ⟨he, fun _ => rfl, fun q => absurd q h0, fun q => absurd q h0⟩, by have := pre_len pp; omega, fun j hj _ _ => by
      obtain ⟨o, ho⟩ : ∃ o, H[j]? = some o := get_ex (by omega)
      rw [ho]; exact pre_get pp ho, fun j hj => .inl hj⟩
  cases hm : mayB s with
  | false =>
    simp -dsimp only [go_sem, ↓reduceIte, Nat.reduceEqDiff, Nat.reduceAdd, Nat.reduceMul, Nat.reduceSub, Nat.reduceLeDiff, Nat.reduceLT, hm]
    exact same H2 p02 1 (by unfold addE; rw [if_pos hm]) (by decide)
  | true =>
    simp -dsimp only [go_sem, ↓reduceIte, Nat.reduceEqDiff, Nat.reduceAdd, Nat.reduceMul, Nat.reduceSub, Nat.reduceLeDiff, Nat.reduceLT, hm]
    refine aloopP_of (fun n T H' => ∃ (i : Nat), n = L.length - i ∧ i ≤ L.length ∧ T 0 = ptrV q ∧ T 3 = ptrV ib ∧ T 6 = .bool ((L.take i).any (otherP s)) ∧ T 7 = .int .i64 (i : Nat) ∧ H2 <+: H' ∧ (L.take i).any (twiceP s) = false) (n := L.length) ?_ ?_
    · refine ⟨0, ?_⟩
      simp -dsimp only [go_sem, ↓reduceIte, Nat.reduceEqDiff, Nat.reduceAdd, Nat.reduceMul, Nat.reduceSub, Nat.reduceLeDiff, Nat.reduceLT]
      exact ⟨rfl, Nat.zero_le _, rfl, rfl, List.prefix_refl _, rfl⟩
    rintro n T H3 ⟨i, rfl, hi, t0, t3, t6, t7, p3, htw⟩
    have p03 := p02.trans p3
    have h3 := h.pre p03
    have b3 := pre_get p3 b2
    obtain ⟨a, c, rfl, r3⟩ := h3.read
    have g3 := r3.at_
    simp -dsimp only [go_sem, ↓reduceIte, Nat.reduceEqDiff, Nat.reduceAdd, Nat.reduceMul, Nat.reduceSub, Nat.reduceLeDiff, Nat.reduceLT, t0, t3, t6, t7, g3]
    refine acondP_of (fun hc => ?_) (fun hc => ?_)
    · simp at hc
      obtain ⟨z, hz⟩ := get_ex hc
      obtain ⟨id, off, rfl, hat⟩ := r3.sl.at (by omega)
      have hzz := hat i z hz
      have w1 := wrS (show i < 4611686018427387904 by omega)
      have st1 := any_step (f := otherP s) hz
      have st2 := any_step (f := twiceP s) hz
      simp -dsimp only [go_sem, ↓reduceIte, Nat.reduceEqDiff, Nat.reduceAdd, Nat.reduceMul, Nat.reduceSub, Nat.reduceLeDiff, Nat.reduceLT, t0, t3, t6, t7]
      refine adrawnP_of2 [(0, false), (1, false), (2, false), (3, false), (4, false), (5, false), (6, false), (7, false), (8, false), (9, false)] (by kernel_rfl) ?_
      simp -dsimp only [go_sem, ↓reduceIte, Nat.reduceEqDiff, Nat.reduceAdd, Nat.reduceMul, Nat.reduceSub, Nat.reduceLeDiff, Nat.reduceLT, t0, t3, t6, t7, g3, b3, inRange hc, rowLoad_whole hzz]
      refine SoundP_of (refOne z s H3) ?_
      rintro _ H4 ⟨rfl, p4⟩
      have g4 := pre_get p4 g3
      have b4 := pre_get p4 b3
      have gP : ∀ mm, (H4[id]?).bind (rowLoad (some false) mm (off + i * 5 + 3)) = some (.int .i64 z.p) := fun mm => rowLoad_cell (aload_pre p4 hzz) mm 3 (by decide)
      have gC : ∀ mm, (H4[id]?).bind (rowLoad (some false) mm (off + i * 5 + 4)) = some (.int .i64 z.c) := fun mm => rowLoad_cell (aload_pre p4 hzz) mm 4 (by decide)
      simp -dsimp only [go_sem, ↓reduceIte, Nat.reduceEqDiff, Nat.reduceAdd, Nat.reduceMul, Nat.reduceSub, Nat.reduceLeDiff, Nat.reduceLT, t0, t3, t6, t7]
      refine adrawnP_of2 [(0, false), (1, false), (2, false), (3, false), (4, false), (5, false), (6, false), (7, false), (8, false), (9, false), (10, false), (11, false), (12, false), (13, false)] (by kernel_rfl) ?_
      cases e1 : decide (z.key = s.key) with
      | false =>
        have o1 : otherP s z = false := by unfold otherP; rw [e1]; rfl
        have o2 : twiceP s z = false := by unfold twiceP; rw [e1]; rfl
        simp -dsimp only [go_sem, ↓reduceIte, Nat.reduceEqDiff, Nat.reduceAdd, Nat.reduceMul, Nat.reduceSub, Nat.reduceLeDiff, Nat.reduceLT, t0, t3, t6, t7, e1]
        refine adrawnP_of2 [(0, false), (1, false), (2, false), (3, false), (4, false), (5, false), (6, false), (7, false), (8, false), (9, false), (10, false), (11, false), (12, false), (13, false), (14, false), (15, false), (16, false), (17, false)] (by kernel_rfl) ?_
        cases e2 : (L.take i).any (otherP s) with
        | true =>
          simp -dsimp only [go_sem, ↓reduceIte, Nat.reduceEqDiff, Nat.reduceAdd, Nat.reduceMul, Nat.reduceSub, Nat.reduceLeDiff, Nat.reduceLT, t0, t3, t6, t7, e1, e2, w1]
          exact ⟨_, by omega, i + 1, rfl, hc, by rw [st1, e2]; rfl, rfl, p3.trans p4, by rw [st2, htw, o2]; rfl⟩
        | false =>
          simp -dsimp only [go_sem, ↓reduceIte, Nat.reduceEqDiff, Nat.reduceAdd, Nat.reduceMul, Nat.reduceSub, Nat.reduceLeDiff, Nat.reduceLT, t0, t3, t6, t7, e1, e2, w1]
          exact ⟨_, by omega, i + 1, rfl, hc, by rw [st1, e2, o1]; rfl, rfl, p3.trans p4, by rw [st2, htw, o2]; rfl⟩
      | true =>
        simp -dsimp only [go_sem, ↓reduceIte, Nat.reduceEqDiff, Nat.reduceAdd, Nat.reduceMul, Nat.reduceSub, Nat.reduceLeDiff, Nat.reduceLT, t0, t3, t6, t7, e1, g4, b4, inRange hc, gP]
        cases e3 : (z.p == s.p) with
        | true =>
          simp -dsimp only [go_sem, ↓reduceIte, Nat.reduceEqDiff, Nat.reduceAdd, Nat.reduceMul, Nat.reduceSub, Nat.reduceLeDiff, Nat.reduceLT, t0, t3, t6, t7, e3]
          have o2 : twiceP s z = true := by unfold twiceP; rw [e1, e3]; rfl
          have hany : L.any (twiceP s) = true := List.any_eq_true.2 ⟨z, List.mem_of_getElem? hz, o2⟩
          exact same H4 (p03.trans p4) 121 (by unfold addE; rw [if_neg (by rw [hm]; decide), if_pos hany]) (by decide)
        | false =>
          have o2 : twiceP s z = false := by unfold twiceP; rw [e1, e3]; rfl
          simp -dsimp only [go_sem, ↓reduceIte, Nat.reduceEqDiff, Nat.reduceAdd, Nat.reduceMul, Nat.reduceSub, Nat.reduceLeDiff, Nat.reduceLT, t0, t3, t6, t7, e3]
          refine adrawnP_of2 [(0, false), (1, false), (2, false), (3, false), (4, false), (5, false), (6, false), (7, false), (8, false), (9, false), (10, false), (11, false), (12, false), (13, false), (14, false), (15, false), (16, false), (17, false)] (by kernel_rfl) ?_
          cases e2 : (L.take i).any (otherP s) with
          | true =>
            simp -dsimp only [go_sem, ↓reduceIte, Nat.reduceEqDiff, Nat.reduceAdd, Nat.reduceMul, Nat.reduceSub, Nat.reduceLeDiff, Nat.reduceLT, t0, t3, t6, t7, e1, e2, w1]
            exact ⟨_, by omega, i + 1, rfl, hc, by rw [st1, e2]; rfl, rfl, p3.trans p4, by rw [st2, htw, o2]; rfl⟩
          | false =>
            simp -dsimp only [go_sem, ↓reduceIte, Nat.reduceEqDiff, Nat.reduceAdd, Nat.reduceMul, Nat.reduceSub, Nat.reduceLeDiff, Nat.reduceLT, t0, t3, t6, t7, e1, e2, w1, g4, b4, inRange hc, gC]
            exact ⟨_, by omega, i + 1, rfl, hc, by rw [st1, e2]; unfold otherP; rw [e1]; rfl, rfl, p3.trans p4, by rw [st2, htw, o2]; rfl⟩
    simp at hc
    obtain rfl : i = L.length := by omega
    rw [List.take_length] at t6 htw
    cases e2 : L.any (otherP s) with
    | true =>
      simp -dsimp only [go_sem, ↓reduceIte, Nat.reduceEqDiff, Nat.reduceAdd, Nat.reduceMul, Nat.reduceSub, Nat.reduceLeDiff, Nat.reduceLT, t0, t3, t6, t7, e2]
      exact same H3 p03 12 (by unfold addE; rw [if_neg (by rw [hm]; decide), if_neg (by rw [htw]; decide), if_pos e2]) (by decide)
    | false =>
      have n3 := pre_len p03
      have g3q := get_lt g3
      obtain ⟨v9, H9, e9, o9, le9, fr9, ow9⟩ := Own.app1b (enc := Seg.cells) un22 el22 inf32 rfl (by decide) (by decide) (fun _ => rfl) (fun _ => rfl) (b := b) (H := H3) (by omega) h3.own s (by omega)
      obtain ⟨a9, c9, rfl, -⟩ := o9.sl (fun _ => rfl)
      rw [List.length_append, List.length_singleton] at e9 o9 ow9
      have q9 : H9[q]? = some (.row [.slice a L.length c] 1 true) := by rw [fr9 q g3q h3.ne]; exact g3
      dsimp only [Seg.cells] at e9
      simp -dsimp only [go_sem, ↓reduceIte, Nat.reduceEqDiff, Nat.reduceAdd, Nat.reduceMul, Nat.reduceSub, Nat.reduceLeDiff, Nat.reduceLT, t0, t3, t6, t7, e2]
      refine adrawnP_of2 [(0, false), (1, false), (2, false), (3, false), (4, false), (5, false), (6, false), (7, false), (8, false), (9, false), (10, false)] (by kernel_rfl) ?_
      obtain ⟨H10, hH10⟩ : ∃ H10, H9.set q (.row [.slice a9 (L.length + 1) c9] 1 true) = H10 := ⟨_, rfl⟩
      simp -dsimp only [go_sem, ↓reduceIte, Nat.reduceEqDiff, Nat.reduceAdd, Nat.reduceMul, Nat.reduceSub, Nat.reduceLeDiff, Nat.reduceLT, t0, t3, t6, t7, g3, b3, e9, q9, hH10]
      have ne9 : owner (.slice a9 (L.length + 1) c9) ≠ some q := fun hj => by
        rcases ow9 q hj with q2 | q2
        · exact h3.ne q2
        · omega
      have ow9' : ∀ j, owner (.slice a9 (L.length + 1) c9) = some j → owner (.slice a L.length c) = some j ∨ ib ≤ j := fun j hj => (ow9 j hj).imp (fun q => q) fun q => by omega
      have fr10 : ∀ o, ∀ j, j < ib → j ≠ q → owner (.slice a L.length c) ≠ some j → (H9.set q o)[j]? = H[j]? := fun o j h1 h2 h4 => by
        rw [List.getElem?_set_ne (Ne.symm h2), fr9 j (by omega) h4]
        obtain ⟨o', ho'⟩ : ∃ o, H[j]? = some o := get_ex (by omega)
        rw [ho']; exact pre_get p03 ho'
      have fr10' := fr10 (.row [.slice a9 (L.length + 1) c9] 1 true)
      have hL10 : LineAt b (H9.set q (.row [.slice a9 (L.length + 1) c9] 1 true)) q (.slice a9 (L.length + 1) c9) (L ++ [s]) := ⟨h.bq, List.getElem?_set_self (get_lt q9), o9.keep fun j hj => List.getElem?_set_ne (fun q2 => ne9 (by rw [q2]; exact hj)), ne9⟩
      have n10 : ib ≤ (H9.set q (.row [.slice a9 (L.length + 1) c9] 1 true)).length := by rw [List.length_set]; omega
      rw [hH10] at fr10' hL10 n10
      clear hH10
      have honce : OnceL (L ++ [s]) := by
        rw [OnceL, List.pairwise_append]
        refine ⟨standL_once hS, by simp, fun x hx y hy => ?_⟩
        rw [List.mem_singleton] at hy
        subst hy
        have := List.any_eq_false.1 htw x hx
        unfold twiceP at this
        simpa using this
      have fin : ∀ H' v' cur, LineAt b H' q v' cur → ib ≤ H'.length → (∀ j, j < ib → j ≠ q → owner (.slice a L.length c) ≠ some j → H'[j]? = H[j]?) → (∀ j, owner v' = some j → owner (.slice a L.length c) = some j ∨ ib ≤ j) → StandL cur → cur.Perm (L ++ [s]) →
          ∃ v' L' e, Value.int .i64 0 = Value.int .i64 e ∧ LineAt b H' q v' L' ∧ AddL L s e L' ∧ ib ≤ H'.length ∧
          (∀ j, j < ib → j ≠ q → owner (.slice a L.length c) ≠ some j → H'[j]? = H[j]?) ∧ ∀ j, owner v' = some j → owner (.slice a L.length c) = some j ∨ ib ≤ j := fun H' v' cur h1 h2 h3 h4 h5 h6 =>
        ⟨v', cur, 0, rfl, h1, ⟨by unfold addE; rw [if_neg (by rw [hm]; decide), if_neg (by rw [htw]; decide), if_neg (by rw [e2]; decide)], fun q => absurd rfl q, fun _ => h5, fun _ => h6⟩, h2, h3, h4⟩
      clear same fr9 e9 o9 q9 p03 b3 p3 h3 r3 g3 b2 p02 p2 g3q ow9 p0 b0 fr10
      have eL : ((L.length + 1 : Nat) : Int) = (L.length : Int) + 1 := by simp
      have g10 := hL10.at_
      simp -dsimp only [go_sem, ↓reduceIte, Nat.reduceEqDiff, Nat.reduceAdd, Nat.reduceMul, Nat.reduceSub, Nat.reduceLeDiff, Nat.reduceLT, t0, t3, t6, t7, g10, eL, show IntKind.i64.wrap ((L.length : Int) + 1 - 1) = (L.length : Int) from wr64' (by omega)]
      clear g10
      generalize hN : L.length + 1 = N at *
      have hN1 : N = L.length + 1 := hN.symm
      refine aloopP_of (fun m T H' => ∃ cur, T 0 = ptrV q ∧ T 9 = .int .i64 (m : Nat) ∧ m + 1 ≤ N ∧ LineAt b H' q (.slice a9 N c9) cur ∧ ib ≤ H'.length ∧ (∀ j, j < ib → j ≠ q → owner (.slice a L.length c) ≠ some j → H'[j]? = H[j]?) ∧ cur.Perm (L ++ [s]) ∧ Bub (fun a b => standsR a b = true) cur m) (n := L.length) ?_ ?_
      · refine ⟨L ++ [s], ?_⟩
        simp -dsimp only [go_sem, ↓reduceIte, Nat.reduceEqDiff, Nat.reduceAdd, Nat.reduceMul, Nat.reduceSub, Nat.reduceLeDiff, Nat.reduceLT, t0, t3, t6, t7]
        exact ⟨by omega, hL10, n10, fr10', .refl _, bub_start hS s⟩
      clear hL10 n10 fr10'
      rintro m T H4 ⟨cur, t0, t9, hm4, hL4, n4, fr4, hperm, hbub⟩
      have hcl : cur.length = N := by rw [hperm.length_eq, List.length_append, List.length_singleton, hN]
      simp -dsimp only [go_sem, ↓reduceIte, Nat.reduceEqDiff, Nat.reduceAdd, Nat.reduceMul, Nat.reduceSub, Nat.reduceLeDiff, Nat.reduceLT, t0, t9]
      cases m with
      | zero =>
        simp -dsimp only [go_sem, ↓reduceIte, Nat.reduceEqDiff, Nat.reduceAdd, Nat.reduceMul, Nat.reduceSub, Nat.reduceLeDiff, Nat.reduceLT, t0, t9, show decide ((0 : Int) < ((0 : Nat) : Int)) = false from rfl]
        exact fin H4 _ cur hL4 n4 fr4 ow9' (bub_end hbub) hperm
      | succ m =>
        obtain ⟨y, hy⟩ := get_ex (show m < cur.length by omega)
        obtain ⟨z, hz⟩ := get_ex (show m + 1 < cur.length by omega)
        have g4 := hL4.at_
        obtain ⟨hnl, hslc⟩ := hL4.own.slA (fun _ => rfl)
        obtain ⟨id2, off2, rfl, hat2⟩ := hslc.at (by omega)
        have r1 := inRange (show m < N by omega)
        have r2 := inRange (show m + 1 < N by omega)
        have w1 := wrPS (show m < 4611686018427387904 by omega)
        have d1 : decide ((0 : Int) < ((m + 1 : Nat) : Int)) = true := by rw [decide_eq_true_eq]; omega
        have hne2 : id2 ≠ q := fun q2 => hL4.ne (by rw [← q2]; rfl)
        have how : ∀ j, id2 = j → owner (.slice a L.length c) = some j ∨ ib ≤ j := fun j hj => ow9' j (by rw [← hj]; rfl)
        simp -dsimp only [go_sem, ↓reduceIte, Nat.reduceEqDiff, Nat.reduceAdd, Nat.reduceMul, Nat.reduceSub, Nat.reduceLeDiff, Nat.reduceLT, t0, t9, d1]
        refine adrawnP_of2 [(0, false), (1, false), (2, false), (3, false), (4, false), (5, false), (6, false), (7, false), (8, false), (9, false), (10, false), (11, false), (12, false), (13, false), (14, false), (15, false), (16, false)] (by kernel_rfl) ?_
        simp -dsimp only [go_sem, ↓reduceIte, Nat.reduceEqDiff, Nat.reduceAdd, Nat.reduceMul, Nat.reduceSub, Nat.reduceLeDiff, Nat.reduceLT, t0, t9, w1, r1, r2, g4, rowLoad_whole (hat2 m y hy), rowLoad_whole (hat2 (m + 1) z hz)]
        refine SoundP_of (refStands z y H4) ?_
        rintro _ H5 ⟨rfl, p5⟩
        have hL5 := hL4.pre p5
        have n5 := pre_len p5
        have fr5 : ∀ j, j < ib → j ≠ q → owner (.slice a L.length c) ≠ some j → H5[j]? = H[j]? := fun j h1 h2 h3 => by
          rw [← fr4 j h1 h2 h3]
          obtain ⟨o', ho'⟩ : ∃ o, H4[j]? = some o := get_ex (by omega)
          rw [ho']; exact pre_get p5 ho'
        have hat5 : ∀ (i : Nat) (x : Seg), cur[i]? = some x → aload H5 ⟨id2, off2 + i * 5, none⟩ 5 = some x.cells := fun i x hx => aload_pre p5 (hat2 i x hx)
        have g5 := hL5.at_
        simp -dsimp only [go_sem, ↓reduceIte, Nat.reduceEqDiff, Nat.reduceAdd, Nat.reduceMul, Nat.reduceSub, Nat.reduceLeDiff, Nat.reduceLT, t0, t9]
        refine acondP_of (fun hc => ?_) (fun hc => ?_)
        · have p6 := List.prefix_append H5 [AObj.row z.cells 5 true]
          have hL6 := hL5.pre p6
          have hat6 : ∀ (i : Nat) (x : Seg), cur[i]? = some x → aload (H5 ++ [AObj.row z.cells 5 true]) ⟨id2, off2 + i * 5, none⟩ 5 = some x.cells := fun i x hx => aload_pre p6 (hat5 i x hx)
          obtain ⟨o1, e1, ho7⟩ := hL6.own.store (fun _ => rfl) (m + 1) y (by omega)
          obtain ⟨o2, e2', ho8⟩ := ho7.store (fun _ => rfl) m z (by simp; omega)
          have hge := hL5.own.owner_ge rfl
          have e8 : ((H5 ++ [AObj.row z.cells 5 true]).set id2 o1)[H5.length]? = some (AObj.row z.cells 5 true) := by
            rw [List.getElem?_set_ne (by omega)]; simp
          have g6 := hL6.at_
          have g7 : ((H5 ++ [AObj.row z.cells 5 true]).set id2 o1)[q]? = some (.row [.slice (some ⟨id2, off2, none⟩) N c9] 1 true) := by
            rw [List.getElem?_set_ne hne2]; exact g6
          have g8 : (((H5 ++ [AObj.row z.cells 5 true]).set id2 o1).set id2 o2)[q]? = some (.row [.slice (some ⟨id2, off2, none⟩) N c9] 1 true) := by
            rw [List.getElem?_set_ne hne2]; exact g7
          have k6 := rowLoad_whole (hat6 m y hy)
          dsimp only [Seg.cells] at e1 e2' e8 g6 g7 g8 k6 ho7 ho8
          simp -dsimp only [go_sem, ↓reduceIte, Nat.reduceEqDiff, Nat.reduceAdd, Nat.reduceMul, Nat.reduceSub, Nat.reduceLeDiff, Nat.reduceLT, t0, t9, r2, g5, rowLoad_whole (hat5 (m + 1) z hz)]
          refine adrawnP_of2 [(0, false), (1, false), (2, false), (3, false), (4, false), (5, false), (6, false), (7, false), (8, false), (9, false), (10, false), (11, false), (12, false), (13, false), (14, false)] (by kernel_rfl) ?_
          simp -dsimp only [go_sem, ↓reduceIte, Nat.reduceEqDiff, Nat.reduceAdd, Nat.reduceMul, Nat.reduceSub, Nat.reduceLeDiff, Nat.reduceLT, t0, t9, w1, r1, r2, g6, k6, e1]
          refine adrawnP_of2 [(0, false), (1, false), (2, false), (3, false), (4, false), (5, false), (6, false), (7, false), (8, false)] (by kernel_rfl) ?_
          simp -dsimp only [go_sem, ↓reduceIte, Nat.reduceEqDiff, Nat.reduceAdd, Nat.reduceMul, Nat.reduceSub, Nat.reduceLeDiff, Nat.reduceLT, t0, t9, w1, r1, r2, g7, e8, e2']
          obtain ⟨hb1, hb2⟩ := bub_swap hbub hy hz hc
          refine ⟨m, by omega, (cur.set (m + 1) y).set m z, rfl, by omega, ⟨hL4.bq, g8, ho8, hL4.ne⟩, by simp; omega, fun j h1 h2 h3 => ?_, hb2.trans hperm, hb1⟩
          have hj : id2 ≠ j := fun q2 => by
            rcases how j q2 with q3 | q3
            · exact h3 q3
            · omega
          rw [List.getElem?_set_ne hj, List.getElem?_set_ne hj, List.getElem?_append_left (by omega)]
          exact fr5 j h1 h2 h3
        · simp -dsimp only [go_sem, ↓reduceIte, Nat.reduceEqDiff, Nat.reduceAdd, Nat.reduceMul, Nat.reduceSub, Nat.reduceLeDiff, Nat.reduceLT, t0, t9, w1]
          have hne : ¬ (z.key = y.key ∧ z.p = y.p) := fun q2 => by
            have := List.pairwise_iff_getElem.1 (honce.perm hperm.symm) m (m + 1) (by omega) (by omega) (by omega)
            rw [(List.getElem?_eq_some_iff.1 hy).2, (List.getElem?_eq_some_iff.1 hz).2] at this
            exact this ⟨q2.1.symm, q2.2.symm⟩
          have hyz : standsR y z = true := standsR_tri (fun q2 => hne ⟨q2.1.symm, q2.2.symm⟩) (by rw [hc]; decide)
          exact ⟨m, by omega, cur, rfl, by omega, hL5, by omega, fr5, hperm, bub_keep (lt := fun a b => standsR a b = true) (fun _ _ _ => stands_trans) hbub hy hz hyz⟩
theorem own_cutn {α : Type} {b : Nat} {H : AHeap} {enc : α → List Value} {k id n c : Nat} {l : List α} (h : Own b H enc k (.slice (some ⟨id, 0, none⟩) n c) l) (hk : ∀ x, (enc x).length = k) (hk0 : 0 < k) (hne : 0 < l.length) (i : Nat) (hi : i ≤ n) :
    ∃ a' c', cut H k (some ⟨id, 0, none⟩) c i n = some (.slice a' (n - i) c') ∧ SlA H enc k a' (l.drop i) := by
  obtain ⟨hn, hsl⟩ := h.slA hk
  rcases Nat.lt_or_ge i n with q | q
  · obtain ⟨c', hc⟩ := own_cut h hk hk0 hne i q
    have := hsl.drop i
    rw [Nat.zero_add] at this
    exact ⟨_, c', hc, this⟩
  · obtain rfl : i = n := by omega
    have e : l.drop i = [] := List.drop_of_length_le (by omega)
    rw [e]
    by_cases hc : c = 0
    · obtain ⟨id', rest, _, q, hn2, h3, h4⟩ := own_open h hne
      obtain rfl : id = id' := by simpa using q
      refine ⟨some ⟨id, i * k, none⟩, 0, ?_, SlA.nil _ _ _ _⟩
      simp only [cut, Option.isSome_none, Bool.false_eq_true, if_false, add_none, Nat.zero_add]
      rw [if_pos hc, if_pos (by simp [rowOf, h3])]
    · by_cases hc2 : c = i
      · refine ⟨some ⟨0, 0, some 0⟩, 0, ?_, SlA.nil _ _ _ _⟩
        simp only [cut, Option.isSome_none, Bool.false_eq_true, if_false, add_none, Nat.zero_add]
        rw [if_neg hc, if_pos hc2, Nat.sub_self]
        rfl
      · refine ⟨some ⟨id, i * k, none⟩, c - i, ?_, SlA.nil _ _ _ _⟩
        simp only [cut, Option.isSome_none, Bool.false_eq_true, if_false, add_none, Nat.zero_add]
        rw [if_neg hc, if_neg hc2]
/-- what Remove answers and leaves -/
structure RemL (L : List Seg) (s : Seg) (e : Int) (L' : List Seg) : Prop where
  err : e = if mayB s = false then 1 else if s ∈ L then 0 else 120
  bad : e ≠ 0 → L' = L
  del : e = 0 → ∃ i, L[i]? = some s ∧ L' = L.take i ++ L.drop (i + 1)
set_option maxHeartbeats 1000000 in
theorem refRemove (L : List Seg) (s : Seg) (b : Nat) (H : AHeap) (q : Nat) (v : Value) (h : LineAt b H q v L) (hb : b ≤ H.length) (hl : L.length < 90000) :
    Sound Try.prog 34 [ptrV q, s.val] H fun r H' => ∃ v' L' e, r = .int .i64 e ∧ LineAt b H' q v' L' ∧ RemL L s e L' ∧ H.length ≤ H'.length ∧
      (∀ j, j < H.length → j ≠ q → owner v ≠ some j → H'[j]? = H[j]?) ∧ ∀ j, owner v' = some j → owner v = some j ∨ H.length ≤ j := by
  refine Sound.of_body (rs := [.tmp 4]) mixed Try.func34 rfl (by kernel_rfl) rfl (by kernel_rfl) ?_
  have p0 := List.prefix_append H [AObj.row s.cells 5 true]
  have b0 := get_end H (AObj.row s.cells 5 true) []
  dsimp only [Seg.cells] at p0 b0
  simp -dsimp only [go_sem, ↓reduceIte, Nat.reduceEqDiff, Nat.reduceAdd, Nat.reduceMul, Nat.reduceSub, Nat.reduceLeDiff, Nat.reduceLT, b0]
  obtain ⟨ib, hib⟩ : ∃ ib, H.length = ib := ⟨_, rfl⟩
  rw [hib] at b0
  rw [hib]
  obtain ⟨H1, hH1⟩ : ∃ H1, H ++ [AObj.row [.int .i64 s.f, .int .i64 s.t, .int .i64 s.v, .int .i64 s.p, .int .i64 s.c] 5 true] = H1 := ⟨_, rfl⟩
  have l1 : H1.length = H.length + 1 := by rw [← hH1]; simp
  have hq := get_lt h.at_
  rw [hH1] at p0 b0
  rw [hH1]
  refine SoundP_of (refMay s H1) ?_
  rintro _ H2 ⟨rfl, p2⟩
  have p02 := p0.trans p2
  have b2 := pre_get p2 b0
  have same : ∀ H', H <+: H' → ∀ e, (e = if mayB s = false then 1 else if s ∈ L then 0 else 120) → e ≠ 0 → ∃ v' L' e', Value.int .i64 e = Value.int .i64 e' ∧ LineAt b H' q v' L' ∧ RemL L s e' L' ∧ ib ≤ H'.length ∧
      (∀ j, j < ib → j ≠ q → owner v ≠ some j → H'[j]? = H[j]?) ∧ ∀ j, owner v' = some j → owner v = some j ∨ ib ≤ j := fun H' pp e he h0 =>
    ⟨v, L, e, rfl, h.pre pp, ⟨he, fun _ => rfl, fun q => absurd q h0⟩, by have := pre_len pp; omega, fun j hj _ _ => by
      obtain ⟨o, ho⟩ : ∃ o, H[j]? = some o := get_ex (by omega)
      rw [ho]; exact pre_get pp ho, fun j hj => .inl hj⟩
  cases hm : mayB s with
  | false =>
    simp -dsimp only [go_sem, ↓reduceIte, Nat.reduceEqDiff, Nat.reduceAdd, Nat.reduceMul, Nat.reduceSub, Nat.reduceLeDiff, Nat.reduceLT, hm]
    exact same H2 p02 1 (by rw [if_pos hm]) (by decide)
  | true =>
    simp -dsimp only [go_sem, ↓reduceIte, Nat.reduceEqDiff, Nat.reduceAdd, Nat.reduceMul, Nat.reduceSub, Nat.reduceLeDiff, Nat.reduceLT, hm]
    refine aloopP_of (fun n T H' => ∃ (i : Nat), n = L.length - i ∧ i ≤ L.length ∧ T 0 = ptrV q ∧ T 3 = ptrV ib ∧ T 6 = .int .i64 (i : Nat) ∧ H' = H2 ∧ ¬ s ∈ L.take i) (n := L.length) ?_ ?_
    · refine ⟨0, ?_⟩
      simp -dsimp only [go_sem, ↓reduceIte, Nat.reduceEqDiff, Nat.reduceAdd, Nat.reduceMul, Nat.reduceSub, Nat.reduceLeDiff, Nat.reduceLT]
      exact ⟨rfl, Nat.zero_le _, rfl, by simp⟩
    rintro n T H3 ⟨i, rfl, hi, t0, t3, t6, rfl, hni⟩
    have h3 := h.pre p02
    obtain ⟨a, c, rfl, r3⟩ := h3.read
    have g3 := r3.at_
    simp -dsimp only [go_sem, ↓reduceIte, Nat.reduceEqDiff, Nat.reduceAdd, Nat.reduceMul, Nat.reduceSub, Nat.reduceLeDiff, Nat.reduceLT, t0, t3, t6, g3]
    refine acondP_of (fun hc => ?_) (fun hc => ?_)
    rotate_left
    · simp at hc
      obtain rfl : i = L.length := by omega
      rw [List.take_length] at hni
      simp -dsimp only [go_sem, ↓reduceIte, Nat.reduceEqDiff, Nat.reduceAdd, Nat.reduceMul, Nat.reduceSub, Nat.reduceLeDiff, Nat.reduceLT, t0, t3, t6]
      exact same H3 p02 120 (by rw [if_neg (by rw [hm]; decide), if_neg hni]) (by decide)
    simp at hc
    obtain ⟨z, hz⟩ := get_ex hc
    have hsl := r3.sl
    obtain ⟨id, off, rfl, hat⟩ := hsl.at (by omega)
    have hzz := hat i z hz
    have w1 := wrS (show i < 4611686018427387904 by omega)
    simp -dsimp only [go_sem, ↓reduceIte, Nat.reduceEqDiff, Nat.reduceAdd, Nat.reduceMul, Nat.reduceSub, Nat.reduceLeDiff, Nat.reduceLT, t0, t3, t6]
    refine adrawnP_of2 [(0, false), (1, false), (2, false), (3, false), (4, false), (5, false), (6, false), (7, false), (8, false)] (by kernel_rfl) ?_
    simp -dsimp only [go_sem, ↓reduceIte, Nat.reduceEqDiff, Nat.reduceAdd, Nat.reduceMul, Nat.reduceSub, Nat.reduceLeDiff, Nat.reduceLT, t0, t3, t6, g3, b2, inRange hc, rowLoad_whole hzz, segEqB]
    refine acondP_of (fun hzs => ?_) (fun hzs => ?_)
    rotate_left
    · have hzs := of_decide_eq_false hzs
      simp -dsimp only [go_sem, ↓reduceIte, Nat.reduceEqDiff, Nat.reduceAdd, Nat.reduceMul, Nat.reduceSub, Nat.reduceLeDiff, Nat.reduceLT, t0, t3, t6, w1]
      refine ⟨_, by omega, i + 1, rfl, hc, rfl, ?_⟩
      rw [take_get hz, List.mem_append, List.mem_singleton]
      rintro (q2 | q2)
      · exact hni q2
      · exact hzs q2.symm
    obtain rfl : z = s := of_decide_eq_true hzs
    obtain ⟨_, rest, _, qid, _, _, _⟩ := own_open h3.own (by omega)
    cases qid
    have hc0 := own_cut0 h3.own (by omega) i
    obtain ⟨v5, H5, e5, o5, p5, l5, fr5, ow5⟩ := Own.appSl (c := c) un22 el22 inf32 rfl (by decide) (by decide) (fun _ => rfl) (fun _ => rfl) (List.prefix_refl H3) (Own.nil H3.length H3 Seg.cells 5) (hsl.take i) (by simp) (by rw [List.length_take]; omega)
    rw [List.length_take, Nat.min_eq_left (by omega)] at e5
    obtain ⟨a4, c4, hc4, s4⟩ := own_cutn (h3.own.pre p5) (fun _ => rfl) (by decide) (by omega) (i + 1) hc
    obtain ⟨v6, H6, e6, o6, p6, l6, fr6, ow6⟩ := Own.appSl (c := c4) un22 el22 inf32 rfl (by decide) (by decide) (fun _ => rfl) (fun _ => rfl) p5 o5 s4 (by simp; omega) (by rw [List.length_drop]; omega)
    rw [List.length_drop] at e6
    obtain ⟨a6, c6, rfl, -⟩ := o6.sl (fun _ => rfl)
    generalize hN : ([] ++ L.take i ++ L.drop (i + 1)).length = N at *
    rw [List.nil_append] at o6
    have q5 := pre_get p5 g3
    have q6 := pre_get p6 g3
    have capi : i ≤ capOf L.length c := by have := own_capOf h3.own (fun _ => rfl) (by decide); omega
    obtain ⟨H7, hH7⟩ : ∃ H7, H6.set q (.row [.slice a6 N c6] 1 true) = H7 := ⟨_, rfl⟩
    have hc1 : i + 1 ≤ L.length := hc
    simp -dsimp only [go_sem, ↓reduceIte, Nat.reduceEqDiff, Nat.reduceAdd, Nat.reduceMul, Nat.reduceSub, Nat.reduceLeDiff, Nat.reduceLT, t0, t3, t6, g3, capi, hc0, e5, q5, w1, hc1, hc4, e6, q6, hH7]
    have n3 := pre_len p02
    have hge := fun j (hj : owner (.slice a6 N c6) = some j) => (o6.owner_ge hj)
    have ne6 : owner (.slice a6 N c6) ≠ some q := fun hj => by have := hge q hj; have := get_lt g3; omega
    have l7 : H7.length = H6.length := by rw [← hH7, List.length_set]
    have n6 := pre_len p6
    refine ⟨_, _, 0, rfl, ⟨h.bq, by rw [← hH7]; exact List.getElem?_set_self (get_lt q6), Own.mono (o6.keep fun j hj => by rw [← hH7]; exact List.getElem?_set_ne (fun q2 => ne6 (by rw [q2]; exact hj))) (by omega), ne6⟩, ⟨by rw [if_neg (by rw [hm]; decide), if_pos (List.mem_of_getElem? hz)], fun q => absurd rfl q, fun _ => ⟨i, hz, rfl⟩⟩, by omega, fun j h1 h2 h4 => ?_, fun j hj => ?_⟩
    · rw [← hH7, List.getElem?_set_ne (Ne.symm h2)]
      obtain ⟨o, ho⟩ : ∃ o, H[j]? = some o := get_ex (by omega)
      rw [ho]
      exact pre_get (p02.trans p6) ho
    · right; have := hge j hj; omega
end Go.Proofs.Ythbifkeadbmcnaa
