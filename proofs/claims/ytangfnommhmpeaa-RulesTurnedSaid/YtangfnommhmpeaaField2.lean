/-
  The field's methods 'order' and 'holders'.
-/
import Derived.Test.YtangfnommhmpeaaField
set_option linter.unusedVariables false
set_option linter.unusedSimpArgs false
namespace Go.Proofs.Ytangfnommhmpeaa
open Go Go.AW Go.Bub
set_option linter.unusedSimpArgs false
set_option maxRecDepth 20000

theorem appOb {b : Nat} {H : AHeap} {v : Value} {l : List Order} (hb : b ≤ H.length) (h : OwnO b H v l) (x : Order) (hl : l.length < 100000) :
    ∃ a c H2, aappend Try.prog (H ++ [.row x.cells 7 true]) 23 23 v (.slice (some ⟨H.length, 0, none⟩) 1 1) = some (.slice a (l.length + 1) c, H2) ∧ OwnO b H2 (.slice a (l.length + 1) c) (l ++ [x]) ∧ H.length ≤ H2.length ∧
      (∀ j, j < H.length → owner v ≠ some j → H2[j]? = H[j]?) ∧ (∀ j, owner (.slice a (l.length + 1) c) = some j → owner v = some j ∨ H.length ≤ j) := by
  obtain ⟨v2, H2, e, ho, h1, h2, h3⟩ := Own.app1b un23 el23 inf42 rfl (by decide) (by decide) (fun _ => rfl) (fun _ => rfl) hb h x hl
  obtain ⟨a, c, rfl, -⟩ := ho.sl (fun _ => rfl)
  rw [List.length_append, List.length_singleton] at *
  exact ⟨a, c, H2, e, ho, h1, h2, h3⟩

theorem wrB {n : Int} (h1 : -100000000 ≤ n) (h2 : n ≤ 100000000) : IntKind.i64.wrap n = n := wr64 (by omega) (by omega)

/-- what an order turns -/
structure Ordered (F F' : FieldS) (o : Order) : Prop where
  p : F'.p = F.p
  vn : F'.vn = F.vn
  vw : F'.vw = F.vw
  nodes : F'.nodes = F.nodes
  wanted : F'.wanted = F.wanted
  out : F'.out = F.out ++ [o]
  hd : ∀ s n, F'.hd s n = if s = o.seg ∧ n = o.node then (if o.drop then 0 else 1) else F.hd s n
  ld : ∀ n, F'.ld n = if n = o.node then F.ld n + (if o.drop then -1 else 1) else F.ld n

theorem order (F : FieldS) (o : Order) (b : Nat) (H : AHeap) (hf : FieldAt b H F) (hlen : F.out.length < 10000) (h1 : -1000000 ≤ F.ld o.node) (h2 : F.ld o.node ≤ 1000000) :
    Sound Try.prog 28 [.pointer (some ⟨F.p, 0, none⟩), .bool o.drop, o.seg.val, .int .i64 o.node] H fun v H' => v = .tuple #[] ∧ ∃ F', FieldAt b H' F' ∧ Kept H H' F F' ∧ Ordered F F' o := by
  refine Sound.of_body (rs := []) mixed Try.func28 rfl (by kernel_rfl) rfl (by kernel_rfl) ?_
  obtain ⟨drop, s, n⟩ := o
  have hp1 : H <+: H ++ [AObj.row s.cells 5 true] := List.prefix_append _ _
  have hf1 := hf.pre hp1
  have hat1 := hf1.at_
  have hbl : b ≤ (H ++ [AObj.row s.cells 5 true]).length := by have := hf.bp; have := get_lt hf.at_; simp; omega
  obtain ⟨a, c, H2, e, ho2, hle, hk, hmine⟩ := appOb hbl hf1.out ⟨drop, s, n⟩ (by omega)
  obtain ⟨o3, e3, hf3, hk3⟩ := setOut hf1 hle hk ho2 hmine
  rw [show (Value.slice a (F.out.length + 1) c).cells.toList = [.slice a (F.out.length + 1) c] from rfl] at e3
  have hbox : (H2.set F.p o3)[H.length]? = some (.row s.cells 5 true) := by
    rw [hk3.same H.length (by simp) (fun q => ?_)]
    · simp
    · have q1 := get_lt hf.at_
      have q2 := hf.holds.lt
      have q3 := hf.loads.lt
      rcases q with q | q | q | q
      · omega
      · omega
      · omega
      · have := (hf.out.owner_ge q).2; omega
  simp only [List.append_assoc, List.cons_append, List.nil_append, List.length_append, List.length_singleton] at e
  simp -dsimp only [go_sem, ↓reduceIte, Nat.reduceEqDiff, Nat.reduceAdd, Nat.reduceMul, Nat.reduceSub, Nat.reduceLeDiff, Nat.reduceLT]
  refine adrawnP_of2 [(0, false), (1, false), (2, false), (3, false), (4, false), (5, false), (6, false), (7, false), (8, false), (9, false), (10, false), (11, false), (12, false), (13, false)] (by kernel_rfl) ?_
  simp -dsimp only [go_sem, ↓reduceIte, Nat.reduceEqDiff, Nat.reduceAdd, Nat.reduceMul, Nat.reduceSub, Nat.reduceLeDiff, Nat.reduceLT, hat1, e, e3]
  -- who holds it, and how much
  obtain ⟨o4, e4, hf4, k4⟩ := setHolds hf3 s n 1
  obtain ⟨o5, e5, hf5, k5⟩ := setLoads hf4 n (F.ld n + 1)
  have ne1 : F.p ≠ F.ih := Ne.symm (dict_not_row hf.holds hf.at_)
  have ne2 : F.p ≠ F.il := Ne.symm (dict_not_row hf.loads hf.at_)
  have q1 := get_lt hf.at_
  have q2 := hf.holds.lt
  have q3 := hf.loads.lt
  have hat3 : (H2.set F.p o3)[F.p]? = some (.row [F.vn, F.vw, .map (some F.ih), .map (some F.il), .slice a (F.out.length + 1) c] 5 true) := hf3.at_
  have hat4 : ((H2.set F.p o3).set F.ih o4)[F.p]? = some (.row [F.vn, F.vw, .map (some F.ih), .map (some F.il), .slice a (F.out.length + 1) c] 5 true) := hf4.at_
  have hat5 : (((H2.set F.p o3).set F.ih o4).set F.il o5)[F.p]? = some (.row [F.vn, F.vw, .map (some F.ih), .map (some F.il), .slice a (F.out.length + 1) c] 5 true) := hf5.at_
  have e6 : alookup Try.prog ((H2.set F.p o3).set F.ih o4) 52 (.map (some F.il)) (intV n) false = some (.int .i64 (F.ld n)) := look_loads hf4 n
  have hbox5 : (((H2.set F.p o3).set F.ih o4).set F.il o5)[H.length]? = some (.row s.cells 5 true) := by
    rw [List.getElem?_set_ne (by omega), List.getElem?_set_ne (by omega)]; exact hbox
  have hk5 := (((Kept.of_pre F hp1).trans hk3).trans k4).trans k5
  simp only at h1 h2
  have w1 : IntKind.i64.wrap (F.ld n + 1) = F.ld n + 1 := wrB (by omega) (by omega)
  refine adrawnP_of2 [(0, false), (1, false), (2, false), (3, false), (4, false), (5, false), (6, false), (7, false)] (by kernel_rfl) ?_
  simp -dsimp only [go_sem, ↓reduceIte, Nat.reduceEqDiff, Nat.reduceAdd, Nat.reduceMul, Nat.reduceSub, Nat.reduceLeDiff, Nat.reduceLT, hat3, hbox, e4, hat4, e6, w1, e5]
  cases drop with
  | false =>
    simp -dsimp only [go_sem, ↓reduceIte, Nat.reduceEqDiff, Nat.reduceAdd, Nat.reduceMul, Nat.reduceSub, Nat.reduceLeDiff, Nat.reduceLT]
    refine ⟨_, hf5, hk5, rfl, rfl, rfl, rfl, rfl, rfl, fun s' n' => ?_, fun n' => ?_⟩
    · simp only [FieldS.hd, mget_put, Pair.mk.injEq]
      by_cases q : s' = s ∧ n' = n
      · rw [if_pos ⟨q.1.symm, q.2.symm⟩, if_pos q]; rfl
      · rw [if_neg (fun h => q ⟨h.1.symm, h.2.symm⟩), if_neg q]
    · simp only [FieldS.ld, mget_put]
      by_cases q : n' = n
      · subst q; simp
      · rw [if_neg (Ne.symm q), if_neg q]
  | true =>
    obtain ⟨o6, e7, hf6, k6⟩ := setHolds hf5 s n 0
    obtain ⟨o7, e8, hf7, k7⟩ := setLoads hf6 n (F.ld n + 1 - 2)
    have hat6 : ((((H2.set F.p o3).set F.ih o4).set F.il o5).set F.ih o6)[F.p]? = some (.row [F.vn, F.vw, .map (some F.ih), .map (some F.il), .slice a (F.out.length + 1) c] 5 true) := hf6.at_
    have e9 : alookup Try.prog ((((H2.set F.p o3).set F.ih o4).set F.il o5).set F.ih o6) 52 (.map (some F.il)) (intV n) false = some (.int .i64 (F.ld n + 1)) := by
      have := look_loads hf6 n
      simp only [FieldS.ld, mget_put, if_true, Option.getD_some] at this
      exact this
    have w2 : IntKind.i64.wrap (F.ld n + 1 - 2) = F.ld n + 1 - 2 := wrB (by omega) (by omega)
    simp -dsimp only [go_sem, ↓reduceIte, Nat.reduceEqDiff, Nat.reduceAdd, Nat.reduceMul, Nat.reduceSub, Nat.reduceLeDiff, Nat.reduceLT]
    refine adrawnP_of2 [(0, false), (1, false), (2, false), (3, false), (4, false), (5, false), (6, false), (7, false)] (by kernel_rfl) ?_
    simp -dsimp only [go_sem, ↓reduceIte, Nat.reduceEqDiff, Nat.reduceAdd, Nat.reduceMul, Nat.reduceSub, Nat.reduceLeDiff, Nat.reduceLT, hat5, hbox5, e7, hat6, e9, w2, e8]
    refine ⟨_, hf7, (hk5.trans k6).trans k7, rfl, rfl, rfl, rfl, rfl, rfl, fun s' n' => ?_, fun n' => ?_⟩
    · simp only [FieldS.hd, mget_put, Pair.mk.injEq]
      by_cases q : s' = s ∧ n' = n
      · rw [if_pos ⟨q.1.symm, q.2.symm⟩, if_pos q]; rfl
      · rw [if_neg (fun h => q ⟨h.1.symm, h.2.symm⟩), if_neg (fun h => q ⟨h.1.symm, h.2.symm⟩), if_neg q]
    · simp only [FieldS.ld, mget_put]
      by_cases q : n' = n
      · subst q; simp [FieldS.ld]; omega
      · rw [if_neg (Ne.symm q), if_neg (Ne.symm q), if_neg q]

/-- who holds it, and who doesn't -/
theorem holders (F : FieldS) (s : Seg) (b : Nat) (H : AHeap) (hf : FieldAt b H F) (hlen : F.nodes.length < 1000) :
    Sound Try.prog 27 [.pointer (some ⟨F.p, 0, none⟩), s.val] H fun v H' => ∃ y n, v = .tuple #[y, n] ∧ OwnI H.length H' y (F.nodes.filter fun n => decide (0 < F.hd s n)) ∧ OwnI H.length H' n (F.nodes.filter fun n => !decide (0 < F.hd s n)) ∧ H <+: H' := by
  refine Sound.of_body (rs := [.tmp 4, .tmp 5]) mixed Try.func27 rfl (by kernel_rfl) rfl (by kernel_rfl) ?_
  obtain ⟨a, c, hv, hsl⟩ := hf.nodes.sl (fun _ => rfl)
  have hp1 : H <+: H ++ [AObj.row s.cells 5 true] := List.prefix_append _ _
  have hl1 : (H ++ [AObj.row s.cells 5 true]).length = H.length + 1 := by simp
  have hat := pre_get hp1 hf.at_
  rw [hv] at hat
  simp -dsimp only [go_sem, ↓reduceIte, Nat.reduceEqDiff, Nat.reduceAdd, Nat.reduceMul, Nat.reduceSub, Nat.reduceLeDiff, Nat.reduceLT, hat]
  refine aloopP_of (fun m T H' => ∃ i vy vn, m = F.nodes.length - i ∧ i ≤ F.nodes.length ∧ (H ++ [AObj.row s.cells 5 true]) <+: H' ∧ T 0 = .pointer (some ⟨F.p, 0, none⟩) ∧ T 3 = .pointer (some ⟨H.length, 0, none⟩) ∧ T 11 = .slice a F.nodes.length c ∧ T 12 = .int .i64 F.nodes.length ∧ T 13 = .int .i64 i ∧ T 4 = vy ∧ T 5 = vn ∧
      OwnI (H.length + 1) H' vy ((F.nodes.take i).filter fun n => decide (0 < F.hd s n)) ∧ OwnI (H.length + 1) H' vn ((F.nodes.take i).filter fun n => !decide (0 < F.hd s n)) ∧ (∀ j, owner vy = some j → owner vn ≠ some j)) (n := F.nodes.length) ?_ ?_
  · refine ⟨0, .slice none 0 0, .slice none 0 0, ?_⟩
    simp -dsimp only [go_sem, ↓reduceIte, Nat.reduceEqDiff, Nat.reduceAdd, Nat.reduceMul, Nat.reduceSub, Nat.reduceLeDiff, Nat.reduceLT]
    refine ⟨by omega, by omega, List.prefix_refl _, rfl, ?_, ?_, by simp [owner]⟩ <;> exact Own.nil _ _ _ _
  · rintro m T H' ⟨i, vy, vn, rfl, hi, hp, h0, h3, h11, h12, h13, h4, h5, hy, hn, hne⟩
    have hb := pre_get hp (get_end H _ [])
    have hf' := hf.pre (hp1.trans hp)
    have hat' := hf'.at_
    simp -dsimp only [go_sem, ↓reduceIte, Nat.reduceEqDiff, Nat.reduceAdd, Nat.reduceMul, Nat.reduceSub, Nat.reduceLeDiff, Nat.reduceLT, h0, h3, h11, h12, h13, h4, h5]
    refine acondP_of (fun h => ?_) (fun h => ?_)
    · simp at h
      obtain ⟨x, hx⟩ := get_ex h
      obtain ⟨id, off, rfl, hat2⟩ := (hsl.pre (hp1.trans hp)).at (by omega)
      simp -dsimp only [go_sem, ↓reduceIte, Nat.reduceEqDiff, Nat.reduceAdd, Nat.reduceMul, Nat.reduceSub, Nat.reduceLeDiff, Nat.reduceLT, h0, h3, h11, h12, h13, h4, h5, inRange h, rowLoad_one0 (hat2 i x hx)]
      refine adrawnP_of2 [(0, false), (1, false), (2, false), (3, false), (4, false), (5, false), (6, false), (7, false), (8, false)] (by kernel_rfl) ?_
      simp -dsimp only [go_sem, ↓reduceIte, Nat.reduceEqDiff, Nat.reduceAdd, Nat.reduceMul, Nat.reduceSub, Nat.reduceLeDiff, Nat.reduceLT, h0, h3, h11, h12, h13, h4, h5, hat', hb, look_holds hf' s x]
      have ly : ((F.nodes.take i).filter fun n => decide (0 < F.hd s n)).length < 1000 := Nat.lt_of_le_of_lt (List.length_filter_le _ _) (by simp; omega)
      have ln : ((F.nodes.take i).filter fun n => !decide (0 < F.hd s n)).length < 1000 := Nat.lt_of_le_of_lt (List.length_filter_le _ _) (by simp; omega)
      have fs : ∀ p : Int → Bool, (F.nodes.take (i + 1)).filter p = (F.nodes.take i).filter p ++ if p x then [x] else [] := fun p => by
        rw [take_get hx, List.filter_append]; simp [List.filter_cons]
      refine acondP_of (fun hc => ?_) (fun hc => ?_)
      · simp at hc
        obtain ⟨v2, H2, e, ho, hp2, hle, hk, hmine⟩ := appI hp (hl1.symm ▸ hy) x (by omega)
        rw [hl1] at ho
        simp -dsimp only [go_sem, ↓reduceIte, Nat.reduceEqDiff, Nat.reduceAdd, Nat.reduceMul, Nat.reduceSub, Nat.reduceLeDiff, Nat.reduceLT, h0, h3, h11, h12, h13, h4, h5, e, wrS (show i < 4611686018427387904 by omega)]
        refine ⟨_, ?_, i + 1, v2, vn, rfl, h, hp2, rfl, rfl, rfl, ?_, ?_, fun j hj q => ?_⟩
        · omega
        · rw [fs, if_pos (by simpa using hc)]; exact ho
        · rw [fs, if_neg (by simpa using hc), List.append_nil]
          exact hn.keep fun id hid => hk id (hn.owner_ge hid).2 fun q => hne id q hid
        · rcases hmine j hj with h | h
          · exact hne j h q
          · have := (hn.owner_ge q).2; omega
      · simp at hc
        obtain ⟨v2, H2, e, ho, hp2, hle, hk, hmine⟩ := appI hp (hl1.symm ▸ hn) x (by omega)
        rw [hl1] at ho
        simp -dsimp only [go_sem, ↓reduceIte, Nat.reduceEqDiff, Nat.reduceAdd, Nat.reduceMul, Nat.reduceSub, Nat.reduceLeDiff, Nat.reduceLT, h0, h3, h11, h12, h13, h4, h5, e, wrS (show i < 4611686018427387904 by omega)]
        refine ⟨_, ?_, i + 1, vy, v2, rfl, h, hp2, rfl, rfl, rfl, ?_, ?_, fun j hj q => ?_⟩
        · omega
        · rw [fs, if_neg (by simpa using hc), List.append_nil]
          exact hy.keep fun id hid => hk id (hy.owner_ge hid).2 fun q => hne id hid q
        · rw [fs, if_pos (by simpa using hc)]; exact ho
        · rcases hmine j q with h | h
          · exact hne j hj h
          · have := (hy.owner_ge hj).2; omega
    · simp at h
      obtain rfl : i = F.nodes.length := by omega
      rw [List.take_length] at hy hn
      simp -dsimp only [go_sem, ↓reduceIte, Nat.reduceEqDiff, Nat.reduceAdd, Nat.reduceMul, Nat.reduceSub, Nat.reduceLeDiff, Nat.reduceLT, h0, h3, h11, h12, h13, h4, h5]
      exact ⟨vy, vn, rfl, hy.mono (by simp), hn.mono (by simp), hp1.trans hp⟩
end Go.Proofs.Ytangfnommhmpeaa
