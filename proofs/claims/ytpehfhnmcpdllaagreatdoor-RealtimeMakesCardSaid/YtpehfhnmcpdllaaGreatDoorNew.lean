/-
  A realtime node that is made; no node.
-/
import Derived.Test.YtpehfhnmcpdllaaGreatDoorBook
set_option linter.unusedVariables false
set_option linter.unusedSimpArgs false
namespace Go.Proofs.YtpehfhnmcpdllaaGreatDoor
open Go Go.AW
set_option linter.unusedSimpArgs false
set_option maxRecDepth 20000

def mayB (s : SetupS) (stream : Int) : Bool := fitsB s && (decide (0 ≤ stream) && decide (stream < s.streams))
theorem newNil (s : SetupS) (stream : Int) (H : AHeap) : Sound Tryz.prog 7 [.int .i64 stream, s.val, .nilIface] H fun v H' => v = .tuple #[.pointer none, .int .i64 1] ∧ H <+: H' := by
  refine Sound.of_body (rs := [.tmp 6, .tmp 7]) mixed Tryz.func7 rfl (by kernel_rfl) rfl (by kernel_rfl) ?_
  have b0 := get_end H (AObj.row s.cells 10 true) []
  have p0 := List.prefix_append H [AObj.row s.cells 10 true]
  simp -dsimp only [go_sem, ↓reduceIte, Nat.reduceEqDiff, Nat.reduceAdd, Nat.reduceMul, Nat.reduceSub, Nat.reduceLeDiff, Nat.reduceLT]
  generalize H ++ [AObj.row s.cells 10 true] = H0 at *
  refine SoundP_of (fitsLaw s H0) ?_
  rintro _ H1 ⟨rfl, p1⟩
  have b1 := pre_get p1 b0
  have q1 := p0.trans p1
  cases hA : fitsB s with
  | false => simp -dsimp only [go_sem, ↓reduceIte, Nat.reduceEqDiff, Nat.reduceAdd, Nat.reduceMul, Nat.reduceSub, Nat.reduceLeDiff, Nat.reduceLT, hA]; exact q1
  | true =>
  cases hB : decide (stream < 0) with
  | true => simp -dsimp only [go_sem, ↓reduceIte, Nat.reduceEqDiff, Nat.reduceAdd, Nat.reduceMul, Nat.reduceSub, Nat.reduceLeDiff, Nat.reduceLT, hA, hB]; exact q1
  | false =>
  cases hC : decide (s.streams ≤ stream) with
  | true => simp -dsimp only [go_sem, ↓reduceIte, Nat.reduceEqDiff, Nat.reduceAdd, Nat.reduceMul, Nat.reduceSub, Nat.reduceLeDiff, Nat.reduceLT, hA, hB, hC, b1]; exact q1
  | false => simp -dsimp only [go_sem, ↓reduceIte, Nat.reduceEqDiff, Nat.reduceAdd, Nat.reduceMul, Nat.reduceSub, Nat.reduceLeDiff, Nat.reduceLT, hA, hB, hC, b1]; exact q1
theorem inNew (d m chunk next : Int) (H : AHeap) (hd : schemaB d m = true) (h1 : decide (chunk < 1) = false) (h2 : decide (1099511627776 < chunk) = false) (h3 : decide (next < 1) = false) : Sound Tryz.prog 20 [.agg #[.int .i64 d, .int .i64 m], .int .i64 chunk, .int .u64 next] H fun v H' => H <+: H' ∧ ∃ q, v = .tuple #[ptrV q, .int .i64 0] ∧ H'[q]? = some (.row [.int .i64 d, .int .i64 m, .int .i64 chunk, .int .u64 next, .slice none 0 0, .int .i64 0, .slice none 0 0, .int .i64 0] 8 true) := by
  refine Sound.of_body (rs := [.tmp 6, .tmp 7]) mixed Tryz.func20 rfl (by kernel_rfl) rfl (by kernel_rfl) ?_
  have p0 := List.prefix_append H [AObj.row [.int .i64 d, .int .i64 m] 2 true]
  have b0 := get_end H (AObj.row [.int .i64 d, .int .i64 m] 2 true) []
  simp -dsimp only [go_sem, ↓reduceIte, Nat.reduceEqDiff, Nat.reduceAdd, Nat.reduceMul, Nat.reduceSub, Nat.reduceLeDiff, Nat.reduceLT]
  generalize H ++ [AObj.row [.int .i64 d, .int .i64 m] 2 true] = H0 at *
  refine SoundP_of (fineLaw d m H0) ?_
  rintro _ H1 ⟨rfl, p1⟩
  have b1 := pre_get p1 b0
  simp -dsimp only [go_sem, ↓reduceIte, Nat.reduceEqDiff, Nat.reduceAdd, Nat.reduceMul, Nat.reduceSub, Nat.reduceLeDiff, Nat.reduceLT, hd, cond_true, Int.reduceBNe, h1, h2, h3, b1]
  exact ⟨(p0.trans p1).trans (List.prefix_append _ _), _, rfl, get_end _ _ _⟩
/-- a node that has taken so many -/
structure NodeAt (H : AHeap) (n : Nat) (at_ : Int) : Prop where
  row : ∃ q, (∃ pre : List Value, pre.length = 12 ∧ H[n]? = some (.row (pre ++ [ptrV q, .int .u64 at_, .bool false, .slice none 0 0, .int .i64 0, .bool false]) 18 true)) ∧
    ∃ d m c : Value, H[q]? = some (.row [d, m, c, .int .u64 (at_ + 1), .slice none 0 0, .int .i64 0, .slice none 0 0, .int .i64 0] 8 true)
theorem BookAt.pre {b p calls : Nat} {off : Bool} {l : List Int} {H H' : AHeap} (h : BookAt b H p off calls l) (hp : H <+: H') : BookAt b H' p off calls l := by
  obtain ⟨⟨ow, hr, ho⟩, h⟩ := h
  exact ⟨⟨ow, pre_get hp hr, ho.pre hp⟩, h⟩
theorem wrU {i : Int} (h : 0 ≤ i) (h2 : i ≤ 9223372036854775807) : IntKind.u64.wrap i = i := by
  simp [IntKind.wrap, IntKind.bits, IntKind.signed]; omega
theorem mState : methOf Tryz.prog 28 "State" = some 362 := by kernel_rfl
theorem pre_eq {H H' : AHeap} (h : H <+: H') {i : Nat} (hi : i < H.length) : H'[i]? = H[i]? := by obtain ⟨L, rfl⟩ := h; exact List.getElem?_append_left hi
set_option maxHeartbeats 1000000 in
theorem newLaw (s : SetupS) (stream : Int) {b p calls : Nat} {off : Bool} {l : List Int} {H : AHeap} (hb : BookAt b H p off calls l) (hc : calls < 1000) (hl : l.length < 1000) (hlt : b ≤ H.length) (hl2 : ∀ x ∈ l, 0 ≤ x ∧ x < 1099511627776) :
    Sound Tryz.prog 7 [.int .i64 stream, s.val, .iface 28 (ptrV p)] H fun v H' =>
      H.length ≤ H'.length ∧ (∀ j, j < H.length → j ≠ p → H'[j]? = H[j]?) ∧ (∃ calls', calls' ≤ calls + 1 ∧ BookAt b H' p off calls' l) ∧
      (mayB s stream = false ∧ v = .tuple #[.pointer none, .int .i64 1] ∨ mayB s stream = true ∧ off = true ∧ v = .tuple #[.pointer none, .int .i64 122] ∨
       mayB s stream = true ∧ off = false ∧ (l.length : Int) ≤ stream ∧ v = .tuple #[.pointer none, .int .i64 1] ∨
       mayB s stream = true ∧ off = false ∧ ∃ (k : Nat) (x : Int) (n : Nat), stream = k ∧ l[k]? = some x ∧ v = .tuple #[ptrV n, .int .i64 0] ∧ NodeAt H' n x) := by
  refine Sound.of_body (rs := [.tmp 6, .tmp 7]) mixed Tryz.func7 rfl (by kernel_rfl) rfl (by kernel_rfl) ?_
  have b0 := get_end H (AObj.row s.cells 10 true) []
  have p0 := List.prefix_append H [AObj.row s.cells 10 true]
  have bk0 := hb.pre p0
  simp -dsimp only [go_sem, ↓reduceIte, Nat.reduceEqDiff, Nat.reduceAdd, Nat.reduceMul, Nat.reduceSub, Nat.reduceLeDiff, Nat.reduceLT]
  generalize H ++ [AObj.row s.cells 10 true] = H0 at *
  refine SoundP_of (fitsLaw s H0) ?_
  rintro _ H1 ⟨rfl, p1⟩
  have b1 := pre_get p1 b0
  have bk1 := bk0.pre p1
  have q1 := p0.trans p1
  have bad : ∀ (Q : Prop), mayB s stream = false → (H.length ≤ H1.length ∧ (∀ j, j < H.length → j ≠ p → H1[j]? = H[j]?) ∧ (∃ calls', calls' ≤ calls + 1 ∧ BookAt b H1 p off calls' l) ∧
      (mayB s stream = false ∧ True ∨ Q)) := fun Q h => ⟨pre_len q1, fun j hj _ => pre_eq q1 hj, ⟨calls, by omega, bk1⟩, .inl ⟨h, trivial⟩⟩
  cases hA : fitsB s with
  | false =>
    simp -dsimp only [go_sem, ↓reduceIte, Nat.reduceEqDiff, Nat.reduceAdd, Nat.reduceMul, Nat.reduceSub, Nat.reduceLeDiff, Nat.reduceLT, hA]
    exact ⟨pre_len q1, fun j hj _ => pre_eq q1 hj, ⟨calls, by omega, bk1⟩, .inl (by simp [mayB, hA])⟩
  | true =>
  cases hB : decide (stream < 0) with
  | true =>
    simp -dsimp only [go_sem, ↓reduceIte, Nat.reduceEqDiff, Nat.reduceAdd, Nat.reduceMul, Nat.reduceSub, Nat.reduceLeDiff, Nat.reduceLT, hA, hB]
    exact ⟨pre_len q1, fun j hj _ => pre_eq q1 hj, ⟨calls, by omega, bk1⟩, .inl (by have := of_decide_eq_true hB; simp [mayB, hA]; omega)⟩
  | false =>
  cases hC : decide (s.streams ≤ stream) with
  | true =>
    simp -dsimp only [go_sem, ↓reduceIte, Nat.reduceEqDiff, Nat.reduceAdd, Nat.reduceMul, Nat.reduceSub, Nat.reduceLeDiff, Nat.reduceLT, hA, hB, hC, b1]
    exact ⟨pre_len q1, fun j hj _ => pre_eq q1 hj, ⟨calls, by omega, bk1⟩, .inl (by have := of_decide_eq_true hC; simp [mayB, hA]; omega)⟩
  | false =>
  have hB' := dec_false hB
  have hC' := dec_false hC
  have hmay : mayB s stream = true := by simp [mayB, hA]; omega
  cases off with
  | true =>
    simp -dsimp only [go_sem, ↓reduceIte, Nat.reduceEqDiff, Nat.reduceAdd, Nat.reduceMul, Nat.reduceSub, Nat.reduceLeDiff, Nat.reduceLT, hA, hB, hC, b1, mState]
    refine SoundP_of (stateOff bk1) ?_
    rintro _ H2 ⟨rfl, p2⟩
    simp -dsimp only [go_sem, ↓reduceIte, Nat.reduceEqDiff, Nat.reduceAdd, Nat.reduceMul, Nat.reduceSub, Nat.reduceLeDiff, Nat.reduceLT, Int.reduceBNe]
    have q2 := (q1.trans p2).trans (List.prefix_append H2 [AObj.row [.int .i64 0, .int .i64 0, .int .i64 0, .slice none 0 0, .slice none 0 0] 5 true])
    exact ⟨by have := pre_len (q1.trans p2); omega, fun j hj _ => pre_eq q2 hj, ⟨calls, by omega, (bk1.pre p2).pre (List.prefix_append _ _)⟩, .inr (.inl hmay)⟩
  | false =>
    simp -dsimp only [go_sem, ↓reduceIte, Nat.reduceEqDiff, Nat.reduceAdd, Nat.reduceMul, Nat.reduceSub, Nat.reduceLeDiff, Nat.reduceLT, hA, hB, hC, b1, mState]
    refine SoundP_of (stateOn bk1 hc hl (by have := pre_len q1; omega)) ?_
    rintro _ H2 ⟨l2, f2, bk2, w, rfl, ow⟩
    obtain ⟨a, c, rfl, sl⟩ := ow.sl (fun _ => rfl)
    have plt := hb.lt
    have lH1 := get_lt b1
    have fH : ∀ j, j < H.length → j ≠ p → H2[j]? = H[j]? := fun j hj hjp => (f2 j (by omega) hjp).trans (pre_eq q1 hj)
    have b2 : H2[H.length]? = some (.row s.cells 10 true) := (f2 _ lH1 (by omega)).trans b1
    have p3 := List.prefix_append H2 [AObj.row [.int .i64 0, .int .i64 0, .int .i64 0, .slice none 0 0, .slice a l.length c] 5 true]
    have b3 := pre_get p3 b2
    have sl3 := sl.pre p3
    have bk3 := bk2.pre p3
    have fH3 : ∀ j, j < H.length → j ≠ p → (H2 ++ [AObj.row [.int .i64 0, .int .i64 0, .int .i64 0, .slice none 0 0, .slice a l.length c] 5 true])[j]? = H[j]? := fun j hj hjp => (pre_eq p3 (by omega)).trans (fH j hj hjp)
    cases hD : decide ((l.length : Int) ≤ stream) with
    | true =>
      simp -dsimp only [go_sem, ↓reduceIte, Nat.reduceEqDiff, Nat.reduceAdd, Nat.reduceMul, Nat.reduceSub, Nat.reduceLeDiff, Nat.reduceLT, Int.reduceBNe, hD]
      exact ⟨by omega, fH3, ⟨_, Nat.le_refl _, bk3⟩, .inr (.inr (.inl ⟨hmay, of_decide_eq_true hD⟩))⟩
    | false =>
      have hD' := dec_false hD
      obtain ⟨k, rfl⟩ : ∃ k : Nat, stream = k := ⟨stream.toNat, by omega⟩
      have hk : k < l.length := by omega
      obtain ⟨x, hx⟩ := get_ex hk
      obtain ⟨id, off, rfl, hat⟩ := sl3.at (by omega)
      have hf := (fitsB_iff s).1 hA
      have hx2 := hl2 x (List.mem_of_getElem? hx)
      have hw : IntKind.u64.wrap (x + 1) = x + 1 := wrU (by omega) (by omega)
      have hd : schemaB s.dims s.meas = true := by have := hf.d0; have := hf.d1; have := hf.m0; have := hf.m1; exact decide_eq_true (by omega)
      simp -dsimp only [go_sem, ↓reduceIte, Nat.reduceEqDiff, Nat.reduceAdd, Nat.reduceMul, Nat.reduceSub, Nat.reduceLeDiff, Nat.reduceLT, Int.reduceBNe, hD, inRange hk, rowLoad_one0 (hat k x hx), b3, hw]
      refine SoundP_of (inNew s.dims s.meas s.chunk (x + 1) _ hd (decide_eq_false (by have := hf.c0; omega)) (decide_eq_false (by have := hf.c1; omega)) (decide_eq_false (by omega))) ?_
      rintro _ H4 ⟨p4, q, rfl, hq⟩
      have b4 := pre_get p4 b3
      simp -dsimp only [go_sem, ↓reduceIte, Nat.reduceEqDiff, Nat.reduceAdd, Nat.reduceMul, Nat.reduceSub, Nat.reduceLeDiff, Nat.reduceLT, Int.reduceBNe, b4]
      have l4 := pre_len p4
      simp only [List.length_append, List.length_cons, List.length_nil] at l4
      refine ⟨by omega, fun j hj hjp => ?_, ⟨_, Nat.le_refl _, (bk3.pre p4).pre (List.prefix_append _ _)⟩, .inr (.inr (.inr ⟨hmay, k, x, _, rfl, hx, rfl, ⟨q, ⟨s.cells ++ [_, _], rfl, get_end _ _ _⟩, _, _, _, pre_get (List.prefix_append _ _) hq⟩⟩))⟩
      rw [pre_eq (List.prefix_append _ _) (by omega), pre_eq p4 (by simp; omega)]
      exact fH3 j hj hjp
end Go.Proofs.YtpehfhnmcpdllaaGreatDoor
