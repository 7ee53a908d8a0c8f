/-
  A historical node on a disk without files; orders.
-/
import Derived.Test.YtahopobanopkfaaGreatDoorDsk
import Derived.Test.YtahopobanopkfaaGreatDoorSetup
set_option linter.unusedVariables false
set_option linter.unusedSimpArgs false
namespace Go.Proofs.YtahopobanopkfaaGreatDoor
open Go Go.AW
set_option linter.unusedSimpArgs false
set_option maxRecDepth 20000

/-- a node's cells -/
abbrev nodeC (s : SetupS) (id : Int) (q m : Nat) (os : Value) (term : Int) : List Value := [.int .i64 s.dims, .int .i64 s.meas, .int .i64 s.streams, .int .i64 s.stores, .int .i64 s.leaders, .int .i64 s.chunk, .int .i64 s.replicas, .int .i64 s.batch, .int .i64 s.retry, .int .i64 s.retention, .int .i64 id, ptrV q, .map (some m), os, .int .i64 term, .int .i64 0, .bool true, .bool false]
def mayB (s : SetupS) (id : Int) : Bool := fitsB s && (decide (21 ≤ id) && decide (id < 21 + s.stores))
set_option maxHeartbeats 1000000 in
theorem newLaw (s : SetupS) (id : Int) {H : AHeap} {p m ck : Nat} {off : Bool} (hd : DiskE H p m ck off) : Sound Tryz.prog 7 [.int .i64 id, s.val, ptrV p] H fun v H' => H <+: H' ∧
    (mayB s id = false ∧ v = .tuple #[.pointer none, .int .i64 1] ∨ mayB s id = true ∧ off = true ∧ v = .tuple #[.pointer none, .int .i64 122] ∨
     mayB s id = true ∧ off = false ∧ ∃ n q m1, v = .tuple #[ptrV n, .int .i64 0] ∧ H.length ≤ n ∧ H'[n]? = some (.row (nodeC s id q m1 (.slice none 0 0) 0) 18 true) ∧ H'[m1]? = some (.map #[] 0)) := by
  refine Sound.of_body (rs := [.tmp 6, .tmp 7]) mixed Tryz.func7 rfl (by kernel_rfl) rfl (by kernel_rfl) ?_
  have b0 := get_end H (AObj.row s.cells 10 true) []
  have p0 := List.prefix_append H [AObj.row s.cells 10 true]
  have d0 := hd.pre p0
  have n0 : (H ++ [AObj.row s.cells 10 true]).length = H.length + 1 := by simp
  simp -dsimp only [go_sem, ↓reduceIte, Nat.reduceEqDiff, Nat.reduceAdd, Nat.reduceMul, Nat.reduceSub, Nat.reduceLeDiff, Nat.reduceLT]
  generalize H ++ [AObj.row s.cells 10 true] = H0 at *
  refine SoundP_of (fitsLaw s H0) ?_
  rintro _ H1 ⟨rfl, p1⟩
  have b1 := pre_get p1 b0
  have d1 := d0.pre p1
  have q1 := p0.trans p1
  cases hA : fitsB s with
  | false =>
    simp -dsimp only [go_sem, ↓reduceIte, Nat.reduceEqDiff, Nat.reduceAdd, Nat.reduceMul, Nat.reduceSub, Nat.reduceLeDiff, Nat.reduceLT, hA]
    exact ⟨q1, .inl (by simp [mayB, hA])⟩
  | true =>
  cases hB : decide (id < 21) with
  | true =>
    simp -dsimp only [go_sem, ↓reduceIte, Nat.reduceEqDiff, Nat.reduceAdd, Nat.reduceMul, Nat.reduceSub, Nat.reduceLeDiff, Nat.reduceLT, hA, hB]
    exact ⟨q1, .inl (by have := of_decide_eq_true hB; simp [mayB, hA]; omega)⟩
  | false =>
  have hB' := dec_false hB
  have hf := (fitsB_iff s).1 hA
  have hw : IntKind.i64.wrap (21 + s.stores) = 21 + s.stores := wr64 (by have := hf.t0; have := hf.t1; omega) (by have := hf.t0; have := hf.t1; omega)
  cases hC : decide (21 + s.stores ≤ id) with
  | true =>
    simp -dsimp only [go_sem, ↓reduceIte, Nat.reduceEqDiff, Nat.reduceAdd, Nat.reduceMul, Nat.reduceSub, Nat.reduceLeDiff, Nat.reduceLT, hA, hB, hC, b1, hw]
    exact ⟨q1, .inl (by have := of_decide_eq_true hC; simp [mayB, hA]; omega)⟩
  | false =>
  have hC' := dec_false hC
  have hmay : mayB s id = true := by simp [mayB, hA]; omega
  simp -dsimp only [go_sem, ↓reduceIte, Nat.reduceEqDiff, Nat.reduceAdd, Nat.reduceMul, Nat.reduceSub, Nat.reduceLeDiff, Nat.reduceLT, hA, hB, hC, b1, hw]
  refine SoundP_of (openE d1) ?_
  rintro v H2 ⟨p2, hv⟩
  have b2 := pre_get p2 b1
  have d2 := d1.pre p2
  have q2 := q1.trans p2
  rcases hv with ⟨rfl, rfl⟩ | ⟨rfl, q, rfl, hq⟩
  · simp -dsimp only [go_sem, ↓reduceIte, Nat.reduceEqDiff, Nat.reduceAdd, Nat.reduceMul, Nat.reduceSub, Nat.reduceLeDiff, Nat.reduceLT, Int.reduceBNe]
    exact ⟨q2, .inr (.inl hmay)⟩
  · simp -dsimp only [go_sem, ↓reduceIte, Nat.reduceEqDiff, Nat.reduceAdd, Nat.reduceMul, Nat.reduceSub, Nat.reduceLeDiff, Nat.reduceLT, Int.reduceBNe, b2]
    have p3 := List.prefix_append H2 [AObj.map #[] 0, AObj.row (nodeC s id q H2.length (.slice none 0 0) 0) 18 true]
    refine SoundP_of (storeList (pre_get p3 hq) (d2.pre p3)) ?_
    rintro _ H3 ⟨rfl, p4⟩
    simp -dsimp only [go_sem, ↓reduceIte, Nat.reduceEqDiff, Nat.reduceAdd, Nat.reduceMul, Nat.reduceSub, Nat.reduceLeDiff, Nat.reduceLT]
    refine aloopP_once ?_
    simp -dsimp only [go_sem, ↓reduceIte, Nat.reduceEqDiff, Nat.reduceAdd, Nat.reduceMul, Nat.reduceSub, Nat.reduceLeDiff, Nat.reduceLT, zlt]
    have l2 := pre_len p2
    have l1 := pre_len p1
    have l0 := pre_len p0
    exact ⟨q2.trans (p3.trans p4), .inr (.inr ⟨hmay, _, _, _, rfl, (by show H.length ≤ H2.length + 1; omega), pre_get p4 (get_end1 _ _ _ _), pre_get p4 (get_end _ _ _)⟩)⟩
theorem newNil (s : SetupS) (id : Int) (H : AHeap) : Sound Tryz.prog 7 [.int .i64 id, s.val, .pointer none] H fun v H' => v = .tuple #[.pointer none, .int .i64 1] ∧ H <+: H' := by
  refine Sound.of_body (rs := [.tmp 6, .tmp 7]) mixed Tryz.func7 rfl (by kernel_rfl) rfl (by kernel_rfl) ?_
  have b0 := get_end H (AObj.row s.cells 10 true) []
  have p0 := List.prefix_append H [AObj.row s.cells 10 true]
  simp -dsimp only [go_sem, ↓reduceIte, Nat.reduceEqDiff, Nat.reduceAdd, Nat.reduceMul, Nat.reduceSub, Nat.reduceLeDiff, Nat.reduceLT]
  generalize H ++ [AObj.row s.cells 10 true] = H0 at *
  refine SoundP_of (fitsLaw s H0) ?_
  rintro _ H1 ⟨rfl, p1⟩
  have b1 := pre_get p1 b0
  have q1 := p0.trans p1
  cases hA : fitsB s with
  | false => simp -dsimp only [go_sem, ↓reduceIte, Nat.reduceEqDiff, Nat.reduceAdd, Nat.reduceMul, Nat.reduceSub, Nat.reduceLeDiff, Nat.reduceLT, hA]; exact q1
  | true =>
  cases hB : decide (id < 21) with
  | true => simp -dsimp only [go_sem, ↓reduceIte, Nat.reduceEqDiff, Nat.reduceAdd, Nat.reduceMul, Nat.reduceSub, Nat.reduceLeDiff, Nat.reduceLT, hA, hB]; exact q1
  | false =>
  have hf := (fitsB_iff s).1 hA
  have hw : IntKind.i64.wrap (21 + s.stores) = 21 + s.stores := wr64 (by have := hf.t0; have := hf.t1; omega) (by have := hf.t0; have := hf.t1; omega)
  cases hC : decide (21 + s.stores ≤ id) with
  | true => simp -dsimp only [go_sem, ↓reduceIte, Nat.reduceEqDiff, Nat.reduceAdd, Nat.reduceMul, Nat.reduceSub, Nat.reduceLeDiff, Nat.reduceLT, hA, hB, hC, b1, hw]; exact q1
  | false => simp -dsimp only [go_sem, ↓reduceIte, Nat.reduceEqDiff, Nat.reduceAdd, Nat.reduceMul, Nat.reduceSub, Nat.reduceLeDiff, Nat.reduceLT, hA, hB, hC, b1, hw]; exact q1
theorem termLaw {n : Nat} {s : SetupS} {id : Int} {q m : Nat} {os : Value} {term : Int} {H : AHeap} (hn : H[n]? = some (.row (nodeC s id q m os term) 18 true)) : Sound Tryz.prog 10 [ptrV n] H fun v H' => v = .int .i64 term ∧ H' = H := by
  refine Sound.of_body (rs := [.tmp 2]) mixed Tryz.func10 rfl (by kernel_rfl) rfl (by kernel_rfl) ?_
  simp -dsimp only [go_sem, ↓reduceIte, Nat.reduceEqDiff, Nat.reduceAdd, Nat.reduceMul, Nat.reduceSub, Nat.reduceLeDiff, Nat.reduceLT, hn]
theorem waitLaw {n : Nat} {s : SetupS} {id : Int} {q m : Nat} {a : Option Addr} {l c : Nat} {term : Int} {H : AHeap} (hn : H[n]? = some (.row (nodeC s id q m (.slice a l c) term) 18 true)) : Sound Tryz.prog 11 [ptrV n] H fun v H' => v = .int .i64 l ∧ H' = H := by
  refine Sound.of_body (rs := [.tmp 2]) mixed Tryz.func11 rfl (by kernel_rfl) rfl (by kernel_rfl) ?_
  simp -dsimp only [go_sem, ↓reduceIte, Nat.reduceEqDiff, Nat.reduceAdd, Nat.reduceMul, Nat.reduceSub, Nat.reduceLeDiff, Nat.reduceLT, hn]

/-! ### orders to load the k-th segment -/
abbrev ordC (node : Int) (k : Nat) : List Value := [.bool false, .int .i64 0, .int .i64 0, .int .i64 k, .int .i64 0, .int .i64 0, .int .i64 node]
abbrev ord21 (k : Nat) : List Value := ordC 21 k
set_option maxHeartbeats 1000000 in
theorem indexO (l : List Nat) (i : Nat) (a : Option Addr) (c : Nat) (H : AHeap) (hs : SlA H ord21 7 a l) (hl : l.length < 1000) (hn : ∀ k ∈ l, k ≠ i) :
    Sound Tryz.prog 65 [.slice a l.length c, .agg (ord21 i).toArray] H fun v H' => v = .int .i64 (-1) ∧ H <+: H' := by
  refine Sound.of_body (rs := [.tmp 4]) mixed Tryz.func65 rfl (by kernel_rfl) rfl (by kernel_rfl) ?_
  simp -dsimp only [go_sem, ↓reduceIte, Nat.reduceEqDiff, Nat.reduceAdd, Nat.reduceMul, Nat.reduceSub, Nat.reduceLeDiff, Nat.reduceLT]
  refine aloopP_of (fun n T H' => ∃ j, n = l.length - j ∧ j ≤ l.length ∧ H' = H ++ [.row (ord21 i) 7 true] ∧ T 0 = .slice a l.length c ∧ T 3 = ptrV H.length ∧ T 7 = .int .i64 l.length ∧ T 8 = .int .i64 (j : Nat)) (n := l.length) ?_ ?_
  · refine ⟨0, ?_⟩
    simp -dsimp only [go_sem, ↓reduceIte, Nat.reduceEqDiff, Nat.reduceAdd, Nat.reduceMul, Nat.reduceSub, Nat.reduceLeDiff, Nat.reduceLT]
    exact ⟨rfl, Nat.zero_le _, rfl⟩
  · rintro n T H' ⟨j, rfl, hj, rfl, h0, h3, h7, h8⟩
    simp -dsimp only [go_sem, ↓reduceIte, Nat.reduceEqDiff, Nat.reduceAdd, Nat.reduceMul, Nat.reduceSub, Nat.reduceLeDiff, Nat.reduceLT, h0, h3, h7, h8]
    refine acondP_of (fun h => ?_) (fun h => ?_)
    · simp at h
      obtain ⟨x, hx⟩ := get_ex h
      obtain ⟨id, off, rfl, hat⟩ := (hs.pre (List.prefix_append H [.row (ord21 i) 7 true])).at (by omega)
      have hne : ((i : Int) == (x : Int)) = false := by have := hn x (List.mem_of_getElem? hx); simp; omega
      simp -dsimp only [go_sem, ↓reduceIte, Nat.reduceEqDiff, Nat.reduceAdd, Nat.reduceMul, Nat.reduceSub, Nat.reduceLeDiff, Nat.reduceLT, h0, h3, h7, h8]
      refine adrawnP_of2 [(0, false), (1, false), (2, false), (3, false), (4, false), (5, false)] (by kernel_rfl) ?_
      simp -dsimp only [go_sem, ↓reduceIte, Nat.reduceEqDiff, Nat.reduceAdd, Nat.reduceMul, Nat.reduceSub, Nat.reduceLeDiff, Nat.reduceLT, h0, h3, h7, h8, inRange h, rowLoad_whole (hat j x hx), hne, wrS (show j < 4611686018427387904 by omega), Bool.false_and, Bool.and_false, Bool.true_and, Int.reduceBEq]
      exact ⟨_, by omega, j + 1, rfl, h, rfl⟩
    · simp at h
      simp -dsimp only [go_sem, ↓reduceIte, Nat.reduceEqDiff, Nat.reduceAdd, Nat.reduceMul, Nat.reduceSub, Nat.reduceLeDiff, Nat.reduceLT, h0, h3, h7, h8]
      exact List.prefix_append _ _
theorem containsO (l : List Nat) (i : Nat) (a : Option Addr) (c : Nat) (H : AHeap) (hs : SlA H ord21 7 a l) (hl : l.length < 1000) (hn : ∀ k ∈ l, k ≠ i) :
    Sound Tryz.prog 24 [.slice a l.length c, .agg (ord21 i).toArray] H fun v H' => v = .bool false ∧ H <+: H' := by
  refine Sound.of_body (rs := [.tmp 4]) mixed Tryz.func24 rfl (by kernel_rfl) rfl (by kernel_rfl) ?_
  have p0 := List.prefix_append H [AObj.row (ord21 i) 7 true]
  simp -dsimp only [go_sem, ↓reduceIte, Nat.reduceEqDiff, Nat.reduceAdd, Nat.reduceMul, Nat.reduceSub, Nat.reduceLeDiff, Nat.reduceLT]
  refine SoundP_of (indexO l i a c _ (hs.pre p0) hl hn) ?_
  rintro _ H1 ⟨rfl, p1⟩
  have z : decide ((0 : Int) ≤ -1) = false := rfl
  simp -dsimp only [go_sem, ↓reduceIte, Nat.reduceEqDiff, Nat.reduceAdd, Nat.reduceMul, Nat.reduceSub, Nat.reduceLeDiff, Nat.reduceLT, z]
  exact p0.trans p1
/-- a message with such an order -/
abbrev msgC (term node : Int) (k : Nat) : List Value := [.int .i64 6, .int .i64 0, .int .i64 0, .int .u64 0, .int .u64 0, .int .u64 0, .int .i64 term, .int .u64 0, .int .i64 0, .int .i64 0, .slice none 0 0, .slice none 0 0, .int .i64 0, .int .i64 0, .int .i64 0, .int .i64 0, .slice none 0 0, .int .i64 0, .int .i64 0, .slice none 0 0, .int .i64 0, .slice none 0 0, .slice none 0 0, .int .i64 0, .int .i64 0, .int .i64 0, .int .i64 0, .int .i64 0, .int .i64 0, .int .i64 0, .int .i64 0, .int .i64 0, .bool false, .int .i64 0, .int .i64 0, .int .i64 k, .int .i64 0, .int .i64 0, .int .i64 node, .slice none 0 0, .slice none 0 0]
theorem pre_eq {H H' : AHeap} (h : H <+: H') {i : Nat} (hi : i < H.length) : H'[i]? = H[i]? := by obtain ⟨L, rfl⟩ := h; exact List.getElem?_append_left hi
/-- a node that waits for orders -/
structure NodeAt (b : Nat) (H : AHeap) (n : Nat) (s : SetupS) (l : List Nat) (term : Int) : Prop where
  row : ∃ (q m : Nat) (v : Value), H[n]? = some (.row (nodeC s 21 q m v term) 18 true) ∧ Own b H ord21 7 v l
  ge : n < b
set_option maxHeartbeats 2000000 in
theorem handleLaw {b n : Nat} {s : SetupS} {l : List Nat} {term : Int} {H : AHeap} (hn : NodeAt b H n s l term) (k : Nat) (t node : Int) (hb : b ≤ H.length) (hl : l.length < 1000) (hk : ∀ j ∈ l, j ≠ k) :
    Sound Tryz.prog 9 [ptrV n, .agg (msgC t node k).toArray] H fun _ H' => (∀ j, j < b → j ≠ n → H'[j]? = H[j]?) ∧ H.length ≤ H'.length ∧
      if term ≤ t ∧ node = 21 then NodeAt b H' n s (l ++ [k]) t else NodeAt b H' n s l term := by
  obtain ⟨⟨q, m, v, hr, ho⟩, hge⟩ := hn
  obtain ⟨a, c, rfl, -⟩ := ho.sl (fun _ => rfl)
  refine Sound.of_body (rs := [.tmp 4]) mixed Tryz.func9 rfl (by kernel_rfl) rfl (by kernel_rfl) ?_
  have p0 := List.prefix_append H [AObj.row (msgC t node k) 41 true]
  have b0 := get_end H (AObj.row (msgC t node k) 41 true) []
  have r0 := pre_get p0 hr
  have o0 := ho.pre p0
  have l0 : (H ++ [AObj.row (msgC t node k) 41 true]).length = H.length + 1 := by simp
  simp -dsimp only [go_sem, ↓reduceIte, Nat.reduceEqDiff, Nat.reduceAdd, Nat.reduceMul, Nat.reduceSub, Nat.reduceLeDiff, Nat.reduceLT, r0, Int.reduceBEq]
  refine adrawnP_of2 [(0, false), (1, false), (2, false), (3, false), (4, false), (5, false), (6, false), (7, false), (8, false), (9, false), (10, false), (11, false), (12, false), (13, false), (14, false), (15, false), (16, false)] (by kernel_rfl) ?_
  cases hA : decide (term ≤ t) with
  | false =>
    have hA' := dec_false hA
    simp -dsimp only [go_sem, ↓reduceIte, Nat.reduceEqDiff, Nat.reduceAdd, Nat.reduceMul, Nat.reduceSub, Nat.reduceLeDiff, Nat.reduceLT, r0, b0, hA, Int.reduceBEq]
    refine ⟨fun j hj _ => List.getElem?_append_left (by omega), Nat.le_succ _, ?_⟩
    rw [if_neg (fun h => hA' h.1)]
    exact ⟨⟨q, m, _, r0, o0⟩, hge⟩
  | true =>
    have hA' := of_decide_eq_true hA
    cases hB : (node == 21) with
    | false =>
      have hB' : node ≠ 21 := by simpa using hB
      simp -dsimp only [go_sem, ↓reduceIte, Nat.reduceEqDiff, Nat.reduceAdd, Nat.reduceMul, Nat.reduceSub, Nat.reduceLeDiff, Nat.reduceLT, r0, b0, hA, hB, Int.reduceBEq]
      refine ⟨fun j hj _ => List.getElem?_append_left (by omega), Nat.le_succ _, ?_⟩
      rw [if_neg (fun h => hB' h.2)]
      exact ⟨⟨q, m, _, r0, o0⟩, hge⟩
    | true =>
      obtain rfl : node = 21 := by simpa using hB
      simp -dsimp only [go_sem, ↓reduceIte, Nat.reduceEqDiff, Nat.reduceAdd, Nat.reduceMul, Nat.reduceSub, Nat.reduceLeDiff, Nat.reduceLT, r0, b0, hA, hB, Int.reduceBEq]
      have nlt : n < H.length := get_lt hr
      have e1 : ((H ++ [AObj.row (msgC t 21 k) 41 true]).set n (.row (nodeC s 21 q m (.slice a l.length c) t) 18 true))[n]? = some (.row (nodeC s 21 q m (.slice a l.length c) t) 18 true) := List.getElem?_set_self (by simp; omega)
      have e2 : ((H ++ [AObj.row (msgC t 21 k) 41 true]).set n (.row (nodeC s 21 q m (.slice a l.length c) t) 18 true))[H.length]? = some (.row (msgC t 21 k) 41 true) := by rw [List.getElem?_set_ne (by omega)]; exact b0
      have e3 : ∀ j, j < b → j ≠ n → ((H ++ [AObj.row (msgC t 21 k) 41 true]).set n (.row (nodeC s 21 q m (.slice a l.length c) t) 18 true))[j]? = H[j]? := fun j hj hjn => by rw [List.getElem?_set_ne (by omega), List.getElem?_append_left (by omega)]
      have o1 : Own b ((H ++ [AObj.row (msgC t 21 k) 41 true]).set n (.row (nodeC s 21 q m (.slice a l.length c) t) 18 true)) ord21 7 (.slice a l.length c) l := o0.keep fun j hj => List.getElem?_set_ne (by have := (o0.owner_ge hj).1; omega)
      have e4 : ((H ++ [AObj.row (msgC t 21 k) 41 true]).set n (.row (nodeC s 21 q m (.slice a l.length c) t) 18 true)).length = H.length + 1 := by simp
      refine adrawnP_of2 [(0, false), (1, false), (2, false), (3, false), (4, false), (5, false), (6, false), (7, false)] (by kernel_rfl) ?_
      simp -dsimp only [go_sem, ↓reduceIte, Nat.reduceEqDiff, Nat.reduceAdd, Nat.reduceMul, Nat.reduceSub, Nat.reduceLeDiff, Nat.reduceLT, e1, e2]
      refine SoundP_of (containsO l k a c _ (o1.slA (fun _ => rfl)).2 hl hk) ?_
      rintro _ H2 ⟨rfl, p2⟩
      have f1 := pre_get p2 e1
      have f2 := pre_get p2 e2
      have o2 := o1.pre p2
      have l2 := pre_len p2
      rw [e4] at l2
      have f3 : ∀ j, j < b → j ≠ n → H2[j]? = H[j]? := fun j hj hjn => by rw [← e3 j hj hjn]; exact pre_eq p2 (by simp; omega)
      simp -dsimp only [go_sem, ↓reduceIte, Nat.reduceEqDiff, Nat.reduceAdd, Nat.reduceMul, Nat.reduceSub, Nat.reduceLeDiff, Nat.reduceLT]
      refine adrawnP_of2 [(0, false), (1, false), (2, false), (3, false), (4, false), (5, false), (6, false), (7, false), (8, false), (9, false), (10, false), (11, false)] (by kernel_rfl) ?_
      have f1' := get_app f1 [AObj.row (ord21 k) 7 true]
      obtain ⟨v3, H3, g1, g2, g3, g4, g5⟩ := Own.app1b un85 el85 inf40 rfl (by decide) (by decide) (fun _ => rfl) (fun _ => rfl) (b := b) (by omega) o2 k (by omega)
      obtain ⟨a3, c3, rfl, -⟩ := g2.sl (fun _ => rfl)
      have nn : owner (.slice a l.length c) ≠ some n := fun h => by have := (o2.owner_ge h).1; omega
      have f4 : H3[n]? = some (.row (nodeC s 21 q m (.slice a l.length c) t) 18 true) := by rw [g4 n (by omega) nn]; exact f1
      simp -dsimp only [go_sem, ↓reduceIte, Nat.reduceEqDiff, Nat.reduceAdd, Nat.reduceMul, Nat.reduceSub, Nat.reduceLeDiff, Nat.reduceLT, f1, f2, f1', g1, f4]
      refine ⟨fun j hj hjn => ?_, by rw [List.length_set]; omega, ?_⟩
      · rw [List.getElem?_set_ne (by omega), g4 j (by omega) (fun h => by have := (o2.owner_ge h).1; omega)]
        exact f3 j hj hjn
      · rw [if_pos (by first | exact hA' | exact ⟨hA', rfl⟩)]
        refine ⟨⟨q, m, .slice a3 (l.length + 1) c3, List.getElem?_set_self (by omega), ?_⟩, hge⟩
        have gl : (l ++ [k]).length = l.length + 1 := by simp
        rw [gl] at g2
        exact g2.keep fun j hj => List.getElem?_set_ne (by have := (g2.owner_ge hj).1; omega)
end Go.Proofs.YtahopobanopkfaaGreatDoor
