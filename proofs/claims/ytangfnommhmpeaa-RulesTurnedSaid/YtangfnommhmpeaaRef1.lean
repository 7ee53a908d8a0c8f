/-
  The document's small functions of layer 16: Same, Has, Holds, Replicas, Load, Many.
-/
import Derived.Test.YtangfnommhmpeaaCmp
set_option linter.unusedVariables false
set_option linter.unusedSimpArgs false
namespace Go.Proofs.Ytangfnommhmpeaa
open Go Go.AW
set_option linter.unusedSimpArgs false
set_option maxRecDepth 20000

theorem Seg.eq_iff (a b : Seg) : a = b ↔ a.f = b.f ∧ a.t = b.t ∧ a.v = b.v ∧ a.p = b.p ∧ a.c = b.c := by
  cases a; cases b; simp
theorem Order.eq_iff (a b : Order) : a = b ↔ a.drop = b.drop ∧ a.seg = b.seg ∧ a.node = b.node := by
  cases a; cases b; simp
abbrev SegsAt (H : AHeap) (a : Option Addr) (l : List Seg) : Prop := SlA H Seg.cells 5 a l
abbrev OrdersAt (H : AHeap) (a : Option Addr) (l : List Order) : Prop := SlA H Order.cells 7 a l
abbrev IntsAt (H : AHeap) (a : Option Addr) (l : List Int) : Prop := SlA H encI 1 a l

/-- a step on -/
theorem any_take {α : Type} (p : α → Bool) {l : List α} {i : Nat} {x : α} (hx : l[i]? = some x) : (l.take (i + 1)).any p = ((l.take i).any p || p x) := by
  rw [take_get hx]; simp

theorem segEqB (x s : Seg) : (x.f == s.f && x.t == s.t && (x.v == s.v && (x.p == s.p && x.c == s.c))) = decide (x = s) := by
  rw [Bool.eq_iff_iff]; simp [Seg.eq_iff, and_assoc]
theorem orderEqB (x s : Order) : (x.drop == s.drop && (x.seg.f == s.seg.f && x.seg.t == s.seg.t && (x.seg.v == s.seg.v && (x.seg.p == s.seg.p && x.seg.c == s.seg.c)) && x.node == s.node)) = decide (x = s) := by
  rw [segEqB, Bool.eq_iff_iff]; simp [Order.eq_iff]

theorem refHas (s : Seg) (l : List Seg) (a : Option Addr) (c : Nat) (H : AHeap) (hs : SegsAt H a l) (hl : l.length < 1000) :
    Sound Try.prog 21 [.slice a l.length c, s.val] H fun v H' => v = .bool (decide (s ∈ l)) ∧ H <+: H' := by
  refine Sound.of_body (rs := [.tmp 4]) mixed Try.func21 rfl (by kernel_rfl) rfl (by kernel_rfl) ?_
  simp -dsimp only [go_sem, ↓reduceIte, Nat.reduceEqDiff, Nat.reduceAdd, Nat.reduceMul, Nat.reduceSub, Nat.reduceLeDiff, Nat.reduceLT]
  refine aloopP_of (fun n T H' => ∃ i, n = l.length - i ∧ i ≤ l.length ∧ H' = H ++ [.row s.cells 5 true] ∧ T 0 = .slice a l.length c ∧ T 3 = .pointer (some ⟨H.length, 0, none⟩) ∧ T 5 = .int .i64 i ∧ s ∉ l.take i) (n := l.length) ?_ ?_
  · refine ⟨0, ?_⟩
    simp -dsimp only [go_sem, ↓reduceIte, Nat.reduceEqDiff, Nat.reduceAdd, Nat.reduceMul, Nat.reduceSub, Nat.reduceLeDiff, Nat.reduceLT]
    simp
  · rintro n T H' ⟨i, rfl, hi, rfl, h0, h3, h5, ho⟩
    simp -dsimp only [go_sem, ↓reduceIte, Nat.reduceEqDiff, Nat.reduceAdd, Nat.reduceMul, Nat.reduceSub, Nat.reduceLeDiff, Nat.reduceLT, h0, h3, h5]
    refine acondP_of (fun h => ?_) (fun h => ?_)
    · simp at h
      obtain ⟨x, hx⟩ := get_ex h
      obtain ⟨id, off, rfl, hat⟩ := (hs.pre (List.prefix_append H [.row s.cells 5 true])).at (by omega)
      simp -dsimp only [go_sem, ↓reduceIte, Nat.reduceEqDiff, Nat.reduceAdd, Nat.reduceMul, Nat.reduceSub, Nat.reduceLeDiff, Nat.reduceLT, h0, h3, h5]
      refine adrawnP_of2 [(0, false), (1, false), (2, false), (3, false), (4, false), (5, false)] (by kernel_rfl) ?_
      simp -dsimp only [go_sem, ↓reduceIte, Nat.reduceEqDiff, Nat.reduceAdd, Nat.reduceMul, Nat.reduceSub, Nat.reduceLeDiff, Nat.reduceLT, h0, h3, h5, inRange h, rowLoad_whole (hat i x hx), segEqB]
      refine acondP_of (fun h' => ?_) (fun h' => ?_)
      · simp -dsimp only [go_sem, ↓reduceIte, Nat.reduceEqDiff, Nat.reduceAdd, Nat.reduceMul, Nat.reduceSub, Nat.reduceLeDiff, Nat.reduceLT, h0, h3, h5]
        simp at h'
        subst h'
        have := List.mem_of_getElem? hx
        simp [this]
      · simp -dsimp only [go_sem, ↓reduceIte, Nat.reduceEqDiff, Nat.reduceAdd, Nat.reduceMul, Nat.reduceSub, Nat.reduceLeDiff, Nat.reduceLT, h0, h3, h5, wrS (show i < 4611686018427387904 by omega)]
        simp at h'
        refine ⟨_, ?_, i + 1, rfl, h, ?_⟩
        · omega
        · simp [take_get hx, ho, Ne.symm h']
    · simp at h
      obtain rfl : i = l.length := by omega
      simp -dsimp only [go_sem, ↓reduceIte, Nat.reduceEqDiff, Nat.reduceAdd, Nat.reduceMul, Nat.reduceSub, Nat.reduceLeDiff, Nat.reduceLT, h0, h3, h5]
      simp at ho
      simp [ho]

theorem refSame (l m : List Order) (a b : Option Addr) (c d : Nat) (H : AHeap) (hs : OrdersAt H a l) (hm : OrdersAt H b m) (hl : l.length < 1000) :
    Sound Try.prog 11 [.slice a l.length c, .slice b m.length d] H fun v H' => v = .bool (decide (l = m)) ∧ H <+: H' := by
  refine Sound.of_body (rs := [.tmp 4]) mixed Try.func11 rfl (by kernel_rfl) rfl (by kernel_rfl) ?_
  simp -dsimp only [go_sem, ↓reduceIte, Nat.reduceEqDiff, Nat.reduceAdd, Nat.reduceMul, Nat.reduceSub, Nat.reduceLeDiff, Nat.reduceLT]
  refine acondP_of (fun h => ?_) (fun h => ?_)
  · simp -dsimp only [go_sem, ↓reduceIte, Nat.reduceEqDiff, Nat.reduceAdd, Nat.reduceMul, Nat.reduceSub, Nat.reduceLeDiff, Nat.reduceLT]
    simp at h
    have : l ≠ m := fun e => h (by rw [e])
    simp [this]
  simp at h
  have hlen : m.length = l.length := by omega
  simp -dsimp only [go_sem, ↓reduceIte, Nat.reduceEqDiff, Nat.reduceAdd, Nat.reduceMul, Nat.reduceSub, Nat.reduceLeDiff, Nat.reduceLT]
  refine aloopP_of (fun n T H' => ∃ i, n = l.length - i ∧ i ≤ l.length ∧ H' = H ∧ T 0 = .slice a l.length c ∧ T 1 = .slice b m.length d ∧ T 5 = .int .i64 i ∧ l.take i = m.take i) (n := l.length) ?_ ?_
  · refine ⟨0, ?_⟩
    simp -dsimp only [go_sem, ↓reduceIte, Nat.reduceEqDiff, Nat.reduceAdd, Nat.reduceMul, Nat.reduceSub, Nat.reduceLeDiff, Nat.reduceLT]
    simp
  · rintro n T H' ⟨i, rfl, hi, rfl, h0, h1, h5, ho⟩
    simp -dsimp only [go_sem, ↓reduceIte, Nat.reduceEqDiff, Nat.reduceAdd, Nat.reduceMul, Nat.reduceSub, Nat.reduceLeDiff, Nat.reduceLT, h0, h1, h5]
    refine acondP_of (fun h => ?_) (fun h => ?_)
    · simp at h
      obtain ⟨x, hx⟩ := get_ex h
      obtain ⟨y, hy⟩ := get_ex (show i < m.length by omega)
      obtain ⟨id, off, rfl, hat⟩ := hs.at (by omega)
      obtain ⟨id2, off2, rfl, hat2⟩ := hm.at (by omega)
      simp -dsimp only [go_sem, ↓reduceIte, Nat.reduceEqDiff, Nat.reduceAdd, Nat.reduceMul, Nat.reduceSub, Nat.reduceLeDiff, Nat.reduceLT, h0, h1, h5]
      refine adrawnP_of2 [(0, false), (1, false), (2, false), (3, false), (4, false), (5, false), (6, false), (7, false), (8, false)] (by kernel_rfl) ?_
      simp -dsimp only [go_sem, ↓reduceIte, Nat.reduceEqDiff, Nat.reduceAdd, Nat.reduceMul, Nat.reduceSub, Nat.reduceLeDiff, Nat.reduceLT, h0, h1, h5, inRange h, inRange (show i < m.length by omega), rowLoad_whole (hat i x hx), rowLoad_whole (hat2 i y hy), orderEqB]
      refine acondP_of (fun h' => ?_) (fun h' => ?_)
      · simp -dsimp only [go_sem, ↓reduceIte, Nat.reduceEqDiff, Nat.reduceAdd, Nat.reduceMul, Nat.reduceSub, Nat.reduceLeDiff, Nat.reduceLT, h0, h1, h5]
        simp at h'
        have : l ≠ m := fun e => h' (by rw [e, hy] at hx; exact (Option.some.inj hx).symm)
        simp [this]
      · simp -dsimp only [go_sem, ↓reduceIte, Nat.reduceEqDiff, Nat.reduceAdd, Nat.reduceMul, Nat.reduceSub, Nat.reduceLeDiff, Nat.reduceLT, h0, h1, h5, wrS (show i < 4611686018427387904 by omega)]
        simp at h'
        refine ⟨_, ?_, i + 1, rfl, h, ?_⟩
        · omega
        · simp [take_get hx, take_get hy, ho, h']
    · simp at h
      obtain rfl : i = l.length := by omega
      simp -dsimp only [go_sem, ↓reduceIte, Nat.reduceEqDiff, Nat.reduceAdd, Nat.reduceMul, Nat.reduceSub, Nat.reduceLeDiff, Nat.reduceLT, h0, h1, h5]
      rw [← hlen] at ho
      simp [hlen] at ho
      rw [← hlen] at ho
      simp at ho
      simp [ho]

def holdsP (s : Seg) (n : Int) (o : Order) : Bool := decide (o.seg = s) && decide (o.node = n)

theorem refHolds (s : Seg) (n : Int) (l : List Order) (a : Option Addr) (c : Nat) (H : AHeap) (hs : OrdersAt H a l) (hl : l.length < 1000) :
    Sound Try.prog 22 [.slice a l.length c, s.val, .int .i64 n] H fun v H' => v = .bool (l.any (holdsP s n)) ∧ H <+: H' := by
  refine Sound.of_body (rs := [.tmp 6]) mixed Try.func22 rfl (by kernel_rfl) rfl (by kernel_rfl) ?_
  simp -dsimp only [go_sem, ↓reduceIte, Nat.reduceEqDiff, Nat.reduceAdd, Nat.reduceMul, Nat.reduceSub, Nat.reduceLeDiff, Nat.reduceLT]
  refine aloopP_of (fun m T H' => ∃ i, m = l.length - i ∧ i ≤ l.length ∧ H' = H ++ [.row s.cells 5 true] ∧ T 0 = .slice a l.length c ∧ T 2 = .int .i64 n ∧ T 4 = .pointer (some ⟨H.length, 0, none⟩) ∧ T 7 = .int .i64 i ∧ (l.take i).any (holdsP s n) = false) (n := l.length) ?_ ?_
  · refine ⟨0, ?_⟩
    simp -dsimp only [go_sem, ↓reduceIte, Nat.reduceEqDiff, Nat.reduceAdd, Nat.reduceMul, Nat.reduceSub, Nat.reduceLeDiff, Nat.reduceLT]
    simp
  · rintro m T H' ⟨i, rfl, hi, rfl, h0, h2, h4, h7, ho⟩
    simp -dsimp only [go_sem, ↓reduceIte, Nat.reduceEqDiff, Nat.reduceAdd, Nat.reduceMul, Nat.reduceSub, Nat.reduceLeDiff, Nat.reduceLT, h0, h2, h4, h7]
    refine acondP_of (fun h => ?_) (fun h => ?_)
    · simp at h
      obtain ⟨x, hx⟩ := get_ex h
      obtain ⟨id, off, rfl, hat⟩ := (hs.pre (List.prefix_append H [.row s.cells 5 true])).at (by omega)
      simp -dsimp only [go_sem, ↓reduceIte, Nat.reduceEqDiff, Nat.reduceAdd, Nat.reduceMul, Nat.reduceSub, Nat.reduceLeDiff, Nat.reduceLT, h0, h2, h4, h7]
      refine adrawnP_of2 [(0, false), (1, false), (2, false), (3, false), (4, false), (5, false), (6, false), (7, false), (8, false), (9, false), (10, false), (11, false), (12, false), (13, false), (14, false), (15, false)] (by kernel_rfl) ?_
      by_cases e1 : x.seg = s
      · simp -dsimp only [go_sem, ↓reduceIte, Nat.reduceEqDiff, Nat.reduceAdd, Nat.reduceMul, Nat.reduceSub, Nat.reduceLeDiff, Nat.reduceLT, h0, h2, h4, h7, inRange h, rowLoad_cell (hat i x hx), rowLoad_whole (aload_sub (hat i x hx) 1 5 (by decide)), segEqB, decide_eq_true e1]
        refine acondP_of (fun h' => ?_) (fun h' => ?_)
        · simp -dsimp only [go_sem, ↓reduceIte, Nat.reduceEqDiff, Nat.reduceAdd, Nat.reduceMul, Nat.reduceSub, Nat.reduceLeDiff, Nat.reduceLT, h0, h2, h4, h7]
          simp at h'
          have : l.any (holdsP s n) = true := List.any_eq_true.2 ⟨x, List.mem_of_getElem? hx, by simp [holdsP, e1, h']⟩
          simp [this]
        · simp -dsimp only [go_sem, ↓reduceIte, Nat.reduceEqDiff, Nat.reduceAdd, Nat.reduceMul, Nat.reduceSub, Nat.reduceLeDiff, Nat.reduceLT, h0, h2, h4, h7, wrS (show i < 4611686018427387904 by omega)]
          simp at h'
          refine ⟨_, ?_, i + 1, rfl, h, ?_⟩
          · omega
          · simp [any_take _ hx, ho, holdsP, h']
      · simp -dsimp only [go_sem, ↓reduceIte, Nat.reduceEqDiff, Nat.reduceAdd, Nat.reduceMul, Nat.reduceSub, Nat.reduceLeDiff, Nat.reduceLT, h0, h2, h4, h7, inRange h, rowLoad_cell (hat i x hx), rowLoad_whole (aload_sub (hat i x hx) 1 5 (by decide)), segEqB, decide_eq_false e1, wrS (show i < 4611686018427387904 by omega)]
        refine ⟨_, ?_, i + 1, rfl, h, ?_⟩
        · omega
        · simp [any_take _ hx, ho, holdsP, e1]
    · simp at h
      obtain rfl : i = l.length := by omega
      simp -dsimp only [go_sem, ↓reduceIte, Nat.reduceEqDiff, Nat.reduceAdd, Nat.reduceMul, Nat.reduceSub, Nat.reduceLeDiff, Nat.reduceLT, h0, h2, h4, h7]
      rw [List.take_length] at ho
      simp [ho]

theorem countP_take {α : Type} (p : α → Bool) {l : List α} {i : Nat} {x : α} (hx : l[i]? = some x) : (l.take (i + 1)).countP p = (l.take i).countP p + (if p x then 1 else 0) := by
  rw [take_get hx, List.countP_append]; simp [List.countP_cons]
theorem countP_take_le {α : Type} (p : α → Bool) (l : List α) (i : Nat) : (l.take i).countP p ≤ l.length := Nat.le_trans List.countP_le_length (by simp; omega)

def loadP (have_ : List Order) (n : Int) (s : Seg) : Bool := have_.any (holdsP s n)

theorem refLoad (n : Int) (w : List Seg) (l : List Order) (a b : Option Addr) (c d : Nat) (H : AHeap) (hw : SegsAt H a w) (hs : OrdersAt H b l) (hwl : w.length < 1000) (hl : l.length < 1000) :
    Sound Try.prog 24 [.slice a w.length c, .slice b l.length d, .int .i64 n] H fun v H' => v = .int .i64 (w.countP (loadP l n) : Nat) ∧ H <+: H' := by
  refine Sound.of_body (rs := [.tmp 6]) mixed Try.func24 rfl (by kernel_rfl) rfl (by kernel_rfl) ?_
  simp -dsimp only [go_sem, ↓reduceIte, Nat.reduceEqDiff, Nat.reduceAdd, Nat.reduceMul, Nat.reduceSub, Nat.reduceLeDiff, Nat.reduceLT]
  refine aloopP_of (fun m T H' => ∃ i, m = w.length - i ∧ i ≤ w.length ∧ H <+: H' ∧ T 0 = .slice a w.length c ∧ T 1 = .slice b l.length d ∧ T 2 = .int .i64 n ∧ T 7 = .int .i64 ((w.take i).countP (loadP l n) : Nat) ∧ T 8 = .int .i64 i) (n := w.length) ?_ ?_
  · refine ⟨0, ?_⟩
    simp -dsimp only [go_sem, ↓reduceIte, Nat.reduceEqDiff, Nat.reduceAdd, Nat.reduceMul, Nat.reduceSub, Nat.reduceLeDiff, Nat.reduceLT]
    simp
  · rintro m T H' ⟨i, rfl, hi, hp, h0, h1, h2, h7, h8⟩
    simp -dsimp only [go_sem, ↓reduceIte, Nat.reduceEqDiff, Nat.reduceAdd, Nat.reduceMul, Nat.reduceSub, Nat.reduceLeDiff, Nat.reduceLT, h0, h1, h2, h7, h8]
    refine acondP_of (fun h => ?_) (fun h => ?_)
    · simp at h
      obtain ⟨x, hx⟩ := get_ex h
      obtain ⟨id, off, rfl, hat⟩ := (hw.pre hp).at (by omega)
      simp -dsimp only [go_sem, ↓reduceIte, Nat.reduceEqDiff, Nat.reduceAdd, Nat.reduceMul, Nat.reduceSub, Nat.reduceLeDiff, Nat.reduceLT, h0, h1, h2, h7, h8, inRange h, rowLoad_whole (hat i x hx)]
      refine SoundP_of (refHolds x n l b d _ (hs.pre hp) hl) ?_
      rintro v H1 ⟨rfl, hp1⟩
      simp -dsimp only [go_sem, ↓reduceIte, Nat.reduceEqDiff, Nat.reduceAdd, Nat.reduceMul, Nat.reduceSub, Nat.reduceLeDiff, Nat.reduceLT, h0, h1, h2, h7, h8]
      have hle := countP_take_le (loadP l n) w i
      refine acondP_of (fun h' => ?_) (fun h' => ?_)
      · simp -dsimp only [go_sem, ↓reduceIte, Nat.reduceEqDiff, Nat.reduceAdd, Nat.reduceMul, Nat.reduceSub, Nat.reduceLeDiff, Nat.reduceLT, h0, h1, h2, h7, h8, wrS (show i < 4611686018427387904 by omega), wrS (show (w.take i).countP (loadP l n) < 4611686018427387904 by omega)]
        refine ⟨_, ?_, i + 1, rfl, h, hp.trans hp1, ?_⟩
        · omega
        · simp [countP_take _ hx, loadP, h']
      · simp -dsimp only [go_sem, ↓reduceIte, Nat.reduceEqDiff, Nat.reduceAdd, Nat.reduceMul, Nat.reduceSub, Nat.reduceLeDiff, Nat.reduceLT, h0, h1, h2, h7, h8, wrS (show i < 4611686018427387904 by omega)]
        refine ⟨_, ?_, i + 1, rfl, h, hp.trans hp1, ?_⟩
        · omega
        · simp [countP_take _ hx, loadP, h']
    · simp at h
      obtain rfl : i = w.length := by omega
      simp -dsimp only [go_sem, ↓reduceIte, Nat.reduceEqDiff, Nat.reduceAdd, Nat.reduceMul, Nat.reduceSub, Nat.reduceLeDiff, Nat.reduceLT, h0, h1, h2, h7, h8]
      simp [hp]

def manyP (have_ : List Order) (s : Seg) (n : Int) : Bool := have_.any (holdsP s n)

theorem refMany (s : Seg) (l : List Order) (w : List Int) (b a : Option Addr) (d c : Nat) (H : AHeap) (hs : OrdersAt H b l) (hw : IntsAt H a w) (hwl : w.length < 1000) (hl : l.length < 1000) :
    Sound Try.prog 20 [.slice b l.length d, s.val, .slice a w.length c] H fun v H' => v = .int .i64 (w.countP (manyP l s) : Nat) ∧ H <+: H' := by
  refine Sound.of_body (rs := [.tmp 6]) mixed Try.func20 rfl (by kernel_rfl) rfl (by kernel_rfl) ?_
  simp -dsimp only [go_sem, ↓reduceIte, Nat.reduceEqDiff, Nat.reduceAdd, Nat.reduceMul, Nat.reduceSub, Nat.reduceLeDiff, Nat.reduceLT]
  refine aloopP_of (fun m T H' => ∃ i, m = w.length - i ∧ i ≤ w.length ∧ (H ++ [.row s.cells 5 true]) <+: H' ∧ T 0 = .slice b l.length d ∧ T 2 = .slice a w.length c ∧ T 4 = .pointer (some ⟨H.length, 0, none⟩) ∧ T 7 = .int .i64 ((w.take i).countP (manyP l s) : Nat) ∧ T 8 = .int .i64 i) (n := w.length) ?_ ?_
  · refine ⟨0, ?_⟩
    simp -dsimp only [go_sem, ↓reduceIte, Nat.reduceEqDiff, Nat.reduceAdd, Nat.reduceMul, Nat.reduceSub, Nat.reduceLeDiff, Nat.reduceLT]
    simp
  · rintro m T H' ⟨i, rfl, hi, hp, h0, h2, h4, h7, h8⟩
    have hp0 : H <+: H' := (List.prefix_append _ _).trans hp
    have hb := pre_get hp (get_end H _ [])
    simp -dsimp only [go_sem, ↓reduceIte, Nat.reduceEqDiff, Nat.reduceAdd, Nat.reduceMul, Nat.reduceSub, Nat.reduceLeDiff, Nat.reduceLT, h0, h2, h4, h7, h8]
    refine acondP_of (fun h => ?_) (fun h => ?_)
    · simp at h
      obtain ⟨x, hx⟩ := get_ex h
      obtain ⟨id, off, rfl, hat⟩ := (hw.pre hp0).at (by omega)
      simp -dsimp only [go_sem, ↓reduceIte, Nat.reduceEqDiff, Nat.reduceAdd, Nat.reduceMul, Nat.reduceSub, Nat.reduceLeDiff, Nat.reduceLT, h0, h2, h4, h7, h8]
      refine adrawnP_of2 [(0, false), (1, false), (2, false), (3, false), (4, false), (5, false), (6, false), (7, false)] (by kernel_rfl) ?_
      simp -dsimp only [go_sem, ↓reduceIte, Nat.reduceEqDiff, Nat.reduceAdd, Nat.reduceMul, Nat.reduceSub, Nat.reduceLeDiff, Nat.reduceLT, h0, h2, h4, h7, h8, inRange h, rowLoad_one0 (hat i x hx), hb]
      refine SoundP_of (refHolds s x l b d _ (hs.pre hp0) hl) ?_
      rintro v H1 ⟨rfl, hp1⟩
      simp -dsimp only [go_sem, ↓reduceIte, Nat.reduceEqDiff, Nat.reduceAdd, Nat.reduceMul, Nat.reduceSub, Nat.reduceLeDiff, Nat.reduceLT, h0, h2, h4, h7, h8]
      have hle := countP_take_le (manyP l s) w i
      refine acondP_of (fun h' => ?_) (fun h' => ?_)
      · simp -dsimp only [go_sem, ↓reduceIte, Nat.reduceEqDiff, Nat.reduceAdd, Nat.reduceMul, Nat.reduceSub, Nat.reduceLeDiff, Nat.reduceLT, h0, h2, h4, h7, h8, wrS (show i < 4611686018427387904 by omega), wrS (show (w.take i).countP (manyP l s) < 4611686018427387904 by omega)]
        refine ⟨_, ?_, i + 1, rfl, h, hp.trans hp1, ?_⟩
        · omega
        · simp [countP_take _ hx, manyP, h']
      · simp -dsimp only [go_sem, ↓reduceIte, Nat.reduceEqDiff, Nat.reduceAdd, Nat.reduceMul, Nat.reduceSub, Nat.reduceLeDiff, Nat.reduceLT, h0, h2, h4, h7, h8, wrS (show i < 4611686018427387904 by omega)]
        refine ⟨_, ?_, i + 1, rfl, h, hp.trans hp1, ?_⟩
        · omega
        · simp [countP_take _ hx, manyP, h']
    · simp at h
      obtain rfl : i = w.length := by omega
      simp -dsimp only [go_sem, ↓reduceIte, Nat.reduceEqDiff, Nat.reduceAdd, Nat.reduceMul, Nat.reduceSub, Nat.reduceLeDiff, Nat.reduceLT, h0, h2, h4, h7, h8]
      simp [hp0]

def replicasZ (r : Int) (n : Nat) : Int := let r := if r < 1 then 1 else r; if r > n then n else r
theorem refReplicas (r : Int) (n : Nat) (a : Option Addr) (c : Nat) (H : AHeap) :
    Sound Try.prog 19 [.int .i64 r, .slice a n c] H fun v H' => v = .int .i64 (replicasZ r n) ∧ H' = H := by
  refine Sound.of_body (rs := [.tmp 4]) mixed Try.func19 rfl (by kernel_rfl) rfl (by kernel_rfl) ?_
  simp -dsimp only [go_sem, ↓reduceIte, Nat.reduceEqDiff, Nat.reduceAdd, Nat.reduceMul, Nat.reduceSub, Nat.reduceLeDiff, Nat.reduceLT]
  refine acondP_of (fun h => ?_) (fun h => ?_)
  · simp at h
    simp -dsimp only [go_sem, ↓reduceIte, Nat.reduceEqDiff, Nat.reduceAdd, Nat.reduceMul, Nat.reduceSub, Nat.reduceLeDiff, Nat.reduceLT]
    refine acondP_of (fun h2 => ?_) (fun h2 => ?_)
    · simp at h2
      simp -dsimp only [go_sem, ↓reduceIte, Nat.reduceEqDiff, Nat.reduceAdd, Nat.reduceMul, Nat.reduceSub, Nat.reduceLeDiff, Nat.reduceLT]
      simp [replicasZ, h, h2]
    · simp at h2
      simp -dsimp only [go_sem, ↓reduceIte, Nat.reduceEqDiff, Nat.reduceAdd, Nat.reduceMul, Nat.reduceSub, Nat.reduceLeDiff, Nat.reduceLT]
      simp [replicasZ, h, Int.not_lt.2 h2]
  · simp at h
    simp -dsimp only [go_sem, ↓reduceIte, Nat.reduceEqDiff, Nat.reduceAdd, Nat.reduceMul, Nat.reduceSub, Nat.reduceLeDiff, Nat.reduceLT]
    refine acondP_of (fun h2 => ?_) (fun h2 => ?_)
    · simp at h2
      simp -dsimp only [go_sem, ↓reduceIte, Nat.reduceEqDiff, Nat.reduceAdd, Nat.reduceMul, Nat.reduceSub, Nat.reduceLeDiff, Nat.reduceLT]
      simp [replicasZ, Int.not_lt.2 h, h2]
    · simp at h2
      simp -dsimp only [go_sem, ↓reduceIte, Nat.reduceEqDiff, Nat.reduceAdd, Nat.reduceMul, Nat.reduceSub, Nat.reduceLeDiff, Nat.reduceLT]
      simp [replicasZ, Int.not_lt.2 h, Int.not_lt.2 h2]
end Go.Proofs.Ytangfnommhmpeaa
