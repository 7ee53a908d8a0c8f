/-
  The functions that stretches hands on: which set goes ahead; does a set reach over a stretch.
-/
import Derived.Test.YthbifkeadbmcnaaStr
import Derived.Test.YthbifkeadbmcnaaAwSort1
import Derived.Test.YthbifkeadbmcnaaShelf
set_option linter.unusedVariables false
set_option linter.unusedSimpArgs false
namespace Go.Proofs.Ythbifkeadbmcnaa
open Go Go.AW
set_option linter.unusedSimpArgs false
set_option maxRecDepth 20000

theorem setsCmp (ia ib : Nat) (ka kb : Key) (sa sb : Value) (oa ob : Bool) (H : AHeap) (ha : H[ia]? = some (.row [.int .i64 ka.f, .int .i64 ka.t, .int .i64 ka.v, sa] 4 oa)) (hb : H[ib]? = some (.row [.int .i64 kb.f, .int .i64 kb.t, .int .i64 kb.v, sb] 4 ob)) :
    Sound Try.prog 44 [ptrV ia, ptrV ib] H fun v H' => v = .int .i64 (cmpAhead ka kb) ∧ H <+: H' := by
  refine Sound.of_body (rs := [.tmp 4]) mixed Try.func44 rfl (by kernel_rfl) rfl (by kernel_rfl) ?_
  simp -dsimp only [go_sem, ↓reduceIte, Nat.reduceEqDiff, Nat.reduceAdd, Nat.reduceMul, Nat.reduceSub, Nat.reduceLeDiff, Nat.reduceLT]
  refine adrawnP_of2 [(0, false), (1, false), (2, false), (3, false), (4, false), (5, false), (6, false), (7, false), (8, false), (9, false)] (by kernel_rfl) ?_
  simp -dsimp only [go_sem, ↓reduceIte, Nat.reduceEqDiff, Nat.reduceAdd, Nat.reduceMul, Nat.reduceSub, Nat.reduceLeDiff, Nat.reduceLT, ha, hb]
  refine SoundP_of (ahead ka kb H) ?_
  rintro _ H1 ⟨rfl, hp⟩
  simp -dsimp only [go_sem, ↓reduceIte, Nat.reduceEqDiff, Nat.reduceAdd, Nat.reduceMul, Nat.reduceSub, Nat.reduceLeDiff, Nat.reduceLT]
  exact hp
/-- a set reaches over a stretch -/
def reaches (k : Key) (f t : Int) : Bool := decide (k.f ≤ f) && decide (t ≤ k.t)
theorem setsReach (ia iF iT : Nat) (k : Key) (sv : Value) (o : Bool) (f t : Int) (H : AHeap) (ha : H[ia]? = some (.row [.int .i64 k.f, .int .i64 k.t, .int .i64 k.v, sv] 4 o)) (hf : H[iF]? = some (.row [.int .i64 f] 1 true)) (ht : H[iT]? = some (.row [.int .i64 t] 1 true)) :
    Sound Try.prog 49 [ptrV ia, ptrV iF, ptrV iT] H fun v H' => v = .bool (reaches k f t) ∧ H' = H := by
  refine Sound.of_body (rs := [.tmp 4]) mixed Try.func49 rfl (by kernel_rfl) rfl (by kernel_rfl) ?_
  simp -dsimp only [go_sem, ↓reduceIte, Nat.reduceEqDiff, Nat.reduceAdd, Nat.reduceMul, Nat.reduceSub, Nat.reduceLeDiff, Nat.reduceLT]
  refine adrawnP_of2 [(0, false), (1, false), (2, false), (3, false), (4, false), (5, false), (6, false), (7, false), (8, false), (9, false), (10, false), (11, false), (12, false), (13, false), (14, false), (15, false), (16, false), (17, false), (18, false)] (by kernel_rfl) ?_
  unfold reaches
  cases h1 : decide (k.f ≤ f) with
  | false =>
    simp -dsimp only [go_sem, ↓reduceIte, Nat.reduceEqDiff, Nat.reduceAdd, Nat.reduceMul, Nat.reduceSub, Nat.reduceLeDiff, Nat.reduceLT, ha, hf, ht, h1]
    simp
  | true =>
    simp -dsimp only [go_sem, ↓reduceIte, Nat.reduceEqDiff, Nat.reduceAdd, Nat.reduceMul, Nat.reduceSub, Nat.reduceLeDiff, Nat.reduceLT, ha, hf, ht, h1]
    simp
abbrev encP (x : SetS) : List Value := [ptrV x.id]
attribute [go_sem] encP
abbrev PtrsAt (H : AHeap) (a : Option Addr) (l : List SetS) : Prop := SlA H encP 1 a l
/-- the first that reaches -/
theorem indexSet (l : List SetS) (a : Option Addr) (c iF iT : Nat) (f t : Int) (b : Nat) (H : AHeap) (hs : PtrsAt H a l) (hx : ∀ x ∈ l, SetAt b H x) (hl : l.length < 100000) (hf : H[iF]? = some (.row [.int .i64 f] 1 true)) (ht : H[iT]? = some (.row [.int .i64 t] 1 true)) :
    Sound Try.prog 48 [.slice a l.length c, .func (.func 49) #[] #[ptrV iF, ptrV iT]] H fun v H' => v = .int .i64 (match l.findIdx? fun x => reaches x.k f t with | some i => (i : Int) | none => -1) ∧ H' = H := by
  refine Sound.of_body (rs := [.tmp 4]) mixed Try.func48 rfl (by kernel_rfl) rfl (by kernel_rfl) ?_
  simp -dsimp only [go_sem, ↓reduceIte, Nat.reduceEqDiff, Nat.reduceAdd, Nat.reduceMul, Nat.reduceSub, Nat.reduceLeDiff, Nat.reduceLT]
  refine aloopP_of (fun m T H' => ∃ i, m = l.length - i ∧ i ≤ l.length ∧ H' = H ∧ T 0 = .slice a l.length c ∧ T 1 = .func (.func 49) #[] #[ptrV iF, ptrV iT] ∧ T 7 = .int .i64 l.length ∧ T 8 = .int .i64 i ∧ (∀ x ∈ l.take i, reaches x.k f t = false)) (n := l.length) ?_ ?_
  · refine ⟨0, ?_⟩
    simp -dsimp only [go_sem, ↓reduceIte, Nat.reduceEqDiff, Nat.reduceAdd, Nat.reduceMul, Nat.reduceSub, Nat.reduceLeDiff, Nat.reduceLT]
    simp
  rintro m T H' ⟨i, rfl, hi, rfl, h0, h1, h7, h8, hno⟩
  simp -dsimp only [go_sem, ↓reduceIte, Nat.reduceEqDiff, Nat.reduceAdd, Nat.reduceMul, Nat.reduceSub, Nat.reduceLeDiff, Nat.reduceLT, h0, h1, h7, h8]
  refine acondP_of (fun h => ?_) (fun h => ?_)
  · simp at h
    obtain ⟨x, hxi⟩ := get_ex h
    obtain ⟨id, off, rfl, hat⟩ := hs.at (by omega)
    simp -dsimp only [go_sem, ↓reduceIte, Nat.reduceEqDiff, Nat.reduceAdd, Nat.reduceMul, Nat.reduceSub, Nat.reduceLeDiff, Nat.reduceLT, h0, h1, h7, h8, inRange h, rowLoad_one0 (hat i x hxi)]
    refine SoundP_of (setsReach x.id iF iT x.k x.sv true f t H' (hx x (List.mem_of_getElem? hxi)).at_ hf ht) ?_
    rintro _ _ ⟨rfl, rfl⟩
    simp -dsimp only [go_sem, ↓reduceIte, Nat.reduceEqDiff, Nat.reduceAdd, Nat.reduceMul, Nat.reduceSub, Nat.reduceLeDiff, Nat.reduceLT, h0, h1, h7, h8]
    refine acondP_of (fun hc => ?_) (fun hc => ?_)
    · simp -dsimp only [go_sem, ↓reduceIte, Nat.reduceEqDiff, Nat.reduceAdd, Nat.reduceMul, Nat.reduceSub, Nat.reduceLeDiff, Nat.reduceLT, h0, h1, h7, h8]
      have e : l.findIdx? (fun x => reaches x.k f t) = some i := by
        rw [List.findIdx?_eq_some_iff_getElem]
        obtain ⟨hlt, he⟩ := List.getElem?_eq_some_iff.1 hxi
        refine ⟨hlt, by rw [he]; exact hc, fun j hj => ?_⟩
        have := hno l[j] (List.mem_iff_getElem?.2 ⟨j, by rw [List.getElem?_take, if_pos hj]; exact List.getElem?_eq_getElem (by omega)⟩)
        simp [this]
      rw [e]
    · simp -dsimp only [go_sem, ↓reduceIte, Nat.reduceEqDiff, Nat.reduceAdd, Nat.reduceMul, Nat.reduceSub, Nat.reduceLeDiff, Nat.reduceLT, h0, h1, h7, h8, wrS (show i < 4611686018427387904 by omega)]
      refine ⟨_, by omega, i + 1, rfl, h, rfl, fun y hy => ?_⟩
      rw [take_get hxi, List.mem_append, List.mem_singleton] at hy
      rcases hy with hy | rfl
      · exact hno y hy
      · exact hc
  · simp at h
    simp -dsimp only [go_sem, ↓reduceIte, Nat.reduceEqDiff, Nat.reduceAdd, Nat.reduceMul, Nat.reduceSub, Nat.reduceLeDiff, Nat.reduceLT, h0, h1, h7, h8]
    obtain rfl : i = l.length := by omega
    rw [List.take_length] at hno
    have e : l.findIdx? (fun x => reaches x.k f t) = none := by
      rw [List.findIdx?_eq_none_iff]
      exact fun y hy => hno y hy
    rw [e]
end Go.Proofs.Ythbifkeadbmcnaa
