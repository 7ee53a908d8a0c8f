/-
  A set: is it complete?
-/
import Derived.Test.YthbifkeadbmcnaaAdd
set_option linter.unusedVariables false
set_option linter.unusedSimpArgs false
namespace Go.Proofs.Ythbifkeadbmcnaa
open Go Go.AW
set_option linter.unusedSimpArgs false
set_option maxRecDepth 20000

/-- all that belongs together is there -/
def whole (l : List Seg) : Bool := match l.head? with
  | none => false
  | some z => decide (z.c ≤ l.length) && (decide (z.c = 0) || decide (∃ y, l[(z.c - 1).toNat]? = some y ∧ y.p = z.c - 1))
theorem tlComplete (x : SetS) (b : Nat) (H : AHeap) (hx : SetAt b H x) (hg : GoodS x.k x.l) (hl : x.l.length < 900) :
    Sound Try.prog 42 [ptrV x.id] H fun v H' => v = .bool (whole x.l) ∧ H' = H := by
  refine Sound.of_body (rs := [.tmp 2]) mixed Try.func42 rfl (by kernel_rfl) rfl (by kernel_rfl) ?_
  obtain ⟨a, c, hv, hsl⟩ := hx.own.sl (fun _ => rfl)
  obtain ⟨ia, oa, rfl, hat⟩ := hsl.at hg.ne
  obtain ⟨z, hz⟩ := get_ex hg.ne
  have hzm := List.mem_of_getElem? hz
  have hm := hg.may z hzm
  have hzc : 0 ≤ z.c := by simp [mayB] at hm; omega
  have hxat := hx.at_
  rw [hv] at hxat
  have hh : x.l.head? = some z := by rw [← hz]; cases x.l <;> rfl
  have l0 : ∀ mm, (H[ia]?).bind (rowLoad (some false) mm (oa + 0 + 4)) = some (.int .i64 z.c) := fun mm => by
    have := rowLoad_cell (hat 0 z hz) mm 4 (by decide)
    rw [Nat.zero_mul] at this
    exact this
  simp -dsimp only [go_sem, ↓reduceIte, Nat.reduceEqDiff, Nat.reduceAdd, Nat.reduceMul, Nat.reduceSub, Nat.reduceLeDiff, Nat.reduceLT, hxat, show (0 : Int) ≤ 0 ∧ (0 : Int) < (x.l.length : Int) from ⟨by omega, by have := hg.ne; omega⟩, l0]
  unfold whole
  rw [hh]
  simp only
  cases h1 : decide (z.c ≤ (x.l.length : Int)) with
  | false =>
    simp -dsimp only [go_sem, ↓reduceIte, Nat.reduceEqDiff, Nat.reduceAdd, Nat.reduceMul, Nat.reduceSub, Nat.reduceLeDiff, Nat.reduceLT, h1, hxat]
    simp
  | true =>
    have h1' := of_decide_eq_true h1
    cases h2 : (z.c == (0 : Int)) with
    | true =>
      simp -dsimp only [go_sem, ↓reduceIte, Nat.reduceEqDiff, Nat.reduceAdd, Nat.reduceMul, Nat.reduceSub, Nat.reduceLeDiff, Nat.reduceLT, h1, h2, hxat]
      have : z.c = 0 := by simpa using h2
      simp [this]
    | false =>
      have hz0 : z.c ≠ 0 := by simpa using h2
      obtain ⟨n, hn⟩ : ∃ n : Nat, z.c = n + 1 := ⟨(z.c - 1).toNat, by omega⟩
      obtain ⟨y, hy⟩ := get_ex (show n < x.l.length by omega)
      have w1 : IntKind.i64.wrap (z.c - 1) = (n : Int) := by rw [wr64 (i := z.c - 1) (by omega) (by omega)]; omega
      have ly := rowLoad_cell (hat n y hy)
      simp -dsimp only [go_sem, ↓reduceIte, Nat.reduceEqDiff, Nat.reduceAdd, Nat.reduceMul, Nat.reduceSub, Nat.reduceLeDiff, Nat.reduceLT, h1, h2, hxat, w1, inRange (show n < x.l.length by omega), ly]
      have e : decide (∃ y, x.l[(z.c - 1).toNat]? = some y ∧ y.p = z.c - 1) = (y.p == (n : Int)) := by
        rw [show (z.c - 1).toNat = n by omega, hy, show z.c - 1 = (n : Int) by omega, Bool.eq_iff_iff]; simp
      rw [e, decide_eq_false hz0]
      simp
end Go.Proofs.Ythbifkeadbmcnaa
