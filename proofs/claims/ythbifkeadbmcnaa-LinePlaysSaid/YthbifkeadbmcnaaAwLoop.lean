/-
  AW: a loop's ways out meet again.
-/
import Derived.Test.YthbifkeadbmcnaaAwKit
set_option linter.unusedVariables false
set_option linter.unusedSimpArgs false
namespace Go.AW
open Go
variable {P : Program}
/-- a loop in its block: what holds wherever it is left -/
theorem aloop_join {c : Code} {id : Nat} {Q : Exit → Tm → AHeap → Prop} (M : Tm → AHeap → Prop) (I : Nat → Tm → AHeap → Prop) {n : Nat} {T : Tm} {H : AHeap} {t1 : Tok c} {t2 : Tok (Exit.inBlockA id Q)} {t3 : Tok T} {t4 : Tok H}
    (h : I n T H) (hstep : ∀ n T H, I n T H → awp P c (Exit.thenA (fun T' H' => ∃ m, m < n ∧ I m T' H') (Exit.inBlockA id (Exit.thenA M Q))) T H) (h3 : ∀ T H, M T H → Q .normal T H) : aloopP P c (Exit.inBlockA id Q) T H t1 t2 t3 t4 := by
  refine aloopP_of I h fun n T H hi => awp_mono c T H ?_ (hstep n T H hi)
  intro e T H he
  cases e with
  | normal => exact he
  | ret => exact he
  | «exit» k =>
    rw [thenA_exit, inBlockA_exit] at he ⊢
    by_cases q : k = id
    · rw [if_pos q] at he ⊢; exact h3 T H he
    · rw [if_neg q] at he ⊢; exact he
  | _ => exact he
end Go.AW
