/-
  AW: a loop's ways out meet again.
-/
import Derived.Test.YtpehfhnmcpdllaaGreatDoorAwKit
set_option linter.unusedVariables false
set_option linter.unusedSimpArgs false
namespace Go.AW
open Go
variable {P : Program}
/-- a loop in its block: what holds wherever it is left -/
theorem aloop_join {c : Code} {id : Nat} {Q : Exit → Tm → AHeap → Prop} (M : Tm → AHeap → Prop) (I : Nat → Tm → AHeap → Prop) {n : Nat} {T : Tm} {H : AHeap} {t1 : Tok c} {t2 : Tok (Exit.inBlockA id Q)} {t3 : Tok T} {t4 : Tok H}
    (h : I n T H) (hstep : ∀ n T H, I n T H → awp P c (Exit.thenA (fun T' H' => ∃ m, m < n ∧ I m T' H') (Exit.inBlockA id (Exit.thenA M Q))) T H) (h3 : ∀ T H, M T H → Q .normal T H) : aloopP P c (Exit.inBlockA id Q) T H t1 t2 t3 t4 := by
  refine aloopP_of I h fun n T H hi => awp_mono c T H ?_ (hstep n T H hi)
  intro e T H he
  cases e with
  | normal => exact he
  | ret => exact he
  | «exit» k =>
    rw [thenA_exit, inBlockA_exit] at he ⊢
    by_cases q : k = id
    · rw [if_pos q] at he ⊢; exact h3 T H he
    · rw [if_neg q] at he ⊢; exact he
  | _ => exact he
/-- a loop that is left in its first round -/
theorem aloopP_once {P : Program} {c : Code} {Q : Exit → Tm → AHeap → Prop} {T : Tm} {H : AHeap} {t1 : Tok c} {t2 : Tok Q} {t3 : Tok T} {t4 : Tok H} (h : awp P c (Exit.thenA (fun _ _ => False) Q) T H) : aloopP P c Q T H t1 t2 t3 t4 := ⟨1, h⟩
/-- nothing is to come -/
theorem anextP_empty {H : AHeap} {r m since last ck : Nat} {seen : Array Nat} {K : Value → AHeap → Prop} {t1 : Tok K} {t2 : Tok H} (h1 : H[r]? = some (.mapIter (some m) since seen last)) (h2 : H[m]? = some (.map #[] ck)) (hk : K (.tuple #[.bool false]) H) : anextP H (.pointer (some ⟨r, 0, none⟩)) K t1 t2 := by
  unfold anextP anext
  simp only [mapIterOf, h1, h2]
  refine ⟨by simp, fun _ => hk, fun e he => ?_⟩
  exfalso
  rcases Array.mem_append.1 he with h | h
  · have := (Array.mem_filter.1 (Array.mem_filter.1 h).1).1; simp at this
  · have := (Array.mem_filter.1 (Array.mem_filter.1 h).1).1; simp at this
theorem arangeE {P : Program} {H : AHeap} {t k e m ck : Nat} (hu : P.underlying t = some (.map k e)) (h : H[m]? = some (.map #[] ck)) : arange P H t (.map (some m)) = some (.pointer (some ⟨H.length, 0, none⟩), H ++ [.mapIter (some m) ck #[] ck]) := by
  simp [arange, hu, h]
def isIf (P : Program) (t : TypeId) : Bool := match P.underlying t with | some (.interface _) => true | _ => false
theorem isIf_eq {t : TypeId} (h : isIf P t = true) : ∃ ms, P.underlying t = some (.interface ms) := by
  unfold isIf at h
  split at h
  · rename_i ms e; exact ⟨ms, e⟩
  · cases h
/-- '== nil' of an interface's value -/
theorem abin_eq_if0 {t : TypeId} (hi : isIf P t = true) (H : AHeap) (xo : Operand) (w : Value) : abin P H .eql t xo (.const w) .nilIface .nilIface = some (.bool true) := by
  obtain ⟨ms, hu⟩ := isIf_eq hi
  simp [abin, aeqGuard, isConst, aeq, hu]
theorem abin_eq_if1 {t : TypeId} (hi : isIf P t = true) (H : AHeap) (xo yo : Operand) (u : TypeId) (v : Value) : abin P H .eql t xo yo (.iface u v) .nilIface = some (.bool false) := by
  obtain ⟨ms, hu⟩ := isIf_eq hi
  simp [abin, aeqGuard, aeq, hu]
theorem abin_ne_if0 {t : TypeId} (hi : isIf P t = true) (H : AHeap) (xo : Operand) (w : Value) : abin P H .neq t xo (.const w) .nilIface .nilIface = some (.bool false) := by
  obtain ⟨ms, hu⟩ := isIf_eq hi
  simp [abin, aeqGuard, isConst, aeq, hu]
theorem abin_ne_if1 {t : TypeId} (hi : isIf P t = true) (H : AHeap) (xo yo : Operand) (u : TypeId) (v : Value) : abin P H .neq t xo yo (.iface u v) .nilIface = some (.bool true) := by
  obtain ⟨ms, hu⟩ := isIf_eq hi
  simp [abin, aeqGuard, aeq, hu]
end Go.AW
