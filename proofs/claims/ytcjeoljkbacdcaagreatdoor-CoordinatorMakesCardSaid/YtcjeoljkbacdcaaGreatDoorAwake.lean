/-
  The first calls, run.
-/
import Derived.Test.YtcjeoljkbacdcaaGreatDoorCovE
set_option linter.unusedVariables false
set_option linter.unusedSimpArgs false
namespace Go.Proofs.YtcjeoljkbacdcaaGreatDoor
open Go Go.AW
set_option linter.unusedSimpArgs false
set_option maxRecDepth 100000

def plans : Plans := [(6, [(5, [0, 1, 2, 3, 5, 4, 6, 7, 8])]),
  (7, [(4, [0, 1, 2, 3, 4, 5, 6, 7, 12, 8, 9, 10, 11, 13, 14])]),
  (9, [(7, [0, 2, 5, 1, 3, 4]), (13, [0, 1, 2, 3, 4, 6, 11, 5, 7, 8, 9, 10, 12, 13])]),
  (13, [(1, [0, 1, 2, 7, 8, 12, 13, 17, 18, 22, 23, 24, 28, 29, 33, 34, 38, 39, 43, 44, 3, 4, 5, 6, 9, 10, 11, 14, 15, 16, 19, 20, 21, 25, 26, 27, 30, 31, 32, 35, 36, 37, 40, 41, 42, 45, 46, 47, 48, 49])]),
  (27, [(2, [0, 2, 5, 1, 3, 4]), (12, [0, 1, 3, 4, 2, 5, 6, 7])]),
  (28, [(22, [0, 1, 2, 3, 6, 7, 8, 4, 5, 9, 10, 11])]),
  (33, [(23, [0, 1, 2, 4, 5, 6, 7, 8, 9, 12, 3, 10, 11])]),
  (51, [(5, [0, 1, 2, 3, 5, 6, 7, 8, 4, 9, 10, 11])]),
  (59, [(15, [0, 1, 2, 3, 5, 6, 4, 7, 8, 9])]),
  (64, [(1, [0, 1, 2, 3, 4, 5, 7, 8, 9, 10, 11, 12, 14, 15, 16, 17, 19, 20, 21, 22, 6, 13, 18, 23, 24, 25, 26])]),
  (82, [(1, [0, 1, 2, 3, 5, 6, 7, 8, 9, 10, 12, 13, 14, 15, 16, 17, 4, 11, 18, 19, 20, 21])]),
  (107, [(1, [0, 1, 2, 3, 5, 6, 7, 8, 10, 11, 12, 13, 4, 9, 14, 15, 16, 17])]),
  (108, [(1, [0, 1, 2, 3, 5, 6, 4, 7, 8, 9])]),
  (124, [(1, [0, 1, 2, 3, 4, 5, 6, 7, 8, 9, 10, 11, 13, 14, 12, 15, 16, 17, 18])]),
  (127, [(1, [0, 1, 2, 3, 5, 6, 7, 8, 4, 9, 10, 11, 12])]),
  (162, [(9, [0, 1, 2, 4, 5, 6, 3, 7, 8])]),
  (188, [(1, [0, 1, 2, 3, 4, 5, 7, 8, 9, 10, 11, 12, 14, 15, 16, 17, 19, 20, 21, 22, 24, 25, 26, 27, 6, 13, 18, 23, 28, 29, 30, 31])]),
  (322, [(4, [0, 1, 2, 3, 4, 9, 5, 6, 7, 8, 10, 11])])]
/-- Covered, of a timeline without sets -/
def extC : Call1 := fun f vs H =>
  bif Nat.beq f 31 then
    match vs with
    | [.pointer (some ⟨p, 0, none⟩)] => match H[p]? with
      | some (.row [.map (some m)] 1 true) => match H[m]? with
        | some (.map ⟨[]⟩ _) => bif H.all (cleanO H.length) then some (.slice none 0 0, H) else none
        | _ => none
      | _ => none
    | _ => none
  else none
theorem extC_ok : CallOk Tryz.prog extC := by
  intro f vs H v H' h
  unfold extC at h
  cases hf : Nat.beq f 31 with
  | false => rw [hf] at h; cases h
  | true =>
    rw [hf, cond_true] at h
    have hf' := Nat.eq_of_beq_eq_true hf
    subst hf'
    split at h
    · rename_i p
      split at h
      · rename_i m hp
        split at h
        · rename_i ck hm
          cases hc : H.all (cleanO H.length) with
          | false => rw [hc] at h; cases h
          | true =>
            rw [hc, cond_true] at h; cases h
            exact ((covE hp hm).forget .sliceNil hc).x
        · cases h
      · cases h
    · cases h
  
theorem awakeLaw (H : AHeap) : Sound Tryz.prog 4 [] H fun v K => v = .bool true ∧ K = H :=
  Sound.of_ran (pl := plans) (lf := 100) (n := 60) (ext := extC) mixed extC_ok rfl (by kernel_rfl) rfl rfl H

end Go.Proofs.YtcjeoljkbacdcaaGreatDoor
