/-
  The first calls, run.
-/
import Derived.Test.YtahopobanopkfaaGreatDoorDsk
set_option linter.unusedVariables false
set_option linter.unusedSimpArgs false
namespace Go.Proofs.YtahopobanopkfaaGreatDoor
open Go Go.AW
set_option linter.unusedSimpArgs false
set_option maxRecDepth 100000

def plans : Plans := [(6, [(1, [0, 1, 2, 7, 8, 12, 13, 17, 18, 22, 23, 24, 28, 29, 33, 34, 38, 39, 43, 44, 3, 4, 5, 6, 9, 10, 11, 14, 15, 16, 19, 20, 21, 25, 26, 27, 30, 31, 32, 35, 36, 37, 40, 41, 42, 45, 46, 47, 48, 49])]),
  (7, [(15, [0, 1, 2, 3, 4, 5, 6, 7, 8, 9, 10, 12, 13, 11, 14, 15])]),
  (21, [(5, [0, 1, 2, 3, 5, 6, 7, 8, 4, 9, 10, 11])]),
  (22, [(14, [0, 1, 3, 2, 4, 5, 6])]),
  (26, [(3, [0, 2, 1, 3, 4]), (6, [0, 1, 2, 4, 5, 6, 7, 3, 8, 9, 10, 11, 12, 13, 14, 15]), (8, [0, 2, 1, 3, 4, 5, 6, 7, 8])]),
  (28, [(14, [0, 1, 2, 3, 5, 6, 7, 8, 9, 10, 4, 11, 12, 13, 14, 16, 17, 18, 19, 20, 15, 21, 22, 23, 24, 26, 27, 28, 29, 30, 31, 25, 32, 33]), (16, [0, 1, 2, 3, 4, 6, 5, 7, 8])]),
  (33, [(1, [0, 1, 2, 3, 4, 5, 7, 8, 9, 10, 11, 12, 14, 15, 16, 17, 19, 20, 21, 22, 24, 25, 26, 27, 6, 13, 18, 23, 28, 29, 30, 31])]),
  (85, [(1, [0, 2, 3, 4, 1, 5, 6, 7]), (27, [0, 1, 2, 3, 4, 5, 6, 7, 9, 10, 11, 12, 13, 8, 14, 15, 16])]),
  (91, [(4, [0, 1, 2, 4, 5, 6, 3, 8, 9, 7, 10, 11, 12, 13])]),
  (92, [(13, [0, 1, 2, 4, 5, 6, 3, 7, 8, 9, 10]), (18, [0, 1, 2, 3, 4, 5, 6, 7, 10, 8, 9, 11])]),
  (139, [(3, [1, 2, 0, 3, 4, 5])]),
  (149, [(2, [0, 2, 4, 1, 3, 5, 6])]),
  (157, [(1, [0, 1, 3, 4, 2, 6, 5, 7, 8, 9])]),
  (165, [(10, [0, 2, 4, 5, 6, 1, 3, 7, 8])]),
  (199, [(9, [0, 1, 2, 4, 5, 6, 3, 7, 8])]),
  (204, [(15, [0, 1, 2, 3, 5, 6, 4, 7, 8, 9])]),
  (215, [(1, [0, 1, 3, 2, 4, 5, 6])]),
  (216, [(1, [0, 1, 3, 2, 4, 5, 6])]),
  (235, [(1, [0, 1, 3, 4, 2, 5, 6])]),
  (239, [(1, [0, 1, 2, 3, 5, 6, 7, 8, 10, 11, 12, 13, 4, 9, 14, 15, 16, 17])]),
  (263, [(1, [0, 1, 2, 3, 5, 6, 7, 8, 10, 11, 12, 13, 4, 9, 14, 15, 16, 17])]),
  (264, [(1, [0, 1, 2, 3, 5, 6, 4, 7, 8, 9])])]
/-- a map without entries, in a box -/
def emptyB (H : AHeap) (bx : Nat) : Bool :=
  match H[bx]? with
  | some (.row [.map (some m)] 1 true) => match H[m]? with | some (.map ⟨[]⟩ _) => true | _ => false
  | _ => false
theorem emptyB_ok {H : AHeap} {bx : Nat} (h : emptyB H bx = true) : ∃ m ck, H[bx]? = some (.row [.map (some m)] 1 true) ∧ H[m]? = some (.map #[] ck) := by
  unfold emptyB at h
  split at h
  · rename_i m h1
    split at h
    · rename_i ck h2; exact ⟨m, ck, h1, h2⟩
    · cases h
  · cases h
/-- a disk without files, on, in a box -/
def emptyD (H : AHeap) (bx : Nat) : Bool :=
  match H[bx]? with
  | some (.row [.pointer (some ⟨p, 0, none⟩)] 1 true) => match H[p]? with
    | some (.row [.map (some m), .bool false, _, _, _] 5 true) => match H[m]? with | some (.map ⟨[]⟩ _) => true | _ => false
    | _ => false
  | _ => false
theorem emptyD_ok {H : AHeap} {bx : Nat} (h : emptyD H bx = true) : ∃ p m ck, H[bx]? = some (.row [ptrV p] 1 true) ∧ DiskE H p m ck false := by
  unfold emptyD at h
  split at h
  · rename_i p h1
    split at h
    · rename_i m x y z h2
      split at h
      · rename_i ck h3; exact ⟨p, m, ck, h1, ⟨x, y, z, h2⟩, h3⟩
      · cases h
    · cases h
  · cases h
def extH : Call1 := fun f vs H =>
  bif Nat.beq f 108 then
    match vs with
    | [.func (.func g) ⟨[]⟩ ⟨[.pointer (some ⟨bx, 0, none⟩)]⟩] => bif Nat.beq g 193 && emptyB H bx && H.all (cleanO H.length) then some (.slice none 0 0, H) else none
    | _ => none
  else bif Nat.beq f 41 then
    match vs with
    | [.func (.func g) ⟨[]⟩ ⟨[.pointer (some ⟨bx, 0, none⟩)]⟩] => bif Nat.beq g 42 && emptyD H bx && H.all (cleanO H.length) then some (.int .i64 0, H) else none
    | _ => none
  else none
theorem extH_ok : CallOk Tryz.prog extH := by
  intro f vs H v H' h
  unfold extH at h
  cases hf : Nat.beq f 108 with
  | true =>
    rw [hf, cond_true] at h
    obtain rfl := Nat.eq_of_beq_eq_true hf
    split at h
    · rename_i g bx
      cases hc : (Nat.beq g 193 && emptyB H bx && H.all (cleanO H.length)) with
      | false => rw [hc] at h; cases h
      | true =>
        rw [hc, cond_true] at h; cases h
        simp only [Bool.and_eq_true] at hc
        obtain rfl := Nat.eq_of_beq_eq_true hc.1.1
        obtain ⟨m, ck, h1, h2⟩ := emptyB_ok hc.1.2
        exact ((sortedS h1 h2).forget .sliceNil hc.2).x
    · cases h
  | false =>
    rw [hf, cond_false] at h
    cases hf2 : Nat.beq f 41 with
    | false => rw [hf2] at h; cases h
    | true =>
      rw [hf2, cond_true] at h
      obtain rfl := Nat.eq_of_beq_eq_true hf2
      split at h
      · rename_i g bx
        cases hc : (Nat.beq g 42 && emptyD H bx && H.all (cleanO H.length)) with
        | false => rw [hc] at h; cases h
        | true =>
          rw [hc, cond_true] at h; cases h
          simp only [Bool.and_eq_true] at hc
          obtain rfl := Nat.eq_of_beq_eq_true hc.1.1
          obtain ⟨p, m, ck, h1, h2⟩ := emptyD_ok hc.1.2
          have pp := List.prefix_append H [AObj.row [.int .i64 0] 1 true]
          exact ((triedLaw (cap := [ptrV bx]) (openE1 (pre_get pp h1) (h2.pre pp))).forget (.int _ _) hc.2).x
      · cases h
theorem awakeLaw (H : AHeap) : Sound Tryz.prog 5 [] H fun v K => v = .bool true ∧ K = H :=
  Sound.of_ran (pl := plans) (lf := 100) (n := 60) (ext := extH) mixed extH_ok rfl (by kernel_rfl) rfl rfl H
end Go.Proofs.YtahopobanopkfaaGreatDoor
