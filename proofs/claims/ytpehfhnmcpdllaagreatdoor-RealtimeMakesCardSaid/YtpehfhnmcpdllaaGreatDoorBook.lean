/-
  The metadata, as a node sees it.
-/
import Derived.Test.YtpehfhnmcpdllaaGreatDoorFit
import Derived.Test.YtpehfhnmcpdllaaGreatDoorAwMore
set_option linter.unusedVariables false
set_option linter.unusedSimpArgs false
namespace Go.Proofs.YtpehfhnmcpdllaaGreatDoor
open Go Go.AW
set_option linter.unusedSimpArgs false
set_option maxRecDepth 20000

abbrev ptrV (p : Nat) : Value := .pointer (some ⟨p, 0, none⟩)
abbrev encU (n : Int) : List Value := [.int .u64 n]
attribute [go_sem] encU
def InI (n : Int) : Prop := -9223372036854775808 ≤ n ∧ n ≤ 9223372036854775807
def absZ (n : Int) : Int := if n < 0 then -(n + 1) else n
theorem absLaw (n : Int) (H : AHeap) (hn : InI n) : Sound Tryz.prog 17 [.int .i64 n] H fun v H' => v = .int .i64 (absZ n) ∧ H' = H := by
  have h1 := hn.1
  have h2 := hn.2
  refine Sound.of_body (rs := [.tmp 2]) mixed Tryz.func17 rfl (by kernel_rfl) rfl (by kernel_rfl) ?_
  cases h : decide (n < 0) with
  | true =>
    have h' := of_decide_eq_true h
    simp -dsimp only [go_sem, ↓reduceIte, Nat.reduceEqDiff, Nat.reduceAdd, Nat.reduceMul, Nat.reduceSub, Nat.reduceLeDiff, Nat.reduceLT, h, wr64 (i := n + 1) (by omega) (by omega), wr64 (i := 0 - (n + 1)) (by omega) (by omega)]
    simp only [absZ, if_pos h']
    congr 1; omega
  | false =>
    have h' := dec_false h
    simp -dsimp only [go_sem, ↓reduceIte, Nat.reduceEqDiff, Nat.reduceAdd, Nat.reduceMul, Nat.reduceSub, Nat.reduceLeDiff, Nat.reduceLT, h]
    simp only [absZ, if_neg h']
theorem absLaw2 (n : Int) (H : AHeap) (hn : InI n) : Sound Tryz.prog 5 [.int .i64 n] H fun v H' => v = .int .i64 (absZ n) ∧ H' = H := by
  refine Sound.of_body (rs := [.tmp 2]) mixed Tryz.func5 rfl (by kernel_rfl) rfl (by kernel_rfl) ?_
  simp -dsimp only [go_sem, ↓reduceIte, Nat.reduceEqDiff, Nat.reduceAdd, Nat.reduceMul, Nat.reduceSub, Nat.reduceLeDiff, Nat.reduceLT]
  refine SoundP_of (absLaw n _ hn) ?_
  rintro _ _ ⟨rfl, rfl⟩
  simp -dsimp only [go_sem, ↓reduceIte, Nat.reduceEqDiff, Nat.reduceAdd, Nat.reduceMul, Nat.reduceSub, Nat.reduceLeDiff, Nat.reduceLT]
abbrev bookC (ow : Value) (off : Bool) (calls : Nat) : List Value := [.int .i64 0, .int .i64 0, .int .i64 0, .slice none 0 0, ow, .bool off, .int .i64 calls, .slice none 0 0, .slice none 0 0]
theorem wayOn {p calls : Nat} {ow : Value} {H : AHeap} (hb : H[p]? = some (.row (bookC ow false calls) 9 true)) (hc : calls < 1000) : Sound Tryz.prog 363 [ptrV p] H fun v H' => v = .int .i64 0 ∧ H' = H.set p (.row (bookC ow false (calls + 1)) 9 true) := by
  refine Sound.of_body (rs := [.tmp 2]) mixed Tryz.func363 rfl (by kernel_rfl) rfl (by kernel_rfl) ?_
  have hs := List.getElem?_set_self (a := AObj.row (bookC ow false (calls + 1)) 9 true) (get_lt hb)
  have hz : decide (((calls + 1 : Nat) : Int) ≤ ((0 : Nat) : Int)) = false := decide_eq_false (by omega)
  simp -dsimp only [go_sem, ↓reduceIte, Nat.reduceEqDiff, Nat.reduceAdd, Nat.reduceMul, Nat.reduceSub, Nat.reduceLeDiff, Nat.reduceLT, hb, wrS (show calls < 4611686018427387904 by omega)]
  refine adrawnP_of2 [(0, false), (1, false), (2, false), (3, false), (4, false), (5, false), (6, false), (7, false), (8, false), (9, false)] (by kernel_rfl) ?_
  simp -dsimp only [go_sem, ↓reduceIte, Nat.reduceEqDiff, Nat.reduceAdd, Nat.reduceMul, Nat.reduceSub, Nat.reduceLeDiff, Nat.reduceLT, hs, hz]
theorem wayOff {p calls : Nat} {ow : Value} {H : AHeap} (hb : H[p]? = some (.row (bookC ow true calls) 9 true)) : Sound Tryz.prog 363 [ptrV p] H fun v H' => v = .int .i64 1 ∧ H' = H := by
  refine Sound.of_body (rs := [.tmp 2]) mixed Tryz.func363 rfl (by kernel_rfl) rfl (by kernel_rfl) ?_
  simp -dsimp only [go_sem, ↓reduceIte, Nat.reduceEqDiff, Nat.reduceAdd, Nat.reduceMul, Nat.reduceSub, Nat.reduceLeDiff, Nat.reduceLT, hb]
theorem appNil {P : Program} {t e k b : Nat} {z : Value} (hu : P.underlying t = some (.slice e)) (he : elemT P t = some e) (hi : ∃ i, P.info? e = some i ∧ i.zero = some z ∧ i.size = k ∧ i.bytes = b) (hz : z.cells.size = k) (hk : 0 < k) (H : AHeap) :
    aappend P H t t (.slice none 0 0) (.slice none 0 0) = some (.slice none 0 0, H) := by
  obtain ⟨i, h1, h2, h3, h4⟩ := hi
  have hs : asrc P H k t (.slice none 0 0) = some (0, []) := by simp [asrc, hu]
  simp only [aappend, aappend0, he, h1, h2, Option.bind_some, h3, hs, hz]
  simp [hk]
theorem copyLaw {a : Option Addr} {c : Nat} {l : List Int} {H : AHeap} (hs : SlA H encU 1 a l) (hl : l.length < 1000) : Sound Tryz.prog 365 [.agg #[.int .i64 0, .int .i64 0, .int .i64 0, .slice none 0 0, .slice a l.length c]] H fun v H' => H <+: H' ∧ ∃ w, v = .agg #[.int .i64 0, .int .i64 0, .int .i64 0, .slice none 0 0, w] ∧ Own H.length H' encU 1 w l := by
  refine Sound.of_body (rs := [.cell 2 32]) mixed Tryz.func365 rfl (by kernel_rfl) rfl (by kernel_rfl) ?_
  have p0 : H <+: H ++ [AObj.row [.int .i64 0, .int .i64 0, .int .i64 0, .slice none 0 0, .slice a l.length c] 5 true, AObj.row [.int .i64 0, .int .i64 0, .int .i64 0, .slice none 0 0, .slice none 0 0] 5 true] := List.prefix_append _ _
  have b0 := get_end H (AObj.row [.int .i64 0, .int .i64 0, .int .i64 0, .slice none 0 0, .slice a l.length c] 5 true) [AObj.row [.int .i64 0, .int .i64 0, .int .i64 0, .slice none 0 0, .slice none 0 0] 5 true]
  have c0 := get_end1 H (AObj.row [.int .i64 0, .int .i64 0, .int .i64 0, .slice none 0 0, .slice a l.length c] 5 true) (AObj.row [.int .i64 0, .int .i64 0, .int .i64 0, .slice none 0 0, .slice none 0 0] 5 true) []
  obtain ⟨w, H2, e1, o2, p2, l2, f2, o7⟩ := Own.appSl (c := c) un26 el26 inf37 rfl (by decide) (by decide) (fun _ => rfl) (fun _ => rfl) p0 (Own.nil H.length _ encU 1) (hs.pre p0) (by simp) (by omega)
  have b2 := (f2 H.length (by simp) (by simp [owner])).trans b0
  have c2 := (f2 (H.length + 1) (by simp) (by simp [owner])).trans c0
  obtain ⟨a', c', rfl, -⟩ := o2.sl (fun _ => rfl)
  simp only [List.nil_append] at *
  have b3 := List.getElem?_set_self (a := AObj.row [.int .i64 0, .int .i64 0, .int .i64 0, .slice none 0 0, .slice a' l.length c'] 5 true) (get_lt b2)
  have c3 : (H2.set H.length (AObj.row [.int .i64 0, .int .i64 0, .int .i64 0, .slice none 0 0, .slice a' l.length c'] 5 true))[H.length + 1]? = some (AObj.row [.int .i64 0, .int .i64 0, .int .i64 0, .slice none 0 0, .slice none 0 0] 5 true) := by rw [List.getElem?_set_ne (by omega)]; exact c2
  have d3 := List.getElem?_set_self (a := AObj.row [.int .i64 0, .int .i64 0, .int .i64 0, .slice none 0 0, .slice a' l.length c'] 5 true) (get_lt c3)
  simp -dsimp only [go_sem, ↓reduceIte, Nat.reduceEqDiff, Nat.reduceAdd, Nat.reduceMul, Nat.reduceSub, Nat.reduceLeDiff, Nat.reduceLT, appNil un30 el30 inf96 rfl (by decide), e1, b2, b3, c3, d3]
  refine ⟨List.prefix_iff_getElem?.2 fun i hi => ?_, ?_⟩
  · rw [List.getElem?_set_ne (by omega), List.getElem?_set_ne (by omega)]
    exact pre_get p2 (by simp [hi])
  · refine ⟨_, rfl, o2.keep fun j hj => ?_⟩
    have := o7 j hj
    simp [owner] at this
    rw [List.getElem?_set_ne (by omega), List.getElem?_set_ne (by omega)]
/-- the book's row, with offsets -/
structure BookAt (b : Nat) (H : AHeap) (p : Nat) (off : Bool) (calls : Nat) (l : List Int) : Prop where
  row : ∃ ow : Value, H[p]? = some (.row (bookC ow off calls) 9 true) ∧ Own b H encU 1 ow l
  lt : p < b
theorem stateOff {b p calls : Nat} {l : List Int} {H : AHeap} (h : BookAt b H p true calls l) : Sound Tryz.prog 362 [ptrV p] H fun v H' => v = .tuple #[.agg #[.int .i64 0, .int .i64 0, .int .i64 0, .slice none 0 0, .slice none 0 0], .int .i64 122] ∧ H <+: H' := by
  obtain ⟨⟨ow, hr, ho⟩, hlt⟩ := h
  refine Sound.of_body (rs := [.cell 2 32, .tmp 3]) mixed Tryz.func362 rfl (by kernel_rfl) rfl (by kernel_rfl) ?_
  have p0 := List.prefix_append H [AObj.row [.int .i64 0, .int .i64 0, .int .i64 0, .slice none 0 0, .slice none 0 0] 5 true]
  have c0 := get_end H (AObj.row [.int .i64 0, .int .i64 0, .int .i64 0, .slice none 0 0, .slice none 0 0] 5 true) []
  simp -dsimp only [go_sem, ↓reduceIte, Nat.reduceEqDiff, Nat.reduceAdd, Nat.reduceMul, Nat.reduceSub, Nat.reduceLeDiff, Nat.reduceLT]
  refine SoundP_of (wayOff (pre_get p0 hr)) ?_
  rintro _ _ ⟨rfl, rfl⟩
  simp -dsimp only [go_sem, ↓reduceIte, Nat.reduceEqDiff, Nat.reduceAdd, Nat.reduceMul, Nat.reduceSub, Nat.reduceLeDiff, Nat.reduceLT, Int.reduceBEq, set_end]
  exact p0
theorem stateOn {b p calls : Nat} {l : List Int} {H : AHeap} (h : BookAt b H p false calls l) (hc : calls < 1000) (hl : l.length < 1000) (hb : b ≤ H.length) : Sound Tryz.prog 362 [ptrV p] H fun v H' =>
    H.length ≤ H'.length ∧ (∀ j, j < H.length → j ≠ p → H'[j]? = H[j]?) ∧ BookAt b H' p false (calls + 1) l ∧ ∃ w, v = .tuple #[.agg #[.int .i64 0, .int .i64 0, .int .i64 0, .slice none 0 0, w], .int .i64 0] ∧ Own H.length H' encU 1 w l := by
  obtain ⟨⟨ow, hr, ho⟩, hlt⟩ := h
  obtain ⟨a, c, rfl, -⟩ := ho.sl (fun _ => rfl)
  refine Sound.of_body (rs := [.cell 2 32, .tmp 3]) mixed Tryz.func362 rfl (by kernel_rfl) rfl (by kernel_rfl) ?_
  have p0 := List.prefix_append H [AObj.row [.int .i64 0, .int .i64 0, .int .i64 0, .slice none 0 0, .slice none 0 0] 5 true]
  have c0 := get_end H (AObj.row [.int .i64 0, .int .i64 0, .int .i64 0, .slice none 0 0, .slice none 0 0] 5 true) []
  have r0 := pre_get p0 hr
  have o0 := ho.pre p0
  simp -dsimp only [go_sem, ↓reduceIte, Nat.reduceEqDiff, Nat.reduceAdd, Nat.reduceMul, Nat.reduceSub, Nat.reduceLeDiff, Nat.reduceLT]
  refine SoundP_of (wayOn r0 hc) ?_
  rintro _ H1 ⟨rfl, hH1⟩
  have r1 : H1[p]? = some (.row (bookC (.slice a l.length c) false (calls + 1)) 9 true) := by rw [hH1]; exact List.getElem?_set_self (get_lt r0)
  have f1 : ∀ j, j ≠ p → H1[j]? = (H ++ [AObj.row [.int .i64 0, .int .i64 0, .int .i64 0, .slice none 0 0, .slice none 0 0] 5 true])[j]? := fun j hj => by rw [hH1, List.getElem?_set_ne (Ne.symm hj)]
  have l1 : H1.length = H.length + 1 := by rw [hH1]; simp
  have c1 := (f1 H.length (by omega)).trans c0
  have o1 : Own b H1 encU 1 (.slice a l.length c) l := o0.keep fun j hj => f1 j (by have := (o0.owner_ge hj).1; omega)
  clear hH1
  simp -dsimp only [go_sem, ↓reduceIte, Nat.reduceEqDiff, Nat.reduceAdd, Nat.reduceMul, Nat.reduceSub, Nat.reduceLeDiff, Nat.reduceLT, Int.reduceBEq, r1]
  refine SoundP_of (copyLaw (o1.slA (fun _ => rfl)).2 hl) ?_
  rintro _ H2 ⟨p2, w, rfl, ow⟩
  have c2 := pre_get p2 c1
  have r2 := pre_get p2 r1
  have o2 := o1.pre p2
  obtain ⟨a', c', rfl, -⟩ := ow.sl (fun _ => rfl)
  have d2 := List.getElem?_set_self (a := AObj.row [.int .i64 0, .int .i64 0, .int .i64 0, .slice none 0 0, .slice a' l.length c'] 5 true) (get_lt c2)
  simp -dsimp only [go_sem, ↓reduceIte, Nat.reduceEqDiff, Nat.reduceAdd, Nat.reduceMul, Nat.reduceSub, Nat.reduceLeDiff, Nat.reduceLT, c2, d2]
  have l2 := pre_len p2
  refine ⟨by rw [List.length_set]; omega, fun j hj hjp => ?_, ⟨⟨.slice a l.length c, ?_, ?_⟩, hlt⟩, _, rfl, ?_⟩
  · rw [List.getElem?_set_ne (by omega)]
    obtain ⟨L, rfl⟩ := p2
    rw [List.getElem?_append_left (by omega), f1 j hjp, List.getElem?_append_left hj]
  · rw [List.getElem?_set_ne (by omega)]; exact r2
  · exact o2.keep fun j hj => List.getElem?_set_ne (by
      obtain ⟨h1, h2⟩ := ho.owner_ge hj; omega)
  · refine (ow.mono (by omega)).keep fun j hj => List.getElem?_set_ne (by
      obtain ⟨h1, h2⟩ := ow.owner_ge hj; omega)
end Go.Proofs.YtpehfhnmcpdllaaGreatDoor
