/-
  slices.Insert of one segment, slices.Delete of one.
-/
import Derived.Test.YthbifkeadbmcnaaA
set_option linter.unusedVariables false
set_option linter.unusedSimpArgs false
namespace Go.Proofs.Ythbifkeadbmcnaa
open Go Go.AW
set_option linter.unusedSimpArgs false
set_option maxRecDepth 20000

theorem cut_0 {H : AHeap} {id k : Nat} {cs : List Value} (h : H[id]? = some (.row cs k true)) (i j : Nat) : AW.cut H k (some ⟨id, 0, none⟩) 0 i j = some (.slice (some ⟨id, i * k, none⟩) (j - i) 0) := by
  simp only [AW.cut, Option.isSome_none, Bool.false_eq_true, if_false, add_none, Nat.zero_add, if_true]
  rw [if_pos (by simp [rowOf, h])]
theorem cut_c (H : AHeap) (id k : Nat) {c i : Nat} (h : i < c) (j : Nat) : AW.cut H k (some ⟨id, 0, none⟩) c i j = some (.slice (some ⟨id, i * k, none⟩) (j - i) (c - i)) := by
  simp only [AW.cut, Option.isSome_none, Bool.false_eq_true, if_false, add_none, Nat.zero_add]
  rw [if_neg (by omega), if_neg (by omega)]
theorem flat_drop {α : Type} {enc : α → List Value} {k : Nat} (hk : ∀ x, (enc x).length = k) : ∀ (l : List α) (i : Nat), (l.flatMap enc).drop (i * k) = (l.drop i).flatMap enc
  | [], i => by simp
  | x :: l, 0 => by simp
  | x :: l, i + 1 => by
    rw [List.flatMap_cons, List.drop_succ_cons, ← flat_drop hk l i, show (i + 1) * k = (enc x).length + i * k by rw [hk x, Nat.add_mul]; omega, List.drop_length_add_append]
theorem capOf_0 (n : Nat) : AW.capOf n 0 = n := rfl
theorem capOf_pos {n c : Nat} (h : 0 < c) : AW.capOf n c = c := by simp [AW.capOf]; omega

theorem insert0 (l : List Seg) (x : Seg) (i : Nat) (hi : i ≤ l.length) (b id vb : Nat) (rest : List Value) (H : AHeap) (hbid : b ≤ id) (hid : H[id]? = some (.row (l.flatMap Seg.cells ++ rest) 5 true)) (hvb : H[vb]? = some (.row x.cells 5 true)) (hne : id ≠ vb) (hb : b ≤ H.length) (hl0 : 0 < l.length) (hl : l.length < 100000) :
    Sound Try.prog 32 [.slice (some ⟨id, 0, none⟩) l.length 0, .int .i64 i, .slice (some ⟨vb, 0, none⟩) 1 1] H fun v' H' =>
      OwnS b H' v' (l.take i ++ x :: l.drop i) ∧ H.length ≤ H'.length ∧ (∀ j, j < H.length → j ≠ id → H'[j]? = H[j]?) ∧ (∀ j, owner v' = some j → j = id ∨ H.length ≤ j) := by
  have hown : OwnS b H (.slice (some ⟨id, 0, none⟩) l.length 0) l := .inr ⟨id, rest, 0, hbid, rfl, hid, .inl rfl⟩
  rcases Nat.lt_or_ge i l.length with hlt | hge
  · refine Sound.cap hid hl0 (by rw [List.length_append, flat_len (k := 5) (fun _ => rfl)]; omega) fun c hc => ?_
    rcases Nat.lt_or_ge c (l.length + 1) with hc1 | hc1
    · obtain rfl : c = l.length := by omega
      left
      refine Sound.of_body (rs := [.tmp 6]) mixed Try.func32 rfl (by kernel_rfl) rfl (by kernel_rfl) ?_
      have q0 : (((1 : Nat) : Int) == 0) = false := rfl
      have q1 : ((i : Int) == (l.length : Int)) = false := by simp; omega
      have q2 : IntKind.i64.wrap ((l.length : Int) + ((1 : Nat) : Int)) = ((l.length + 1 : Nat) : Int) := wrS (i := l.length) (by omega)
      have q3 : decide ((l.length : Int) < ((l.length + 1 : Nat) : Int)) = true := by simp; omega
      have q4 : IntKind.i64.wrap (((l.length + 1 : Nat) : Int) - (i : Int)) = ((l.length + 1 - i : Nat) : Int) := by rw [wr64 (i := ((l.length + 1 : Nat) : Int) - (i : Int)) (by omega) (by omega)]; omega
      have q5 : IntKind.i64.wrap ((i : Int) + ((1 : Nat) : Int)) = ((i + 1 : Nat) : Int) := by rw [wr64 (i := (i : Int) + ((1 : Nat) : Int)) (by omega) (by omega)]; omega
      have q6 : (l.length = 0) = False := eq_false (by omega)
      have fl := flat_len (enc := Seg.cells) (k := 5) (fun _ => rfl)
      have hold : aload H ⟨id, 0, none⟩ (i * 5) = some ((l.take i).flatMap Seg.cells) := by
        refine aload_iff.2 ⟨rfl, _, _, _, hid, ?_, ?_⟩
        · show 0 + i * 5 ≤ _
          rw [List.length_append, fl]; omega
        · rw [List.drop_zero, List.take_append_of_le_length (by rw [fl]; omega), flat_take (k := 5) (fun _ => rfl)]
      obtain ⟨Z, hZ, eA⟩ := append_zeros (ik := .i64) (m := l.length + 1 - i) un22 el22 (by kernel_rfl : Try.prog.underlying 3 = some (.int .i64)) inf32 rfl (by decide) (by decide) (by decide) hold hl0 (by omega) (by omega) (by omega)
      rw [show i + (l.length + 1 - i) = l.length + 1 by omega] at eA
      have lt1 : ((l.take i).flatMap Seg.cells).length = i * 5 := by rw [fl, List.length_take, Nat.min_eq_left hi]
      generalize hH1 : H ++ [AObj.row ((l.take i).flatMap Seg.cells ++ Z) 5 true] = H1 at eA
      have r1 : H1[H.length]? = some (.row ((l.take i).flatMap Seg.cells ++ Z) 5 true) := by rw [← hH1]; simp
      have hp1 : H <+: H1 := by rw [← hH1]; exact List.prefix_append _ _
      have sx : SlA H1 Seg.cells 5 (some ⟨vb, 0, none⟩) [x] := SlA.ofRow (pre_get hp1 hvb) (by simp) fun _ => rfl
      have eB := copy_row (c := 0) el22 sz32 r1 (asrc_sl (c := 1) un22 sx (fun _ => rfl)) (off := i * 5) (n := l.length + 1 - i) (by simp; omega) (by rw [List.length_append, lt1, hZ, List.length_singleton, Nat.min_eq_left (by omega)]; omega) (by simp) (by simp [oneCell])
      rw [List.length_singleton, Nat.min_eq_left (show 1 ≤ l.length + 1 - i by omega), show ([x].flatMap Seg.cells).take (1 * 5) = x.cells by simp, List.take_append_of_le_length (by omega), List.take_of_length_le (by omega)] at eB
      have hlt1 : H.length < H1.length := by rw [← hH1]; simp
      generalize hH2 : H1.set H.length (AObj.row ((l.take i).flatMap Seg.cells ++ x.cells ++ (List.flatMap Seg.cells (l.take i) ++ Z).drop (i * 5 + 1 * 5)) 5 true) = H2 at eB
      have r2 : H2[H.length]? = some (.row ((l.take i).flatMap Seg.cells ++ x.cells ++ (List.flatMap Seg.cells (l.take i) ++ Z).drop (i * 5 + 1 * 5)) 5 true) := by rw [← hH2]; exact List.getElem?_set_self hlt1
      have hidH : id < H.length := by
        rcases Nat.lt_or_ge id H.length with h | h
        · exact h
        · rw [List.getElem?_eq_none h] at hid; cases hid
      have hid2 : H2[id]? = some (.row (l.flatMap Seg.cells ++ rest) 5 true) := by
        rw [← hH2, List.getElem?_set_ne (by omega)]; exact pre_get hp1 hid
      have sd : SlA H2 Seg.cells 5 (some ⟨id, i * 5, none⟩) (l.drop i) := fun j y hy => by
        rw [List.getElem?_drop] at hy
        have := own_at (.inr ⟨id, rest, 0, hbid, rfl, hid2, .inl rfl⟩ : OwnS b H2 (.slice (some ⟨id, 0, none⟩) l.length 0) l) (fun _ => rfl) (i + j) y hy
        exact ⟨id, i * 5, rfl, by rw [← Nat.add_mul]; exact this⟩
      have eC := copy_row (c := 0) el22 sz32 r2 (asrc_sl (c := l.length - i) un22 sd (fun _ => rfl)) (off := (i + 1) * 5) (n := l.length + 1 - (i + 1)) (by simp; omega) (by simp only [List.length_append, lt1, List.length_drop, hZ, List.length_cons, List.length_nil, Nat.min_def]; split <;> omega) (by rw [fl]) (flat_one (fun _ => rfl) _)
      have row3 : ∀ R : List Value, R = (l.take i).flatMap Seg.cells ++ x.cells ++ (List.flatMap Seg.cells (l.take i) ++ Z).drop (i * 5 + 1 * 5) → R.take ((i + 1) * 5) ++ ((l.drop i).flatMap Seg.cells).take ((l.length - i) * 5) ++ R.drop ((i + 1) * 5 + (l.length - i) * 5) = (l.take i ++ x :: l.drop i).flatMap Seg.cells := fun R hR => by
        have ln : R.length = (l.length + 1) * 5 := by rw [hR]; simp only [List.length_append, lt1, List.length_drop, hZ, List.length_cons, List.length_nil]; omega
        have ld : ((l.drop i).flatMap Seg.cells).length = (l.length - i) * 5 := by rw [fl, List.length_drop]
        have d1 : R.drop ((i + 1) * 5 + (l.length - i) * 5) = [] := List.drop_of_length_le (by omega)
        rw [d1, List.append_nil, List.take_of_length_le (l := (l.drop i).flatMap Seg.cells) (by omega), hR, List.take_append_of_le_length (by simp only [List.length_append, lt1, List.length_cons, List.length_nil]; omega), List.take_of_length_le (by simp only [List.length_append, lt1, List.length_cons, List.length_nil]; omega)]
        rw [List.flatMap_append, List.flatMap_cons, List.append_assoc]
      rw [List.length_drop, show min (l.length - i) (l.length + 1 - (i + 1)) = l.length - i by omega, row3 _ rfl] at eC
      generalize hH3 : H2.set H.length (AObj.row ((l.take i ++ x :: l.drop i).flatMap Seg.cells) 5 true) = H3 at eC
      simp -dsimp only [go_sem, ↓reduceIte, Nat.reduceEqDiff, Nat.reduceAdd, Nat.reduceMul, Nat.reduceSub, Nat.reduceLeDiff, Nat.reduceLT, capOf_pos hl0, cut_c H id 5 hlt l.length, cut_c H id 5 hl0 i, hi, Nat.le_of_lt hlt, q0, q1, q2, q3, q4, q5, q6, eA, capOf_0, cut_0 r1, eB, Nat.sub_zero, Nat.zero_mul, show i ≤ l.length + 1 from by omega]
      refine adrawnP_of2 [(0, false), (1, false), (2, false), (3, false), (4, false), (5, false), (6, false), (7, false), (8, false)] (by kernel_rfl) ?_
      simp -dsimp only [go_sem, ↓reduceIte, Nat.reduceEqDiff, Nat.reduceAdd, Nat.reduceMul, Nat.reduceSub, Nat.reduceLeDiff, Nat.reduceLT, q5, capOf_0, capOf_pos hl0, cut_0 r2, cut_c H2 id 5 hlt l.length, hi, show i + 1 ≤ l.length + 1 from by omega, eC]
      left
      refine ⟨.inr ⟨H.length, [], 0, hb, ?_, ?_, .inl rfl⟩, ?_, fun j hj hne2 => ?_, fun j hj => ?_⟩
      · congr 1; simp; omega
      · rw [← hH3, List.append_nil]; exact List.getElem?_set_self (by rw [← hH2]; simpa using hlt1)
      · rw [← hH3, ← hH2, ← hH1]; simp
      · rw [← hH3, List.getElem?_set_ne (by omega), ← hH2, List.getElem?_set_ne (by omega)]
        rw [← hH1, List.getElem?_append_left hj]
      · simp only [owner, Option.some.injEq] at hj; right; omega
    · right
      refine Sound.of_body (rs := [.tmp 6]) mixed Try.func32 rfl (by kernel_rfl) rfl (by kernel_rfl) ?_
      have fl := flat_len (enc := Seg.cells) (k := 5) (fun _ => rfl)
      have e0 : (l.flatMap Seg.cells ++ rest).take (l.length * 5) = l.flatMap Seg.cells := by
        rw [List.take_append_of_le_length (by rw [fl]; omega), List.take_of_length_le (by rw [fl]; omega)]
      rw [e0]
      have hidH : id < H.length := by
        rcases Nat.lt_or_ge id H.length with h | h
        · exact h
        · rw [List.getElem?_eq_none h] at hid; cases hid
      generalize hHX : H.set id (AObj.rowx (l.flatMap Seg.cells) 5 ((c - l.length) * 5)) = HX
      have rX : HX[id]? = some (.rowx (l.flatMap Seg.cells) 5 ((c - l.length) * 5)) := by rw [← hHX]; exact List.getElem?_set_self hidH
      have vX : HX[vb]? = some (.row x.cells 5 true) := by rw [← hHX, List.getElem?_set_ne hne]; exact hvb
      have hc0 : 0 < c := by omega
      have q0 : (((1 : Nat) : Int) == 0) = false := rfl
      have q1 : ((i : Int) == (l.length : Int)) = false := by simp; omega
      have q2 : IntKind.i64.wrap ((l.length : Int) + ((1 : Nat) : Int)) = ((l.length + 1 : Nat) : Int) := wrS (i := l.length) (by omega)
      have q3 : decide ((c : Int) < ((l.length + 1 : Nat) : Int)) = false := by simp; omega
      have q5 : IntKind.i64.wrap ((i : Int) + ((1 : Nat) : Int)) = ((i + 1 : Nat) : Int) := by rw [wr64 (i := (i : Int) + ((1 : Nat) : Int)) (by omega) (by omega)]; omega
      have q6 : (c = 0) = False := eq_false (by omega)
      have eC := copy_rowX (c := c - (i + 1)) (c2 := c - i) el22 el22 sz32 rX (off := (i + 1) * 5) (b := i * 5) (n := l.length + 1 - (i + 1)) (m := l.length + 1 - i) (by omega)
        (by rw [fl, Nat.min_eq_right (by omega)]; omega) (by rw [fl]; omega) (by rw [fl, Nat.min_eq_right (by omega)]; omega) (flat_one (fun _ => rfl) _)
      have ldd : ((l.flatMap Seg.cells).drop (i * 5)).take ((l.length - i) * 5) = (l.drop i).flatMap Seg.cells := by
        rw [List.take_of_length_le (by rw [List.length_drop, fl]; omega), flat_drop (k := 5) (fun _ => rfl)]
      have d1 : (l.flatMap Seg.cells).drop ((i + 1) * 5 + (l.length - i) * 5) = [] := List.drop_of_length_le (by rw [fl]; omega)
      rw [show min (l.length + 1 - i) (l.length + 1 - (i + 1)) = l.length - i by omega, ldd, d1, List.append_nil, flat_take (k := 5) (fun _ => rfl)] at eC
      generalize hH2 : HX.set id (AObj.row ((l.take (i + 1)).flatMap Seg.cells ++ (l.drop i).flatMap Seg.cells) 5 true) = H2 at eC
      have r2 : H2[id]? = some (.row ((l.take (i + 1)).flatMap Seg.cells ++ (l.drop i).flatMap Seg.cells) 5 true) := by rw [← hH2]; exact List.getElem?_set_self (by rw [← hHX]; simpa using hidH)
      have v2 : H2[vb]? = some (.row x.cells 5 true) := by rw [← hH2, List.getElem?_set_ne hne]; exact vX
      have sx : SlA H2 Seg.cells 5 (some ⟨vb, 0, none⟩) [x] := SlA.ofRow v2 (by simp) fun _ => rfl
      have lt1 : ((l.take (i + 1)).flatMap Seg.cells).length = (i + 1) * 5 := by rw [fl, List.length_take, Nat.min_eq_left (by omega)]
      have eB := copy_row (c := c - i) el22 sz32 r2 (asrc_sl (c := 1) un22 sx (fun _ => rfl)) (off := i * 5) (n := l.length + 1 - i) (by simp; omega) (by rw [List.length_append, lt1, List.length_singleton, Nat.min_eq_left (by omega)]; omega) (by simp) (by simp [oneCell])
      rw [List.length_singleton, Nat.min_eq_left (show 1 ≤ l.length + 1 - i by omega), show ([x].flatMap Seg.cells).take (1 * 5) = x.cells by simp, List.take_append_of_le_length (by omega), flat_take (k := 5) (fun _ => rfl), List.take_take, Nat.min_eq_left (by omega), show i * 5 + 1 * 5 = (i + 1) * 5 by omega, List.drop_append_of_le_length (by omega), List.drop_of_length_le (by omega), List.nil_append] at eB
      generalize hH3 : H2.set id (AObj.row ((l.take i).flatMap Seg.cells ++ x.cells ++ (l.drop i).flatMap Seg.cells) 5 true) = H3 at eB
      simp -dsimp only [go_sem, ↓reduceIte, Nat.reduceEqDiff, Nat.reduceAdd, Nat.reduceMul, Nat.reduceSub, Nat.reduceLeDiff, Nat.reduceLT, capOf_pos hc0, cut_c HX id 5 (show i < c by omega) l.length, cut_c HX id 5 hc0 (l.length + 1), hi, Nat.le_of_lt hlt, q0, q1, q2, q3, q5, q6, Nat.sub_zero, Nat.zero_mul, cut_c HX id 5 (show i + 1 < c by omega) (l.length + 1), show l.length + 1 ≤ c from hc1, show i + 1 ≤ l.length + 1 from by omega]
      refine SoundP_ofX (overlaps_apart (tS := 22) (tR := 4) Try.func53 (by kernel_rfl) (by kernel_rfl) (by kernel_rfl) (by kernel_rfl) un22 sz32 (by decide) vX rX (.inl ⟨_, rfl, by simp⟩) (.inr ⟨_, _, rfl, by rw [fl]; omega⟩) (Ne.symm hne) (by decide) (by omega)) ?_
      rintro _ H' ⟨rfl, hq⟩
      rw [hq]
      simp -dsimp only [go_sem, ↓reduceIte, Nat.reduceEqDiff, Nat.reduceAdd, Nat.reduceMul, Nat.reduceSub, Nat.reduceLeDiff, Nat.reduceLT]
      refine adrawnP_of2 [(0, false), (1, false), (2, false), (3, false), (4, false), (5, false), (6, false), (7, false), (8, false)] (by kernel_rfl) ?_
      simp -dsimp only [go_sem, ↓reduceIte, Nat.reduceEqDiff, Nat.reduceAdd, Nat.reduceMul, Nat.reduceSub, Nat.reduceLeDiff, Nat.reduceLT, q5, capOf_pos hc0, cut_c HX id 5 (show i < c by omega) (l.length + 1), cut_c HX id 5 (show i + 1 < c by omega) (l.length + 1), show i + 1 ≤ l.length + 1 from by omega, show i ≤ l.length + 1 from by omega, eC, eB, cut_c H2 id 5 (show i < c by omega) (l.length + 1)]
      refine .inr ⟨l.length + 1, hc1, rfl, .inr ⟨id, [], 0, hbid, ?_, ?_, .inl rfl⟩, ?_, fun j hj hne2 => ?_, fun j hj => ?_⟩
      · congr 1; simp; omega
      · rw [← hH3, List.append_nil]
        rw [List.getElem?_set_self (by rw [← hH2, ← hHX]; simpa using hidH), List.flatMap_append, List.flatMap_cons, List.append_assoc]
      · rw [← hH3, ← hH2, ← hHX]; simp
      · rw [← hH3, List.getElem?_set_ne (Ne.symm hne2), ← hH2, List.getElem?_set_ne (Ne.symm hne2), ← hHX, List.getElem?_set_ne (Ne.symm hne2)]
      · simp only [owner, Option.some.injEq] at hj; left; exact hj.symm
  · obtain rfl : i = l.length := by omega
    refine Sound.of_body (rs := [.tmp 6]) mixed Try.func32 rfl (by kernel_rfl) rfl (by kernel_rfl) ?_
    have q0 : (((1 : Nat) : Int) == 0) = false := rfl
    have sx : SlA H Seg.cells 5 (some ⟨vb, 0, none⟩) [x] := SlA.ofRow hvb (by simp) fun _ => rfl
    obtain ⟨v2, H2, e, ho, hp, hlen, hk, hm⟩ := Own.appSl (H0 := H.take b) (c := 1) un22 el22 inf32 rfl (by decide) (by decide) (fun _ => rfl) (fun _ => rfl) (List.take_prefix _ _) (by rw [List.length_take, Nat.min_eq_left hb]; exact hown) sx (by omega) (by simp)
    rw [List.length_take, Nat.min_eq_left hb] at ho
    rw [List.length_singleton] at e
    have q1 : ((l.length : Int) == (l.length : Int)) = true := by simp
    simp -dsimp only [go_sem, ↓reduceIte, Nat.reduceEqDiff, Nat.reduceAdd, Nat.reduceMul, Nat.reduceSub, Nat.reduceLeDiff, Nat.reduceLT, capOf_0, cut_0 hid, q0, q1, e, Nat.le_refl l.length]
    rw [List.take_length, List.drop_length]
    refine ⟨ho, hlen, fun j hj hne2 => hk j hj (fun q => hne2 (by simpa [owner] using q.symm)), fun j hj => (hm j hj).imp (fun q => by simpa [owner] using q.symm) fun q => q⟩
/-- one more, in its place -/
theorem insertS (l : List Seg) (x : Seg) (i : Nat) (hi : i ≤ l.length) (b vb : Nat) (v : Value) (H : AHeap) (hown : OwnS b H v l) (hvb : H[vb]? = some (.row x.cells 5 true)) (hne : owner v ≠ some vb) (hb : b ≤ H.length) (hl0 : 0 < l.length) (hl : l.length < 100000) :
    Sound Try.prog 32 [v, .int .i64 i, .slice (some ⟨vb, 0, none⟩) 1 1] H fun v' H' =>
      OwnS b H' v' (l.take i ++ x :: l.drop i) ∧ H.length ≤ H'.length ∧ (∀ j, j < H.length → owner v ≠ some j → H'[j]? = H[j]?) ∧ (∀ j, owner v' = some j → owner v = some j ∨ H.length ≤ j) := by
  obtain ⟨a, c, rfl, -⟩ := hown.sl (fun _ => rfl)
  obtain ⟨id, rest, hbid, rfl, -, hrow, hc⟩ := own_open hown hl0
  have h0 := (insert0 l x i hi b id vb rest H hbid hrow hvb (fun q => hne (by simp [owner, q])) hb hl0 hl).mono (K' := fun v' H' => OwnS b H' v' (l.take i ++ x :: l.drop i) ∧ H.length ≤ H'.length ∧ (∀ j, j < H.length → owner (.slice (some ⟨id, 0, none⟩) l.length c) ≠ some j → H'[j]? = H[j]?) ∧ (∀ j, owner v' = some j → owner (.slice (some ⟨id, 0, none⟩) l.length c) = some j ∨ H.length ≤ j)) fun v' H' ⟨q1, q2, q3, q4⟩ =>
    ⟨q1, q2, fun j hj hn => q3 j hj (fun e => hn (by simp [owner, e])), fun j hj => (q4 j hj).imp (fun e => by simp [owner, e]) fun e => e⟩
  rcases hc with rfl | ⟨hc, hcl⟩
  · exact h0
  · exact Sound.forget hrow (by omega) h0

theorem slice3 (H : AHeap) (id : Nat) {n c i : Nat} (hc : n ≤ c) (hi : i < n) : aslice Try.prog H 22 (.slice (some ⟨id, 0, none⟩) n c) (some (.int .i64 i)) (some (.int .i64 ((i + 1 : Nat) : Int))) (some (.int .i64 (n : Nat))) = some (.slice (some ⟨id, i * 5, none⟩) (i + 1 - i) (n - i)) := by
  have h1 : abound (.int .i64 (n : Nat)) (if c = 0 then n else c) = some n := by simp [abound]; split <;> omega
  have h2 : abound (.int .i64 ((i + 1 : Nat) : Int)) n = some (i + 1) := by simp [abound]; omega
  have h3 : abound (.int .i64 (i : Nat)) (i + 1) = some i := by simp [abound]; omega
  simp only [aslice, un22, sz32, Option.bind_some, h1, optB, h2, h3, Option.isSome_none, Bool.false_eq_true, if_false, add_none, Nat.zero_add]
  rw [if_neg (by omega)]
theorem delete0 (l : List Seg) (i : Nat) (hi : i < l.length) (b id : Nat) (rest : List Value) (H : AHeap) (hbid : b ≤ id) (hid : H[id]? = some (.row (l.flatMap Seg.cells ++ rest) 5 true)) (hl : l.length < 100000) :
    Sound Try.prog 41 [.slice (some ⟨id, 0, none⟩) l.length 0, .int .i64 i, .int .i64 ((i + 1 : Nat) : Int)] H fun v' H' =>
      OwnS b H' v' (l.take i ++ l.drop (i + 1)) ∧ H.length = H'.length ∧ (∀ j, j ≠ id → H'[j]? = H[j]?) ∧ (∀ j, owner v' = some j → j = id) := by
  have fl := flat_len (enc := Seg.cells) (k := 5) (fun _ => rfl)
  refine Sound.cap hid (by omega) (by rw [List.length_append, fl]; omega) fun c hc => .inl ?_
  refine Sound.of_body (rs := [.tmp 6]) mixed Try.func41 rfl (by kernel_rfl) rfl (by kernel_rfl) ?_
  have hc0 : 0 < c := by omega
  have q1 : ((i : Int) == ((i + 1 : Nat) : Int)) = false := by simp; omega
  have ld : ((l.drop (i + 1)).flatMap Seg.cells).length = (l.length - (i + 1)) * 5 := by rw [fl, List.length_drop]
  have lt1 : ((l.take i).flatMap Seg.cells).length = i * 5 := by rw [fl, List.length_take, Nat.min_eq_left (by omega)]
  have hidH : id < H.length := by
    rcases Nat.lt_or_ge id H.length with h | h
    · exact h
    · rw [List.getElem?_eq_none h] at hid; cases hid
  have tk : (l.flatMap Seg.cells ++ rest).take (i * 5) = (l.take i).flatMap Seg.cells := by rw [List.take_append_of_le_length (by rw [fl]; omega), flat_take (k := 5) (fun _ => rfl)]
  -- what is moved up
  have app : ∃ s2 R2, AW.cut H 5 (some ⟨id, 0, none⟩) c (i + 1) l.length = some s2 ∧ aappend Try.prog H 22 22 (.slice (some ⟨id, 0, none⟩) i c) s2 = some (.slice (some ⟨id, 0, none⟩) (l.length - 1) c, H.set id (.row ((l.take i ++ l.drop (i + 1)).flatMap Seg.cells ++ R2) 5 true)) ∧ 5 ≤ R2.length := by
    by_cases hlast : i + 1 = l.length
    · have hd : l.drop (i + 1) = [] := List.drop_of_length_le (by omega)
      have hsame : H.set id (.row ((l.take i ++ l.drop (i + 1)).flatMap Seg.cells ++ (l.flatMap Seg.cells ++ rest).drop (i * 5)) 5 true) = H := by
        rw [hd, List.append_nil, ← tk, List.take_append_drop]
        apply List.ext_getElem?
        intro j
        by_cases hj : j = id
        · subst hj; rw [List.getElem?_set_self hidH, hid]
        · rw [List.getElem?_set_ne (Ne.symm hj)]
      have hR2 : 5 ≤ ((l.flatMap Seg.cells ++ rest).drop (i * 5)).length := by rw [List.length_drop, List.length_append, fl]; omega
      by_cases hci : c = i + 1
      · refine ⟨AW.emp, _, by simp only [AW.cut, Option.isSome_none, Bool.false_eq_true, if_false]; rw [if_neg (by omega), if_pos hci], ?_, hR2⟩
        rw [hsame, show l.length - 1 = i by omega]
        exact append_none el22 inf32 rfl (by decide) (by decide) (news := []) (by simp [AW.emp, asrc, un22]) (by omega)
      · refine ⟨_, _, cut_c H id 5 (by omega) l.length, ?_, hR2⟩
        rw [hsame, show l.length - 1 = i by omega, show l.length - (i + 1) = 0 by omega]
        exact append_none el22 inf32 rfl (by decide) (by decide) (news := []) (by simp [asrc, un22]) (by omega)
    · refine ⟨_, (l.flatMap Seg.cells ++ rest).drop ((l.length - 1) * 5), cut_c H id 5 (by omega) l.length, ?_, by rw [List.length_drop, List.length_append, fl]; omega⟩
      have sd : SlA H Seg.cells 5 (some ⟨id, (i + 1) * 5, none⟩) (l.drop (i + 1)) := fun j y hy => by
        rw [List.getElem?_drop] at hy
        have := own_at (.inr ⟨id, rest, 0, hbid, rfl, hid, .inl rfl⟩ : OwnS b H (.slice (some ⟨id, 0, none⟩) l.length 0) l) (fun _ => rfl) (i + 1 + j) y hy
        exact ⟨id, (i + 1) * 5, rfl, by rw [← Nat.add_mul]; exact this⟩
      have hs := asrc_sl (c := c - (i + 1)) un22 sd (fun _ => rfl)
      rw [List.length_drop] at hs
      have := append_room (off := 0) (i := i) (c := c) el22 inf32 rfl (by decide) (by decide) hid hs ld (flat_one (fun _ => rfl) _) (by omega) hc0 (by omega) (by rw [List.length_append, fl]; omega) (by omega)
      rw [this, Nat.zero_add, tk, show i * 5 + (l.length - (i + 1)) * 5 = (l.length - 1) * 5 by omega, List.flatMap_append, show i + (l.length - (i + 1)) = l.length - 1 by omega]
  obtain ⟨s2, R2, ecut, eapp, hR2⟩ := app
  have lf : ((l.take i ++ l.drop (i + 1)).flatMap Seg.cells).length = (l.length - 1) * 5 := by rw [fl, List.length_append, List.length_take, List.length_drop]; omega
  generalize hH2 : H.set id (.row ((l.take i ++ l.drop (i + 1)).flatMap Seg.cells ++ R2) 5 true) = H2 at eapp
  have r2 : H2[id]? = some (.row ((l.take i ++ l.drop (i + 1)).flatMap Seg.cells ++ R2) 5 true) := by rw [← hH2]; exact List.getElem?_set_self hidH
  obtain ⟨R, hR, eclr⟩ := clear_own un22 sz32 ze32 rfl rfl rfl r2 ((l.length - 1) * 5) (l.length - (l.length - 1)) (c - (l.length - 1)) (by omega) (by rw [List.length_append, lf]; omega)
  rw [List.take_append_of_le_length (by omega), List.take_of_length_le (by omega), List.append_assoc] at eclr
  generalize hH3 : H2.set id (.row ((l.take i ++ l.drop (i + 1)).flatMap Seg.cells ++ (R ++ ((l.take i ++ l.drop (i + 1)).flatMap Seg.cells ++ R2).drop ((l.length - 1) * 5 + (l.length - (l.length - 1)) * 5))) 5 true) = H3 at eclr
  simp -dsimp only [go_sem, ↓reduceIte, Nat.reduceEqDiff, Nat.reduceAdd, Nat.reduceMul, Nat.reduceSub, Nat.reduceLeDiff, Nat.reduceLT, slice3 H id hc hi, q1]
  refine adrawnP_of2 [(0, false), (1, false), (2, false), (3, false), (4, false), (5, false), (6, false), (7, false)] (by kernel_rfl) ?_
  simp -dsimp only [go_sem, ↓reduceIte, Nat.reduceEqDiff, Nat.reduceAdd, Nat.reduceMul, Nat.reduceSub, Nat.reduceLeDiff, Nat.reduceLT, capOf_pos hc0, cut_c H id 5 hc0 i, Nat.sub_zero, Nat.zero_mul, show i ≤ c from by omega, show i + 1 ≤ l.length from hi, ecut, eapp]
  simp -dsimp only [go_sem, ↓reduceIte, Nat.reduceEqDiff, Nat.reduceAdd, Nat.reduceMul, Nat.reduceSub, Nat.reduceLeDiff, Nat.reduceLT, hc, show l.length - 1 ≤ l.length from by omega, cut_c H2 id 5 (show l.length - 1 < c by omega) l.length, eclr]
  refine .inr ⟨l.length - 1, by omega, rfl, .inr ⟨id, _, 0, hbid, ?_, by rw [← hH3]; exact List.getElem?_set_self (by rw [← hH2]; simpa using hidH), .inl rfl⟩, by rw [← hH3, ← hH2]; simp, fun j hj => ?_, fun j hj => ?_⟩
  · congr 1; simp; omega
  · rw [← hH3, List.getElem?_set_ne (Ne.symm hj), ← hH2, List.getElem?_set_ne (Ne.symm hj)]
  · simp only [owner, Option.some.injEq] at hj; exact hj.symm
/-- one less -/
theorem deleteS (l : List Seg) (i : Nat) (hi : i < l.length) (b : Nat) (v : Value) (H : AHeap) (hown : OwnS b H v l) (hl : l.length < 100000) :
    Sound Try.prog 41 [v, .int .i64 i, .int .i64 ((i + 1 : Nat) : Int)] H fun v' H' =>
      OwnS b H' v' (l.take i ++ l.drop (i + 1)) ∧ H.length = H'.length ∧ (∀ j, owner v ≠ some j → H'[j]? = H[j]?) ∧ (∀ j, owner v' = some j → owner v = some j) := by
  obtain ⟨a, c, rfl, -⟩ := hown.sl (fun _ => rfl)
  obtain ⟨id, rest, hbid, rfl, -, hrow, hc⟩ := own_open hown (by omega)
  have h0 := (delete0 l i hi b id rest H hbid hrow hl).mono (K' := fun v' H' => OwnS b H' v' (l.take i ++ l.drop (i + 1)) ∧ H.length = H'.length ∧ (∀ j, owner (.slice (some ⟨id, 0, none⟩) l.length c) ≠ some j → H'[j]? = H[j]?) ∧ (∀ j, owner v' = some j → owner (.slice (some ⟨id, 0, none⟩) l.length c) = some j)) fun v' H' ⟨q1, q2, q3, q4⟩ =>
    ⟨q1, q2, fun j hn => q3 j (fun e => hn (by simp [owner, e])), fun j hj => by simp [owner, q4 j hj]⟩
  rcases hc with rfl | ⟨hc, hcl⟩
  · exact h0
  · exact Sound.forget hrow (by omega) h0
end Go.Proofs.Ythbifkeadbmcnaa
