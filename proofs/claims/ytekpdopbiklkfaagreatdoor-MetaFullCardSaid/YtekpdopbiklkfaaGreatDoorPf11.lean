/-
  Parts of the proof, joined: Ins, Find, Clone, Spec, Read3.
-/
import Derived.Test.YtekpdopbiklkfaaGreatDoorPf10
section
set_option linter.unusedVariables false
set_option linter.unusedSimpArgs false
namespace Go.Proofs.YtekpdopbiklkfaaGreatDoor
open Go Go.AW
set_option linter.unusedSimpArgs false
set_option maxRecDepth 20000
abbrev OwnM (b : Nat) (H : AHeap) (v : Value) (l : List Meta) : Prop := Own b H Meta.cells 8 v l
theorem cut_0 {H : AHeap} {id k : Nat} {cs : List Value} (h : H[id]? = some (.row cs k true)) (i j : Nat) : AW.cut H k (some ⟨id, 0, none⟩) 0 i j = some (.slice (some ⟨id, i * k, none⟩) (j - i) 0) := by
  simp only [AW.cut, Option.isSome_none, Bool.false_eq_true, if_false, add_none, Nat.zero_add, if_true]
  rw [if_pos (by simp [rowOf, h])]
theorem cut_c (H : AHeap) (id k : Nat) {c i : Nat} (h : i < c) (j : Nat) : AW.cut H k (some ⟨id, 0, none⟩) c i j = some (.slice (some ⟨id, i * k, none⟩) (j - i) (c - i)) := by
  simp only [AW.cut, Option.isSome_none, Bool.false_eq_true, if_false, add_none, Nat.zero_add]
  rw [if_neg (by omega), if_neg (by omega)]
theorem flat_drop {α : Type} {enc : α → List Value} {k : Nat} (hk : ∀ x, (enc x).length = k) : ∀ (l : List α) (i : Nat), (l.flatMap enc).drop (i * k) = (l.drop i).flatMap enc
  | [], i => by simp
  | x :: l, 0 => by simp
  | x :: l, i + 1 => by
    rw [List.flatMap_cons, List.drop_succ_cons, ← flat_drop hk l i, show (i + 1) * k = (enc x).length + i * k by rw [hk x, Nat.add_mul]; omega, List.drop_length_add_append]
theorem capOf_0 (n : Nat) : AW.capOf n 0 = n := rfl
theorem capOf_pos {n c : Nat} (h : 0 < c) : AW.capOf n c = c := by simp [AW.capOf]; omega
theorem insert0 (l : List Meta) (x : Meta) (i : Nat) (hi : i ≤ l.length) (b id vb : Nat) (rest : List Value) (H : AHeap) (hbid : b ≤ id) (hid : H[id]? = some (.row (l.flatMap Meta.cells ++ rest) 8 true)) (hvb : H[vb]? = some (.row x.cells 8 true)) (hne : id ≠ vb) (hb : b ≤ H.length) (hl0 : 0 < l.length) (hl : l.length < 100000) :
    Sound Tryz.prog 79 [.slice (some ⟨id, 0, none⟩) l.length 0, .int .i64 i, .slice (some ⟨vb, 0, none⟩) 1 1] H fun v' H' =>
      OwnM b H' v' (l.take i ++ x :: l.drop i) ∧ H.length ≤ H'.length ∧ (∀ j, j < H.length → j ≠ id → H'[j]? = H[j]?) ∧ (∀ j, owner v' = some j → j = id ∨ H.length ≤ j) := by
  have hown : OwnM b H (.slice (some ⟨id, 0, none⟩) l.length 0) l := .inr ⟨id, rest, 0, hbid, rfl, hid, .inl rfl⟩
  rcases Nat.lt_or_ge i l.length with hlt | hge
  · refine Sound.cap hid hl0 (by rw [List.length_append, flat_len (k := 8) (fun _ => rfl)]; omega) fun c hc => ?_
    rcases Nat.lt_or_ge c (l.length + 1) with hc1 | hc1
    · obtain rfl : c = l.length := by omega
      left
      refine Sound.of_body (rs := [.tmp 6]) mixed Tryz.func79 rfl (by kernel_rfl) rfl (by kernel_rfl) ?_
      have q0 : (((1 : Nat) : Int) == 0) = false := rfl
      have q1 : ((i : Int) == (l.length : Int)) = false := by simp; omega
      have q2 : IntKind.i64.wrap ((l.length : Int) + ((1 : Nat) : Int)) = ((l.length + 1 : Nat) : Int) := wrS (i := l.length) (by omega)
      have q3 : decide ((l.length : Int) < ((l.length + 1 : Nat) : Int)) = true := by simp; omega
      have q4 : IntKind.i64.wrap (((l.length + 1 : Nat) : Int) - (i : Int)) = ((l.length + 1 - i : Nat) : Int) := by rw [wr64 (i := ((l.length + 1 : Nat) : Int) - (i : Int)) (by omega) (by omega)]; omega
      have q5 : IntKind.i64.wrap ((i : Int) + ((1 : Nat) : Int)) = ((i + 1 : Nat) : Int) := by rw [wr64 (i := (i : Int) + ((1 : Nat) : Int)) (by omega) (by omega)]; omega
      have q6 : (l.length = 0) = False := eq_false (by omega)
      have fl := flat_len (enc := Meta.cells) (k := 8) (fun _ => rfl)
      have hold : aload H ⟨id, 0, none⟩ (i * 8) = some ((l.take i).flatMap Meta.cells) := by
        refine aload_iff.2 ⟨rfl, _, _, _, hid, ?_, ?_⟩
        · show 0 + i * 8 ≤ _
          rw [List.length_append, fl]; omega
        · rw [List.drop_zero, List.take_append_of_le_length (by rw [fl]; omega), flat_take (k := 8) (fun _ => rfl)]
      obtain ⟨Z, hZ, eA⟩ := append_zeros (ik := .i64) (m := l.length + 1 - i) un28 el28 (by kernel_rfl : Tryz.prog.underlying 3 = some (.int .i64)) inf51 rfl (by decide) (by decide) (by decide) hold hl0 (by omega) (by omega) (by omega)
      rw [show i + (l.length + 1 - i) = l.length + 1 by omega] at eA
      have lt1 : ((l.take i).flatMap Meta.cells).length = i * 8 := by rw [fl, List.length_take, Nat.min_eq_left hi]
      generalize hH1 : H ++ [AObj.row ((l.take i).flatMap Meta.cells ++ Z) 8 true] = H1 at eA
      have r1 : H1[H.length]? = some (.row ((l.take i).flatMap Meta.cells ++ Z) 8 true) := by rw [← hH1]; simp
      have hp1 : H <+: H1 := by rw [← hH1]; exact List.prefix_append _ _
      have sx : SlA H1 Meta.cells 8 (some ⟨vb, 0, none⟩) [x] := SlA.ofRow (pre_get hp1 hvb) (by simp) fun _ => rfl
      have eB := copy_row (c := 0) el28 sz51 r1 (asrc_sl (c := 1) un28 sx (fun _ => rfl)) (off := i * 8) (n := l.length + 1 - i) (by simp; omega) (by rw [List.length_append, lt1, hZ, List.length_singleton, Nat.min_eq_left (by omega)]; omega) (by simp) (by simp [oneCell])
      rw [List.length_singleton, Nat.min_eq_left (show 1 ≤ l.length + 1 - i by omega), show ([x].flatMap Meta.cells).take (1 * 8) = x.cells by simp, List.take_append_of_le_length (by omega), List.take_of_length_le (by omega)] at eB
      have hlt1 : H.length < H1.length := by rw [← hH1]; simp
      generalize hH2 : H1.set H.length (AObj.row ((l.take i).flatMap Meta.cells ++ x.cells ++ (List.flatMap Meta.cells (l.take i) ++ Z).drop (i * 8 + 1 * 8)) 8 true) = H2 at eB
      have r2 : H2[H.length]? = some (.row ((l.take i).flatMap Meta.cells ++ x.cells ++ (List.flatMap Meta.cells (l.take i) ++ Z).drop (i * 8 + 1 * 8)) 8 true) := by rw [← hH2]; exact List.getElem?_set_self hlt1
      have hidH : id < H.length := by
        rcases Nat.lt_or_ge id H.length with h | h
        · exact h
        · rw [List.getElem?_eq_none h] at hid; cases hid
      have hid2 : H2[id]? = some (.row (l.flatMap Meta.cells ++ rest) 8 true) := by
        rw [← hH2, List.getElem?_set_ne (by omega)]; exact pre_get hp1 hid
      have sd : SlA H2 Meta.cells 8 (some ⟨id, i * 8, none⟩) (l.drop i) := fun j y hy => by
        rw [List.getElem?_drop] at hy
        have := own_at (.inr ⟨id, rest, 0, hbid, rfl, hid2, .inl rfl⟩ : OwnM b H2 (.slice (some ⟨id, 0, none⟩) l.length 0) l) (fun _ => rfl) (i + j) y hy
        exact ⟨id, i * 8, rfl, by rw [← Nat.add_mul]; exact this⟩
      have eC := copy_row (c := 0) el28 sz51 r2 (asrc_sl (c := l.length - i) un28 sd (fun _ => rfl)) (off := (i + 1) * 8) (n := l.length + 1 - (i + 1)) (by simp; omega) (by simp only [List.length_append, lt1, List.length_drop, hZ, List.length_cons, List.length_nil, Nat.min_def]; split <;> omega) (by rw [fl]) (flat_one (fun _ => rfl) _)
      have row3 : ∀ R : List Value, R = (l.take i).flatMap Meta.cells ++ x.cells ++ (List.flatMap Meta.cells (l.take i) ++ Z).drop (i * 8 + 1 * 8) → R.take ((i + 1) * 8) ++ ((l.drop i).flatMap Meta.cells).take ((l.length - i) * 8) ++ R.drop ((i + 1) * 8 + (l.length - i) * 8) = (l.take i ++ x :: l.drop i).flatMap Meta.cells := fun R hR => by
        have ln : R.length = (l.length + 1) * 8 := by rw [hR]; simp only [List.length_append, lt1, List.length_drop, hZ, List.length_cons, List.length_nil]; omega
        have ld : ((l.drop i).flatMap Meta.cells).length = (l.length - i) * 8 := by rw [fl, List.length_drop]
        have d1 : R.drop ((i + 1) * 8 + (l.length - i) * 8) = [] := List.drop_of_length_le (by omega)
        rw [d1, List.append_nil, List.take_of_length_le (l := (l.drop i).flatMap Meta.cells) (by omega), hR, List.take_append_of_le_length (by simp only [List.length_append, lt1, List.length_cons, List.length_nil]; omega), List.take_of_length_le (by simp only [List.length_append, lt1, List.length_cons, List.length_nil]; omega)]
        rw [List.flatMap_append, List.flatMap_cons, List.append_assoc]
      rw [List.length_drop, show min (l.length - i) (l.length + 1 - (i + 1)) = l.length - i by omega, row3 _ rfl] at eC
      generalize hH3 : H2.set H.length (AObj.row ((l.take i ++ x :: l.drop i).flatMap Meta.cells) 8 true) = H3 at eC
      simp -dsimp only [go_sem, ↓reduceIte, Nat.reduceEqDiff, Nat.reduceAdd, Nat.reduceMul, Nat.reduceSub, Nat.reduceLeDiff, Nat.reduceLT, capOf_pos hl0, cut_c H id 8 hlt l.length, cut_c H id 8 hl0 i, hi, Nat.le_of_lt hlt, q0, q1, q2, q3, q4, q5, q6, eA, capOf_0, cut_0 r1, eB, Nat.sub_zero, Nat.zero_mul, show i ≤ l.length + 1 from by omega]
      refine adrawnP_of2 [(0, false), (1, false), (2, false), (3, false), (4, false), (5, false), (6, false), (7, false), (8, false)] (by kernel_rfl) ?_
      simp -dsimp only [go_sem, ↓reduceIte, Nat.reduceEqDiff, Nat.reduceAdd, Nat.reduceMul, Nat.reduceSub, Nat.reduceLeDiff, Nat.reduceLT, q5, capOf_0, capOf_pos hl0, cut_0 r2, cut_c H2 id 8 hlt l.length, hi, show i + 1 ≤ l.length + 1 from by omega, eC]
      left
      refine ⟨.inr ⟨H.length, [], 0, hb, ?_, ?_, .inl rfl⟩, ?_, fun j hj hne2 => ?_, fun j hj => ?_⟩
      · congr 1; simp; omega
      · rw [← hH3, List.append_nil]; exact List.getElem?_set_self (by rw [← hH2]; simpa using hlt1)
      · rw [← hH3, ← hH2, ← hH1]; simp
      · rw [← hH3, List.getElem?_set_ne (by omega), ← hH2, List.getElem?_set_ne (by omega)]
        rw [← hH1, List.getElem?_append_left hj]
      · simp only [owner, Option.some.injEq] at hj; right; omega
    · right
      refine Sound.of_body (rs := [.tmp 6]) mixed Tryz.func79 rfl (by kernel_rfl) rfl (by kernel_rfl) ?_
      have fl := flat_len (enc := Meta.cells) (k := 8) (fun _ => rfl)
      have e0 : (l.flatMap Meta.cells ++ rest).take (l.length * 8) = l.flatMap Meta.cells := by
        rw [List.take_append_of_le_length (by rw [fl]; omega), List.take_of_length_le (by rw [fl]; omega)]
      rw [e0]
      have hidH : id < H.length := by
        rcases Nat.lt_or_ge id H.length with h | h
        · exact h
        · rw [List.getElem?_eq_none h] at hid; cases hid
      generalize hHX : H.set id (AObj.rowx (l.flatMap Meta.cells) 8 ((c - l.length) * 8)) = HX
      have rX : HX[id]? = some (.rowx (l.flatMap Meta.cells) 8 ((c - l.length) * 8)) := by rw [← hHX]; exact List.getElem?_set_self hidH
      have vX : HX[vb]? = some (.row x.cells 8 true) := by rw [← hHX, List.getElem?_set_ne hne]; exact hvb
      have hc0 : 0 < c := by omega
      have q0 : (((1 : Nat) : Int) == 0) = false := rfl
      have q1 : ((i : Int) == (l.length : Int)) = false := by simp; omega
      have q2 : IntKind.i64.wrap ((l.length : Int) + ((1 : Nat) : Int)) = ((l.length + 1 : Nat) : Int) := wrS (i := l.length) (by omega)
      have q3 : decide ((c : Int) < ((l.length + 1 : Nat) : Int)) = false := by simp; omega
      have q5 : IntKind.i64.wrap ((i : Int) + ((1 : Nat) : Int)) = ((i + 1 : Nat) : Int) := by rw [wr64 (i := (i : Int) + ((1 : Nat) : Int)) (by omega) (by omega)]; omega
      have q6 : (c = 0) = False := eq_false (by omega)
      have eC := copy_rowX (c := c - (i + 1)) (c2 := c - i) el28 el28 sz51 rX (off := (i + 1) * 8) (b := i * 8) (n := l.length + 1 - (i + 1)) (m := l.length + 1 - i) (by omega)
        (by rw [fl, Nat.min_eq_right (by omega)]; omega) (by rw [fl]; omega) (by rw [fl, Nat.min_eq_right (by omega)]; omega) (flat_one (fun _ => rfl) _)
      have ldd : ((l.flatMap Meta.cells).drop (i * 8)).take ((l.length - i) * 8) = (l.drop i).flatMap Meta.cells := by
        rw [List.take_of_length_le (by rw [List.length_drop, fl]; omega), flat_drop (k := 8) (fun _ => rfl)]
      have d1 : (l.flatMap Meta.cells).drop ((i + 1) * 8 + (l.length - i) * 8) = [] := List.drop_of_length_le (by rw [fl]; omega)
      rw [show min (l.length + 1 - i) (l.length + 1 - (i + 1)) = l.length - i by omega, ldd, d1, List.append_nil, flat_take (k := 8) (fun _ => rfl)] at eC
      generalize hH2 : HX.set id (AObj.row ((l.take (i + 1)).flatMap Meta.cells ++ (l.drop i).flatMap Meta.cells) 8 true) = H2 at eC
      have r2 : H2[id]? = some (.row ((l.take (i + 1)).flatMap Meta.cells ++ (l.drop i).flatMap Meta.cells) 8 true) := by rw [← hH2]; exact List.getElem?_set_self (by rw [← hHX]; simpa using hidH)
      have v2 : H2[vb]? = some (.row x.cells 8 true) := by rw [← hH2, List.getElem?_set_ne hne]; exact vX
      have sx : SlA H2 Meta.cells 8 (some ⟨vb, 0, none⟩) [x] := SlA.ofRow v2 (by simp) fun _ => rfl
      have lt1 : ((l.take (i + 1)).flatMap Meta.cells).length = (i + 1) * 8 := by rw [fl, List.length_take, Nat.min_eq_left (by omega)]
      have eB := copy_row (c := c - i) el28 sz51 r2 (asrc_sl (c := 1) un28 sx (fun _ => rfl)) (off := i * 8) (n := l.length + 1 - i) (by simp; omega) (by rw [List.length_append, lt1, List.length_singleton, Nat.min_eq_left (by omega)]; omega) (by simp) (by simp [oneCell])
      rw [List.length_singleton, Nat.min_eq_left (show 1 ≤ l.length + 1 - i by omega), show ([x].flatMap Meta.cells).take (1 * 8) = x.cells by simp, List.take_append_of_le_length (by omega), flat_take (k := 8) (fun _ => rfl), List.take_take, Nat.min_eq_left (by omega), show i * 8 + 1 * 8 = (i + 1) * 8 by omega, List.drop_append_of_le_length (by omega), List.drop_of_length_le (by omega), List.nil_append] at eB
      generalize hH3 : H2.set id (AObj.row ((l.take i).flatMap Meta.cells ++ x.cells ++ (l.drop i).flatMap Meta.cells) 8 true) = H3 at eB
      simp -dsimp only [go_sem, ↓reduceIte, Nat.reduceEqDiff, Nat.reduceAdd, Nat.reduceMul, Nat.reduceSub, Nat.reduceLeDiff, Nat.reduceLT, capOf_pos hc0, cut_c HX id 8 (show i < c by omega) l.length, cut_c HX id 8 hc0 (l.length + 1), hi, Nat.le_of_lt hlt, q0, q1, q2, q3, q5, q6, Nat.sub_zero, Nat.zero_mul, cut_c HX id 8 (show i + 1 < c by omega) (l.length + 1), show l.length + 1 ≤ c from hc1, show i + 1 ≤ l.length + 1 from by omega]
      refine SoundP_ofX (overlaps_apart (tS := 28) (tR := 4) Tryz.func122 (by kernel_rfl) (by kernel_rfl) (by kernel_rfl) (by kernel_rfl) un28 sz51 (by decide) vX rX (.inl ⟨_, rfl, by simp⟩) (.inr ⟨_, _, rfl, by rw [fl]; omega⟩) (Ne.symm hne) (by decide) (by omega)) ?_
      rintro _ H' ⟨rfl, hq⟩
      rw [hq]
      simp -dsimp only [go_sem, ↓reduceIte, Nat.reduceEqDiff, Nat.reduceAdd, Nat.reduceMul, Nat.reduceSub, Nat.reduceLeDiff, Nat.reduceLT]
      refine adrawnP_of2 [(0, false), (1, false), (2, false), (3, false), (4, false), (5, false), (6, false), (7, false), (8, false)] (by kernel_rfl) ?_
      simp -dsimp only [go_sem, ↓reduceIte, Nat.reduceEqDiff, Nat.reduceAdd, Nat.reduceMul, Nat.reduceSub, Nat.reduceLeDiff, Nat.reduceLT, q5, capOf_pos hc0, cut_c HX id 8 (show i < c by omega) (l.length + 1), cut_c HX id 8 (show i + 1 < c by omega) (l.length + 1), show i + 1 ≤ l.length + 1 from by omega, show i ≤ l.length + 1 from by omega, eC, eB, cut_c H2 id 8 (show i < c by omega) (l.length + 1)]
      refine .inr ⟨l.length + 1, hc1, rfl, .inr ⟨id, [], 0, hbid, ?_, ?_, .inl rfl⟩, ?_, fun j hj hne2 => ?_, fun j hj => ?_⟩
      · congr 1; simp; omega
      · rw [← hH3, List.append_nil]
        rw [List.getElem?_set_self (by rw [← hH2, ← hHX]; simpa using hidH), List.flatMap_append, List.flatMap_cons, List.append_assoc]
      · rw [← hH3, ← hH2, ← hHX]; simp
      · rw [← hH3, List.getElem?_set_ne (Ne.symm hne2), ← hH2, List.getElem?_set_ne (Ne.symm hne2), ← hHX, List.getElem?_set_ne (Ne.symm hne2)]
      · simp only [owner, Option.some.injEq] at hj; left; exact hj.symm
  · obtain rfl : i = l.length := by omega
    refine Sound.of_body (rs := [.tmp 6]) mixed Tryz.func79 rfl (by kernel_rfl) rfl (by kernel_rfl) ?_
    have q0 : (((1 : Nat) : Int) == 0) = false := rfl
    have sx : SlA H Meta.cells 8 (some ⟨vb, 0, none⟩) [x] := SlA.ofRow hvb (by simp) fun _ => rfl
    obtain ⟨v2, H2, e, ho, hp, hlen, hk, hm⟩ := Own.appSl (H0 := H.take b) (c := 1) un28 el28 inf51 rfl (by decide) (by decide) (fun _ => rfl) (fun _ => rfl) (List.take_prefix _ _) (by rw [List.length_take, Nat.min_eq_left hb]; exact hown) sx (by omega) (by simp)
    rw [List.length_take, Nat.min_eq_left hb] at ho
    rw [List.length_singleton] at e
    have q1 : ((l.length : Int) == (l.length : Int)) = true := by simp
    simp -dsimp only [go_sem, ↓reduceIte, Nat.reduceEqDiff, Nat.reduceAdd, Nat.reduceMul, Nat.reduceSub, Nat.reduceLeDiff, Nat.reduceLT, capOf_0, cut_0 hid, q0, q1, e, Nat.le_refl l.length]
    rw [List.take_length, List.drop_length]
    refine ⟨ho, hlen, fun j hj hne2 => hk j hj (fun q => hne2 (by simpa [owner] using q.symm)), fun j hj => (hm j hj).imp (fun q => by simpa [owner] using q.symm) fun q => q⟩
theorem insertM (l : List Meta) (x : Meta) (i : Nat) (hi : i ≤ l.length) (b vb : Nat) (v : Value) (H : AHeap) (hown : OwnM b H v l) (hvb : H[vb]? = some (.row x.cells 8 true)) (hne : owner v ≠ some vb) (hb : b ≤ H.length) (hl0 : 0 < l.length) (hl : l.length < 100000) :
    Sound Tryz.prog 79 [v, .int .i64 i, .slice (some ⟨vb, 0, none⟩) 1 1] H fun v' H' =>
      OwnM b H' v' (l.take i ++ x :: l.drop i) ∧ H.length ≤ H'.length ∧ (∀ j, j < H.length → owner v ≠ some j → H'[j]? = H[j]?) ∧ (∀ j, owner v' = some j → owner v = some j ∨ H.length ≤ j) := by
  obtain ⟨a, c, rfl, -⟩ := hown.sl (fun _ => rfl)
  obtain ⟨id, rest, hbid, rfl, -, hrow, hc⟩ := own_open hown hl0
  have h0 := (insert0 l x i hi b id vb rest H hbid hrow hvb (fun q => hne (by simp [owner, q])) hb hl0 hl).mono (K' := fun v' H' => OwnM b H' v' (l.take i ++ x :: l.drop i) ∧ H.length ≤ H'.length ∧ (∀ j, j < H.length → owner (.slice (some ⟨id, 0, none⟩) l.length c) ≠ some j → H'[j]? = H[j]?) ∧ (∀ j, owner v' = some j → owner (.slice (some ⟨id, 0, none⟩) l.length c) = some j ∨ H.length ≤ j)) fun v' H' ⟨q1, q2, q3, q4⟩ =>
    ⟨q1, q2, fun j hj hn => q3 j hj (fun e => hn (by simp [owner, e])), fun j hj => (q4 j hj).imp (fun e => by simp [owner, e]) fun e => e⟩
  rcases hc with rfl | ⟨hc, hcl⟩
  · exact h0
  · exact Sound.forget hrow (by omega) h0
theorem slice3 (H : AHeap) (id : Nat) {n c i : Nat} (hc : n ≤ c) (hi : i < n) : aslice Tryz.prog H 28 (.slice (some ⟨id, 0, none⟩) n c) (some (.int .i64 i)) (some (.int .i64 ((i + 1 : Nat) : Int))) (some (.int .i64 (n : Nat))) = some (.slice (some ⟨id, i * 8, none⟩) (i + 1 - i) (n - i)) := by
  have h1 : abound (.int .i64 (n : Nat)) (if c = 0 then n else c) = some n := by simp [abound]; split <;> omega
  have h2 : abound (.int .i64 ((i + 1 : Nat) : Int)) n = some (i + 1) := by simp [abound]; omega
  have h3 : abound (.int .i64 (i : Nat)) (i + 1) = some i := by simp [abound]; omega
  simp only [aslice, un28, sz51, Option.bind_some, h1, optB, h2, h3, Option.isSome_none, Bool.false_eq_true, if_false, add_none, Nat.zero_add]
  rw [if_neg (by omega)]
theorem delete0 (l : List Meta) (i : Nat) (hi : i < l.length) (b id : Nat) (rest : List Value) (H : AHeap) (hbid : b ≤ id) (hid : H[id]? = some (.row (l.flatMap Meta.cells ++ rest) 8 true)) (hl : l.length < 100000) :
    Sound Tryz.prog 78 [.slice (some ⟨id, 0, none⟩) l.length 0, .int .i64 i, .int .i64 ((i + 1 : Nat) : Int)] H fun v' H' =>
      OwnM b H' v' (l.take i ++ l.drop (i + 1)) ∧ H.length = H'.length ∧ (∀ j, j ≠ id → H'[j]? = H[j]?) ∧ (∀ j, owner v' = some j → j = id) := by
  have fl := flat_len (enc := Meta.cells) (k := 8) (fun _ => rfl)
  refine Sound.cap hid (by omega) (by rw [List.length_append, fl]; omega) fun c hc => .inl ?_
  refine Sound.of_body (rs := [.tmp 6]) mixed Tryz.func78 rfl (by kernel_rfl) rfl (by kernel_rfl) ?_
  have hc0 : 0 < c := by omega
  have q1 : ((i : Int) == ((i + 1 : Nat) : Int)) = false := by simp; omega
  have ld : ((l.drop (i + 1)).flatMap Meta.cells).length = (l.length - (i + 1)) * 8 := by rw [fl, List.length_drop]
  have lt1 : ((l.take i).flatMap Meta.cells).length = i * 8 := by rw [fl, List.length_take, Nat.min_eq_left (by omega)]
  have hidH : id < H.length := by
    rcases Nat.lt_or_ge id H.length with h | h
    · exact h
    · rw [List.getElem?_eq_none h] at hid; cases hid
  have tk : (l.flatMap Meta.cells ++ rest).take (i * 8) = (l.take i).flatMap Meta.cells := by rw [List.take_append_of_le_length (by rw [fl]; omega), flat_take (k := 8) (fun _ => rfl)]
  -- what is moved up
  have app : ∃ s2 R2, AW.cut H 8 (some ⟨id, 0, none⟩) c (i + 1) l.length = some s2 ∧ aappend Tryz.prog H 28 28 (.slice (some ⟨id, 0, none⟩) i c) s2 = some (.slice (some ⟨id, 0, none⟩) (l.length - 1) c, H.set id (.row ((l.take i ++ l.drop (i + 1)).flatMap Meta.cells ++ R2) 8 true)) ∧ 8 ≤ R2.length := by
    by_cases hlast : i + 1 = l.length
    · have hd : l.drop (i + 1) = [] := List.drop_of_length_le (by omega)
      have hsame : H.set id (.row ((l.take i ++ l.drop (i + 1)).flatMap Meta.cells ++ (l.flatMap Meta.cells ++ rest).drop (i * 8)) 8 true) = H := by
        rw [hd, List.append_nil, ← tk, List.take_append_drop]
        apply List.ext_getElem?
        intro j
        by_cases hj : j = id
        · subst hj; rw [List.getElem?_set_self hidH, hid]
        · rw [List.getElem?_set_ne (Ne.symm hj)]
      have hR2 : 8 ≤ ((l.flatMap Meta.cells ++ rest).drop (i * 8)).length := by rw [List.length_drop, List.length_append, fl]; omega
      by_cases hci : c = i + 1
      · refine ⟨AW.emp, _, by simp only [AW.cut, Option.isSome_none, Bool.false_eq_true, if_false]; rw [if_neg (by omega), if_pos hci], ?_, hR2⟩
        rw [hsame, show l.length - 1 = i by omega]
        exact append_none el28 inf51 rfl (by decide) (by decide) (news := []) (by simp [AW.emp, asrc, un28]) (by omega)
      · refine ⟨_, _, cut_c H id 8 (by omega) l.length, ?_, hR2⟩
        rw [hsame, show l.length - 1 = i by omega, show l.length - (i + 1) = 0 by omega]
        exact append_none el28 inf51 rfl (by decide) (by decide) (news := []) (by simp [asrc, un28]) (by omega)
    · refine ⟨_, (l.flatMap Meta.cells ++ rest).drop ((l.length - 1) * 8), cut_c H id 8 (by omega) l.length, ?_, by rw [List.length_drop, List.length_append, fl]; omega⟩
      have sd : SlA H Meta.cells 8 (some ⟨id, (i + 1) * 8, none⟩) (l.drop (i + 1)) := fun j y hy => by
        rw [List.getElem?_drop] at hy
        have := own_at (.inr ⟨id, rest, 0, hbid, rfl, hid, .inl rfl⟩ : OwnM b H (.slice (some ⟨id, 0, none⟩) l.length 0) l) (fun _ => rfl) (i + 1 + j) y hy
        exact ⟨id, (i + 1) * 8, rfl, by rw [← Nat.add_mul]; exact this⟩
      have hs := asrc_sl (c := c - (i + 1)) un28 sd (fun _ => rfl)
      rw [List.length_drop] at hs
      have := append_room (off := 0) (i := i) (c := c) el28 inf51 rfl (by decide) (by decide) hid hs ld (flat_one (fun _ => rfl) _) (by omega) hc0 (by omega) (by rw [List.length_append, fl]; omega) (by omega)
      rw [this, Nat.zero_add, tk, show i * 8 + (l.length - (i + 1)) * 8 = (l.length - 1) * 8 by omega, List.flatMap_append, show i + (l.length - (i + 1)) = l.length - 1 by omega]
  obtain ⟨s2, R2, ecut, eapp, hR2⟩ := app
  have lf : ((l.take i ++ l.drop (i + 1)).flatMap Meta.cells).length = (l.length - 1) * 8 := by rw [fl, List.length_append, List.length_take, List.length_drop]; omega
  generalize hH2 : H.set id (.row ((l.take i ++ l.drop (i + 1)).flatMap Meta.cells ++ R2) 8 true) = H2 at eapp
  have r2 : H2[id]? = some (.row ((l.take i ++ l.drop (i + 1)).flatMap Meta.cells ++ R2) 8 true) := by rw [← hH2]; exact List.getElem?_set_self hidH
  obtain ⟨R, hR, eclr⟩ := clear_own un28 sz51 ze51 rfl rfl rfl r2 ((l.length - 1) * 8) (l.length - (l.length - 1)) (c - (l.length - 1)) (by omega) (by rw [List.length_append, lf]; omega)
  rw [List.take_append_of_le_length (by omega), List.take_of_length_le (by omega), List.append_assoc] at eclr
  generalize hH3 : H2.set id (.row ((l.take i ++ l.drop (i + 1)).flatMap Meta.cells ++ (R ++ ((l.take i ++ l.drop (i + 1)).flatMap Meta.cells ++ R2).drop ((l.length - 1) * 8 + (l.length - (l.length - 1)) * 8))) 8 true) = H3 at eclr
  simp -dsimp only [go_sem, ↓reduceIte, Nat.reduceEqDiff, Nat.reduceAdd, Nat.reduceMul, Nat.reduceSub, Nat.reduceLeDiff, Nat.reduceLT, slice3 H id hc hi, q1]
  refine adrawnP_of2 [(0, false), (1, false), (2, false), (3, false), (4, false), (5, false), (6, false), (7, false)] (by kernel_rfl) ?_
  simp -dsimp only [go_sem, ↓reduceIte, Nat.reduceEqDiff, Nat.reduceAdd, Nat.reduceMul, Nat.reduceSub, Nat.reduceLeDiff, Nat.reduceLT, capOf_pos hc0, cut_c H id 8 hc0 i, Nat.sub_zero, Nat.zero_mul, show i ≤ c from by omega, show i + 1 ≤ l.length from hi, ecut, eapp]
  simp -dsimp only [go_sem, ↓reduceIte, Nat.reduceEqDiff, Nat.reduceAdd, Nat.reduceMul, Nat.reduceSub, Nat.reduceLeDiff, Nat.reduceLT, hc, show l.length - 1 ≤ l.length from by omega, cut_c H2 id 8 (show l.length - 1 < c by omega) l.length, eclr]
  refine .inr ⟨l.length - 1, by omega, rfl, .inr ⟨id, _, 0, hbid, ?_, by rw [← hH3]; exact List.getElem?_set_self (by rw [← hH2]; simpa using hidH), .inl rfl⟩, by rw [← hH3, ← hH2]; simp, fun j hj => ?_, fun j hj => ?_⟩
  · congr 1; simp; omega
  · rw [← hH3, List.getElem?_set_ne (Ne.symm hj), ← hH2, List.getElem?_set_ne (Ne.symm hj)]
  · simp only [owner, Option.some.injEq] at hj; exact hj.symm
theorem deleteM (l : List Meta) (i : Nat) (hi : i < l.length) (b : Nat) (v : Value) (H : AHeap) (hown : OwnM b H v l) (hl : l.length < 100000) :
    Sound Tryz.prog 78 [v, .int .i64 i, .int .i64 ((i + 1 : Nat) : Int)] H fun v' H' =>
      OwnM b H' v' (l.take i ++ l.drop (i + 1)) ∧ H.length = H'.length ∧ (∀ j, owner v ≠ some j → H'[j]? = H[j]?) ∧ (∀ j, owner v' = some j → owner v = some j) := by
  obtain ⟨a, c, rfl, -⟩ := hown.sl (fun _ => rfl)
  obtain ⟨id, rest, hbid, rfl, -, hrow, hc⟩ := own_open hown (by omega)
  have h0 := (delete0 l i hi b id rest H hbid hrow hl).mono (K' := fun v' H' => OwnM b H' v' (l.take i ++ l.drop (i + 1)) ∧ H.length = H'.length ∧ (∀ j, owner (.slice (some ⟨id, 0, none⟩) l.length c) ≠ some j → H'[j]? = H[j]?) ∧ (∀ j, owner v' = some j → owner (.slice (some ⟨id, 0, none⟩) l.length c) = some j)) fun v' H' ⟨q1, q2, q3, q4⟩ =>
    ⟨q1, q2, fun j hn => q3 j (fun e => hn (by simp [owner, e])), fun j hj => by simp [owner, q4 j hj]⟩
  rcases hc with rfl | ⟨hc, hcl⟩
  · exact h0
  · exact Sound.forget hrow (by omega) h0
end Go.Proofs.YtekpdopbiklkfaaGreatDoor
end
section
set_option linter.unusedVariables false
set_option linter.unusedSimpArgs false
namespace Go.Proofs.YtekpdopbiklkfaaGreatDoor
open Go Go.AW
set_option linter.unusedSimpArgs false
set_option maxRecDepth 20000
theorem orZ_cons (x : Int) (l : List Int) : orZ (x :: l) = if x ≠ 0 then x else orZ l := rfl
theorem cmpSeg_lt {a b : Seg} : cmpSeg a b < 0 ↔ a.f < b.f ∨ (a.f = b.f ∧ (a.t < b.t ∨ (a.t = b.t ∧ (a.v < b.v ∨ (a.v = b.v ∧ a.p < b.p))))) := by
  unfold cmpSeg
  simp only [orZ_cons, orZ, cmpZ]
  by_cases h1 : a.f = b.f
  · by_cases h2 : a.t = b.t
    · by_cases h3 : a.v = b.v
      · by_cases h4 : a.p = b.p
        · simp [h1, h2, h3, h4]
        · simp only [h1, h2, h3, ne_eq, not_true_eq_false, if_false, Int.lt_irrefl]
          split <;> (try split) <;> simp_all <;> omega
      · simp only [h1, h2, ne_eq, not_true_eq_false, if_false, Int.lt_irrefl, h3, not_false_eq_true, if_true]
        split <;> (try split) <;> simp_all <;> omega
    · simp only [h1, ne_eq, not_true_eq_false, if_false, Int.lt_irrefl, h2, not_false_eq_true, if_true]
      split <;> (try split) <;> simp_all <;> omega
  · simp only [ne_eq, h1, not_false_eq_true, if_true]
    split <;> (try split) <;> simp_all <;> omega
theorem cmpSeg_eq {a b : Seg} : cmpSeg a b = 0 ↔ a.f = b.f ∧ a.t = b.t ∧ a.v = b.v ∧ a.p = b.p := by
  unfold cmpSeg
  simp only [orZ_cons, orZ, cmpZ]
  by_cases h1 : a.f = b.f
  · by_cases h2 : a.t = b.t
    · by_cases h3 : a.v = b.v
      · by_cases h4 : a.p = b.p
        · simp [h1, h2, h3, h4]
        · simp only [h1, h2, h3, ne_eq, not_true_eq_false, if_false, Int.lt_irrefl]
          split <;> (try split) <;> simp_all <;> omega
      · simp only [h1, h2, ne_eq, not_true_eq_false, if_false, Int.lt_irrefl, h3, not_false_eq_true, if_true]
        split <;> (try split) <;> simp_all <;> omega
    · simp only [h1, ne_eq, not_true_eq_false, if_false, Int.lt_irrefl, h2, not_false_eq_true, if_true]
      split <;> (try split) <;> simp_all <;> omega
  · simp only [ne_eq, h1, not_false_eq_true, if_true]
    split <;> (try split) <;> simp_all <;> omega
theorem cmpSeg_tri (a b : Seg) : cmpSeg a b < 0 ∨ cmpSeg a b = 0 ∨ cmpSeg b a < 0 := by rw [cmpSeg_lt, cmpSeg_eq, cmpSeg_lt]; omega
theorem cmpSeg_trans {a b c : Seg} (h1 : cmpSeg a b < 0) (h2 : cmpSeg b c < 0) : cmpSeg a c < 0 := by rw [cmpSeg_lt] at *; omega
theorem cmpSeg_symm {a b : Seg} (h : cmpSeg a b = 0) : cmpSeg b a = 0 := by rw [cmpSeg_eq] at *; omega
theorem cmpSeg_le_trans {a b c : Seg} (h1 : ¬ cmpSeg b a < 0) (h2 : cmpSeg b c < 0) : cmpSeg a c < 0 := by rw [cmpSeg_lt] at *; omega
theorem cmpSeg_congr {a b c : Seg} (h1 : cmpSeg a b = 0) : cmpSeg a c < 0 ↔ cmpSeg b c < 0 := by rw [cmpSeg_lt, cmpSeg_lt]; rw [cmpSeg_eq] at h1; omega
abbrev Ranked (l : List Meta) : Prop := l.Pairwise fun a b => cmpSeg a.seg b.seg < 0
structure PlaceOf (l : List Meta) (s : Seg) (i : Nat) : Prop where
  le : i ≤ l.length
  lo : ∀ z ∈ l.take i, cmpSeg z.seg s < 0
  hi : ∀ z ∈ l.drop i, ¬ cmpSeg z.seg s < 0
def hasB (l : List Meta) (s : Seg) : Bool := l.any fun z => cmpSeg z.seg s == 0
theorem hasB_iff {l : List Meta} {s : Seg} : hasB l s = true ↔ ∃ z ∈ l, cmpSeg z.seg s = 0 := by simp [hasB]
theorem hasB_at {l : List Meta} (hr : Ranked l) {s : Seg} {i : Nat} (h : PlaceOf l s i) : hasB l s = true ↔ ∃ z, l[i]? = some z ∧ cmpSeg z.seg s = 0 := by
  rw [hasB_iff]
  constructor
  · rintro ⟨z, hz, he⟩
    rw [← List.take_append_drop i l, List.mem_append] at hz
    rcases hz with hz | hz
    · have := h.lo z hz; omega
    · rcases Nat.lt_or_ge i l.length with hi | hi
      · obtain ⟨y, hy⟩ := get_ex hi
        have hh := h.hi
        rw [drop_get hy] at hz hh
        rcases List.mem_cons.1 hz with rfl | hz
        · exact ⟨z, hy, he⟩
        · have : l.Pairwise fun a b => cmpSeg a.seg b.seg < 0 := hr
          rw [← List.take_append_drop i l, drop_get hy, List.pairwise_append] at this
          have h1 := (List.pairwise_cons.1 this.2.1).1 z hz
          have h2 := hh y (List.mem_cons_self ..)
          rw [cmpSeg_lt] at h1 h2
          rw [cmpSeg_eq] at he
          omega
      · rw [List.drop_of_length_le hi] at hz; cases hz
  · rintro ⟨z, hz, he⟩
    exact ⟨z, List.mem_of_getElem? hz, he⟩
theorem mid_eq {i j : Nat} (h : i < j) (hj : j < 100000) :
    IntKind.i64.wrap ((i : Int) + (j : Int)) = ((i + j : Nat) : Int) ∧ IntKind.u64.wrap ((i + j : Nat) : Int) = ((i + j : Nat) : Int) ∧ ashift .shr .u64 ((i + j : Nat) : Int) 1 = some (.int .u64 (((i + j) / 2 : Nat) : Int)) ∧ IntKind.i64.wrap (((i + j) / 2 : Nat) : Int) = (((i + j) / 2 : Nat) : Int) := by
  refine ⟨?_, ?_, ?_, ?_⟩
  · rw [wr64 (by omega) (by omega)]; simp
  · simp [IntKind.wrap, IntKind.bits, IntKind.signed]; omega
  · have : (IntKind.u64).bits = 64 := rfl
    simp [ashift, this, Int.fdiv_eq_ediv_of_nonneg]
  · rw [wr64 (by omega) (by omega)]
theorem findF (m : Meta) (s : Seg) (H : AHeap) : Sound Tryz.prog 106 [m.val, s.val] H fun v H' => v = .int .i64 (cmpSeg m.seg s) ∧ H <+: H' := by
  refine Sound.of_body (rs := [.tmp 4]) mixed Tryz.func106 rfl (by kernel_rfl) rfl (by kernel_rfl) ?_
  simp -dsimp only [go_sem, ↓reduceIte, Nat.reduceEqDiff, Nat.reduceAdd, Nat.reduceMul, Nat.reduceSub, Nat.reduceLeDiff, Nat.reduceLT]
  refine SoundP_of (orderLaw m.seg s _) ?_
  rintro v H1 ⟨rfl, hp1⟩
  simp -dsimp only [go_sem, ↓reduceIte, Nat.reduceEqDiff, Nat.reduceAdd, Nat.reduceMul, Nat.reduceSub, Nat.reduceLeDiff, Nat.reduceLT]
  exact (List.prefix_append _ _).trans hp1
theorem searchM (l : List Meta) (s : Seg) (a : Option Addr) (c : Nat) (H : AHeap) (hs : SlA H Meta.cells 8 a l) (hl : l.length < 50000) (hr : Ranked l) :
    Sound Tryz.prog 105 [.slice a l.length c, s.val, .func (.func 106) #[] #[]] H fun v H' => ∃ i : Nat, v = .tuple #[.int .i64 i, .bool (hasB l s)] ∧ PlaceOf l s i ∧ H <+: H' := by
  refine Sound.of_body (rs := [.tmp 6, .tmp 7]) mixed Tryz.func105 rfl (by kernel_rfl) rfl (by kernel_rfl) ?_
  simp -dsimp only [go_sem, ↓reduceIte, Nat.reduceEqDiff, Nat.reduceAdd, Nat.reduceMul, Nat.reduceSub, Nat.reduceLeDiff, Nat.reduceLT]
  refine aloopP_of (fun n T H' => ∃ i j, n = j - i ∧ i ≤ j ∧ j ≤ l.length ∧ (H ++ [.row s.cells 5 true]) <+: H' ∧ T 0 = .slice a l.length c ∧ T 2 = .func (.func 106) #[] #[] ∧ T 4 = .pointer (some ⟨H.length, 0, none⟩) ∧ T 8 = .int .i64 l.length ∧ T 9 = .int .i64 (i : Nat) ∧ T 10 = .int .i64 (j : Nat) ∧ (∀ y ∈ l.take i, cmpSeg y.seg s < 0) ∧ (∀ y ∈ l.drop j, ¬ cmpSeg y.seg s < 0)) (n := l.length) ?_ ?_
  · refine ⟨0, l.length, ?_⟩
    simp -dsimp only [go_sem, ↓reduceIte, Nat.reduceEqDiff, Nat.reduceAdd, Nat.reduceMul, Nat.reduceSub, Nat.reduceLeDiff, Nat.reduceLT]
    simp
  · rintro n T H' ⟨i, j, rfl, hij, hj, hp, h0, h2, h4, h8, h9, h10, hlo, hhi⟩
    have hp0 : H <+: H' := (List.prefix_append _ _).trans hp
    have hb := pre_get hp (get_end H _ [])
    simp -dsimp only [go_sem, ↓reduceIte, Nat.reduceEqDiff, Nat.reduceAdd, Nat.reduceMul, Nat.reduceSub, Nat.reduceLeDiff, Nat.reduceLT, h0, h2, h4, h8, h9, h10]
    refine acondP_of (fun h => ?_) (fun h => ?_)
    · simp at h
      obtain ⟨m1, m2, m3, m4⟩ := mid_eq h (by omega)
      have hm : (i + j) / 2 < l.length := by omega
      obtain ⟨y, hy⟩ := get_ex hm
      obtain ⟨id, off, rfl, hat⟩ := (hs.pre hp0).at (by omega)
      simp -dsimp only [go_sem, ↓reduceIte, Nat.reduceEqDiff, Nat.reduceAdd, Nat.reduceMul, Nat.reduceSub, Nat.reduceLeDiff, Nat.reduceLT, h0, h2, h4, h8, h9, h10, m1, m2, m3, m4]
      refine adrawnP_of2 [(0, false), (1, false), (2, false), (3, false), (4, false), (5, false), (6, false), (7, false)] (by kernel_rfl) ?_
      simp -dsimp only [go_sem, ↓reduceIte, Nat.reduceEqDiff, Nat.reduceAdd, Nat.reduceMul, Nat.reduceSub, Nat.reduceLeDiff, Nat.reduceLT, h0, h2, h4, h8, h9, h10, inRange hm, rowLoad_whole (hat _ y hy), hb]
      refine SoundP_of (findF y s H') ?_
      rintro v H1 ⟨rfl, hp1⟩
      simp -dsimp only [go_sem, ↓reduceIte, Nat.reduceEqDiff, Nat.reduceAdd, Nat.reduceMul, Nat.reduceSub, Nat.reduceLeDiff, Nat.reduceLT, h0, h2, h4, h8, h9, h10]
      refine acondP_of (fun hc => ?_) (fun hc => ?_)
      · simp at hc
        simp -dsimp only [go_sem, ↓reduceIte, Nat.reduceEqDiff, Nat.reduceAdd, Nat.reduceMul, Nat.reduceSub, Nat.reduceLeDiff, Nat.reduceLT, h0, h2, h4, h8, h9, h10, wrS (show (i + j) / 2 < 4611686018427387904 by omega)]
        refine ⟨_, ?_, (i + j) / 2 + 1, j, rfl, by omega, hj, hp.trans hp1, rfl, rfl, fun z hz => ?_, hhi⟩
        · omega
        · rw [take_get hy, List.mem_append, List.mem_singleton] at hz
          rcases hz with hz | rfl
          · have : l.Pairwise fun a b => cmpSeg a.seg b.seg < 0 := hr
            rw [← List.take_append_drop ((i + j) / 2) l, drop_get hy, List.pairwise_append] at this
            exact cmpSeg_trans (this.2.2 z hz y (List.mem_cons_self ..)) hc
          · exact hc
      · have hc' : ¬ cmpSeg y.seg s < 0 := fun q => by simp at hc; omega
        simp -dsimp only [go_sem, ↓reduceIte, Nat.reduceEqDiff, Nat.reduceAdd, Nat.reduceMul, Nat.reduceSub, Nat.reduceLeDiff, Nat.reduceLT, h0, h2, h4, h8, h9, h10]
        refine ⟨_, ?_, i, (i + j) / 2, rfl, by omega, by omega, hp.trans hp1, rfl, rfl, hlo, fun z hz => ?_⟩
        · omega
        · rw [drop_get hy] at hz
          rcases List.mem_cons.1 hz with rfl | hz
          · exact hc'
          · have : l.Pairwise fun a b => cmpSeg a.seg b.seg < 0 := hr
            rw [← List.take_append_drop ((i + j) / 2) l, drop_get hy, List.pairwise_append] at this
            exact fun q => hc' (cmpSeg_trans ((List.pairwise_cons.1 this.2.1).1 z hz) q)
    · simp at h
      obtain rfl : i = j := by omega
      have hP : PlaceOf l s i := ⟨hj, hlo, hhi⟩
      have key := hasB_at hr hP
      simp -dsimp only [go_sem, ↓reduceIte, Nat.reduceEqDiff, Nat.reduceAdd, Nat.reduceMul, Nat.reduceSub, Nat.reduceLeDiff, Nat.reduceLT, h0, h2, h4, h8, h9, h10]
      refine adrawnP_of2 [(0, false), (1, false), (2, false), (3, false), (4, false), (5, false), (6, false), (7, false), (8, false), (9, false), (10, false), (11, false), (12, false), (13, false), (14, false), (15, false)] (by kernel_rfl) ?_
      rcases Nat.lt_or_ge i l.length with hi | hi
      · obtain ⟨y, hy⟩ := get_ex hi
        obtain ⟨id, off, rfl, hat⟩ := (hs.pre hp0).at (by omega)
        have hlt : decide ((i : Int) < (l.length : Int)) = true := by simp [hi]
        simp -dsimp only [go_sem, ↓reduceIte, Nat.reduceEqDiff, Nat.reduceAdd, Nat.reduceMul, Nat.reduceSub, Nat.reduceLeDiff, Nat.reduceLT, h0, h2, h4, h8, h9, h10, hlt, inRange hi, rowLoad_whole (hat _ y hy), hb]
        refine SoundP_of (findF y s H') ?_
        rintro v H1 ⟨rfl, hp1⟩
        refine grown_any hp1 ?_
        simp -dsimp only [go_sem, ↓reduceIte, Nat.reduceEqDiff, Nat.reduceAdd, Nat.reduceMul, Nat.reduceSub, Nat.reduceLeDiff, Nat.reduceLT, h0, h2, h4, h8, h9, h10]
        refine ⟨i, ?_, hP, hp0.trans hp1⟩
        have e : (cmpSeg y.seg s == 0) = hasB l s := by
          rw [Bool.eq_iff_iff, key, hy]; simp
        rw [e]
      · have hlt : decide ((i : Int) < (l.length : Int)) = false := by simp [hi]
        simp -dsimp only [go_sem, ↓reduceIte, Nat.reduceEqDiff, Nat.reduceAdd, Nat.reduceMul, Nat.reduceSub, Nat.reduceLeDiff, Nat.reduceLT, h0, h2, h4, h8, h9, h10, hlt]
        refine ⟨i, ?_, hP, hp0⟩
        have e : hasB l s = false := by
          rw [← Bool.not_eq_true, key, List.getElem?_eq_none hi]; simp
        rw [e]
theorem findLaw (l : List Meta) (s : Seg) (a : Option Addr) (c : Nat) (H : AHeap) (hs : SlA H Meta.cells 8 a l) (hl : l.length < 50000) (hr : Ranked l) :
    Sound Tryz.prog 67 [.slice a l.length c, s.val] H fun v H' => ∃ i : Nat, v = .tuple #[.int .i64 i, .bool (hasB l s)] ∧ PlaceOf l s i ∧ H <+: H' := by
  refine Sound.of_body (rs := [.tmp 4, .tmp 5]) mixed Tryz.func67 rfl (by kernel_rfl) rfl (by kernel_rfl) ?_
  simp -dsimp only [go_sem, ↓reduceIte, Nat.reduceEqDiff, Nat.reduceAdd, Nat.reduceMul, Nat.reduceSub, Nat.reduceLeDiff, Nat.reduceLT]
  refine SoundP_of (searchM l s a c _ (hs.pre (List.prefix_append _ _)) hl hr) ?_
  rintro _ H1 ⟨i, rfl, hP, hp1⟩
  simp -dsimp only [go_sem, ↓reduceIte, Nat.reduceEqDiff, Nat.reduceAdd, Nat.reduceMul, Nat.reduceSub, Nat.reduceLeDiff, Nat.reduceLT]
  exact ⟨i, rfl, hP, (List.prefix_append _ _).trans hp1⟩
end Go.Proofs.YtekpdopbiklkfaaGreatDoor
end
section
set_option linter.unusedVariables false
set_option linter.unusedSimpArgs false
namespace Go.Proofs.YtekpdopbiklkfaaGreatDoor
open Go Go.AW
set_option linter.unusedSimpArgs false
set_option maxRecDepth 20000
theorem cloneM (l : List Meta) (a : Option Addr) (c : Nat) (H : AHeap) (hs : SlA H Meta.cells 8 a l) (hl : l.length < 100000) :
    Sound Tryz.prog 64 [.slice a l.length c] H fun v H' => H <+: H' ∧ Own H.length H' Meta.cells 8 v l := by
  refine Sound.of_body (rs := [.tmp 2]) mixed Tryz.func64 rfl (by kernel_rfl) rfl (by kernel_rfl) ?_
  cases a with
  | none =>
    obtain rfl := SlA.none_nil hs
    simp -dsimp only [go_sem, ↓reduceIte, Nat.reduceEqDiff, Nat.reduceAdd, Nat.reduceMul, Nat.reduceSub, Nat.reduceLeDiff, Nat.reduceLT]
    exact ⟨List.prefix_refl _, Own.nil _ _ _ _⟩
  | some a =>
    have p0 := List.prefix_append H [AObj.row [] 8 true]
    have e := appEmpty (n := l.length) (news := l.flatMap Meta.cells) el28 inf51 rfl (by decide) (by decide) (get_end H (AObj.row [] 8 true) []) (asrc_sl (c := c) un28 (hs.pre p0) (fun _ => rfl)) (by omega)
    by_cases hn : l.length = 0
    · rw [if_pos hn] at e
      obtain rfl := List.eq_nil_of_length_eq_zero hn
      simp -dsimp only [go_sem, ↓reduceIte, Nat.reduceEqDiff, Nat.reduceAdd, Nat.reduceMul, Nat.reduceSub, Nat.reduceLeDiff, Nat.reduceLT, e]
      exact ⟨p0, .inr ⟨H.length, [], 0, Nat.le_refl _, rfl, get_end _ _ _, .inl rfl⟩⟩
    · rw [if_neg hn] at e
      simp -dsimp only [go_sem, ↓reduceIte, Nat.reduceEqDiff, Nat.reduceAdd, Nat.reduceMul, Nat.reduceSub, Nat.reduceLeDiff, Nat.reduceLT, e]
      exact ⟨List.prefix_append _ _, .inr ⟨H.length + 1, [], 0, by omega, rfl, by rw [List.append_nil]; exact get_end1 _ _ _ _, .inl rfl⟩⟩
theorem cloneS (l : List Seg) (a : Option Addr) (c : Nat) (H : AHeap) (hs : SlA H Seg.cells 5 a l) (hl : l.length < 100000) :
    Sound Tryz.prog 69 [.slice a l.length c] H fun v H' => H <+: H' ∧ Own H.length H' Seg.cells 5 v l := by
  refine Sound.of_body (rs := [.tmp 2]) mixed Tryz.func69 rfl (by kernel_rfl) rfl (by kernel_rfl) ?_
  cases a with
  | none =>
    obtain rfl := SlA.none_nil hs
    simp -dsimp only [go_sem, ↓reduceIte, Nat.reduceEqDiff, Nat.reduceAdd, Nat.reduceMul, Nat.reduceSub, Nat.reduceLeDiff, Nat.reduceLT]
    exact ⟨List.prefix_refl _, Own.nil _ _ _ _⟩
  | some a =>
    have p0 := List.prefix_append H [AObj.row [] 5 true]
    have e := appEmpty (n := l.length) (news := l.flatMap Seg.cells) el29 inf48 rfl (by decide) (by decide) (get_end H (AObj.row [] 5 true) []) (asrc_sl (c := c) un29 (hs.pre p0) (fun _ => rfl)) (by omega)
    by_cases hn : l.length = 0
    · rw [if_pos hn] at e
      obtain rfl := List.eq_nil_of_length_eq_zero hn
      simp -dsimp only [go_sem, ↓reduceIte, Nat.reduceEqDiff, Nat.reduceAdd, Nat.reduceMul, Nat.reduceSub, Nat.reduceLeDiff, Nat.reduceLT, e]
      exact ⟨p0, .inr ⟨H.length, [], 0, Nat.le_refl _, rfl, get_end _ _ _, .inl rfl⟩⟩
    · rw [if_neg hn] at e
      simp -dsimp only [go_sem, ↓reduceIte, Nat.reduceEqDiff, Nat.reduceAdd, Nat.reduceMul, Nat.reduceSub, Nat.reduceLeDiff, Nat.reduceLT, e]
      exact ⟨List.prefix_append _ _, .inr ⟨H.length + 1, [], 0, by omega, rfl, by rw [List.append_nil]; exact get_end1 _ _ _ _, .inl rfl⟩⟩
theorem cloneU (l : List Int) (a : Option Addr) (c : Nat) (H : AHeap) (hs : SlA H encU 1 a l) (hl : l.length < 100000) :
    Sound Tryz.prog 65 [.slice a l.length c] H fun v H' => H <+: H' ∧ Own H.length H' encU 1 v l := by
  refine Sound.of_body (rs := [.tmp 2]) mixed Tryz.func65 rfl (by kernel_rfl) rfl (by kernel_rfl) ?_
  cases a with
  | none =>
    obtain rfl := SlA.none_nil hs
    simp -dsimp only [go_sem, ↓reduceIte, Nat.reduceEqDiff, Nat.reduceAdd, Nat.reduceMul, Nat.reduceSub, Nat.reduceLeDiff, Nat.reduceLT]
    exact ⟨List.prefix_refl _, Own.nil _ _ _ _⟩
  | some a =>
    have p0 := List.prefix_append H [AObj.row [] 1 true]
    have e := appEmpty (n := l.length) (news := l.flatMap encU) el39 inf52 rfl (by decide) (by decide) (get_end H (AObj.row [] 1 true) []) (asrc_sl (c := c) un39 (hs.pre p0) (fun _ => rfl)) (by omega)
    by_cases hn : l.length = 0
    · rw [if_pos hn] at e
      obtain rfl := List.eq_nil_of_length_eq_zero hn
      simp -dsimp only [go_sem, ↓reduceIte, Nat.reduceEqDiff, Nat.reduceAdd, Nat.reduceMul, Nat.reduceSub, Nat.reduceLeDiff, Nat.reduceLT, e]
      exact ⟨p0, .inr ⟨H.length, [], 0, Nat.le_refl _, rfl, get_end _ _ _, .inl rfl⟩⟩
    · rw [if_neg hn] at e
      simp -dsimp only [go_sem, ↓reduceIte, Nat.reduceEqDiff, Nat.reduceAdd, Nat.reduceMul, Nat.reduceSub, Nat.reduceLeDiff, Nat.reduceLT, e]
      exact ⟨List.prefix_append _ _, .inr ⟨H.length + 1, [], 0, by omega, rfl, by rw [List.append_nil]; exact get_end1 _ _ _ _, .inl rfl⟩⟩
end Go.Proofs.YtekpdopbiklkfaaGreatDoor
end
section
set_option linter.unusedVariables false
set_option linter.unusedSimpArgs false
namespace Go.Proofs.YtekpdopbiklkfaaGreatDoor
open Go Go.AW
set_option linter.unusedSimpArgs false
def metaB (m : Meta) : Bool := (strB m.blob).all (fun b => decide (33 ≤ b.toNat) && decide (b.toNat ≤ 126)) && (mayB m.seg && (decide (0 < m.blob.size) && (decide (m.blob.size ≤ 62) && decide (0 ≤ m.rows))))
abbrev MovesOk (l : List Move) (n : Nat) : Prop := (∀ m ∈ l, 0 ≤ m.stream ∧ m.stream < n) ∧ l.Pairwise fun a b => a.stream ≠ b.stream
abbrev MayT (t : Txn) (n : Nat) : Prop := MovesOk t.moves n ∧ 0 ≤ t.term ∧ (t.wt ≤ t.wf ∨ (0 ≤ t.wf ∧ t.wt ≤ 1099511627776)) ∧ (∀ m ∈ t.add, metaB m = true) ∧ (∀ x ∈ t.drop, mayB x = true)
abbrev Once (l : List Seg) : Prop := l.Pairwise fun a b => cmpSeg a b ≠ 0
def refusedS (s : St) (t : Txn) : Int :=
  if ¬ MayT t s.offs.length then 1
  else if t.epoch ≠ s.epoch then 140
  else if t.term ≠ 0 ∧ t.term ≠ s.term then 141
  else if ∃ m ∈ t.moves, m.from_ ≠ s.offs.getD m.stream.toNat 0 ∨ m.to_ < m.from_ then 142
  else if ∃ m ∈ t.add, hasB s.metas m.seg = true then 121
  else if ¬ Once (t.add.map Meta.seg) then 121
  else if ∃ x ∈ t.drop, hasB s.metas x = false then 120
  else if ¬ Once t.drop then 120
  else if (1000 : Int) < s.metas.length + t.add.length - t.drop.length then 90
  else 0
def dropL (l : List Meta) (x : Seg) : List Meta := l.filter fun z => !(cmpSeg z.seg x == 0)
def putL (l : List Meta) (m : Meta) : List Meta := (l.filter fun z => decide (cmpSeg z.seg m.seg < 0)) ++ m :: l.filter fun z => !decide (cmpSeg z.seg m.seg < 0)
def moveL (o : List Int) (m : Move) : List Int := o.set m.stream.toNat m.to_
def doneS (s : St) (t : Txn) : St := { s with metas := t.add.foldl putL (t.drop.foldl dropL s.metas), offs := t.moves.foldl moveL s.offs, epoch := s.epoch + 1 }
theorem place_split {l : List Meta} {s : Seg} {i : Nat} (h : PlaceOf l s i) : l.filter (fun z => decide (cmpSeg z.seg s < 0)) = l.take i ∧ l.filter (fun z => !decide (cmpSeg z.seg s < 0)) = l.drop i := by
  have h1 : ∀ p : Meta → Bool, l.filter p = (l.take i).filter p ++ (l.drop i).filter p := fun p => by rw [← List.filter_append, List.take_append_drop]
  rw [h1, h1]
  have a1 : (l.take i).filter (fun z => decide (cmpSeg z.seg s < 0)) = l.take i := List.filter_eq_self.2 fun z hz => by simpa using h.lo z hz
  have a2 : (l.drop i).filter (fun z => decide (cmpSeg z.seg s < 0)) = [] := List.filter_eq_nil_iff.2 fun z hz => by simpa using h.hi z hz
  have a3 : (l.take i).filter (fun z => !decide (cmpSeg z.seg s < 0)) = [] := List.filter_eq_nil_iff.2 fun z hz => by simpa using h.lo z hz
  have a4 : (l.drop i).filter (fun z => !decide (cmpSeg z.seg s < 0)) = l.drop i := List.filter_eq_self.2 fun z hz => by simpa using h.hi z hz
  rw [a1, a2, a3, a4]
  exact ⟨List.append_nil _, List.nil_append _⟩
theorem putL_at {l : List Meta} {m : Meta} {i : Nat} (h : PlaceOf l m.seg i) : putL l m = l.take i ++ m :: l.drop i := by
  rw [putL, (place_split h).1, (place_split h).2]
theorem dropL_at {l : List Meta} (hr : Ranked l) {s : Seg} {i : Nat} (h : PlaceOf l s i) (hb : hasB l s = true) : i < l.length ∧ dropL l s = l.take i ++ l.drop (i + 1) := by
  obtain ⟨z, hz, he⟩ := (hasB_at hr h).1 hb
  have hi : i < l.length := by
    rcases Nat.lt_or_ge i l.length with q | q
    · exact q
    · rw [List.getElem?_eq_none q] at hz; cases hz
  refine ⟨hi, ?_⟩
  have e : l = l.take i ++ z :: l.drop (i + 1) := by rw [← drop_get hz, List.take_append_drop]
  have hr' : (l.take i ++ z :: l.drop (i + 1)).Pairwise fun a b => cmpSeg a.seg b.seg < 0 := by rw [← e]; exact hr
  rw [List.pairwise_append, List.pairwise_cons] at hr'
  rw [dropL]
  conv => lhs; rw [e]
  rw [List.filter_append, List.filter_cons_of_neg (by simp [he])]
  have a1 : (l.take i).filter (fun z => !(cmpSeg z.seg s == 0)) = l.take i := List.filter_eq_self.2 fun y hy => by
    have h1 := h.lo y hy
    simp; omega
  have a2 : (l.drop (i + 1)).filter (fun z => !(cmpSeg z.seg s == 0)) = l.drop (i + 1) := List.filter_eq_self.2 fun y hy => by
    have h1 := hr'.2.1.1 y hy
    have h2 := (cmpSeg_congr (c := y.seg) he).1 h1
    have : cmpSeg y.seg s ≠ 0 := fun q => by rw [cmpSeg_lt] at h2; rw [cmpSeg_eq] at q; omega
    simpa using this
  rw [a1, a2]
theorem dropL_none {l : List Meta} {s : Seg} (hb : hasB l s = false) : dropL l s = l := by
  rw [dropL]
  refine List.filter_eq_self.2 fun y hy => ?_
  have : ¬ cmpSeg y.seg s = 0 := fun q => by rw [hasB_iff.2 ⟨y, hy, q⟩] at hb; cases hb
  simpa using this
theorem dropL_ranked {l : List Meta} (hr : Ranked l) (s : Seg) : Ranked (dropL l s) := hr.filter _
theorem putL_perm (l : List Meta) (m : Meta) : (putL l m).Perm (m :: l) := by
  refine List.perm_middle.trans (List.Perm.cons _ ?_)
  exact List.filter_append_perm _ l
theorem putL_ranked {l : List Meta} (hr : Ranked l) (m : Meta) (hb : hasB l m.seg = false) : Ranked (putL l m) := by
  refine List.pairwise_append.2 ⟨hr.filter _, List.pairwise_cons.2 ⟨fun y hy => ?_, hr.filter _⟩, fun y hy z hz => ?_⟩
  · obtain ⟨hy1, hy2⟩ := List.mem_filter.1 hy
    have h1 : ¬ cmpSeg y.seg m.seg < 0 := by simpa using hy2
    have h2 : ¬ cmpSeg y.seg m.seg = 0 := fun q => by rw [hasB_iff.2 ⟨y, hy1, q⟩] at hb; cases hb
    rcases cmpSeg_tri y.seg m.seg with h | h | h
    · exact absurd h h1
    · exact absurd h h2
    · exact h
  · obtain ⟨hy1, hy2⟩ := List.mem_filter.1 hy
    have h1 : cmpSeg y.seg m.seg < 0 := by simpa using hy2
    rcases List.mem_cons.1 hz with rfl | hz
    · exact h1
    · obtain ⟨hz1, hz2⟩ := List.mem_filter.1 hz
      have h2 : ¬ cmpSeg z.seg m.seg < 0 := by simpa using hz2
      rw [cmpSeg_lt] at *
      omega
theorem dropL_len (l : List Meta) (s : Seg) : (dropL l s).length ≤ l.length := List.length_filter_le _ _
theorem putL_len (l : List Meta) (m : Meta) : (putL l m).length = l.length + 1 := by rw [(putL_perm l m).length_eq]; rfl
theorem mem_putL {l : List Meta} {m z : Meta} : z ∈ putL l m ↔ z = m ∨ z ∈ l := by rw [(putL_perm l m).mem_iff]; simp
theorem mem_dropL {l : List Meta} {x : Seg} {z : Meta} : z ∈ dropL l x ↔ z ∈ l ∧ cmpSeg z.seg x ≠ 0 := by simp [dropL]
theorem hasB_put {l : List Meta} {m : Meta} {x : Seg} : hasB (putL l m) x = (cmpSeg m.seg x == 0 || hasB l x) := by
  rw [Bool.eq_iff_iff, hasB_iff, Bool.or_eq_true, hasB_iff]
  simp [mem_putL]
theorem hasB_drop {l : List Meta} {x y : Seg} (h : hasB l y = false) : hasB (dropL l x) y = false := by
  rw [← Bool.not_eq_true, hasB_iff] at *
  rintro ⟨z, hz, he⟩
  exact h ⟨z, (mem_dropL.1 hz).1, he⟩
structure Fresh (l : List Meta) (add : List Meta) : Prop where
  out : ∀ m ∈ add, hasB l m.seg = false
  once : Once (add.map Meta.seg)
theorem Fresh.cons {l add : List Meta} {m : Meta} (h : Fresh l (m :: add)) : hasB l m.seg = false ∧ Fresh (putL l m) add := by
  have h1 := h.once
  rw [List.map_cons, Once, List.pairwise_cons] at h1
  refine ⟨h.out m (List.mem_cons_self ..), fun z hz => ?_, h1.2⟩
  rw [hasB_put, Bool.or_eq_false_iff]
  exact ⟨by simpa using h1.1 _ (List.mem_map_of_mem hz), h.out z (List.mem_cons_of_mem _ hz)⟩
theorem puts_ranked : ∀ (add l : List Meta), Ranked l → Fresh l add → Ranked (add.foldl putL l)
  | [], _, h, _ => h
  | m :: add, l, h, hf => puts_ranked add (putL l m) (putL_ranked h m hf.cons.1) hf.cons.2
theorem drops_ranked : ∀ (drop : List Seg) (l : List Meta), Ranked l → Ranked (drop.foldl dropL l)
  | [], _, h => h
  | x :: drop, l, h => drops_ranked drop (dropL l x) (dropL_ranked h x)
theorem drops_fresh {add : List Meta} : ∀ (drop : List Seg) (l : List Meta), Fresh l add → Fresh (drop.foldl dropL l) add
  | [], _, h => h
  | x :: drop, l, h => drops_fresh drop (dropL l x) ⟨fun m hm => hasB_drop (h.out m hm), h.once⟩
theorem drops_len : ∀ (drop : List Seg) (l : List Meta), (drop.foldl dropL l).length ≤ l.length
  | [], _ => Nat.le_refl _
  | x :: drop, l => Nat.le_trans (drops_len drop (dropL l x)) (dropL_len l x)
theorem puts_len : ∀ (add l : List Meta), (add.foldl putL l).length = l.length + add.length
  | [], _ => rfl
  | m :: add, l => by rw [List.foldl_cons, puts_len add (putL l m), putL_len, List.length_cons]; omega
theorem moves_len : ∀ (mv : List Move) (o : List Int), (mv.foldl moveL o).length = o.length
  | [], _ => rfl
  | m :: mv, o => by rw [List.foldl_cons, moves_len mv, moveL, List.length_set]
theorem mem_puts {z : Meta} : ∀ (add l : List Meta), z ∈ add.foldl putL l ↔ z ∈ add ∨ z ∈ l
  | [], _ => by simp
  | m :: add, l => by rw [List.foldl_cons, mem_puts add, mem_putL, List.mem_cons, ← or_assoc, or_comm (a := z ∈ add)]
theorem mem_drops {z : Meta} : ∀ (drop : List Seg) (l : List Meta), z ∈ drop.foldl dropL l ↔ z ∈ l ∧ ∀ x ∈ drop, cmpSeg z.seg x ≠ 0
  | [], _ => by simp
  | x :: drop, l => by rw [List.foldl_cons, mem_drops drop, mem_dropL, List.forall_mem_cons, and_assoc]
end Go.Proofs.YtekpdopbiklkfaaGreatDoor
end
section
set_option linter.unusedVariables false
set_option linter.unusedSimpArgs false
namespace Go.Proofs.YtekpdopbiklkfaaGreatDoor
open Go Go.AW
set_option linter.unusedSimpArgs false
set_option maxRecDepth 20000
theorem Seg.B_eq (s : Seg) : s.B = intB s.f ++ (intB s.t ++ (intB s.v ++ (intB s.p ++ intB s.c))) := by simp [Seg.B]
def But (p : Nat) (H H' : AHeap) : Prop := H.length ≤ H'.length ∧ ∀ j, j < H.length → j ≠ p → H'[j]? = H[j]?
theorem But.refl (p : Nat) (H : AHeap) : But p H H := ⟨Nat.le_refl _, fun _ _ _ => rfl⟩
theorem But.trans {p : Nat} {H H1 H2 : AHeap} (h1 : But p H H1) (h2 : But p H1 H2) : But p H H2 := ⟨Nat.le_trans h1.1 h2.1, fun j hj hp => (h2.2 j (Nat.lt_of_lt_of_le hj h1.1) hp).trans (h1.2 j hj hp)⟩
theorem Only.but {p : Nat} {H H' : AHeap} (h : Only p H H') : But p H H' := ⟨by rw [h.1]; exact Nat.le_refl _, fun j _ hj => h.2 j hj⟩
theorem but_pre {p : Nat} {H H' : AHeap} (h : H <+: H') : But p H H' := ⟨pre_len h, fun j hj _ => by obtain ⟨L, rfl⟩ := h; exact List.getElem?_append_left hj⟩
theorem ReadAt.lt {H : AHeap} {p : Nat} {l : List UInt8} (h : ReadAt H p l) : p < H.length := by obtain ⟨w, hp, -⟩ := h; exact get_lt hp
theorem ReadAt.pre {H H' : AHeap} {p : Nat} {l : List UInt8} (h : ReadAt H p l) (hp : H <+: H') : ReadAt H' p l := by
  obtain ⟨w, h1, h2, h3⟩ := h
  exact ⟨w, pre_get hp h1, h2.pre hp, h3⟩
theorem ReadAt.keep {H H' : AHeap} {p : Nat} {l : List UInt8} (h : ReadAt H p l) (hp : ∀ j, j < H.length → H'[j]? = H[j]?) : ReadAt H' p l := by
  obtain ⟨w, h1, h2, h3⟩ := h
  exact ⟨w, (hp p (get_lt h1)).trans h1, h2.keep fun id hid => hp id (h2.lt hid), h3⟩
theorem BAt.row1 {H : AHeap} {v : Value} {l : List UInt8} (h : BAt H v l) {id : Nat} (ho : owner v = some id) : ∃ cs, H[id]? = some (.row cs 1 true) := by
  rcases h with ⟨rfl, rfl | rfl⟩ | ⟨id', o, c, pre, post, rfl, h1, h2, h3⟩
  · simp [owner] at ho
  · simp [owner, Go.AW.emp] at ho
  · simp only [owner, Option.some.injEq] at ho
    subst ho
    exact ⟨_, h1⟩
set_option maxHeartbeats 2000000 in
theorem readSeg (s : Seg) (hs : s.Ok) (rest : List UInt8) {p : Nat} {H : AHeap} (hr : ReadAt H p (s.B ++ rest)) (hl : rest.length < 2900000) :
    Sound Tryz.prog 140 [ptrV p] H fun v H' => v = s.val ∧ But p H H' ∧ ReadAt H' p rest := by
  rw [Seg.B_eq] at hr
  simp only [List.append_assoc] at hr
  have l1 := intB_le hs.f
  have l2 := intB_le hs.t
  have l3 := intB_le hs.v
  have l4 := intB_le hs.p
  have l5 := intB_le hs.c
  refine Sound.of_body (rs := [.cell 2 48]) mixed Tryz.func140 rfl (by kernel_rfl) rfl (by kernel_rfl) ?_
  have hw : ∀ n : Int, N63 n → IntKind.i64.wrap n = n := fun n h => wr64 (by have := h.1; omega) (by have := h.2; omega)
  have p0 := List.prefix_append H [AObj.row [.int .i64 0, .int .i64 0, .int .i64 0, .int .i64 0, .int .i64 0] 5 true]
  have c0 := get_end H (AObj.row [.int .i64 0, .int .i64 0, .int .i64 0, .int .i64 0, .int .i64 0] 5 true) []
  have hpl := hr.lt
  simp -dsimp only [go_sem, ↓reduceIte, Nat.reduceEqDiff, Nat.reduceAdd, Nat.reduceMul, Nat.reduceSub, Nat.reduceLeDiff, Nat.reduceLT]
  refine SoundP_of (readInt' s.f hs.f _ (hr.pre p0) (by simp only [List.length_append]; omega)) ?_
  rintro _ H1 ⟨rfl, o1, r1⟩
  simp -dsimp only [go_sem, ↓reduceIte, Nat.reduceEqDiff, Nat.reduceAdd, Nat.reduceMul, Nat.reduceSub, Nat.reduceLeDiff, Nat.reduceLT]
  refine SoundP_of (readInt' s.t hs.t _ r1 (by simp only [List.length_append]; omega)) ?_
  rintro _ H2 ⟨rfl, o2, r2⟩
  simp -dsimp only [go_sem, ↓reduceIte, Nat.reduceEqDiff, Nat.reduceAdd, Nat.reduceMul, Nat.reduceSub, Nat.reduceLeDiff, Nat.reduceLT]
  refine SoundP_of (readInt' s.v hs.v _ r2 (by simp only [List.length_append]; omega)) ?_
  rintro _ H3 ⟨rfl, o3, r3⟩
  simp -dsimp only [go_sem, ↓reduceIte, Nat.reduceEqDiff, Nat.reduceAdd, Nat.reduceMul, Nat.reduceSub, Nat.reduceLeDiff, Nat.reduceLT, hw _ hs.v]
  refine SoundP_of (readInt' s.p hs.p _ r3 (by simp only [List.length_append]; omega)) ?_
  rintro _ H4 ⟨rfl, o4, r4⟩
  simp -dsimp only [go_sem, ↓reduceIte, Nat.reduceEqDiff, Nat.reduceAdd, Nat.reduceMul, Nat.reduceSub, Nat.reduceLeDiff, Nat.reduceLT, hw _ hs.p]
  refine SoundP_of (readInt' s.c hs.c _ r4 (by omega)) ?_
  rintro _ H5 ⟨rfl, o5, r5⟩
  have oo := (((o1.trans o2).trans o3).trans o4).trans o5
  have c5 := (oo.2 H.length (by omega)).trans c0
  have e5 := List.getElem?_set_self (a := AObj.row s.cells 5 true) (get_lt c5)
  have l6 : H5.length = H.length + 1 := by rw [oo.1]; simp
  simp -dsimp only [go_sem, ↓reduceIte, Nat.reduceEqDiff, Nat.reduceAdd, Nat.reduceMul, Nat.reduceSub, Nat.reduceLeDiff, Nat.reduceLT, hw _ hs.c, c5, e5]
  obtain ⟨w, w1, w2, w3⟩ := r5
  refine ⟨⟨by rw [List.length_set]; omega, fun j hj hjp => ?_⟩, ⟨w, ?_, w2.keep fun id hid => List.getElem?_set_ne ?_, w3⟩⟩
  · rw [List.getElem?_set_ne (by omega), oo.2 j hjp, List.getElem?_append_left hj]
  · rw [List.getElem?_set_ne (by omega)]; exact w1
  · rintro rfl
    obtain ⟨cs, hcs⟩ := w2.row1 hid
    rw [c5] at hcs
    cases hcs
theorem appM {b : Nat} {H : AHeap} {v : Value} {l : List Meta} (h : Own b H Meta.cells 8 v l) (hb : b ≤ H.length) (hl : l.length < 90000) (x : Meta) :
    ∃ v' H', aappend Tryz.prog (H ++ [.row x.cells 8 true]) 28 28 v (.slice (some ⟨H.length, 0, none⟩) 1 1) = some (v', H') ∧ App b H Meta.cells 8 v v' H' (l ++ [x]) := by
  obtain ⟨v', H2, h1, h2, h3, h4, h5⟩ := Own.app1b un28 el28 inf51 rfl (by decide) (by decide) (fun _ => rfl) (fun _ => rfl) hb h x (by omega)
  exact ⟨v', H2, h1, h2, h3, h4, h5⟩
theorem numB_pos (n : Nat) : 0 < (numB n).length := by
  by_cases q : n < 128
  · rw [numB_lt q]; simp
  · rw [numB_ge q]; simp
theorem Meta.B_pos (m : Meta) : 0 < m.B.length := by
  have := numB_pos m.sum.toNat
  simp only [Meta.B, List.length_append]; omega
theorem own_but {α : Type} {b p : Nat} {H H' : AHeap} {enc : α → List Value} {k : Nat} {v : Value} {l : List α} (h : Own b H enc k v l) (hb : But p H H') (hp : p < b) : Own b H' enc k v l :=
  h.keep fun id hid => hb.2 id (h.owner_ge hid).2 (by have := (h.owner_ge hid).1; omega)
theorem own_rowK {α : Type} {b : Nat} {H : AHeap} {enc : α → List Value} {k : Nat} {v : Value} {l : List α} (h : Own b H enc k v l) {id : Nat} (ho : owner v = some id) : ∃ cs, H[id]? = some (.row cs k true) := by
  rcases h with ⟨rfl, rfl | rfl⟩ | ⟨id', rest, c, h1, rfl, h3, h4⟩
  · simp [owner] at ho
  · simp [owner, Go.AW.emp] at ho
  · simp only [owner, Option.some.injEq] at ho
    subst ho
    exact ⟨_, h3⟩
theorem ReadAt.app {α : Type} {b p : Nat} {H H' : AHeap} {enc : α → List Value} {k : Nat} {v v' : Value} {l l' : List α} {r : List UInt8} (hr : ReadAt H p r) (ho : Own b H enc k v l) (ap : App b H enc k v v' H' l') (hp : p < b) (hk : k ≠ 1) : ReadAt H' p r := by
  obtain ⟨w, h1, h2, h3⟩ := hr
  refine ⟨w, ?_, h2.keep fun id hid => ap.fr id (h2.lt hid) fun q => ?_, h3⟩
  · rw [ap.fr p (get_lt h1) (fun q => by have := (ho.owner_ge q).1; omega)]; exact h1
  · obtain ⟨c1, e1⟩ := h2.row1 hid
    obtain ⟨c2, e2⟩ := own_rowK ho q
    rw [e1] at e2
    cases e2
    exact hk rfl
theorem But.app {α : Type} {b p : Nat} {H0 H H' : AHeap} {enc : α → List Value} {k : Nat} {v v' : Value} {l l' : List α} (hb : But p H0 H) (ho : Own H0.length H enc k v l) (ap : App b H enc k v v' H' l') : But p H0 H' :=
  ⟨Nat.le_trans hb.1 ap.len, fun j hj hjp => (ap.fr j (Nat.lt_of_lt_of_le hj hb.1) (fun q => by have := (ho.owner_ge q).1; omega)).trans (hb.2 j hj hjp)⟩
set_option maxHeartbeats 4000000 in
theorem readMetas (l : List Meta) (hm : ∀ m ∈ l, m.Ok) (hlen : l.length ≤ 3000) {p : Nat} {H : AHeap} (hr : ReadAt H p (l.flatMap Meta.B)) :
    Sound Tryz.prog 137 [ptrV p] H fun v H' => Own H.length H' Meta.cells 8 v l ∧ But p H H' ∧ ReadAt H' p [] := by
  refine Sound.of_body (rs := [.tmp 2]) mixed Tryz.func137 rfl (by kernel_rfl) rfl (by kernel_rfl) ?_
  have hpl := hr.lt
  have metaLe : ∀ i, ((l.drop i).flatMap Meta.B).length ≤ 426000 := fun i => by
    have h1 := flatLe Meta.B 142 (l.drop i) (fun x hx => Meta.B_le (hm x (List.mem_of_mem_drop hx)))
    have h2 : (l.drop i).length ≤ 3000 := by rw [List.length_drop]; omega
    omega
  simp -dsimp only [go_sem, ↓reduceIte, Nat.reduceEqDiff, Nat.reduceAdd, Nat.reduceMul, Nat.reduceSub, Nat.reduceLeDiff, Nat.reduceLT]
  refine aloopP_of (fun n T H' => ∃ i v, n = l.length - i ∧ i ≤ l.length ∧ But p H H' ∧ Own H.length H' Meta.cells 8 v (l.take i) ∧ ReadAt H' p ((l.drop i).flatMap Meta.B) ∧ T 0 = ptrV p ∧ T 3 = v) (n := l.length) ?_ ?_
  · refine ⟨0, .slice none 0 0, ?_⟩
    simp -dsimp only [go_sem, ↓reduceIte, Nat.reduceEqDiff, Nat.reduceAdd, Nat.reduceMul, Nat.reduceSub, Nat.reduceLeDiff, Nat.reduceLT]
    exact ⟨rfl, Nat.zero_le _, But.refl _ _, Own.nil _ _ _ _, by simpa using hr⟩
  · rintro n T H' ⟨i, v, rfl, hi, hb, ho, hr', t0, t3⟩
    simp -dsimp only [go_sem, ↓reduceIte, Nat.reduceEqDiff, Nat.reduceAdd, Nat.reduceMul, Nat.reduceSub, Nat.reduceLeDiff, Nat.reduceLT, t0, t3]
    refine SoundP_of (leftLaw hr') ?_
    rintro _ K ⟨rfl, hK⟩
    rw [hK]
    have hle := metaLe (i + 1)
    rcases Nat.lt_or_ge i l.length with h | h
    · obtain ⟨x, hx⟩ := get_ex h
      have hd := drop_get hx
      have hM := hm x (List.mem_of_getElem? hx)
      have hA : decide ((0 : Int) < (((l.drop i).flatMap Meta.B).length : Nat)) = true := by
        rw [hd, List.flatMap_cons, List.length_append]
        exact decide_eq_true (by have := x.B_pos; omega)
      rw [hd, List.flatMap_cons] at hr'
      have hl1 := Meta.B_le hM
      have e1 := intB_le hM.rows
      obtain ⟨k, hk⟩ := Int.eq_ofNat_of_zero_le hM.s0
      have hk2 : k < 4294967296 := by have := hM.s1; omega
      have e2 := numB_le (n := k) (by omega)
      have e3 := numB_le (n := x.blob.size) (by have := hM.blob; omega)
      have e4 : (strB x.blob).length = x.blob.size := rfl
      have e5 := hM.blob
      rw [Meta.B, show x.sum.toNat = k by rw [hk]; rfl] at hr'
      simp only [List.append_assoc] at hr'
      generalize hR : (l.drop (i + 1)).flatMap Meta.B = R at *
      simp -dsimp only [go_sem, ↓reduceIte, Nat.reduceEqDiff, Nat.reduceAdd, Nat.reduceMul, Nat.reduceSub, Nat.reduceLeDiff, Nat.reduceLT, t0, t3, hA]
      refine SoundP_of (readSeg x.seg hM.seg _ hr' (by simp only [List.length_append]; omega)) ?_
      rintro _ H1 ⟨rfl, b1, r1⟩
      simp -dsimp only [go_sem, ↓reduceIte, Nat.reduceEqDiff, Nat.reduceAdd, Nat.reduceMul, Nat.reduceSub, Nat.reduceLeDiff, Nat.reduceLT, t0, t3]
      refine SoundP_of (readInt' x.rows hM.rows _ r1 (by simp only [List.length_append]; omega)) ?_
      rintro _ H2 ⟨rfl, b2, r2⟩
      simp -dsimp only [go_sem, ↓reduceIte, Nat.reduceEqDiff, Nat.reduceAdd, Nat.reduceMul, Nat.reduceSub, Nat.reduceLeDiff, Nat.reduceLT, t0, t3]
      refine SoundP_of (readUint k (by omega) _ r2 (by simp only [List.length_append]; omega)) ?_
      rintro _ H3 ⟨rfl, b3, r3⟩
      simp -dsimp only [go_sem, ↓reduceIte, Nat.reduceEqDiff, Nat.reduceAdd, Nat.reduceMul, Nat.reduceSub, Nat.reduceLeDiff, Nat.reduceLT, t0, t3]
      refine SoundP_of (readText x.blob R r3 (by simp only [List.length_append]; omega)) ?_
      intro v4 H4 h4
      have h4v := h4.1
      have b4 := h4.2.1
      have r4 := h4.2.2
      clear h4
      subst h4v
      have w1 := wr64 (i := x.rows) (by have := hM.rows.1; omega) (by have := hM.rows.2; omega)
      have w2 : IntKind.u32.wrap (k : Int) = x.sum := (wrap32 k hk2).trans hk.symm
      have bb : But p H' H4 := ((b1.trans b2.but).trans b3.but).trans b4.but
      have ho4 : Own H.length H4 Meta.cells 8 v (l.take i) := own_but ho bb hpl
      have hlt : (l.take i).length < 90000 := by rw [List.length_take]; omega
      have hb4 : But p H H4 := hb.trans bb
      have r4' : ReadAt H4 p R := r4
      have hA4 := appM (l := l.take i) ho4 hb4.1 hlt x
      simp -dsimp only [go_sem, ↓reduceIte, Nat.reduceEqDiff, Nat.reduceAdd, Nat.reduceMul, Nat.reduceSub, Nat.reduceLeDiff, Nat.reduceLT, t0, t3, w1, w2]
      obtain ⟨v5, H5, e5', ap⟩ := hA4
      simp -dsimp only [go_sem, ↓reduceIte, Nat.reduceEqDiff, Nat.reduceAdd, Nat.reduceMul, Nat.reduceSub, Nat.reduceLeDiff, Nat.reduceLT, t0, t3, e5']
      exact ⟨_, by omega, i + 1, v5, rfl, h, But.app hb4 ho4 ap, by rw [List.take_add_one, hx]; exact ap.own, by rw [hR]; exact ReadAt.app r4' ho4 ap hpl (by decide), rfl⟩
    · have hil : l.take i = l := List.take_of_length_le h
      have hdl : l.drop i = [] := List.drop_eq_nil_of_le h
      rw [hil] at ho
      rw [hdl] at hr'
      have hA : decide ((0 : Int) < (((l.drop i).flatMap Meta.B).length : Nat)) = false := by rw [hdl]; rfl
      simp -dsimp only [go_sem, ↓reduceIte, Nat.reduceEqDiff, Nat.reduceAdd, Nat.reduceMul, Nat.reduceSub, Nat.reduceLeDiff, Nat.reduceLT, t0, t3, hA]
      exact ⟨ho, hb, hr'⟩
end Go.Proofs.YtekpdopbiklkfaaGreatDoor
end
