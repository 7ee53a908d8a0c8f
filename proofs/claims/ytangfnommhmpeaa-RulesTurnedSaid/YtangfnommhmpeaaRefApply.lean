/-
  The document's Apply: who has what behind some orders.
-/
import Derived.Test.YtangfnommhmpeaaWanted
set_option linter.unusedVariables false
set_option linter.unusedSimpArgs false
namespace Go.Proofs.Ytangfnommhmpeaa
open Go Go.AW Go.Bub
set_option linter.unusedSimpArgs false
set_option maxRecDepth 20000

abbrev OwnO (b : Nat) (H : AHeap) (v : Value) (l : List Order) : Prop := Own b H Order.cells 7 v l
theorem appO {H0 H : AHeap} {v : Value} {l : List Order} (hp : H0 <+: H) (h : OwnO H0.length H v l) (x : Order) (hl : l.length < 100000) :
    ∃ v' H2, aappend Try.prog (H ++ [.row x.cells 7 true]) 23 23 v (.slice (some ⟨H.length, 0, none⟩) 1 1) = some (v', H2) ∧ OwnO H0.length H2 v' (l ++ [x]) ∧ H0 <+: H2 ∧ H.length ≤ H2.length ∧
      (∀ j, j < H.length → owner v ≠ some j → H2[j]? = H[j]?) ∧ (∀ j, owner v' = some j → owner v = some j ∨ H.length ≤ j) :=
  Own.app1 un23 el23 inf42 rfl (by decide) (by decide) (fun _ => rfl) (fun _ => rfl) hp h x hl

/-! ### who has what -/
def clr (o : Order) : Order := { o with drop := false }
/-- one step: told, or told away -/
abbrev Step := Order × Bool
def stepS (S : Order → Bool) (s : Step) : Order → Bool := fun y => if y = s.1 then !s.2 else S y
def setS (l : List Step) : Order → Bool := l.foldl stepS fun _ => false
def stepsOf (h l : List Order) : List Step := h.map (fun o => (clr o, false)) ++ l.map fun o => (clr o, o.drop)
/-- which pairs are there behind orders -/
def applyS (h l : List Order) : Order → Bool := setS (stepsOf h l)

abbrev zrow : AObj := .row [.bool false, .int .i64 0, .int .i64 0, .int .i64 0, .int .i64 0, .int .i64 0, .int .i64 0] 7 true
theorem setS_take {l : List Step} {i : Nat} {s : Step} (hs : l[i]? = some s) : setS (l.take (i + 1)) = stepS (setS (l.take i)) s := by
  rw [take_get hs]; simp [setS]
theorem filt_step (p : Order → Bool) {l : List Order} {i : Nat} {x : Order} (hx : l[i]? = some x) : (l.take (i + 1)).filter p = (l.take i).filter p ++ (if p x then [x] else []) := by
  rw [take_get hx, List.filter_append]; simp [List.filter_cons]
theorem stepsOf_len (h l : List Order) : (stepsOf h l).length = h.length + l.length := by simp [stepsOf]
theorem stepsOf_left {h l : List Order} {i : Nat} {x : Order} (hx : h[i]? = some x) : (stepsOf h l)[i]? = some (clr x, false) := by
  have : i < h.length := by rcases Nat.lt_or_ge i h.length with q | q; exact q; simp [List.getElem?_eq_none q] at hx
  unfold stepsOf
  rw [List.getElem?_append_left (by simpa using this)]
  simp [hx]
theorem stepsOf_right {h l : List Order} {i : Nat} {x : Order} (hi : h.length ≤ i) (hx : l[i - h.length]? = some x) : (stepsOf h l)[i]? = some (clr x, x.drop) := by
  unfold stepsOf
  rw [List.getElem?_append_right (by simpa using hi)]
  simp [hx]

theorem setS_mem : ∀ (l : List Step) (S : Order → Bool) (y : Order), l.foldl stepS S y = true → S y = true ∨ ∃ s ∈ l, y = s.1
  | [], S, y, h => .inl h
  | s :: l, S, y, h => by
    rcases setS_mem l _ y h with h | ⟨s', h1, h2⟩
    · unfold stepS at h
      split at h
      · rename_i e; exact .inr ⟨s, List.mem_cons_self .., e⟩
      · exact .inl h
    · exact .inr ⟨s', List.mem_cons_of_mem _ h1, h2⟩
theorem setS_drop {h l : List Order} {y : Order} (hy : setS (stepsOf h l) y = true) : y.drop = false := by
  rcases setS_mem _ _ _ hy with h | ⟨s, h1, rfl⟩
  · cases h
  · unfold stepsOf at h1
    rcases List.mem_append.1 h1 with h1 | h1 <;> obtain ⟨o, _, rfl⟩ := List.mem_map.1 h1 <;> rfl

theorem refApply (h l : List Order) (a b : Option Addr) (c d : Nat) (H : AHeap) (hh : OrdersAt H a h) (hl : OrdersAt H b l) (hhl : h.length < 1000) (hll : l.length < 1000) :
    Sound Try.prog 17 [.slice a h.length c, .slice b l.length d] H fun v H' => ∃ out, OwnO H.length H' v out ∧ H <+: H' ∧ OrdL out ∧ (∀ y, y ∈ out ↔ applyS h l y = true) ∧ out.length ≤ h.length + l.length := by
  refine Sound.of_body (rs := [.tmp 4]) mixed Try.func17 rfl (by kernel_rfl) rfl (by kernel_rfl) ?_
  simp -dsimp only [go_sem, ↓reduceIte, Nat.reduceEqDiff, Nat.reduceAdd, Nat.reduceMul, Nat.reduceSub, Nat.reduceLeDiff, Nat.reduceLT]
  refine aloopP_of (fun m T H' => ∃ i v out, m = h.length + l.length - i ∧ i ≤ h.length + l.length ∧ T 0 = .slice a h.length c ∧ T 1 = .slice b l.length d ∧ T 5 = v ∧ T 6 = .int .i64 i ∧ OwnO H.length H' v out ∧ H <+: H' ∧ out.Nodup ∧ (∀ y, y ∈ out ↔ setS ((stepsOf h l).take i) y = true) ∧ out.length ≤ i) (n := h.length + l.length) ?_ ?_
  · refine ⟨0, .slice none 0 0, [], ?_⟩
    simp -dsimp only [go_sem, ↓reduceIte, Nat.reduceEqDiff, Nat.reduceAdd, Nat.reduceMul, Nat.reduceSub, Nat.reduceLeDiff, Nat.reduceLT]
    simp [Own.nil, setS]
  · rintro m T H' ⟨i, v, out, rfl, hi, h0, h1, h5, h6, hown, hp, hnd, hmem, hlen⟩
    have wsum : IntKind.i64.wrap ((h.length : Int) + (l.length : Int)) = ((h.length + l.length : Nat) : Int) := by
      rw [wr64 (by omega) (by omega)]; simp
    simp -dsimp only [go_sem, ↓reduceIte, Nat.reduceEqDiff, Nat.reduceAdd, Nat.reduceMul, Nat.reduceSub, Nat.reduceLeDiff, Nat.reduceLT, h0, h1, h5, h6, wsum]
    refine acondP_of (fun hc => ?_) (fun hc => ?_)
    · simp at hc
      replace hc : i < h.length + l.length := by omega
      simp -dsimp only [go_sem, ↓reduceIte, Nat.reduceEqDiff, Nat.reduceAdd, Nat.reduceMul, Nat.reduceSub, Nat.reduceLeDiff, Nat.reduceLT, h0, h1, h5, h6]
      refine acond_join (fun T1 H1 => ∃ x dr, (stepsOf h l)[i]? = some (clr x, dr) ∧ H1 = H' ++ [AObj.row x.cells 7 true] ∧ T1 0 = .slice a h.length c ∧ T1 1 = .slice b l.length d ∧ T1 5 = v ∧ T1 6 = .int .i64 i ∧ T1 7 = .pointer (some ⟨H'.length, 0, none⟩) ∧ T1 8 = .bool dr) ?_ ?_ ?_
      · intro hc2
        simp at hc2
        obtain ⟨x, hx⟩ := get_ex hc2
        obtain ⟨id, off, rfl, hat⟩ := (hh.pre (hp.trans (List.prefix_append H' [zrow]))).at (by omega)
        simp -dsimp only [go_sem, ↓reduceIte, Nat.reduceEqDiff, Nat.reduceAdd, Nat.reduceMul, Nat.reduceSub, Nat.reduceLeDiff, Nat.reduceLT, h0, h1, h5, h6, inRange hc2, rowLoad_whole (hat i x hx)]
        exact ⟨x, false, stepsOf_left hx, rfl, rfl⟩
      · intro hc2
        simp at hc2
        obtain ⟨x, hx⟩ := get_ex (show i - h.length < l.length by omega)
        obtain ⟨id, off, rfl, hat⟩ := (hl.pre (hp.trans (List.prefix_append H' [zrow]))).at (by omega)
        have wd : IntKind.i64.wrap ((i : Int) - (h.length : Int)) = ((i - h.length : Nat) : Int) := by
          rw [wr64 (by omega) (by omega)]; omega
        simp -dsimp only [go_sem, ↓reduceIte, Nat.reduceEqDiff, Nat.reduceAdd, Nat.reduceMul, Nat.reduceSub, Nat.reduceLeDiff, Nat.reduceLT, h0, h1, h5, h6, wd, inRange (show i - h.length < l.length by omega), rowLoad_whole (hat _ x hx)]
        exact ⟨x, x.drop, stepsOf_right hc2 hx, rfl, rfl⟩
      · rintro T1 H1 ⟨x, dr, hstep, rfl, f0, f1, f5, f6, f7, f8⟩
        obtain ⟨a', c', rfl, hsl0⟩ := hown.sl (fun _ => rfl)
        have hp1 : H' <+: H' ++ [AObj.row (clr x).cells 7 true] := List.prefix_append _ _
        have hsl := hsl0.pre hp1
        have hown1 := hown.pre hp1
        have hl1 : (H' ++ [AObj.row (clr x).cells 7 true]).length = H'.length + 1 := by simp
        simp -dsimp only [go_sem, ↓reduceIte, Nat.reduceEqDiff, Nat.reduceAdd, Nat.reduceMul, Nat.reduceSub, Nat.reduceLeDiff, Nat.reduceLT, f0, f1, f5, f6, f7, f8]
        refine aloopP_of (fun m T2 H2 => ∃ k rest, m = out.length - k ∧ k ≤ out.length ∧ (H' ++ [AObj.row (clr x).cells 7 true]) <+: H2 ∧ T2 0 = .slice a h.length c ∧ T2 1 = .slice b l.length d ∧ T2 5 = .slice a' out.length c' ∧ T2 6 = .int .i64 i ∧ T2 7 = .pointer (some ⟨H'.length, 0, none⟩) ∧ T2 8 = .bool dr ∧ T2 10 = .int .i64 k ∧ OwnO (H'.length + 1) H2 (T2 9) rest ∧ rest = (out.take k).filter (· ≠ clr x)) (n := out.length) ?_ ?_
        · refine ⟨0, [], ?_⟩
          simp -dsimp only [go_sem, ↓reduceIte, Nat.reduceEqDiff, Nat.reduceAdd, Nat.reduceMul, Nat.reduceSub, Nat.reduceLeDiff, Nat.reduceLT, f0, f1, f5, f6, f7, f8]
          simp [Own.nil, clr]
        · rintro m T2 H2 ⟨k, rest, rfl, hk, hp2, g0, g1, g5, g6, g7, g8, g10, hrest, hr⟩
          have hb2 := pre_get hp2 (get_end H' _ [])
          simp -dsimp only [go_sem, ↓reduceIte, Nat.reduceEqDiff, Nat.reduceAdd, Nat.reduceMul, Nat.reduceSub, Nat.reduceLeDiff, Nat.reduceLT, g0, g1, g5, g6, g7, g8, g10]
          refine acondP_of (fun hk2 => ?_) (fun hk2 => ?_)
          · simp at hk2
            obtain ⟨y, hy⟩ := get_ex hk2
            obtain ⟨id, off, rfl, hat⟩ := (hsl.pre hp2).at (by omega)
            simp -dsimp only [go_sem, ↓reduceIte, Nat.reduceEqDiff, Nat.reduceAdd, Nat.reduceMul, Nat.reduceSub, Nat.reduceLeDiff, Nat.reduceLT, g0, g1, g5, g6, g7, g8, g10]
            refine adrawnP_of2 [(0, false), (1, false), (2, false), (3, false), (4, false), (5, false)] (by kernel_rfl) ?_
            simp -dsimp only [go_sem, ↓reduceIte, Nat.reduceEqDiff, Nat.reduceAdd, Nat.reduceMul, Nat.reduceSub, Nat.reduceLeDiff, Nat.reduceLT, g0, g1, g5, g6, g7, g8, g10, inRange hk2, rowLoad_whole (hat k y hy), hb2, orderEqB]
            have hrl : rest.length ≤ out.length := by rw [hr]; exact Nat.le_trans (List.length_filter_le _ _) (by simp; omega)
            refine acond_join (fun T3 H3 => ∃ rest', (H' ++ [AObj.row (clr x).cells 7 true]) <+: H3 ∧ T3 0 = .slice a h.length c ∧ T3 1 = .slice b l.length d ∧ T3 5 = .slice (some ⟨id, off, none⟩) out.length c' ∧ T3 6 = .int .i64 i ∧ T3 7 = .pointer (some ⟨H'.length, 0, none⟩) ∧ T3 8 = .bool dr ∧ T3 10 = .int .i64 k ∧ OwnO (H'.length + 1) H3 (T3 9) rest' ∧ rest' = (out.take (k + 1)).filter (· ≠ clr x)) ?_ ?_ ?_
            · intro hne
              simp at hne
              obtain ⟨v3, H3, e, ho3, hp3, -, -, -⟩ := appO hp2 (hl1.symm ▸ hrest) y (by omega)
              rw [hl1] at ho3
              simp -dsimp only [go_sem, ↓reduceIte, Nat.reduceEqDiff, Nat.reduceAdd, Nat.reduceMul, Nat.reduceSub, Nat.reduceLeDiff, Nat.reduceLT, g0, g1, g5, g6, g7, g8, g10, inRange hk2, rowLoad_whole (hat k y hy), hb2, e]
              refine ⟨rest ++ [y], hp3, ho3, ?_⟩
              rw [filt_step _ hy, ← hr]; simp [hne]
            · intro hne
              simp at hne
              simp -dsimp only [go_sem, ↓reduceIte, Nat.reduceEqDiff, Nat.reduceAdd, Nat.reduceMul, Nat.reduceSub, Nat.reduceLeDiff, Nat.reduceLT, g0, g1, g5, g6, g7, g8, g10]
              refine ⟨rest, hp2, hrest, ?_⟩
              rw [filt_step _ hy, ← hr]; simp [hne]
            · rintro T3 H3 ⟨rest', hp3, f0, f1, f5, f6, f7, f8, f10, hrest', hr'⟩
              simp -dsimp only [go_sem, ↓reduceIte, Nat.reduceEqDiff, Nat.reduceAdd, Nat.reduceMul, Nat.reduceSub, Nat.reduceLeDiff, Nat.reduceLT, f0, f1, f5, f6, f7, f8, f10, wrS (show k < 4611686018427387904 by omega)]
              exact ⟨_, by omega, k + 1, rest', rfl, hk2, hp3, rfl, hrest', hr'⟩
          · simp at hk2
            obtain rfl : k = out.length := by omega
            rw [List.take_length] at hr
            have hb3 := pre_get hp2 (get_end H' (AObj.row (clr x).cells 7 true) [])
            have hpall := (hp.trans hp1).trans hp2
            have hrn : rest.Nodup := by rw [hr]; exact hnd.filter _
            have hrl : rest.length ≤ i := by rw [hr]; exact Nat.le_trans (List.length_filter_le _ _) hlen
            have hbl := pre_len hp
            have hstep2 := setS_take hstep
            simp -dsimp only [go_sem, ↓reduceIte, Nat.reduceEqDiff, Nat.reduceAdd, Nat.reduceMul, Nat.reduceSub, Nat.reduceLeDiff, Nat.reduceLT, g0, g1, g5, g6, g7, g8, g10]
            refine acond_join (fun T3 H3 => ∃ v3 out3, H <+: H3 ∧ T3 0 = .slice a h.length c ∧ T3 1 = .slice b l.length d ∧ T3 5 = v3 ∧ T3 6 = .int .i64 i ∧ OwnO H.length H3 v3 out3 ∧ out3.Nodup ∧ (∀ y, y ∈ out3 ↔ setS ((stepsOf h l).take (i + 1)) y = true) ∧ out3.length ≤ i + 1) ?_ ?_ ?_
            · intro hdr
              simp at hdr
              subst hdr
              obtain ⟨v3, H3, e, ho3, hp3, -, -, -⟩ := appO hpall (hrest.mono (show H.length ≤ H'.length + 1 by omega)) (clr x) (by omega)
              simp -dsimp only [go_sem, ↓reduceIte, Nat.reduceEqDiff, Nat.reduceAdd, Nat.reduceMul, Nat.reduceSub, Nat.reduceLeDiff, Nat.reduceLT, g0, g1, g5, g6, g7, g8, g10, hb3, e]
              refine ⟨v3, rest ++ [clr x], hp3, rfl, ho3, ?_, fun y => ?_, by simp; omega⟩
              · rw [List.nodup_append]
                refine ⟨hrn, by simp, fun u hu w hw => ?_⟩
                rw [List.mem_singleton] at hw
                subst hw hr
                simp at hu
                exact hu.2
              · rw [hstep2, List.mem_append, List.mem_singleton, hr]
                simp only [List.mem_filter, hmem, stepS, decide_eq_true_eq]
                by_cases q : y = clr x <;> simp [q]
            · intro hdr
              simp at hdr
              subst hdr
              simp -dsimp only [go_sem, ↓reduceIte, Nat.reduceEqDiff, Nat.reduceAdd, Nat.reduceMul, Nat.reduceSub, Nat.reduceLeDiff, Nat.reduceLT, g0, g1, g5, g6, g7, g8, g10]
              refine ⟨_, rest, hpall, rfl, hrest.mono (show H.length ≤ H'.length + 1 by omega), hrn, fun y => ?_, by omega⟩
              rw [hstep2, hr]
              simp only [List.mem_filter, hmem, stepS, decide_eq_true_eq]
              by_cases q : y = clr x <;> simp [q]
            · rintro T3 H3 ⟨v3, out3, hp3, f0, f1, f5, f6, ho3, hn3, hm3, hl3⟩
              simp -dsimp only [go_sem, ↓reduceIte, Nat.reduceEqDiff, Nat.reduceAdd, Nat.reduceMul, Nat.reduceSub, Nat.reduceLeDiff, Nat.reduceLT, f0, f1, f5, f6, wrS (show i < 4611686018427387904 by omega)]
              exact ⟨_, by omega, i + 1, v3, out3, rfl, hc, rfl, rfl, ho3, hp3, hn3, hm3, hl3⟩
    · simp at hc
      obtain rfl : i = h.length + l.length := by omega
      rw [List.take_of_length_le (by rw [stepsOf_len]; omega)] at hmem
      obtain ⟨a', c', rfl, hsl0⟩ := hown.sl (fun _ => rfl)
      simp -dsimp only [go_sem, ↓reduceIte, Nat.reduceEqDiff, Nat.reduceAdd, Nat.reduceMul, Nat.reduceSub, Nat.reduceLeDiff, Nat.reduceLT, h0, h1, h5, h6]
      refine aloopP_of (fun m T1 H1 => ∃ j cur, m = out.length + 1 - j ∧ 1 ≤ j ∧ j ≤ out.length + 1 ∧ T1 5 = .slice a' out.length c' ∧ T1 11 = .int .i64 j ∧ OwnO H.length H1 (.slice a' out.length c') cur ∧ H <+: H1 ∧ cur.Perm out ∧ OrdL (cur.take j)) (n := out.length) ?_ ?_
      · refine ⟨1, out, ?_⟩
        simp -dsimp only [go_sem, ↓reduceIte, Nat.reduceEqDiff, Nat.reduceAdd, Nat.reduceMul, Nat.reduceSub, Nat.reduceLeDiff, Nat.reduceLT, h0, h1, h5, h6]
        exact ⟨by omega, rfl, hown, hp, .refl _, by cases out <;> simp⟩
      · rintro m T1 H1 ⟨j, cur, rfl, hj1, hj2, f5, f11, ho, hp1, hperm, hsort⟩
        have hcl := hperm.length_eq
        simp -dsimp only [go_sem, ↓reduceIte, Nat.reduceEqDiff, Nat.reduceAdd, Nat.reduceMul, Nat.reduceSub, Nat.reduceLeDiff, Nat.reduceLT, f5, f11]
        refine acondP_of (fun hk => ?_) (fun hk => ?_)
        · simp at hk
          simp -dsimp only [go_sem, ↓reduceIte, Nat.reduceEqDiff, Nat.reduceAdd, Nat.reduceMul, Nat.reduceSub, Nat.reduceLeDiff, Nat.reduceLT, f5, f11]
          refine aloopP_of (fun m T2 H2 => ∃ cur2, m ≤ j ∧ T2 5 = .slice a' out.length c' ∧ T2 11 = .int .i64 j ∧ T2 12 = .int .i64 m ∧ OwnO H.length H2 (.slice a' out.length c') cur2 ∧ H <+: H2 ∧ cur2.Perm out ∧ Bub (fun a b => ordR a b = true) (cur2.take (j + 1)) m) (n := j) ?_ ?_
          · refine ⟨cur, ?_⟩
            simp -dsimp only [go_sem, ↓reduceIte, Nat.reduceEqDiff, Nat.reduceAdd, Nat.reduceMul, Nat.reduceSub, Nat.reduceLeDiff, Nat.reduceLT, f5, f11]
            obtain ⟨x, hx⟩ := get_ex (show j < cur.length by omega)
            refine ⟨ho, hp1, hperm, ?_⟩
            rw [take_get hx]
            have := bub_start hsort x
            rwa [List.length_take, Nat.min_eq_left (by omega)] at this
          · rintro m T2 H2 ⟨cur2, hmj, g5, g11, g12, ho2, hp2, hperm2, hbub⟩
            have hcl2 := hperm2.length_eq
            simp -dsimp only [go_sem, ↓reduceIte, Nat.reduceEqDiff, Nat.reduceAdd, Nat.reduceMul, Nat.reduceSub, Nat.reduceLeDiff, Nat.reduceLT, g5, g11, g12]
            cases m with
            | zero =>
              simp -dsimp only [go_sem, ↓reduceIte, Nat.reduceEqDiff, Nat.reduceAdd, Nat.reduceMul, Nat.reduceSub, Nat.reduceLeDiff, Nat.reduceLT, g5, g11, g12, dec0, wrS (show j < 4611686018427387904 by omega)]
              exact ⟨_, by omega, j + 1, cur2, rfl, by omega, by omega, rfl, ho2, hp2, hperm2, bub_end hbub⟩
            | succ m =>
              obtain ⟨y, hy⟩ := get_ex (show m < cur2.length by omega)
              obtain ⟨z, hz⟩ := get_ex (show m + 1 < cur2.length by omega)
              obtain ⟨_, hslc⟩ := ho2.slA (fun _ => rfl)
              obtain ⟨id2, off2, rfl, hat2⟩ := hslc.at (by omega)
              have r1 := inRange (show m < out.length by omega)
              have r2 := inRange (show m + 1 < out.length by omega)
              have w1 := wrPS (show m < 4611686018427387904 by omega)
              have hy' : (cur2.take (j + 1))[m]? = some y := by rw [List.getElem?_take, if_pos (by omega)]; exact hy
              have hz' : (cur2.take (j + 1))[m + 1]? = some z := by rw [List.getElem?_take, if_pos (by omega)]; exact hz
              simp -dsimp only [go_sem, ↓reduceIte, Nat.reduceEqDiff, Nat.reduceAdd, Nat.reduceMul, Nat.reduceSub, Nat.reduceLeDiff, Nat.reduceLT, g5, g11, g12, decS]
              refine adrawnP_of2 [(0, false), (1, false), (2, false), (3, false), (4, false), (5, false), (6, false), (7, false), (8, false), (9, false), (10, false), (11, false), (12, false)] (by kernel_rfl) ?_
              simp -dsimp only [go_sem, ↓reduceIte, Nat.reduceEqDiff, Nat.reduceAdd, Nat.reduceMul, Nat.reduceSub, Nat.reduceLeDiff, Nat.reduceLT, g5, g11, g12, w1, r1, r2, rowLoad_whole (aload_sub (hat2 m y hy) 1 5 (by decide)), rowLoad_whole (aload_sub (hat2 (m + 1) z hz) 1 5 (by decide))]
              refine SoundP_of (refStands z.seg y.seg H2) ?_
              rintro _ H4 ⟨rfl, hp4⟩
              simp -dsimp only [go_sem, ↓reduceIte, Nat.reduceEqDiff, Nat.reduceAdd, Nat.reduceMul, Nat.reduceSub, Nat.reduceLeDiff, Nat.reduceLT, g5, g11, g12]
              have hat3 : ∀ (i : Nat) (x : Order), cur2[i]? = some x → aload H4 ⟨id2, off2 + i * 7, none⟩ 7 = some x.cells := fun i x hx => aload_pre hp4 (hat2 i x hx)
              have ho4 := ho2.pre hp4
              refine adrawnP_mid (fun T3 H3 => H3 = H4 ∧ T3 5 = .slice (some ⟨id2, off2, none⟩) out.length c' ∧ T3 11 = .int .i64 j ∧ T3 12 = .int .i64 ((m + 1 : Nat) : Int) ∧ T3 120 = .bool (ordR z y)) ?_ ?_
              · refine adrawnP_of2 [(0, false), (1, false), (2, false), (3, false), (4, false), (5, false), (6, false), (7, false), (8, false), (9, false), (10, false), (11, false), (12, false), (13, false), (14, false), (15, false), (16, false), (17, false), (18, false), (19, false), (20, false), (21, false), (22, false), (23, false), (24, false), (25, false), (26, false), (27, false), (28, false)] (by kernel_rfl) ?_
                cases hst : standsR z.seg y.seg with
                | true =>
                  simp -dsimp only [go_sem, ↓reduceIte, Nat.reduceEqDiff, Nat.reduceAdd, Nat.reduceMul, Nat.reduceSub, Nat.reduceLeDiff, Nat.reduceLT, g5, g11, g12, hst]
                  simp [ordR, hst]
                | false =>
                  by_cases hseg : z.seg = y.seg
                  · simp -dsimp only [go_sem, ↓reduceIte, Nat.reduceEqDiff, Nat.reduceAdd, Nat.reduceMul, Nat.reduceSub, Nat.reduceLeDiff, Nat.reduceLT, g5, g11, g12, hst, w1, r1, r2, rowLoad_whole (aload_sub (hat3 m y hy) 1 5 (by decide)), rowLoad_whole (aload_sub (hat3 (m + 1) z hz) 1 5 (by decide)), rowLoad_cell (hat3 m y hy), rowLoad_cell (hat3 (m + 1) z hz), segEqB, decide_eq_true hseg]
                    have := standsR_irrefl y.seg
                    simp [ordR, hseg, this]
                  · simp -dsimp only [go_sem, ↓reduceIte, Nat.reduceEqDiff, Nat.reduceAdd, Nat.reduceMul, Nat.reduceSub, Nat.reduceLeDiff, Nat.reduceLT, g5, g11, g12, hst, w1, r1, r2, rowLoad_whole (aload_sub (hat3 m y hy) 1 5 (by decide)), rowLoad_whole (aload_sub (hat3 (m + 1) z hz) 1 5 (by decide)), segEqB, decide_eq_false hseg]
                    simp [ordR, hst, hseg]
              · rintro T3 H3 ⟨rfl, e5, e11, e12, e120⟩
                simp -dsimp only [go_sem, ↓reduceIte, Nat.reduceEqDiff, Nat.reduceAdd, Nat.reduceMul, Nat.reduceSub, Nat.reduceLeDiff, Nat.reduceLT, e5, e11, e12, e120]
                refine acondP_of (fun hc => ?_) (fun hc => ?_)
                · have hp5 := List.prefix_append H3 [AObj.row z.cells 7 true]
                  have hat4 : ∀ (i : Nat) (x : Order), cur2[i]? = some x → aload (H3 ++ [AObj.row z.cells 7 true]) ⟨id2, off2 + i * 7, none⟩ 7 = some x.cells := fun i x hx => aload_pre hp5 (hat3 i x hx)
                  obtain ⟨o1, e1, ho5⟩ := (ho4.pre hp5).store (fun _ => rfl) (m + 1) y (by omega)
                  obtain ⟨o2, e2, ho6⟩ := ho5.store (fun _ => rfl) m z (by simp; omega)
                  have hge := ho4.owner_ge rfl
                  have e8 : ((H3 ++ [AObj.row z.cells 7 true]).set id2 o1)[H3.length]? = some (AObj.row z.cells 7 true) := by
                    rw [List.getElem?_set_ne (by omega)]; simp
                  simp -dsimp only [go_sem, ↓reduceIte, Nat.reduceEqDiff, Nat.reduceAdd, Nat.reduceMul, Nat.reduceSub, Nat.reduceLeDiff, Nat.reduceLT, e5, e11, e12, e120, w1, r1, r2, rowLoad_whole (hat3 (m + 1) z hz), rowLoad_whole (hat4 m y hy), e1, e2, e8]
                  obtain ⟨hb1, hb2⟩ := bub_swap hbub hy' hz' hc
                  refine ⟨m, by omega, (cur2.set (m + 1) y).set m z, by omega, rfl, ho6, pre_set (pre_set ((hp2.trans hp4).trans hp5) hge.1 _) hge.1 _, ?_, ?_⟩
                  · exact (swap_perm hy hz).trans hperm2
                  · simpa [List.take_set] using hb1
                · simp -dsimp only [go_sem, ↓reduceIte, Nat.reduceEqDiff, Nat.reduceAdd, Nat.reduceMul, Nat.reduceSub, Nat.reduceLeDiff, Nat.reduceLT, e5, e11, e12, e120, w1]
                  have hne : ¬ (z.seg = y.seg ∧ z.node = y.node) := fun q => by
                    have hyo := setS_drop ((hmem y).1 (hperm2.mem_iff.1 (List.mem_of_getElem? hy)))
                    have hzo := setS_drop ((hmem z).1 (hperm2.mem_iff.1 (List.mem_of_getElem? hz)))
                    have e : z = y := Order.eq_iff _ _ |>.2 ⟨hzo.trans hyo.symm, q.1, q.2⟩
                    have := (List.getElem?_inj (by omega) (hperm2.nodup_iff.2 hnd)).1 (hy.trans (e ▸ hz.symm))
                    omega
                  have hyz := ordR_tri (by rw [hc]; decide) hne
                  exact ⟨m, by omega, cur2, by omega, rfl, ho4, hp2.trans hp4, hperm2, bub_keep (lt := fun a b => ordR a b = true) (fun _ _ _ => ordR_trans) hbub hy' hz' hyz⟩
        · simp at hk
          simp -dsimp only [go_sem, ↓reduceIte, Nat.reduceEqDiff, Nat.reduceAdd, Nat.reduceMul, Nat.reduceSub, Nat.reduceLeDiff, Nat.reduceLT, f5, f11]
          refine ⟨cur, ho, hp1, ?_, fun y => ?_, ?_⟩
          · rwa [List.take_of_length_le (by omega)] at hsort
          · rw [hperm.mem_iff]; exact hmem y
          · omega
end Go.Proofs.Ytangfnommhmpeaa
