/-
  The document's Living: the numbers, each once, rising.
-/
import Derived.Test.YtangfnommhmpeaaRef1
import Derived.Test.YtangfnommhmpeaaBub
set_option linter.unusedVariables false
set_option linter.unusedSimpArgs false
namespace Go.Proofs.Ytangfnommhmpeaa
open Go Go.AW Go.Bub
set_option linter.unusedSimpArgs false
set_option maxRecDepth 20000

abbrev OwnI (b : Nat) (H : AHeap) (v : Value) (l : List Int) : Prop := Own b H encI 1 v l
theorem appI {H0 H : AHeap} {v : Value} {l : List Int} (hp : H0 <+: H) (h : OwnI H0.length H v l) (x : Int) (hl : l.length < 100000) :
    ∃ v' H2, aappend Try.prog (H ++ [.row [.int .i64 x] 1 true]) 24 24 v (.slice (some ⟨H.length, 0, none⟩) 1 1) = some (v', H2) ∧ OwnI H0.length H2 v' (l ++ [x]) ∧ H0 <+: H2 ∧ H.length ≤ H2.length ∧
      (∀ j, j < H.length → owner v ≠ some j → H2[j]? = H[j]?) ∧ (∀ j, owner v' = some j → owner v = some j ∨ H.length ≤ j) :=
  Own.app1 un24 el24 inf3 rfl (by decide) (by decide) (fun _ => rfl) (fun _ => rfl) hp h x hl

theorem refLiving (l : List Int) (a : Option Addr) (c : Nat) (H : AHeap) (hs : IntsAt H a l) (hl : l.length < 1000) :
    Sound Try.prog 18 [.slice a l.length c] H fun v H' => ∃ out, OwnI H.length H' v out ∧ H <+: H' ∧ out.Pairwise (· < ·) ∧ (∀ y, y ∈ out ↔ y ∈ l) ∧ out.length ≤ l.length := by
  refine Sound.of_body (rs := [.tmp 2]) mixed Try.func18 rfl (by kernel_rfl) rfl (by kernel_rfl) ?_
  simp -dsimp only [go_sem, ↓reduceIte, Nat.reduceEqDiff, Nat.reduceAdd, Nat.reduceMul, Nat.reduceSub, Nat.reduceLeDiff, Nat.reduceLT]
  refine aloopP_of (fun m T H' => ∃ i v out, m = l.length - i ∧ i ≤ l.length ∧ T 0 = .slice a l.length c ∧ T 3 = v ∧ T 4 = .int .i64 i ∧ OwnI H.length H' v out ∧ H <+: H' ∧ out.Pairwise (· < ·) ∧ (∀ y, y ∈ out ↔ y ∈ l.take i) ∧ out.length ≤ i) (n := l.length) ?_ ?_
  · refine ⟨0, .slice none 0 0, [], ?_⟩
    simp -dsimp only [go_sem, ↓reduceIte, Nat.reduceEqDiff, Nat.reduceAdd, Nat.reduceMul, Nat.reduceSub, Nat.reduceLeDiff, Nat.reduceLT]
    simp [Own.nil]
  · rintro m T H' ⟨i, v, out, rfl, hi, h0, h3, h4, hown, hp, hsort, hmem, hlen⟩
    simp -dsimp only [go_sem, ↓reduceIte, Nat.reduceEqDiff, Nat.reduceAdd, Nat.reduceMul, Nat.reduceSub, Nat.reduceLeDiff, Nat.reduceLT, h0, h3, h4]
    refine acondP_of (fun h => ?_) (fun h => ?_)
    · simp at h
      obtain ⟨x, hx⟩ := get_ex h
      obtain ⟨id, off, rfl, hat⟩ := (hs.pre hp).at (by omega)
      obtain ⟨a', c', rfl, hsl⟩ := hown.sl (fun _ => rfl)
      simp -dsimp only [go_sem, ↓reduceIte, Nat.reduceEqDiff, Nat.reduceAdd, Nat.reduceMul, Nat.reduceSub, Nat.reduceLeDiff, Nat.reduceLT, h0, h3, h4]
      refine aloopP_of (fun m T1 H1 => ∃ k, m = out.length - k ∧ k ≤ out.length ∧ H1 = H' ∧ T1 0 = .slice (some ⟨id, off, none⟩) l.length c ∧ T1 3 = .slice a' out.length c' ∧ T1 4 = .int .i64 i ∧ T1 6 = .int .i64 k ∧ T1 5 = .bool ((out.take k).any (· == x))) (n := out.length) ?_ ?_
      · refine ⟨0, ?_⟩
        simp -dsimp only [go_sem, ↓reduceIte, Nat.reduceEqDiff, Nat.reduceAdd, Nat.reduceMul, Nat.reduceSub, Nat.reduceLeDiff, Nat.reduceLT, h0, h3, h4]
        simp
      · rintro m T1 H1 ⟨k, rfl, hk, rfl, g0, g3, g4, g6, g5⟩
        simp -dsimp only [go_sem, ↓reduceIte, Nat.reduceEqDiff, Nat.reduceAdd, Nat.reduceMul, Nat.reduceSub, Nat.reduceLeDiff, Nat.reduceLT, g0, g3, g4, g5, g6]
        refine acondP_of (fun hk1 => ?_) (fun hk1 => ?_)
        · simp at hk1
          obtain ⟨y, hy⟩ := get_ex hk1
          obtain ⟨id2, off2, rfl, hat2⟩ := hsl.at (by omega)
          simp -dsimp only [go_sem, ↓reduceIte, Nat.reduceEqDiff, Nat.reduceAdd, Nat.reduceMul, Nat.reduceSub, Nat.reduceLeDiff, Nat.reduceLT, g0, g3, g4, g5, g6]
          refine adrawnP_of2 [(0, false), (1, false), (2, false), (3, false), (4, false), (5, false), (6, false), (7, false), (8, false), (9, false), (10, false), (11, false), (12, false)] (by kernel_rfl) ?_
          cases hb : (out.take k).any (· == x) with
          | true =>
            simp -dsimp only [go_sem, ↓reduceIte, Nat.reduceEqDiff, Nat.reduceAdd, Nat.reduceMul, Nat.reduceSub, Nat.reduceLeDiff, Nat.reduceLT, g0, g3, g4, g5, g6, hb, wrS (show k < 4611686018427387904 by omega)]
            refine ⟨_, ?_, k + 1, rfl, hk1, ?_⟩
            · omega
            · simp [any_take _ hy, hb]
          | false =>
            simp -dsimp only [go_sem, ↓reduceIte, Nat.reduceEqDiff, Nat.reduceAdd, Nat.reduceMul, Nat.reduceSub, Nat.reduceLeDiff, Nat.reduceLT, g0, g3, g4, g5, g6, hb, inRange h, inRange hk1, rowLoad_one0 (hat i x hx), rowLoad_one0 (hat2 k y hy), wrS (show k < 4611686018427387904 by omega)]
            refine ⟨_, ?_, k + 1, rfl, hk1, ?_⟩
            · omega
            · simp [any_take _ hy, hb]
        · simp at hk1
          obtain rfl : k = out.length := by omega
          rw [List.take_length] at g5
          simp -dsimp only [go_sem, ↓reduceIte, Nat.reduceEqDiff, Nat.reduceAdd, Nat.reduceMul, Nat.reduceSub, Nat.reduceLeDiff, Nat.reduceLT, g0, g3, g4, g5, g6]
          refine acondP_of (fun hb => ?_) (fun hb => ?_)
          · -- it is there
            simp -dsimp only [go_sem, ↓reduceIte, Nat.reduceEqDiff, Nat.reduceAdd, Nat.reduceMul, Nat.reduceSub, Nat.reduceLeDiff, Nat.reduceLT, g0, g3, g4, g5, g6, wrS (show i < 4611686018427387904 by omega)]
            have hxo : x ∈ out := by simpa using hb
            refine ⟨_, ?_, i + 1, .slice a' out.length c', out, rfl, h, ?_⟩
            · omega
            · refine ⟨rfl, rfl, hown, hp, hsort, fun y => ?_, by omega⟩
              rw [take_get hx, List.mem_append, ← hmem, List.mem_singleton]
              exact ⟨.inl, fun q => q.elim (fun q => q) fun q => q ▸ hxo⟩
          · -- it is new
            have hxo : x ∉ out := fun q => by simp at hb; exact hb x q rfl
            obtain ⟨v2, H2, e, ho2, hp2, -, -, -⟩ := appI hp hown x (by omega)
            obtain ⟨a2, c2, rfl, hsl2⟩ := ho2.sl (fun _ => rfl)
            rw [List.length_append, List.length_singleton] at e ho2
            simp -dsimp only [go_sem, ↓reduceIte, Nat.reduceEqDiff, Nat.reduceAdd, Nat.reduceMul, Nat.reduceSub, Nat.reduceLeDiff, Nat.reduceLT, g0, g3, g4, g5, g6, inRange h, rowLoad_one0 (hat i x hx), e, wrPS (show out.length < 4611686018427387904 by omega)]
            refine aloopP_of (fun m T2 H3 => ∃ cur, m + 1 ≤ cur.length ∧ H <+: H3 ∧ T2 0 = .slice (some ⟨id, off, none⟩) l.length c ∧ T2 3 = .slice a2 (out.length + 1) c2 ∧ T2 4 = .int .i64 i ∧ T2 7 = .int .i64 m ∧ OwnI H.length H3 (.slice a2 (out.length + 1) c2) cur ∧ cur.Perm (out ++ [x]) ∧ Bub (· < ·) cur m) (n := out.length) ?_ ?_
            · refine ⟨out ++ [x], by simp, hp2, ?_⟩
              simp -dsimp only [go_sem, ↓reduceIte, Nat.reduceEqDiff, Nat.reduceAdd, Nat.reduceMul, Nat.reduceSub, Nat.reduceLeDiff, Nat.reduceLT, g0, g3, g4, g5, g6]
              exact ⟨ho2, .refl _, bub_start hsort x⟩
            · rintro m T2 H3 ⟨cur, hm, hp3, f0, f3, f4, f7, ho3, hperm, hbub⟩
              have fin : cur.Pairwise (· < ·) → ∃ m, m < l.length - i ∧ ∃ i_1 v out_1, m = l.length - i_1 ∧ i_1 ≤ l.length ∧ Value.slice a2 (out.length + 1) c2 = v ∧ Value.int .i64 ((i + 1 : Nat) : Int) = .int .i64 (i_1 : Int) ∧ OwnI H.length H3 v out_1 ∧ H <+: H3 ∧ out_1.Pairwise (· < ·) ∧ (∀ y, y ∈ out_1 ↔ y ∈ l.take i_1) ∧ out_1.length ≤ i_1 := fun hso => by
                refine ⟨_, ?_, i + 1, _, cur, rfl, h, rfl, rfl, ho3, hp3, hso, fun y => ?_, ?_⟩
                · omega
                · rw [hperm.mem_iff, List.mem_append, hmem, take_get hx, List.mem_append]
                · rw [hperm.length_eq]; simp; omega
              simp -dsimp only [go_sem, ↓reduceIte, Nat.reduceEqDiff, Nat.reduceAdd, Nat.reduceMul, Nat.reduceSub, Nat.reduceLeDiff, Nat.reduceLT, f0, f3, f4, f7]
              cases m with
              | zero =>
                refine adrawnP_of2 [(0, false), (1, false), (2, false), (3, false), (4, false), (5, false), (6, false), (7, false), (8, false), (9, false), (10, false), (11, false), (12, false), (13, false)] (by kernel_rfl) ?_
                simp -dsimp only [go_sem, ↓reduceIte, Nat.reduceEqDiff, Nat.reduceAdd, Nat.reduceMul, Nat.reduceSub, Nat.reduceLeDiff, Nat.reduceLT, f0, f3, f4, f7, wrS (show i < 4611686018427387904 by omega), dec0]
                exact fin (bub_end hbub)
              | succ m =>
                obtain ⟨y, hy⟩ := get_ex (show m < cur.length by omega)
                obtain ⟨z, hz⟩ := get_ex (show m + 1 < cur.length by omega)
                obtain ⟨hnl, hslc⟩ := ho3.slA (fun _ => rfl)
                obtain ⟨id2, off2, rfl, hat2⟩ := hslc.at (by omega)
                have hmo : m + 1 < 1000 := by omega
                refine adrawnP_of2 [(0, false), (1, false), (2, false), (3, false), (4, false), (5, false), (6, false), (7, false), (8, false), (9, false), (10, false), (11, false), (12, false), (13, false)] (by kernel_rfl) ?_
                simp -dsimp only [go_sem, ↓reduceIte, Nat.reduceEqDiff, Nat.reduceAdd, Nat.reduceMul, Nat.reduceSub, Nat.reduceLeDiff, Nat.reduceLT, f0, f3, f4, f7, decS, wrPS (show m < 4611686018427387904 by omega), inRange (show m < out.length + 1 by omega), inRange (show m + 1 < out.length + 1 by omega), rowLoad_one0 (hat2 m y hy), rowLoad_one0 (hat2 (m + 1) z hz)]
                refine acondP_of (fun hc => ?_) (fun hc => ?_)
                · simp at hc
                  obtain ⟨o1, e1, ho4⟩ := ho3.store (fun _ => rfl) (m + 1) y (by omega)
                  obtain ⟨o2, e2, ho5⟩ := ho4.store (fun _ => rfl) m z (by simp; omega)
                  simp -dsimp only [go_sem, ↓reduceIte, Nat.reduceEqDiff, Nat.reduceAdd, Nat.reduceMul, Nat.reduceSub, Nat.reduceLeDiff, Nat.reduceLT, f0, f3, f4, f7, wrPS (show m < 4611686018427387904 by omega), inRange (show m < out.length + 1 by omega), inRange (show m + 1 < out.length + 1 by omega), rowLoad_one0 (hat2 m y hy), rowLoad_one0 (hat2 (m + 1) z hz), e1, e2]
                  obtain ⟨hb1, hb2⟩ := bub_swap hbub hy hz hc
                  have hge := ho3.owner_ge rfl
                  exact ⟨m, by omega, (cur.set (m + 1) y).set m z, by simp; omega, pre_set (pre_set hp3 hge.1 _) hge.1 _, rfl, ho5, hb2.trans hperm, hb1⟩
                · simp at hc
                  simp -dsimp only [go_sem, ↓reduceIte, Nat.reduceEqDiff, Nat.reduceAdd, Nat.reduceMul, Nat.reduceSub, Nat.reduceLeDiff, Nat.reduceLT, f0, f3, f4, f7, wrS (show i < 4611686018427387904 by omega)]
                  have hne : y ≠ z := fun q => by
                    subst q
                    have hnd : (out ++ [x]).Nodup := by
                      rw [List.nodup_append]
                      refine ⟨hsort.imp (fun h => by omega), by simp, fun u hu w hw => ?_⟩
                      rw [List.mem_singleton] at hw
                      subst hw
                      exact fun q => hxo (q ▸ hu)
                    have := (hperm.nodup_iff).2 hnd
                    have := (List.getElem?_inj (by omega) this).1 (hy.trans hz.symm)
                    omega
                  have hlt : y < z := by omega
                  exact fin (bub_stop (lt := fun a b : Int => a < b) (fun _ _ _ => Int.lt_trans) hbub hy hz hlt)
    · simp at h
      obtain rfl : i = l.length := by omega
      simp -dsimp only [go_sem, ↓reduceIte, Nat.reduceEqDiff, Nat.reduceAdd, Nat.reduceMul, Nat.reduceSub, Nat.reduceLeDiff, Nat.reduceLT, h0, h3, h4]
      rw [List.take_length] at hmem
      exact ⟨out, hown, hp, hsort, hmem, hlen⟩
end Go.Proofs.Ytangfnommhmpeaa
