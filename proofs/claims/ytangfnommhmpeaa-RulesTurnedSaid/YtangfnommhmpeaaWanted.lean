/-
  The document's Wanted: the segments, each once, as they stand.
-/
import Derived.Test.YtangfnommhmpeaaLiving
import Derived.Test.YtangfnommhmpeaaOrd
set_option linter.unusedVariables false
set_option linter.unusedSimpArgs false
namespace Go.Proofs.Ytangfnommhmpeaa
open Go Go.AW Go.Bub
set_option linter.unusedSimpArgs false
set_option maxRecDepth 20000

abbrev OwnS (b : Nat) (H : AHeap) (v : Value) (l : List Seg) : Prop := Own b H Seg.cells 5 v l
theorem appS {H0 H : AHeap} {v : Value} {l : List Seg} (hp : H0 <+: H) (h : OwnS H0.length H v l) (x : Seg) (hl : l.length < 100000) :
    ∃ v' H2, aappend Try.prog (H ++ [AObj.row x.cells 5 true]) 22 22 v (.slice (some ⟨H.length, 0, none⟩) 1 1) = some (v', H2) ∧ OwnS H0.length H2 v' (l ++ [x]) ∧ H0 <+: H2 ∧ H.length ≤ H2.length ∧
      (∀ j, j < H.length → owner v ≠ some j → H2[j]? = H[j]?) ∧ (∀ j, owner v' = some j → owner v = some j ∨ H.length ≤ j) :=
  Own.app1 un22 el22 inf40 rfl (by decide) (by decide) (fun _ => rfl) (fun _ => rfl) hp h x hl

theorem mem_step {α : Type} {out l : List α} {i : Nat} {x : α} (hmem : ∀ y, y ∈ out ↔ y ∈ l.take i) (hx : l[i]? = some x) (hxo : x ∈ out) (y : α) : y ∈ out ↔ y ∈ l.take (i + 1) := by
  rw [take_get hx, List.mem_append, ← hmem, List.mem_singleton]
  exact ⟨.inl, fun q => q.elim (fun q => q) fun q => q ▸ hxo⟩
theorem mem_step2 {α : Type} {cur out l : List α} {i : Nat} {x : α} (hperm : cur.Perm (out ++ [x])) (hmem : ∀ y, y ∈ out ↔ y ∈ l.take i) (hx : l[i]? = some x) (y : α) : y ∈ cur ↔ y ∈ l.take (i + 1) := by
  rw [hperm.mem_iff, List.mem_append, hmem, take_get hx, List.mem_append]

theorem refWanted (l : List Seg) (a : Option Addr) (c : Nat) (H : AHeap) (hs : SegsAt H a l) (hl : l.length < 1000) :
    Sound Try.prog 23 [.slice a l.length c] H fun v H' => ∃ out, OwnS H.length H' v out ∧ H <+: H' ∧ StandL out ∧ (∀ y, y ∈ out ↔ y ∈ l) ∧ out.length ≤ l.length := by
  refine Sound.of_body (rs := [.tmp 2]) mixed Try.func23 rfl (by kernel_rfl) rfl (by kernel_rfl) ?_
  simp -dsimp only [go_sem, ↓reduceIte, Nat.reduceEqDiff, Nat.reduceAdd, Nat.reduceMul, Nat.reduceSub, Nat.reduceLeDiff, Nat.reduceLT]
  refine aloopP_of (fun m T H' => ∃ i v out, m = l.length - i ∧ i ≤ l.length ∧ T 0 = .slice a l.length c ∧ T 3 = v ∧ T 4 = .int .i64 i ∧ OwnS H.length H' v out ∧ H <+: H' ∧ StandL out ∧ (∀ y, y ∈ out ↔ y ∈ l.take i) ∧ out.length ≤ i) (n := l.length) ?_ ?_
  · refine ⟨0, .slice none 0 0, [], ?_⟩
    simp -dsimp only [go_sem, ↓reduceIte, Nat.reduceEqDiff, Nat.reduceAdd, Nat.reduceMul, Nat.reduceSub, Nat.reduceLeDiff, Nat.reduceLT]
    simp [Own.nil]
  · rintro m T H' ⟨i, v, out, rfl, hi, h0, h3, h4, hown, hp, hsort, hmem, hlen⟩
    simp -dsimp only [go_sem, ↓reduceIte, Nat.reduceEqDiff, Nat.reduceAdd, Nat.reduceMul, Nat.reduceSub, Nat.reduceLeDiff, Nat.reduceLT, h0, h3, h4]
    refine acondP_of (fun h => ?_) (fun h => ?_)
    · simp at h
      obtain ⟨x, hx⟩ := get_ex h
      obtain ⟨id, off, rfl, hat0⟩ := (hs.pre hp).at (by omega)
      obtain ⟨a', c', rfl, hsl0⟩ := hown.sl (fun _ => rfl)
      simp -dsimp only [go_sem, ↓reduceIte, Nat.reduceEqDiff, Nat.reduceAdd, Nat.reduceMul, Nat.reduceSub, Nat.reduceLeDiff, Nat.reduceLT, h0, h3, h4, inRange h, rowLoad_whole (hat0 i x hx)]
      refine SoundP_of (refHas x out a' c' H' hsl0 (by omega)) ?_
      rintro _ H1 ⟨rfl, hp1⟩
      simp -dsimp only [go_sem, ↓reduceIte, Nat.reduceEqDiff, Nat.reduceAdd, Nat.reduceMul, Nat.reduceSub, Nat.reduceLeDiff, Nat.reduceLT, h0, h3, h4]
      have hat : ∀ (i : Nat) (x : Seg), l[i]? = some x → aload H1 ⟨id, off + i * 5, none⟩ 5 = some x.cells := fun i x hx => aload_pre hp1 (hat0 i x hx)
      have hown1 := hown.pre hp1
      have hpp := hp.trans hp1
      refine acondP_of (fun hb => ?_) (fun hb => ?_)
      · -- it is there
        simp -dsimp only [go_sem, ↓reduceIte, Nat.reduceEqDiff, Nat.reduceAdd, Nat.reduceMul, Nat.reduceSub, Nat.reduceLeDiff, Nat.reduceLT, h0, h3, h4, wrS (show i < 4611686018427387904 by omega)]
        have hxo : x ∈ out := by simpa using hb
        refine ⟨_, ?_, i + 1, .slice a' out.length c', out, rfl, h, ?_⟩
        · omega
        · exact ⟨rfl, rfl, hown1, hpp, hsort, mem_step hmem hx hxo, by omega⟩
      · -- it is new
        have hxo : x ∉ out := by simpa using hb
        obtain ⟨v2, H2, e, ho2, hp2, -, -, -⟩ := appS hpp hown1 x (by omega)
        obtain ⟨a2, c2, rfl, hsl2⟩ := ho2.sl (fun _ => rfl)
        rw [List.length_append, List.length_singleton] at e ho2
        simp -dsimp only [go_sem, ↓reduceIte, Nat.reduceEqDiff, Nat.reduceAdd, Nat.reduceMul, Nat.reduceSub, Nat.reduceLeDiff, Nat.reduceLT, h0, h3, h4, inRange h, rowLoad_whole (hat i x hx), e, wrPS (show out.length < 4611686018427387904 by omega)]
        refine aloopP_of (fun m T2 H3 => ∃ cur, m + 1 ≤ cur.length ∧ H <+: H3 ∧ T2 0 = .slice (some ⟨id, off, none⟩) l.length c ∧ T2 3 = .slice a2 (out.length + 1) c2 ∧ T2 4 = .int .i64 i ∧ T2 6 = .int .i64 m ∧ OwnS H.length H3 (.slice a2 (out.length + 1) c2) cur ∧ cur.Perm (out ++ [x]) ∧ Bub (fun a b => standsR a b = true) cur m) (n := out.length) ?_ ?_
        · refine ⟨out ++ [x], by simp, hp2, ?_⟩
          simp -dsimp only [go_sem, ↓reduceIte, Nat.reduceEqDiff, Nat.reduceAdd, Nat.reduceMul, Nat.reduceSub, Nat.reduceLeDiff, Nat.reduceLT, h0, h3, h4]
          exact ⟨ho2, .refl _, bub_start hsort x⟩
        · rintro m T2 H3 ⟨cur, hm, hp3, f0, f3, f4, f6, ho3, hperm, hbub⟩
          simp -dsimp only [go_sem, ↓reduceIte, Nat.reduceEqDiff, Nat.reduceAdd, Nat.reduceMul, Nat.reduceSub, Nat.reduceLeDiff, Nat.reduceLT, f0, f3, f4, f6]
          cases m with
          | zero =>
            simp -dsimp only [go_sem, ↓reduceIte, Nat.reduceEqDiff, Nat.reduceAdd, Nat.reduceMul, Nat.reduceSub, Nat.reduceLeDiff, Nat.reduceLT, f0, f3, f4, f6, wrS (show i < 4611686018427387904 by omega), dec0]
            refine ⟨_, ?_, i + 1, _, cur, rfl, h, rfl, rfl, ho3, hp3, bub_end hbub, mem_step2 hperm hmem hx, ?_⟩
            · omega
            · rw [hperm.length_eq]; simp; omega
          | succ m =>
            obtain ⟨y, hy⟩ := get_ex (show m < cur.length by omega)
            obtain ⟨z, hz⟩ := get_ex (show m + 1 < cur.length by omega)
            obtain ⟨hnl, hslc⟩ := ho3.slA (fun _ => rfl)
            obtain ⟨id2, off2, rfl, hat2⟩ := hslc.at (by omega)
            have r1 := inRange (show m < out.length + 1 by omega)
            have r2 := inRange (show m + 1 < out.length + 1 by omega)
            have w1 := wrPS (show m < 4611686018427387904 by omega)
            simp -dsimp only [go_sem, ↓reduceIte, Nat.reduceEqDiff, Nat.reduceAdd, Nat.reduceMul, Nat.reduceSub, Nat.reduceLeDiff, Nat.reduceLT, f0, f3, f4, f6, decS]
            refine adrawnP_of2 [(0, false), (1, false), (2, false), (3, false), (4, false), (5, false), (6, false), (7, false), (8, false), (9, false), (10, false)] (by kernel_rfl) ?_
            simp -dsimp only [go_sem, ↓reduceIte, Nat.reduceEqDiff, Nat.reduceAdd, Nat.reduceMul, Nat.reduceSub, Nat.reduceLeDiff, Nat.reduceLT, f0, f3, f4, f6, w1, r1, r2, rowLoad_whole (hat2 m y hy), rowLoad_whole (hat2 (m + 1) z hz)]
            refine SoundP_of (refStands z y H3) ?_
            rintro _ H4 ⟨rfl, hp4⟩
            simp -dsimp only [go_sem, ↓reduceIte, Nat.reduceEqDiff, Nat.reduceAdd, Nat.reduceMul, Nat.reduceSub, Nat.reduceLeDiff, Nat.reduceLT, f0, f3, f4, f6]
            have hat3 : ∀ (i : Nat) (x : Seg), cur[i]? = some x → aload H4 ⟨id2, off2 + i * 5, none⟩ 5 = some x.cells := fun i x hx => aload_pre hp4 (hat2 i x hx)
            have ho4 := ho3.pre hp4
            refine acondP_of (fun hc => ?_) (fun hc => ?_)
            · have hp5 := List.prefix_append H4 [AObj.row z.cells 5 true]
              have hat4 : ∀ (i : Nat) (x : Seg), cur[i]? = some x → aload (H4 ++ [AObj.row z.cells 5 true]) ⟨id2, off2 + i * 5, none⟩ 5 = some x.cells := fun i x hx => aload_pre hp5 (hat3 i x hx)
              obtain ⟨o1, e1, ho5⟩ := (ho4.pre hp5).store (fun _ => rfl) (m + 1) y (by omega)
              obtain ⟨o2, e2, ho6⟩ := ho5.store (fun _ => rfl) m z (by simp; omega)
              have hge := ho4.owner_ge rfl
              have e8 : ((H4 ++ [AObj.row z.cells 5 true]).set id2 o1)[H4.length]? = some (AObj.row z.cells 5 true) := by
                rw [List.getElem?_set_ne (by omega)]; simp
              simp -dsimp only [go_sem, ↓reduceIte, Nat.reduceEqDiff, Nat.reduceAdd, Nat.reduceMul, Nat.reduceSub, Nat.reduceLeDiff, Nat.reduceLT, f0, f3, f4, f6, w1, r1, r2, rowLoad_whole (hat3 (m + 1) z hz), rowLoad_whole (hat4 m y hy), e1, e2, e8]
              obtain ⟨hb1, hb2⟩ := bub_swap hbub hy hz hc
              exact ⟨m, by omega, (cur.set (m + 1) y).set m z, by simp; omega, pre_set (pre_set ((hp3.trans hp4).trans hp5) hge.1 _) hge.1 _, rfl, ho6, hb2.trans hperm, hb1⟩
            · simp -dsimp only [go_sem, ↓reduceIte, Nat.reduceEqDiff, Nat.reduceAdd, Nat.reduceMul, Nat.reduceSub, Nat.reduceLeDiff, Nat.reduceLT, f0, f3, f4, f6, w1]
              have hne : z ≠ y := fun q => by
                subst q
                have hnd : (out ++ [x]).Nodup := by
                  rw [List.nodup_append]
                  refine ⟨hsort.imp (fun {a b} (h : standsR a b = true) (q : a = b) => standsR_irrefl a (by subst q; exact h)), by simp, fun u hu w hw => ?_⟩
                  rw [List.mem_singleton] at hw
                  subst hw
                  exact fun q => hxo (q ▸ hu)
                have := (hperm.nodup_iff).2 hnd
                have := (List.getElem?_inj (by omega) this).1 (hy.trans hz.symm)
                omega
              have hyz := standsR_tri (by rw [hc]; decide) hne
              exact ⟨m, by omega, cur, by omega, hp3.trans hp4, rfl, ho4, hperm, bub_keep (lt := fun a b => standsR a b = true) (fun _ _ _ => standsR_trans) hbub hy hz hyz⟩
    · simp at h
      obtain rfl : i = l.length := by omega
      simp -dsimp only [go_sem, ↓reduceIte, Nat.reduceEqDiff, Nat.reduceAdd, Nat.reduceMul, Nat.reduceSub, Nat.reduceLeDiff, Nat.reduceLT, h0, h3, h4]
      rw [List.take_length] at hmem
      exact ⟨out, hown, hp, hsort, hmem, hlen⟩
end Go.Proofs.Ytangfnommhmpeaa
