/-
  Parts of the proof, joined: List, Twice, May, Refused.
-/
import Derived.Test.YtekpdopbiklkfaaGreatDoorPf14
section
set_option linter.unusedVariables false
set_option linter.unusedSimpArgs false
namespace Go.Proofs.YtekpdopbiklkfaaGreatDoor
open Go Go.AW
set_option linter.unusedSimpArgs false
set_option maxRecDepth 20000
theorem get_ltL {α : Type} {l : List α} {i : Nat} {x : α} (h : l[i]? = some x) : i < l.length := by
  rcases Nat.lt_or_ge i l.length with q | q
  · exact q
  · rw [List.getElem?_eq_none q] at h; cases h
theorem appStr {b : Nat} {H : AHeap} {v : Value} {l : List ByteArray} (h : Own b H encStrB 1 v l) (hb : b ≤ H.length) (hl : l.length < 90000) (x : ByteArray) :
    ∃ v' H', aappend Tryz.prog (H ++ [.row (encStrB x) 1 true]) 58 58 v (.slice (some ⟨H.length, 0, none⟩) 1 1) = some (v', H') ∧ App b H encStrB 1 v v' H' (l ++ [x]) := by
  obtain ⟨v', H2, h1, h2, h3, h4, h5⟩ := Own.app1b un58 el58 inf9 rfl (by decide) (by decide) (fun _ => rfl) (fun _ => rfl) hb h x (by omega)
  exact ⟨v', H2, h1, h2, h3, h4, h5⟩
theorem keysOfS (m : Nat) (H : AHeap) : Sound Tryz.prog 53 [.map (some m)] H fun v H' => v = .func (.func keysF) #[] #[ptrV H.length] ∧ H' = H ++ [.row [.map (some m)] 1 true] := by
  refine Sound.of_body (rs := [.tmp 2]) mixed Tryz.func53 rfl (by kernel_rfl) rfl (by kernel_rfl) ?_
  simp -dsimp only [go_sem, ↓reduceIte, Nat.reduceEqDiff, Nat.reduceAdd, Nat.reduceMul, Nat.reduceSub, Nat.reduceLeDiff, Nat.reduceLT]
theorem entersKS (xs : Array Value) (w : World) : (callFunc keysF xs).run Tryz.prog w = .ok (.enter keysF xs) w := enters_body Tryz.func88 (by kernel_rfl) rfl xs w
def SeqJ (H : AHeap) (M : List (ByteArray × Nat)) (L : List (ByteArray × Nat)) (H' : AHeap) : Prop :=
  ∃ l v, (L.map Prod.fst ++ l).Perm (M.map Prod.fst) ∧ H <+: H' ∧ H'[H.length]? = some (.row [v] 1 true) ∧ Own (H.length + 2) H' encStrB 1 v l
theorem seqJ_rounds {H : AHeap} {m : Nat} {M : List (ByteArray × Nat)} {v : Value} : Rounds (H ++ [AObj.row [v] 1 true]) m M (SeqJ H M) where
  set L H' o h := by
    obtain ⟨l, v, h1, h2, h3, h4⟩ := h
    have e : (H ++ [AObj.row [v] 1 true]).length = H.length + 1 := by simp
    simp only [List.length_append, List.length_cons, List.length_nil, Nat.zero_add]
    exact ⟨l, v, h1, pre_set h2 (by omega) o, by rw [List.getElem?_set_ne (by omega)]; exact h3, h4.keep fun id hid => List.getElem?_set_ne (by have := (h4.owner_ge hid).1; omega)⟩
  app L H' o h := by
    obtain ⟨l, v, h1, h2, h3, h4⟩ := h
    have p := List.prefix_append H' [o]
    exact ⟨l, v, h1, h2.trans p, pre_get p h3, h4.pre p⟩
theorem seqLaw {m bx : Nat} {H : AHeap} {M : List (ByteArray × Nat)} (hb : H[bx]? = some (.row [.map (some m)] 1 true)) (hm : DictAt H m strV ptrV M) (hM : M.length < 50000) :
    Sound Tryz.prog 126 [.slice none 0 0, .func (.func keysF) #[] #[ptrV bx]] H fun v H' => H <+: H' ∧ ∃ l, l.Perm (M.map Prod.fst) ∧ Own H.length H' encStrB 1 v l := by
  refine Sound.of_range (rs := [.tmp 4]) mixed Tryz.func126 rfl (by kernel_rfl) rfl (by kernel_rfl) ?_
  have p1 := List.prefix_append H [AObj.row [.slice none 0 0] 1 true]
  have b1 := get_end H (AObj.row [.slice none 0 0] 1 true) []
  simp -dsimp only [go_sem, ↓reduceIte, Nat.reduceEqDiff, Nat.reduceAdd, Nat.reduceMul, Nat.reduceSub, Nat.reduceLeDiff, Nat.reduceLT]
  refine ⟨7, keysF, _, SeqJ H M [], rfl, rfl, entersKS, ?_, fun H' hJ _ => ?_⟩
  · intro k ρ F D L fn W tmps cap' _ _ _ hR hT hc
    obtain ⟨c', rest, hbs, hc', hrest⟩ := hc.inv
    have hre : rest = [] := List.length_eq_zero_iff.1 (by simpa using hrest.1.symm)
    have e2 : cap' = #[c'] := by
      apply Array.toList_inj.1
      rw [hbs, hre]
    subst e2
    refine keys_walk (by kernel_rfl) (by kernel_rfl) (by kernel_rfl) (by kernel_rfl) (by decide) hR hT hc' (pre_get p1 hb) (hm.pre p1) seqJ_rounds ⟨[], .slice none 0 0, by simp, p1, b1, Own.nil _ _ _ _⟩ ?_
    rintro L1 k2 v2 L2 H' hJ hD hlt
    obtain ⟨l, v, h1, h2, h3, h4⟩ := hJ
    have hll : l.length < 90000 := by
      have := h1.length_eq
      simp only [List.length_append, List.length_map] at this
      omega
    have hbl : H.length + 2 ≤ H'.length := by simp at hlt; omega
    obtain ⟨v', H2, e, ap⟩ := appStr h4 hbl hll k2
    have ow : ∀ j, owner v = some j → H.length + 2 ≤ j := fun j hj => (h4.owner_ge hj).1
    have hHl := get_lt h3
    have h3x : H2[H.length]? = some (.row [v] 1 true) := (ap.fr _ hHl fun q => by have := ow _ q; omega).trans h3
    have hmne : m ≠ H.length := fun q => by have := dict_ne_row hD h3; omega
    have hm2 : H2[m]? = H'[m]? := ap.fr m hD.lt fun q => by
      obtain ⟨cs, hr⟩ := own_rowK h4 q
      exact dict_ne_row hD hr rfl
    have hi2 : H2[H.length + 1]? = H'[H.length + 1]? := ap.fr _ (by omega) fun q => by have := ow _ q; omega
    have hp2 : H <+: H2 := pre_of fun j hj => (ap.fr j (by omega) fun q => by have := ow _ q; omega).trans (by obtain ⟨L, rfl⟩ := h2; exact List.getElem?_append_left hj)
    have ow2 : ∀ j, owner v' = some j → H.length + 2 ≤ j := fun j hj => (ap.own.owner_ge hj).1
    obtain ⟨a2, c2, rfl, -⟩ := ap.own.sl (fun _ => rfl)
    generalize hn : (l ++ [k2]).length = n at *
    simp -dsimp only [go_sem, ↓reduceIte, Nat.reduceEqDiff, Nat.reduceAdd, Nat.reduceMul, Nat.reduceSub, Nat.reduceLeDiff, Nat.reduceLT, h3, h3x, e]
    refine ⟨⟨l ++ [k2], .slice a2 n c2, ?_, pre_set hp2 (Nat.le_refl _) _, List.getElem?_set_self (get_lt h3x), ap.own.keep fun id hid => List.getElem?_set_ne (by have := ow2 id hid; omega)⟩, by rw [List.getElem?_set_ne (Ne.symm hmne)]; exact hm2, by rw [List.getElem?_set_ne (by omega)]; exact hi2⟩
    refine List.Perm.trans ?_ h1
    simp only [List.map_append, List.map_cons, List.append_assoc]
    refine List.Perm.append_left _ ?_
    have : (L2.map Prod.fst ++ (l ++ [k2])).Perm (k2 :: (L2.map Prod.fst ++ l)) := by
      rw [← List.append_assoc]; exact List.perm_append_singleton _ _
    exact this
  · obtain ⟨l, v, h1, h2, h3, h4⟩ := hJ
    simp -dsimp only [go_sem, ↓reduceIte, Nat.reduceEqDiff, Nat.reduceAdd, Nat.reduceMul, Nat.reduceSub, Nat.reduceLeDiff, Nat.reduceLT, h3]
    exact ⟨h2, l, by simpa using h1, h4.mono (by omega)⟩
theorem collectLaw {m bx : Nat} {H : AHeap} {M : List (ByteArray × Nat)} (hb : H[bx]? = some (.row [.map (some m)] 1 true)) (hm : DictAt H m strV ptrV M) (hM : M.length < 50000) :
    Sound Tryz.prog 86 [.func (.func keysF) #[] #[ptrV bx]] H fun v H' => H <+: H' ∧ ∃ l, l.Perm (M.map Prod.fst) ∧ Own H.length H' encStrB 1 v l := by
  refine Sound.of_body (rs := [.tmp 2]) mixed Tryz.func86 rfl (by kernel_rfl) rfl (by kernel_rfl) ?_
  simp -dsimp only [go_sem, ↓reduceIte, Nat.reduceEqDiff, Nat.reduceAdd, Nat.reduceMul, Nat.reduceSub, Nat.reduceLeDiff, Nat.reduceLT]
  refine SoundP_of (seqLaw hb hm hM) ?_
  rintro v H1 ⟨p1, h1⟩
  simp -dsimp only [go_sem, ↓reduceIte, Nat.reduceEqDiff, Nat.reduceAdd, Nat.reduceMul, Nat.reduceSub, Nat.reduceLeDiff, Nat.reduceLT]
  exact ⟨p1, h1⟩
theorem sortedLaw {m bx : Nat} {H : AHeap} {M : List (ByteArray × Nat)} (hb : H[bx]? = some (.row [.map (some m)] 1 true)) (hm : DictAt H m strV ptrV M) (hM : M.length < 50000) :
    Sound Tryz.prog 52 [.func (.func keysF) #[] #[ptrV bx]] H fun v H' => H <+: H' ∧ ∃ l, l.Perm (M.map Prod.fst) ∧ Own H.length H' encStrB 1 v l := by
  refine Sound.of_body (rs := [.tmp 2]) mixed Tryz.func52 rfl (by kernel_rfl) rfl (by kernel_rfl) ?_
  simp -dsimp only [go_sem, ↓reduceIte, Nat.reduceEqDiff, Nat.reduceAdd, Nat.reduceMul, Nat.reduceSub, Nat.reduceLeDiff, Nat.reduceLT]
  refine SoundP_of (collectLaw hb hm hM) ?_
  rintro v H1 ⟨p1, l, hl, ho⟩
  simp -dsimp only [go_sem, ↓reduceIte, Nat.reduceEqDiff, Nat.reduceAdd, Nat.reduceMul, Nat.reduceSub, Nat.reduceLeDiff, Nat.reduceLT]
  have hlen := hl.length_eq
  rw [List.length_map] at hlen
  refine SoundP_of (sort_str Tryz.laysS_f87 ho (by omega)) ?_
  rintro _ H2 ⟨rfl, l', hl', ho', hlen', hk⟩
  simp -dsimp only [go_sem, ↓reduceIte, Nat.reduceEqDiff, Nat.reduceAdd, Nat.reduceMul, Nat.reduceSub, Nat.reduceLeDiff, Nat.reduceLT]
  refine ⟨pre_of fun j hj => (hk j fun q => by have := (ho.owner_ge q).1; omega).trans (by obtain ⟨L, rfl⟩ := p1; exact List.getElem?_append_left hj), l', hl'.trans hl, ho'⟩
def pfxB (s p : ByteArray) : Bool := decide (p.size ≤ s.size) && decide (s.extract 0 p.size = p)
theorem prefixLaw (s p : ByteArray) (H : AHeap) : Sound Tryz.prog 90 [.string s, .string p] H fun v H' => v = .bool (pfxB s p) ∧ H' = H := by
  refine Sound.of_body (rs := [.tmp 4]) mixed Tryz.func90 rfl (by kernel_rfl) rfl (by kernel_rfl) ?_
  cases hA : decide ((p.size : Int) ≤ (s.size : Int)) with
  | true =>
    have hA' := of_decide_eq_true hA
    have hu : Tryz.prog.underlying 9 = some .string := by kernel_rfl
    have hsl : aslice Tryz.prog H 9 (.string s) none (some (.int .i64 (p.size : Nat))) none = some (.string (s.extract 0 p.size)) := by
      simp only [aslice, hu, optB_some, optB_none, abound_nat]
      rw [if_pos (by omega)]; rfl
    have he : ∀ xo yo, abin Tryz.prog H .eql 9 xo yo (.string (s.extract 0 p.size)) (.string p) = some (.bool (decide (s.extract 0 p.size = p))) := fun xo yo => by
      show some (Value.bool ((s.extract 0 p.size).toList == p.toList)) = _
      congr 2
      rw [Bool.eq_iff_iff, beq_iff_eq, decide_eq_true_eq, ByteArray.toList_eq, ByteArray.toList_eq]
      exact ⟨fun q => ByteArray.ext (Array.toList_inj.1 q), fun q => by rw [q]⟩
    simp -dsimp only [go_sem, ↓reduceIte, Nat.reduceEqDiff, Nat.reduceAdd, Nat.reduceMul, Nat.reduceSub, Nat.reduceLeDiff, Nat.reduceLT, hA, hsl, he]
    simp only [pfxB, show decide (p.size ≤ s.size) = true from decide_eq_true (by omega), Bool.true_and]
  | false =>
    have hA' := of_decide_eq_false hA
    simp -dsimp only [go_sem, ↓reduceIte, Nat.reduceEqDiff, Nat.reduceAdd, Nat.reduceMul, Nat.reduceSub, Nat.reduceLeDiff, Nat.reduceLT, hA]
    simp only [pfxB, show decide (p.size ≤ s.size) = false from decide_eq_false (by omega), Bool.false_and]
theorem prefixLaw' (s p : ByteArray) (H : AHeap) : Sound Tryz.prog 56 [.string s, .string p] H fun v H' => v = .bool (pfxB s p) ∧ H' = H := by
  refine Sound.of_body (rs := [.tmp 4]) mixed Tryz.func56 rfl (by kernel_rfl) rfl (by kernel_rfl) ?_
  simp -dsimp only [go_sem, ↓reduceIte, Nat.reduceEqDiff, Nat.reduceAdd, Nat.reduceMul, Nat.reduceSub, Nat.reduceLeDiff, Nat.reduceLT]
  refine SoundP_of (prefixLaw s p _) ?_
  rintro v H' ⟨rfl, rfl⟩
  simp -dsimp only [go_sem, ↓reduceIte, Nat.reduceEqDiff, Nat.reduceAdd, Nat.reduceMul, Nat.reduceSub, Nat.reduceLeDiff, Nat.reduceLT]
theorem listF (s p : ByteArray) {bx : Nat} (H : AHeap) (hb : H[bx]? = some (.row [.string p] 1 true)) : Sound Tryz.prog 55 [.string s, ptrV bx] H fun v H' => v = .bool (!pfxB s p) ∧ H <+: H' := by
  refine Sound.of_body (rs := [.tmp 3]) mixed Tryz.func55 rfl (by kernel_rfl) rfl (by kernel_rfl) ?_
  simp -dsimp only [go_sem, ↓reduceIte, Nat.reduceEqDiff, Nat.reduceAdd, Nat.reduceMul, Nat.reduceSub, Nat.reduceLeDiff, Nat.reduceLT, hb]
  refine SoundP_of (prefixLaw' s p _) ?_
  rintro v H' ⟨rfl, rfl⟩
  simp -dsimp only [go_sem, ↓reduceIte, Nat.reduceEqDiff, Nat.reduceAdd, Nat.reduceMul, Nat.reduceSub, Nat.reduceLeDiff, Nat.reduceLT]
  exact List.prefix_refl _
set_option maxHeartbeats 1000000 in
theorem deleteLaw (l : List ByteArray) (p : ByteArray) {b bx : Nat} {H : AHeap} {v : Value} (hown : Own b H encStrB 1 v l) (hl : l.length < 50000) (hb : H[bx]? = some (.row [.string p] 1 true)) (hne : owner v ≠ some bx) :
    Sound Tryz.prog 54 [v, .func (.func 55) #[] #[ptrV bx]] H fun v' H' => Own b H' encStrB 1 v' (l.filter fun s => pfxB s p) ∧ H.length ≤ H'.length ∧ (∀ j, j < H.length → owner v ≠ some j → H'[j]? = H[j]?) := by
  refine Sound.of_body (rs := [.tmp 4]) mixed Tryz.func54 rfl (by kernel_rfl) rfl (by kernel_rfl) ?_
  obtain ⟨a, c, rfl, hsl⟩ := hown.sl (fun _ => rfl)
  simp -dsimp only [go_sem, ↓reduceIte, Nat.reduceEqDiff, Nat.reduceAdd, Nat.reduceMul, Nat.reduceSub, Nat.reduceLeDiff, Nat.reduceLT]
  refine SoundP_of (indexSt l (fun s => !pfxB s p) _ #[] #[ptrV bx] a c H hsl (by omega) fun x hx H' hp => listF x p H' (pre_get hp hb)) ?_
  rintro _ H1 ⟨rfl, p1⟩
  have keep1 : ∀ j, j < H.length → H1[j]? = H[j]? := fun j hj => by obtain ⟨L, rfl⟩ := p1; exact List.getElem?_append_left hj
  cases hi : idxL (fun s => !pfxB s p) l with
  | none =>
    have hall := idxL_no hi
    have e : l.filter (fun s => pfxB s p) = l := List.filter_eq_self.2 fun z hz => by simpa using hall z hz
    have z1 : (idxV none == (-1 : Int)) = true := rfl
    simp -dsimp only [go_sem, ↓reduceIte, Nat.reduceEqDiff, Nat.reduceAdd, Nat.reduceMul, Nat.reduceSub, Nat.reduceLeDiff, Nat.reduceLT, z1]
    rw [e]
    exact ⟨hown.pre p1, pre_len p1, fun j hj _ => keep1 j hj⟩
  | some i =>
    obtain ⟨x, hx, hpx, hlo⟩ := idxL_some hi
    have hil : i < l.length := get_ltL hx
    have z1 : (((i : Nat) : Int) == (-1 : Int)) = false := by simp
    have z2 : idxV (some i) = (i : Int) := rfl
    have f0 : (l.take i).filter (fun s => pfxB s p) = l.take i := List.filter_eq_self.2 fun z hz => by simpa using hlo z hz
    have f1 : (l.take (i + 1)).filter (fun s => pfxB s p) = l.take i := by
      rw [List.take_add_one, hx, List.filter_append, f0]
      simp at hpx
      simp [hpx]
    obtain ⟨id, rest, hbid, rfl, -, hrow, hcap⟩ := own_open hown (by omega)
    have hbne : bx ≠ id := fun q => hne (by rw [q]; rfl)
    simp -dsimp only [go_sem, ↓reduceIte, Nat.reduceEqDiff, Nat.reduceAdd, Nat.reduceMul, Nat.reduceSub, Nat.reduceLeDiff, Nat.reduceLT, z1, z2, wrS (show i < 4611686018427387904 by omega)]
    refine aloopP_of (fun n T H' => ∃ (j q : Nat) (cur : List ByteArray), n = l.length - j ∧ j ≤ l.length ∧ q < j ∧ Own b H' encStrB 1 (.slice (some ⟨id, 0, none⟩) l.length c) cur ∧ cur.take q = (l.take j).filter (fun s => pfxB s p) ∧ (∀ k, j ≤ k → cur[k]? = l[k]?) ∧ H1.length ≤ H'.length ∧ (∀ k, k < H1.length → k ≠ id → H'[k]? = H1[k]?) ∧
      T 0 = .slice (some ⟨id, 0, none⟩) l.length c ∧ T 1 = .func (.func 55) #[] #[ptrV bx] ∧ T 5 = .int .i64 (q : Nat) ∧ T 6 = .int .i64 (j : Nat)) (n := l.length - (i + 1)) ?_ ?_
    · refine ⟨i + 1, i, l, ?_⟩
      simp -dsimp only [go_sem, ↓reduceIte, Nat.reduceEqDiff, Nat.reduceAdd, Nat.reduceMul, Nat.reduceSub, Nat.reduceLeDiff, Nat.reduceLT]
      exact ⟨hil, by omega, hown.pre p1, f1.symm, fun _ _ => trivial, fun _ _ _ => trivial⟩
    · rintro n T H' ⟨j, q, cur, rfl, hj, hq, hcur, hf, hsame, hlen, hkeep, t0, t1, t5, t6⟩
      have hcl : l.length = cur.length := (hcur.slA (fun _ => rfl)).1
      simp -dsimp only [go_sem, ↓reduceIte, Nat.reduceEqDiff, Nat.reduceAdd, Nat.reduceMul, Nat.reduceSub, Nat.reduceLeDiff, Nat.reduceLT, t0, t1, t5, t6]
      refine acondP_of (fun h => ?_) (fun h => ?_)
      · simp at h
        obtain ⟨y, hy⟩ := get_ex h
        have hat := own_at hcur (fun _ => rfl) j y (by rw [hsame j (Nat.le_refl _)]; exact hy)
        have hb' : H'[bx]? = some (.row [.string p] 1 true) := by rw [hkeep bx (get_lt (pre_get p1 hb)) hbne]; exact pre_get p1 hb
        simp -dsimp only [go_sem, ↓reduceIte, Nat.reduceEqDiff, Nat.reduceAdd, Nat.reduceMul, Nat.reduceSub, Nat.reduceLeDiff, Nat.reduceLT, t0, t1, t5, t6, inRange h, rowLoad_one0 hat]
        refine SoundP_of (listF y p H' hb') ?_
        rintro _ H2 ⟨rfl, p2⟩
        have hcur2 := hcur.pre p2
        have hlen2 := pre_len p2
        have hk2 : ∀ k, k < H1.length → k ≠ id → H2[k]? = H1[k]? := fun k hk hn => by
          rw [← hkeep k hk hn]
          obtain ⟨L, rfl⟩ := p2
          exact List.getElem?_append_left (by omega)
        have tk : (l.take (j + 1)).filter (fun s => pfxB s p) = (l.take j).filter (fun s => pfxB s p) ++ (if pfxB y p then [y] else []) := by
          rw [List.take_add_one, hy, List.filter_append]
          cases hpy : pfxB y p <;> simp [hpy]
        cases hpy : pfxB y p with
        | false =>
          simp -dsimp only [go_sem, ↓reduceIte, Nat.reduceEqDiff, Nat.reduceAdd, Nat.reduceMul, Nat.reduceSub, Nat.reduceLeDiff, Nat.reduceLT, t0, t1, t5, t6, hpy, Bool.not_false, Bool.not_true, wrS (show j < 4611686018427387904 by omega)]
          exact ⟨_, by omega, j + 1, q, cur, rfl, h, by omega, hcur2, by rw [tk, hpy, hf]; simp, fun k hk => hsame k (by omega), by omega, hk2, rfl, rfl⟩
        | true =>
          obtain ⟨o1, e1, hcur3⟩ := hcur2.store (fun _ => rfl) q y (by omega)
          rw [Nat.zero_add] at e1
          simp -dsimp only [go_sem, ↓reduceIte, Nat.reduceEqDiff, Nat.reduceAdd, Nat.reduceMul, Nat.reduceSub, Nat.reduceLeDiff, Nat.reduceLT, t0, t1, t5, t6, hpy, Bool.not_false, Bool.not_true, inRange (show q < l.length by omega), e1, wrS (show q < 4611686018427387904 by omega), wrS (show j < 4611686018427387904 by omega)]
          refine ⟨_, by omega, j + 1, q + 1, cur.set q y, rfl, h, by omega, hcur3, ?_, fun k hk => ?_, by rw [List.length_set]; omega, fun k hk hn => ?_, rfl, rfl⟩
          · rw [tk, hpy, take_get (List.getElem?_set_self (by omega)), List.take_set_of_le (Nat.le_refl _), hf]; rfl
          · rw [List.getElem?_set_ne (by omega)]; exact hsame k (by omega)
          · rw [List.getElem?_set_ne (Ne.symm hn)]; exact hk2 k hk hn
      · simp at h
        have hjl : l.length = j := by omega
        rw [← hjl, List.take_length] at hf
        obtain ⟨s3, H3, c1, c2', c3, ho3, hl3, hk3⟩ := own_clear un58 ze9 sz9 (by kernel_rfl) rfl rfl hcur (fun _ => rfl) (by decide) (m := q) (by omega)
        have hcap2 : q ≤ capOf l.length c := Nat.le_trans (by omega) (own_capOf hcur (fun _ => rfl) (by decide))
        simp -dsimp only [go_sem, ↓reduceIte, Nat.reduceEqDiff, Nat.reduceAdd, Nat.reduceMul, Nat.reduceSub, Nat.reduceLeDiff, Nat.reduceLT, t0, t1, t5, t6, show q ≤ l.length by omega, c1, c2', hcap2, c3]
        rw [← hf]
        refine ⟨ho3, by have := pre_len p1; omega, fun k hk hn => ?_⟩
        have hki : k ≠ id := fun e => hn (by rw [e]; rfl)
        rw [hk3 k hki, hkeep k (by have := pre_len p1; omega) hki, keep1 k hk]
theorem listLaw {b : Nat} {H : AHeap} {d m : Nat} {ops at_ part : Int} {M : List FileS} (h : DiskAt b H d m false ops at_ part M) (p : ByteArray) (hM : M.length < 40000) :
    Sound Tryz.prog 25 [ptrV d, .string p] H fun v H' => H <+: H' ∧ ∃ l, l.Perm ((M.map FileS.name).filter fun s => pfxB s p) ∧ Own H.length H' encStrB 1 v l := by
  refine Sound.of_body (rs := [.tmp 4]) mixed Tryz.func25 rfl (by kernel_rfl) rfl (by kernel_rfl) ?_
  have p0 := List.prefix_append H [AObj.row [.string p] 1 true]
  have c0 := get_end H (AObj.row [.string p] 1 true) []
  have h0 := (h.pre p0).at_
  simp -dsimp only [go_sem, ↓reduceIte, Nat.reduceEqDiff, Nat.reduceAdd, Nat.reduceMul, Nat.reduceSub, Nat.reduceLeDiff, Nat.reduceLT, h0]
  refine SoundP_of (keysOfS m _) ?_
  rintro _ H1 ⟨rfl, hH1⟩
  have p1 : H ++ [AObj.row [.string p] 1 true] <+: H1 := by rw [hH1]; exact List.prefix_append _ _
  have c1 : H1[(H ++ [AObj.row [.string p] 1 true]).length]? = some (.row [.map (some m)] 1 true) := by rw [hH1]; exact get_end _ _ _
  have lH : (H ++ [AObj.row [.string p] 1 true]).length = H.length + 1 := by simp
  rw [lH] at c1
  clear hH1
  simp -dsimp only [go_sem, ↓reduceIte, Nat.reduceEqDiff, Nat.reduceAdd, Nat.reduceMul, Nat.reduceSub, Nat.reduceLeDiff, Nat.reduceLT, lH]
  refine SoundP_of (sortedLaw c1 ((h.pre p0).pre p1).dict (by rw [idsOf, List.length_map]; omega)) ?_
  rintro v2 H2 ⟨p2, l, hl, ho⟩
  have c2 := pre_get p2 (pre_get p1 c0)
  have hll := hl.length_eq
  rw [List.length_map, idsOf, List.length_map] at hll
  have l1 := pre_len p1
  rw [lH] at l1
  simp -dsimp only [go_sem, ↓reduceIte, Nat.reduceEqDiff, Nat.reduceAdd, Nat.reduceMul, Nat.reduceSub, Nat.reduceLeDiff, Nat.reduceLT]
  refine SoundP_of (deleteLaw l p ho (by omega) c2 fun q => by have := (ho.owner_ge q).1; omega) ?_
  rintro v3 H3 ⟨ho3, hl3, hk3⟩
  simp -dsimp only [go_sem, ↓reduceIte, Nat.reduceEqDiff, Nat.reduceAdd, Nat.reduceMul, Nat.reduceSub, Nat.reduceLeDiff, Nat.reduceLT]
  refine ⟨pre_of fun j hj => ?_, _, ?_, ho3.mono (by omega)⟩
  · have pp := (p0.trans p1).trans p2
    rw [hk3 j (by have := pre_len pp; omega) fun q => by have := (ho.owner_ge q).1; omega]
    obtain ⟨L, rfl⟩ := pp
    exact List.getElem?_append_left hj
  · have : (idsOf M).map Prod.fst = M.map FileS.name := by rw [idsOf, List.map_map]; rfl
    rw [this] at hl
    exact hl.filter _
end Go.Proofs.YtekpdopbiklkfaaGreatDoor
end
section
set_option linter.unusedVariables false
set_option linter.unusedSimpArgs false
namespace Go.Proofs.YtekpdopbiklkfaaGreatDoor
open Go Go.AW
set_option linter.unusedSimpArgs false
set_option maxRecDepth 20000
theorem cmpSeg_on (l : List Seg) : CmpOn cmpSeg l where
  irrefl x _ := by rw [cmpSeg_lt]; omega
  trans x _ y _ z _ h1 h2 := by rw [cmpSeg_lt] at *; omega
  ntrans x _ y _ z _ h1 h2 := by rw [cmpSeg_lt] at *; omega
theorem once_perm {l m : List Seg} (h : l.Perm m) : Once l ↔ Once m := h.pairwise_iff fun h q => h (cmpSeg_symm q)
theorem sortSegs (l : List Seg) (b : Nat) (H : AHeap) (v : Value) (hown : Own b H Seg.cells 5 v l) (hl : l.length < 1000000) :
    Sound Tryz.prog 108 [v, .func (.func 107) #[] #[]] H fun r H' => r = .tuple #[] ∧ ∃ l', l'.Perm l ∧ (l'.Pairwise fun x y => ¬ cmpSeg y x < 0) ∧ Own b H' Seg.cells 5 v l' ∧ H'.length = H.length ∧ ∀ j, owner v ≠ some j → H'[j]? = H[j]? := by
  refine (sortFunc_struct Tryz.laysSF_f108 (k := 5) ag48 sz48 (by decide) (fun _ => rfl) (fun x _ => rfl) cmpSeg (cmpSeg_on l) 107 #[] hown (by omega) ?_).mono ?_
  · intro H' x y hx hy _ _
    exact (orderLaw x y H').mono fun _ _ h => h.1
  · rintro r H' ⟨rfl, l', h1, h2, h3, h4⟩
    exact ⟨rfl, l', h1, h2, h3, h4⟩
theorem twiceLaw (l : List Seg) (b : Nat) (H : AHeap) (v : Value) (hown : Own b H Seg.cells 5 v l) (hl : l.length < 100000) :
    Sound Tryz.prog 68 [v] H fun r H' => (∃ q : Bool, r = .bool q ∧ (q = true ↔ ¬ Once l)) ∧ H.length ≤ H'.length ∧ ∀ j, j < H.length → owner v ≠ some j → H'[j]? = H[j]? := by
  refine Sound.of_body (rs := [.tmp 2]) mixed Tryz.func68 rfl (by kernel_rfl) rfl (by kernel_rfl) ?_
  simp -dsimp only [go_sem, ↓reduceIte, Nat.reduceEqDiff, Nat.reduceAdd, Nat.reduceMul, Nat.reduceSub, Nat.reduceLeDiff, Nat.reduceLT]
  refine SoundP_of (sortSegs l b H v hown (by omega)) ?_
  rintro _ H1 ⟨rfl, l', hp, hs, ho, hlen, hk⟩
  rw [← once_perm hp]
  have hll := hp.length_eq
  obtain ⟨a, c, rfl, hsl⟩ := ho.sl (fun _ => rfl)
  rw [← hll] at hl
  clear hown hp hll
  simp -dsimp only [go_sem, ↓reduceIte, Nat.reduceEqDiff, Nat.reduceAdd, Nat.reduceMul, Nat.reduceSub, Nat.reduceLeDiff, Nat.reduceLT]
  refine aloopP_of (fun n T H' => ∃ i : Nat, n = l'.length - i ∧ i ≤ l'.length ∧ H1 <+: H' ∧ Once (l'.take i) ∧ T 0 = .slice a l'.length c ∧ T 7 = .int .i64 l'.length ∧ T 8 = .int .i64 (i : Nat)) (n := l'.length) ?_ ?_
  · refine ⟨0, ?_⟩
    simp -dsimp only [go_sem, ↓reduceIte, Nat.reduceEqDiff, Nat.reduceAdd, Nat.reduceMul, Nat.reduceSub, Nat.reduceLeDiff, Nat.reduceLT]
    exact ⟨rfl, Nat.zero_le _, List.prefix_refl _, by simp, rfl⟩
  · rintro n T H' ⟨i, rfl, hi, hpre, hon, t0, t7, t8⟩
    have fin : H.length ≤ H'.length ∧ ∀ j, j < H.length → owner (.slice a l'.length c) ≠ some j → H'[j]? = H[j]? := by
      refine ⟨by have := pre_len hpre; omega, fun j hj hn => ?_⟩
      obtain ⟨L, rfl⟩ := hpre
      rw [List.getElem?_append_left (by omega)]
      exact hk j hn
    simp -dsimp only [go_sem, ↓reduceIte, Nat.reduceEqDiff, Nat.reduceAdd, Nat.reduceMul, Nat.reduceSub, Nat.reduceLeDiff, Nat.reduceLT, t0, t7, t8]
    refine acondP_of (fun h => ?_) (fun h => ?_)
    · simp at h
      obtain ⟨y, hy⟩ := get_ex h
      cases i with
      | zero =>
        simp -dsimp only [go_sem, ↓reduceIte, Nat.reduceEqDiff, Nat.reduceAdd, Nat.reduceMul, Nat.reduceSub, Nat.reduceLeDiff, Nat.reduceLT, t0, t7, t8]
        refine adrawnP_of2 [(0, false), (1, false), (2, false), (3, false), (4, false), (5, false), (6, false), (7, false), (8, false), (9, false), (10, false), (11, false), (12, false), (13, false), (14, false)] (by kernel_rfl) ?_
        have h0 : decide ((0 : Int) < ((0 : Nat) : Int)) = false := rfl
        simp -dsimp only [go_sem, ↓reduceIte, Nat.reduceEqDiff, Nat.reduceAdd, Nat.reduceMul, Nat.reduceSub, Nat.reduceLeDiff, Nat.reduceLT, t0, t7, t8, h0, wrS (show 0 < 4611686018427387904 by omega)]
        exact ⟨_, by omega, 1, rfl, h, hpre, by rw [List.take_add_one, hy]; simp, rfl⟩
      | succ k =>
        obtain ⟨z, hz⟩ := get_ex (show k < l'.length by omega)
        have hpos : decide ((0 : Int) < ((k + 1 : Nat) : Int)) = true := decide_eq_true (by omega)
        obtain ⟨id, off, rfl, hat⟩ := (hsl.pre hpre).at (by omega)
        simp -dsimp only [go_sem, ↓reduceIte, Nat.reduceEqDiff, Nat.reduceAdd, Nat.reduceMul, Nat.reduceSub, Nat.reduceLeDiff, Nat.reduceLT, t0, t7, t8]
        refine adrawnP_of2 [(0, false), (1, false), (2, false), (3, false), (4, false), (5, false), (6, false), (7, false), (8, false), (9, false), (10, false), (11, false), (12, false), (13, false), (14, false)] (by kernel_rfl) ?_
        simp -dsimp only [go_sem, ↓reduceIte, Nat.reduceEqDiff, Nat.reduceAdd, Nat.reduceMul, Nat.reduceSub, Nat.reduceLeDiff, Nat.reduceLT, t0, t7, t8, hpos, wrPS (show k < 4611686018427387904 by omega), inRange h, inRange (show k < l'.length by omega), rowLoad_whole (hat _ y hy), rowLoad_whole (hat _ z hz)]
        refine SoundP_of (orderLaw z y H') ?_
        rintro _ H2 ⟨rfl, p2⟩
        refine grown_any p2 ?_
        have tk : l'.take (k + 1 + 1) = l'.take (k + 1) ++ [y] := by rw [List.take_add_one, hy]; rfl
        have tk1 : l'.take (k + 1) = l'.take k ++ [z] := by rw [List.take_add_one, hz]; rfl
        have hs' := hs
        rw [← List.take_append_drop (k + 1 + 1) l', tk, tk1, List.pairwise_append, List.pairwise_append, List.pairwise_append] at hs'
        have zy : ¬ cmpSeg y z < 0 := hs'.1.2.2 z (by simp) y (by simp)
        have hp2 := hpre.trans p2
        cases hc : (cmpSeg z y == 0) with
        | true =>
          have hc' : cmpSeg z y = 0 := by simpa using hc
          simp -dsimp only [go_sem, ↓reduceIte, Nat.reduceEqDiff, Nat.reduceAdd, Nat.reduceMul, Nat.reduceSub, Nat.reduceLeDiff, Nat.reduceLT, t0, t7, t8, hc]
          refine ⟨⟨true, rfl, ⟨fun _ ho => ?_, fun _ => rfl⟩⟩, by have := pre_len hp2; omega, fun j hj hn => ?_⟩
          · have : Once (l'.take k ++ [z] ++ [y]) := by rw [← tk1, ← tk]; exact List.Pairwise.sublist (List.take_sublist _ _) ho
            exact (List.pairwise_append.1 this).2.2 z (by simp) y (by simp) hc'
          · have hn' : H'[j]? = H[j]? := fin.2 j hj hn
            rw [← hn']
            obtain ⟨L, rfl⟩ := p2
            exact List.getElem?_append_left (by have := fin.1; omega)
        | false =>
          have hc' : ¬ cmpSeg z y = 0 := by simpa using hc
          have hlt : cmpSeg z y < 0 := by rcases cmpSeg_tri z y with q | q | q <;> first | exact q | exact absurd q hc' | exact absurd q zy
          simp -dsimp only [go_sem, ↓reduceIte, Nat.reduceEqDiff, Nat.reduceAdd, Nat.reduceMul, Nat.reduceSub, Nat.reduceLeDiff, Nat.reduceLT, t0, t7, t8, hc, wrS (show k + 1 < 4611686018427387904 by omega)]
          refine ⟨_, by omega, k + 1 + 1, rfl, h, hp2, ?_, rfl⟩
          rw [tk]
          refine List.pairwise_append.2 ⟨hon, by simp, fun w hw u hu => ?_⟩
          obtain rfl : u = y := by simpa using hu
          rw [tk1, List.mem_append, List.mem_singleton] at hw
          rcases hw with hw | rfl
          · have wz : ¬ cmpSeg z w < 0 := hs'.1.1.2.2 w hw z (by simp)
            have wy := cmpSeg_le_trans wz hlt
            omega
          · exact hc'
    · simp at h
      rw [List.take_of_length_le h] at hon
      simp -dsimp only [go_sem, ↓reduceIte, Nat.reduceEqDiff, Nat.reduceAdd, Nat.reduceMul, Nat.reduceSub, Nat.reduceLeDiff, Nat.reduceLT, t0, t7, t8]
      exact ⟨⟨false, rfl, by simp [hon]⟩, fin⟩
end Go.Proofs.YtekpdopbiklkfaaGreatDoor
end
section
set_option linter.unusedVariables false
set_option linter.unusedSimpArgs false
namespace Go.Proofs.YtekpdopbiklkfaaGreatDoor
open Go Go.AW
set_option linter.unusedSimpArgs false
set_option maxRecDepth 20000
theorem strIx (s : ByteArray) {i : Nat} {c : UInt8} (hc : (strB s)[i]? = some c) : aindex Tryz.prog 9 (.string s) (.int .i64 (i : Nat)) = some (.int .u8 c.toNat) := by
  have h : i < s.data.size := get_ltL hc
  have hs : s[i]? = some c := by
    have h2 : s.data[i]? = some c := by rw [← Array.getElem?_toList]; exact hc
    rw [Array.getElem?_eq_getElem h] at h2
    rw [getElem?_pos s i h]
    exact h2
  have hu : Tryz.prog.underlying 9 = some .string := by kernel_rfl
  simp only [aindex, hu, Int.toNat_natCast, hs, Option.map_some]
  rw [if_pos (by omega)]
theorem metaLaw (m : Meta) (hm : m.blob.size < 4000000) (H : AHeap) : Sound Tryz.prog 101 [m.val] H fun v H' => v = .bool (metaB m) ∧ H <+: H' := by
  refine Sound.of_body (rs := [.tmp 2]) mixed Tryz.func101 rfl (by kernel_rfl) rfl (by kernel_rfl) ?_
  have p0 := List.prefix_append H [AObj.row m.cells 8 true]
  have b0 := get_end H (AObj.row m.cells 8 true) []
  have hsz : (strB m.blob).length = m.blob.size := rfl
  simp -dsimp only [go_sem, ↓reduceIte, Nat.reduceEqDiff, Nat.reduceAdd, Nat.reduceMul, Nat.reduceSub, Nat.reduceLeDiff, Nat.reduceLT]
  refine aloopP_of (fun n T H' => ∃ i : Nat, n = m.blob.size - i ∧ i ≤ m.blob.size ∧ H' = H ++ [AObj.row m.cells 8 true] ∧ (∀ c ∈ (strB m.blob).take i, 33 ≤ c.toNat ∧ c.toNat ≤ 126) ∧ T 1 = ptrV H.length ∧ T 6 = .int .i64 m.blob.size ∧ T 7 = .int .i64 (i : Nat)) (n := m.blob.size) ?_ ?_
  · refine ⟨0, ?_⟩
    simp -dsimp only [go_sem, ↓reduceIte, Nat.reduceEqDiff, Nat.reduceAdd, Nat.reduceMul, Nat.reduceSub, Nat.reduceLeDiff, Nat.reduceLT]
    exact ⟨rfl, Nat.zero_le _, by simp, rfl⟩
  · rintro n T H' ⟨i, rfl, hi, hH', hlo, h1, h6, h7⟩
    rw [← hH'] at b0 p0
    simp -dsimp only [go_sem, ↓reduceIte, Nat.reduceEqDiff, Nat.reduceAdd, Nat.reduceMul, Nat.reduceSub, Nat.reduceLeDiff, Nat.reduceLT, h1, h6, h7]
    refine acondP_of (fun h => ?_) (fun h => ?_)
    · simp at h
      obtain ⟨c, hc⟩ := get_ex (l := strB m.blob) (by rw [hsz]; exact h)
      have bad : ¬ (33 ≤ c.toNat ∧ c.toNat ≤ 126) → metaB m = false := fun q => by
        have : (strB m.blob).all (fun b => decide (33 ≤ b.toNat) && decide (b.toNat ≤ 126)) = false := by
          rw [List.all_eq_false]
          exact ⟨c, List.mem_of_getElem? hc, by simp; omega⟩
        simp only [metaB, this, Bool.false_and]
      have hix := strIx m.blob hc
      cases hA : decide ((c.toNat : Int) < 33) with
      | true =>
        have hA' := of_decide_eq_true hA
        simp -dsimp only [go_sem, ↓reduceIte, Nat.reduceEqDiff, Nat.reduceAdd, Nat.reduceMul, Nat.reduceSub, Nat.reduceLeDiff, Nat.reduceLT, h1, h6, h7, b0, hix, hA]
        exact ⟨by rw [bad (by omega)], p0⟩
      | false =>
        have hA' := of_decide_eq_false hA
        cases hB : decide ((126 : Int) < (c.toNat : Int)) with
        | true =>
          have hB' := of_decide_eq_true hB
          simp -dsimp only [go_sem, ↓reduceIte, Nat.reduceEqDiff, Nat.reduceAdd, Nat.reduceMul, Nat.reduceSub, Nat.reduceLeDiff, Nat.reduceLT, h1, h6, h7, b0, hix, hA, hB]
          exact ⟨by rw [bad (by omega)], p0⟩
        | false =>
          have hB' := of_decide_eq_false hB
          simp -dsimp only [go_sem, ↓reduceIte, Nat.reduceEqDiff, Nat.reduceAdd, Nat.reduceMul, Nat.reduceSub, Nat.reduceLeDiff, Nat.reduceLT, h1, h6, h7, b0, hix, hA, hB, wrS (show i < 4611686018427387904 by omega)]
          refine ⟨_, by omega, i + 1, rfl, h, hH', fun z hz => ?_, rfl⟩
          rw [List.take_add_one, hc, List.mem_append] at hz
          rcases hz with hz | hz
          · exact hlo z hz
          · obtain rfl : z = c := by simpa using hz
            omega
    · simp at h
      have hall : (strB m.blob).all (fun b => decide (33 ≤ b.toNat) && decide (b.toNat ≤ 126)) = true := by
        rw [List.all_eq_true]
        intro z hz
        rw [List.take_of_length_le (by rw [hsz]; omega)] at hlo
        simpa using hlo z hz
      simp -dsimp only [go_sem, ↓reduceIte, Nat.reduceEqDiff, Nat.reduceAdd, Nat.reduceMul, Nat.reduceSub, Nat.reduceLeDiff, Nat.reduceLT, h1, h6, h7, b0]
      refine SoundP_of (segmentLaw m.seg H') ?_
      rintro _ H2 ⟨rfl, p2⟩
      have b2 := pre_get p2 b0
      have e0 : metaB m = (mayB m.seg && (decide (0 < m.blob.size) && (decide (m.blob.size ≤ 62) && decide (0 ≤ m.rows)))) := by simp only [metaB, hall, Bool.true_and]
      rw [e0]
      have e1 : decide ((0 : Int) < (m.blob.size : Int)) = decide (0 < m.blob.size) := by rw [Bool.eq_iff_iff]; simp
      have e2 : decide ((m.blob.size : Int) ≤ 62) = decide (m.blob.size ≤ 62) := by rw [Bool.eq_iff_iff]; simp; omega
      cases k1 : mayB m.seg with
      | false =>
        simp -dsimp only [go_sem, ↓reduceIte, Nat.reduceEqDiff, Nat.reduceAdd, Nat.reduceMul, Nat.reduceSub, Nat.reduceLeDiff, Nat.reduceLT, h1, h6, h7, k1, b2]
        exact ⟨rfl, p0.trans p2⟩
      | true =>
        cases k2 : decide (0 < m.blob.size) with
        | false =>
          simp -dsimp only [go_sem, ↓reduceIte, Nat.reduceEqDiff, Nat.reduceAdd, Nat.reduceMul, Nat.reduceSub, Nat.reduceLeDiff, Nat.reduceLT, h1, h6, h7, k1, b2, e1, k2]
          exact ⟨rfl, p0.trans p2⟩
        | true =>
          cases k3 : decide (m.blob.size ≤ 62) with
          | false =>
            simp -dsimp only [go_sem, ↓reduceIte, Nat.reduceEqDiff, Nat.reduceAdd, Nat.reduceMul, Nat.reduceSub, Nat.reduceLeDiff, Nat.reduceLT, h1, h6, h7, k1, b2, e1, k2, e2, k3]
            exact ⟨rfl, p0.trans p2⟩
          | true =>
            simp -dsimp only [go_sem, ↓reduceIte, Nat.reduceEqDiff, Nat.reduceAdd, Nat.reduceMul, Nat.reduceSub, Nat.reduceLeDiff, Nat.reduceLT, h1, h6, h7, k1, b2, e1, k2, e2, k3]
            exact ⟨rfl, p0.trans p2⟩
theorem uB : Tryz.prog.underlying 151 = some (.array 8 4) := by kernel_rfl
theorem ixB (id j : Nat) (h : j < 8) : aindexAddr Tryz.prog 151 (.pointer (some ⟨id, 0, none⟩)) (.int .i64 (j : Nat)) = some (.pointer (some ⟨id, j, none⟩)) := by
  have e : szT Tryz.prog 4 = some 1 := sz4
  simp only [aindexAddr, uB, e, Option.isSome_none, Bool.false_eq_true, if_false, Option.bind_some, Int.toNat_natCast, Addr.add, Nat.mul_one, Nat.zero_add]
  rw [if_pos ⟨by omega, by omega⟩]
  by_cases q : j = 0
  · subst q; rfl
  · rw [if_neg q]
theorem mayF1 (m : Meta) (hm : m.blob.size < 4000000) (H : AHeap) : Sound Tryz.prog 100 [m.val] H fun v H' => v = .bool (!metaB m) ∧ H <+: H' := by
  refine Sound.of_body (rs := [.tmp 2]) mixed Tryz.func100 rfl (by kernel_rfl) rfl (by kernel_rfl) ?_
  simp -dsimp only [go_sem, ↓reduceIte, Nat.reduceEqDiff, Nat.reduceAdd, Nat.reduceMul, Nat.reduceSub, Nat.reduceLeDiff, Nat.reduceLT]
  refine SoundP_of (metaLaw m hm _) ?_
  rintro _ H2 ⟨rfl, p2⟩
  simp -dsimp only [go_sem, ↓reduceIte, Nat.reduceEqDiff, Nat.reduceAdd, Nat.reduceMul, Nat.reduceSub, Nat.reduceLeDiff, Nat.reduceLT]
  exact (List.prefix_append _ _).trans p2
theorem mayF2 (s : Seg) (H : AHeap) : Sound Tryz.prog 103 [s.val] H fun v H' => v = .bool (!mayB s) ∧ H <+: H' := by
  refine Sound.of_body (rs := [.tmp 2]) mixed Tryz.func103 rfl (by kernel_rfl) rfl (by kernel_rfl) ?_
  simp -dsimp only [go_sem, ↓reduceIte, Nat.reduceEqDiff, Nat.reduceAdd, Nat.reduceMul, Nat.reduceSub, Nat.reduceLeDiff, Nat.reduceLT]
  refine SoundP_of (segmentLaw s _) ?_
  rintro _ H2 ⟨rfl, p2⟩
  simp -dsimp only [go_sem, ↓reduceIte, Nat.reduceEqDiff, Nat.reduceAdd, Nat.reduceMul, Nat.reduceSub, Nat.reduceLeDiff, Nat.reduceLT]
  exact (List.prefix_append _ _).trans p2
set_option maxHeartbeats 1000000 in
theorem mayLaw (t : Txn) (n : Nat) (hn : n ≤ 8) (aa ad av : Option Addr) (ca cd cv : Nat) (H : AHeap) (h3 : SlA H Meta.cells 8 aa t.add) (h4 : SlA H Seg.cells 5 ad t.drop) (h5 : SlA H Move.cells 3 av t.moves)
    (hb : ∀ m ∈ t.add, m.blob.size < 4000000) (hlA : t.add.length < 1000000) (hlD : t.drop.length < 1000000) (hlM : t.moves.length < 1000000) :
    Sound Tryz.prog 66 [.agg (txC t aa ad av ca cd cv).toArray, .int .i64 n] H fun v H' => (∃ q : Bool, v = .bool q ∧ (q = true ↔ MayT t n)) ∧ H <+: H' := by
  refine Sound.of_body (rs := [.tmp 4]) mixed Tryz.func66 rfl (by kernel_rfl) rfl (by kernel_rfl) ?_
  have p0 := List.prefix_append H [AObj.row (txC t aa ad av ca cd cv) 7 true]
  have b0 := get_end H (AObj.row (txC t aa ad av ca cd cv) 7 true) []
  have b0' := get_end H (AObj.row (txC t aa ad av ca cd cv) 7 true) [AObj.row ((List.replicate 8 false).map Value.bool) 8 true]
  have hz : List.replicate 8 (Value.bool false) = (List.replicate 8 false).map Value.bool := rfl
  have c0 := get_end1 H (AObj.row (txC t aa ad av ca cd cv) 7 true) (AObj.row ((List.replicate 8 false).map Value.bool) 8 true) []
  simp -dsimp only [go_sem, ↓reduceIte, Nat.reduceEqDiff, Nat.reduceAdd, Nat.reduceMul, Nat.reduceSub, Nat.reduceLeDiff, Nat.reduceLT]
  refine aloop_join (fun T H' => H <+: H' ∧ H'[H.length]? = some (.row (txC t aa ad av ca cd cv) 7 true) ∧ MovesOk t.moves n ∧ T 1 = .int .i64 n ∧ T 2 = ptrV H.length)
    (fun k T H' => ∃ (i : Nat) (bs : List Bool), k = t.moves.length - i ∧ i ≤ t.moves.length ∧ H <+: H' ∧ H'[H.length]? = some (.row (txC t aa ad av ca cd cv) 7 true) ∧ H'[H.length + 1]? = some (.row (bs.map Value.bool) 8 true) ∧ bs.length = 8 ∧ MovesOk (t.moves.take i) n ∧ (∀ q, bs[q]? = some true ↔ ∃ m ∈ t.moves.take i, m.stream = (q : Nat)) ∧
      T 1 = .int .i64 n ∧ T 2 = ptrV H.length ∧ T 5 = ptrV (H.length + 1) ∧ T 10 = .slice av t.moves.length cv ∧ T 11 = .int .i64 t.moves.length ∧ T 12 = .int .i64 (i : Nat)) (n := t.moves.length) ?_ ?_ ?_
  · refine ⟨0, List.replicate 8 false, ?_⟩
    simp -dsimp only [go_sem, ↓reduceIte, Nat.reduceEqDiff, Nat.reduceAdd, Nat.reduceMul, Nat.reduceSub, Nat.reduceLeDiff, Nat.reduceLT]
    have hbs0 : ∀ q : Nat, (List.replicate 8 false)[q]? = some true ↔ False := fun q => by
      rcases Nat.lt_or_ge q 8 with h | h
      · obtain h | h | h | h | h | h | h | h : q = 0 ∨ q = 1 ∨ q = 2 ∨ q = 3 ∨ q = 4 ∨ q = 5 ∨ q = 6 ∨ q = 7 := by omega
        all_goals (subst h; simp)
      · rw [List.getElem?_eq_none (by simpa using h)]; simp
    exact ⟨rfl, Nat.zero_le _, List.prefix_append _ _, rfl, rfl, ⟨fun m hm => (nomatch hm), .nil⟩, fun q => by rw [hbs0 q]; simp, rfl⟩
  · rintro k T H' ⟨i, bs, rfl, hi, hp, hb1, hc1, hbl, hok, hbs, t1, t2, t5, t10, t11, t12⟩
    simp -dsimp only [go_sem, ↓reduceIte, Nat.reduceEqDiff, Nat.reduceAdd, Nat.reduceMul, Nat.reduceSub, Nat.reduceLeDiff, Nat.reduceLT, t1, t2, t5, t10, t11, t12]
    refine acondP_of (fun h => ?_) (fun h => ?_)
    · simp at h
      obtain ⟨x, hx⟩ := get_ex h
      obtain ⟨id, off, rfl, hat⟩ := (h5.pre hp).at (by omega)
      have px := List.prefix_append H' [AObj.row x.cells 3 true]
      have hb1x := pre_get px hb1
      have hc1x := pre_get px hc1
      have hpx := hp.trans px
      have hxm : x ∈ t.moves := List.mem_of_getElem? hx
      have tk : t.moves.take (i + 1) = t.moves.take i ++ [x] := by rw [List.take_add_one, hx]; rfl
      cases hA : decide (x.stream < 0) with
      | true =>
        have hA' := of_decide_eq_true hA
        simp -dsimp only [go_sem, ↓reduceIte, Nat.reduceEqDiff, Nat.reduceAdd, Nat.reduceMul, Nat.reduceSub, Nat.reduceLeDiff, Nat.reduceLT, t1, t2, t5, t10, t11, t12, inRange h, rowLoad_whole (hat i x hx), hA]
        exact ⟨⟨false, rfl, ⟨fun q => by (cases q), fun q => by have := (q.1.1 x hxm).1; omega⟩⟩, hpx⟩
      | false =>
        have hA' := of_decide_eq_false hA
        cases hB : decide ((n : Int) ≤ x.stream) with
        | true =>
          have hB' := of_decide_eq_true hB
          simp -dsimp only [go_sem, ↓reduceIte, Nat.reduceEqDiff, Nat.reduceAdd, Nat.reduceMul, Nat.reduceSub, Nat.reduceLeDiff, Nat.reduceLT, t1, t2, t5, t10, t11, t12, inRange h, rowLoad_whole (hat i x hx), hA, hB]
          exact ⟨⟨false, rfl, ⟨fun q => by (cases q), fun q => by have := (q.1.1 x hxm).2; omega⟩⟩, hpx⟩
        | false =>
          have hB' := of_decide_eq_false hB
          obtain ⟨q, hq⟩ := Int.eq_ofNat_of_zero_le (show 0 ≤ x.stream by omega)
          have hq8 : q < bs.length := by omega
          obtain ⟨bq, hbq⟩ := get_ex hq8
          have hxe : x = ⟨(q : Int), x.from_, x.to_⟩ := by rw [← hq]
          have hat' := hat i x hx
          rw [hq] at hA hB
          rw [hxe] at hat' px hb1x hc1x hpx
          have hlen8 : (bs.map Value.bool).length = 8 := by rw [List.length_map]; exact hbl
          have hmq : (bs.map Value.bool)[q]? = some (.bool bq) := by rw [List.getElem?_map, hbq]; rfl
          have hld := rowLoad_one0 (v := .bool bq) (by rw [aload_row hc1x q 1 (by omega), drop_get hmq]; rfl) (some 1)
          cases bq with
          | true =>
            simp -dsimp only [go_sem, ↓reduceIte, Nat.reduceEqDiff, Nat.reduceAdd, Nat.reduceMul, Nat.reduceSub, Nat.reduceLeDiff, Nat.reduceLT, t1, t2, t5, t10, t11, t12, inRange h, rowLoad_whole hat', hA, hB, ixB _ _ (show q < 8 by omega), hld]
            refine ⟨⟨false, rfl, ⟨fun w => by (cases w), fun w => ?_⟩⟩, hpx⟩
            obtain ⟨y, hy, hys⟩ := (hbs q).1 hbq
            have hp2 : (t.moves.take i ++ [x]).Pairwise fun a b => a.stream ≠ b.stream := by rw [← tk]; exact List.Pairwise.sublist (List.take_sublist _ _) w.1.2
            exact absurd (hys.trans hq.symm) ((List.pairwise_append.1 hp2).2.2 y hy x (by simp))
          | false =>
            have hst : (H' ++ [AObj.row (Move.cells ⟨(q : Int), x.from_, x.to_⟩) 3 true])[H.length + 1]?.bind (rowStore q [.bool true]) = some (.row ((bs.set q true).map Value.bool) 8 true) := by
              rw [hc1x]
              simp only [Option.bind_some, rowStore, List.length_singleton]
              rw [if_pos (by omega)]
              congr 2
              rw [List.map_set, List.set_eq_take_append_cons_drop, if_pos (by omega), List.append_assoc]; rfl
            simp -dsimp only [go_sem, ↓reduceIte, Nat.reduceEqDiff, Nat.reduceAdd, Nat.reduceMul, Nat.reduceSub, Nat.reduceLeDiff, Nat.reduceLT, t1, t2, t5, t10, t11, t12, inRange h, rowLoad_whole hat', hA, hB, ixB _ _ (show q < 8 by omega), hld, hst, wrS (show i < 4611686018427387904 by omega)]
            have hlx := pre_len hpx
            have hlt1 := get_lt hc1x
            refine ⟨_, by omega, i + 1, bs.set q true, rfl, h, pre_set hpx (by omega) _, by rw [List.getElem?_set_ne (by omega)]; exact hb1x, List.getElem?_set_self hlt1, by rw [List.length_set]; exact hbl, ?_, fun k => ?_, rfl⟩
            · rw [tk]
              refine ⟨fun m hm => ?_, List.pairwise_append.2 ⟨hok.2, by simp, fun y hy z hz => ?_⟩⟩
              · rcases List.mem_append.1 hm with hm | hm
                · exact hok.1 m hm
                · obtain rfl : m = x := by simpa using hm
                  omega
              · obtain rfl : z = x := by simpa using hz
                intro e
                have := (hbs q).2 ⟨y, hy, e.trans hq⟩
                rw [hbq] at this; cases this
            · rw [tk]
              by_cases hk : k = q
              · subst hk
                rw [List.getElem?_set_self hq8]
                simp only [true_iff]
                exact ⟨x, by simp, hq⟩
              · rw [List.getElem?_set_ne (Ne.symm hk), hbs k]
                constructor
                · rintro ⟨y, hy, e⟩; exact ⟨y, by simp [hy], e⟩
                · rintro ⟨y, hy, e⟩
                  rcases List.mem_append.1 hy with hy | hy
                  · exact ⟨y, hy, e⟩
                  · obtain rfl : y = x := by simpa using hy
                    omega
    · simp at h
      rw [List.take_of_length_le h] at hok
      simp -dsimp only [go_sem, ↓reduceIte, Nat.reduceEqDiff, Nat.reduceAdd, Nat.reduceMul, Nat.reduceSub, Nat.reduceLeDiff, Nat.reduceLT, t1, t2, t5, t10, t11, t12]
      exact ⟨hp, hb1, hok⟩
  · rintro T H2 ⟨hp, hb2, hok, t1, t2⟩
    have hall1 : (t.add.any fun m => !metaB m) = false ↔ ∀ m ∈ t.add, metaB m = true := by simp [List.any_eq_false]
    have hall2 : (t.drop.any fun x => !mayB x) = false ↔ ∀ x ∈ t.drop, mayB x = true := by simp [List.any_eq_false]
    have no : ¬ (0 ≤ t.term ∧ (t.wt ≤ t.wf ∨ (0 ≤ t.wf ∧ t.wt ≤ 1099511627776)) ∧ (∀ m ∈ t.add, metaB m = true) ∧ (∀ x ∈ t.drop, mayB x = true)) → (∃ q : Bool, Value.bool false = .bool q ∧ (q = true ↔ MayT t n)) := fun w => ⟨false, rfl, ⟨fun w2 => by (cases w2), fun w2 => absurd w2.2 w⟩⟩
    have rest : (t.wt ≤ t.wf ∨ (0 ≤ t.wf ∧ t.wt ≤ 1099511627776)) → ∀ (T : Tm), True := fun _ _ => trivial
    cases hA : decide (0 ≤ t.term) with
    | false =>
      have hA' := of_decide_eq_false hA
      simp -dsimp only [go_sem, ↓reduceIte, Nat.reduceEqDiff, Nat.reduceAdd, Nat.reduceMul, Nat.reduceSub, Nat.reduceLeDiff, Nat.reduceLT, t1, t2, hb2, hA]
      exact ⟨no fun w => hA' w.1, hp⟩
    | true =>
      have hA' := of_decide_eq_true hA
      cases hB : decide (t.wt ≤ t.wf) with
      | true =>
        have hB' := of_decide_eq_true hB
        simp -dsimp only [go_sem, ↓reduceIte, Nat.reduceEqDiff, Nat.reduceAdd, Nat.reduceMul, Nat.reduceSub, Nat.reduceLeDiff, Nat.reduceLT, t1, t2, hb2, hA, hB]
        refine SoundP_of (containsM t.add (fun m => !metaB m) _ #[] #[] aa ca H2 (h3.pre hp) (by omega) fun x hx H' _ => mayF1 x (hb x hx) H') ?_
        rintro _ H3 ⟨rfl, p3⟩
        have hb3 := pre_get p3 hb2
        cases hC : (t.add.any fun m => !metaB m) with
        | true =>
          simp -dsimp only [go_sem, ↓reduceIte, Nat.reduceEqDiff, Nat.reduceAdd, Nat.reduceMul, Nat.reduceSub, Nat.reduceLeDiff, Nat.reduceLT, t1, t2, hC]
          exact ⟨no (fun w => by rw [hall1.2 w.2.2.1] at hC; cases hC), hp.trans p3⟩
        | false =>
          simp -dsimp only [go_sem, ↓reduceIte, Nat.reduceEqDiff, Nat.reduceAdd, Nat.reduceMul, Nat.reduceSub, Nat.reduceLeDiff, Nat.reduceLT, t1, t2, hC, hb3]
          refine SoundP_of (containsS t.drop (fun x => !mayB x) _ #[] #[] ad cd H3 ((h4.pre hp).pre p3) (by omega) fun x hx H' _ => mayF2 x H') ?_
          rintro _ H4 ⟨rfl, p4⟩
          cases hD : (t.drop.any fun x => !mayB x) with
          | true =>
            simp -dsimp only [go_sem, ↓reduceIte, Nat.reduceEqDiff, Nat.reduceAdd, Nat.reduceMul, Nat.reduceSub, Nat.reduceLeDiff, Nat.reduceLT, t1, t2, hD]
            exact ⟨no (fun w => by rw [hall2.2 w.2.2.2] at hD; cases hD), (hp.trans p3).trans p4⟩
          | false =>
            simp -dsimp only [go_sem, ↓reduceIte, Nat.reduceEqDiff, Nat.reduceAdd, Nat.reduceMul, Nat.reduceSub, Nat.reduceLeDiff, Nat.reduceLT, t1, t2, hD]
            exact ⟨⟨true, rfl, ⟨fun _ => ⟨hok, hA', .inl hB', hall1.1 hC, hall2.1 hD⟩, fun _ => rfl⟩⟩, (hp.trans p3).trans p4⟩
      | false =>
        have hB' := of_decide_eq_false hB
        cases hE : decide (0 ≤ t.wf) with
        | false =>
          have hE' := of_decide_eq_false hE
          simp -dsimp only [go_sem, ↓reduceIte, Nat.reduceEqDiff, Nat.reduceAdd, Nat.reduceMul, Nat.reduceSub, Nat.reduceLeDiff, Nat.reduceLT, t1, t2, hb2, hA, hB, hE]
          exact ⟨no fun w => by have := w.2.1; omega, hp⟩
        | true =>
          have hE' := of_decide_eq_true hE
          cases hF : decide (t.wt ≤ 1099511627776) with
          | false =>
            have hF' := of_decide_eq_false hF
            simp -dsimp only [go_sem, ↓reduceIte, Nat.reduceEqDiff, Nat.reduceAdd, Nat.reduceMul, Nat.reduceSub, Nat.reduceLeDiff, Nat.reduceLT, t1, t2, hb2, hA, hB, hE, hF]
            exact ⟨no fun w => by have := w.2.1; omega, hp⟩
          | true =>
            have hF' := of_decide_eq_true hF
            simp -dsimp only [go_sem, ↓reduceIte, Nat.reduceEqDiff, Nat.reduceAdd, Nat.reduceMul, Nat.reduceSub, Nat.reduceLeDiff, Nat.reduceLT, t1, t2, hb2, hA, hB, hE, hF]
            refine SoundP_of (containsM t.add (fun m => !metaB m) _ #[] #[] aa ca H2 (h3.pre hp) (by omega) fun x hx H' _ => mayF1 x (hb x hx) H') ?_
            rintro _ H3 ⟨rfl, p3⟩
            have hb3 := pre_get p3 hb2
            cases hC : (t.add.any fun m => !metaB m) with
            | true =>
              simp -dsimp only [go_sem, ↓reduceIte, Nat.reduceEqDiff, Nat.reduceAdd, Nat.reduceMul, Nat.reduceSub, Nat.reduceLeDiff, Nat.reduceLT, t1, t2, hC]
              exact ⟨no (fun w => by rw [hall1.2 w.2.2.1] at hC; cases hC), hp.trans p3⟩
            | false =>
              simp -dsimp only [go_sem, ↓reduceIte, Nat.reduceEqDiff, Nat.reduceAdd, Nat.reduceMul, Nat.reduceSub, Nat.reduceLeDiff, Nat.reduceLT, t1, t2, hC, hb3]
              refine SoundP_of (containsS t.drop (fun x => !mayB x) _ #[] #[] ad cd H3 ((h4.pre hp).pre p3) (by omega) fun x hx H' _ => mayF2 x H') ?_
              rintro _ H4 ⟨rfl, p4⟩
              cases hD : (t.drop.any fun x => !mayB x) with
              | true =>
                simp -dsimp only [go_sem, ↓reduceIte, Nat.reduceEqDiff, Nat.reduceAdd, Nat.reduceMul, Nat.reduceSub, Nat.reduceLeDiff, Nat.reduceLT, t1, t2, hD]
                exact ⟨no (fun w => by rw [hall2.2 w.2.2.2] at hD; cases hD), (hp.trans p3).trans p4⟩
              | false =>
                simp -dsimp only [go_sem, ↓reduceIte, Nat.reduceEqDiff, Nat.reduceAdd, Nat.reduceMul, Nat.reduceSub, Nat.reduceLeDiff, Nat.reduceLT, t1, t2, hD]
                exact ⟨⟨true, rfl, ⟨fun _ => ⟨hok, hA', .inr ⟨hE', hF'⟩, hall1.1 hC, hall2.1 hD⟩, fun _ => rfl⟩⟩, (hp.trans p3).trans p4⟩
end Go.Proofs.YtekpdopbiklkfaaGreatDoor
end
section
set_option linter.unusedVariables false
set_option linter.unusedSimpArgs false
namespace Go.Proofs.YtekpdopbiklkfaaGreatDoor
open Go Go.AW
set_option linter.unusedSimpArgs false
set_option maxRecDepth 20000
theorem appSeg {b : Nat} {H : AHeap} {v : Value} {l : List Seg} (h : Own b H Seg.cells 5 v l) (hb : b ≤ H.length) (hl : l.length < 90000) (x : Seg) :
    ∃ v' H', aappend Tryz.prog (H ++ [.row x.cells 5 true]) 29 29 v (.slice (some ⟨H.length, 0, none⟩) 1 1) = some (v', H') ∧ App b H Seg.cells 5 v v' H' (l ++ [x]) := by
  obtain ⟨v', H2, h1, h2, h3, h4, h5⟩ := Own.app1b un29 el29 inf48 rfl (by decide) (by decide) (fun _ => rfl) (fun _ => rfl) hb h x (by omega)
  exact ⟨v', H2, h1, h2, h3, h4, h5⟩
set_option maxHeartbeats 2000000 in
theorem refusedLaw (s : St) (t : Txn) (am ao aa ad av : Option Addr) (cm co ca cd cv : Nat) (H : AHeap) (h1 : SlA H Meta.cells 8 am s.metas) (h2 : SlA H encU 1 ao s.offs) (h3 : SlA H Meta.cells 8 aa t.add) (h4 : SlA H Seg.cells 5 ad t.drop) (h5 : SlA H Move.cells 3 av t.moves)
    (hr : Ranked s.metas) (hl : s.metas.length ≤ 3000) (ho : s.offs.length ≤ 8) (hb : ∀ m ∈ t.add, m.blob.size < 4000000) (hlA : t.add.length ≤ 3000) (hlD : t.drop.length ≤ 3000) (hlM : t.moves.length < 1000000) :
    Sound Tryz.prog 40 [.agg (stC s am ao cm co).toArray, .agg (txC t aa ad av ca cd cv).toArray] H fun v H' => v = .int .i64 (refusedS s t) ∧ H <+: H' := by
  refine Sound.of_body (rs := [.tmp 4]) mixed Tryz.func40 rfl (by kernel_rfl) rfl (by kernel_rfl) ?_
  have p0 : H <+: H ++ [AObj.row (stC s am ao cm co) 5 true, AObj.row (txC t aa ad av ca cd cv) 7 true] := List.prefix_append _ _
  have b0 := get_end H (AObj.row (stC s am ao cm co) 5 true) [AObj.row (txC t aa ad av ca cd cv) 7 true]
  have c0 := get_end1 H (AObj.row (stC s am ao cm co) 5 true) (AObj.row (txC t aa ad av ca cd cv) 7 true) []
  simp -dsimp only [go_sem, ↓reduceIte, Nat.reduceEqDiff, Nat.reduceAdd, Nat.reduceMul, Nat.reduceSub, Nat.reduceLeDiff, Nat.reduceLT]
  refine SoundP_of (mayLaw t s.offs.length ho aa ad av ca cd cv _ (h3.pre p0) (h4.pre p0) (h5.pre p0) hb (by omega) (by omega) hlM) ?_
  rintro _ H1 ⟨⟨q, rfl, hq⟩, p1⟩
  have b1 := pre_get p1 b0
  have c1 := pre_get p1 c0
  have r1 := p0.trans p1
  cases q with
  | false =>
    have hno : ¬ MayT t s.offs.length := fun w => by have := hq.2 w; cases this
    simp -dsimp only [go_sem, ↓reduceIte, Nat.reduceEqDiff, Nat.reduceAdd, Nat.reduceMul, Nat.reduceSub, Nat.reduceLeDiff, Nat.reduceLT]
    exact ⟨by rw [refusedS, if_pos hno], r1⟩
  | true =>
    have hmay := hq.1 rfl
    have e1 : ¬ ¬ MayT t s.offs.length := not_not_intro hmay
    cases hA : (t.epoch != s.epoch) with
    | true =>
      have hA' : t.epoch ≠ s.epoch := by simpa using hA
      simp -dsimp only [go_sem, ↓reduceIte, Nat.reduceEqDiff, Nat.reduceAdd, Nat.reduceMul, Nat.reduceSub, Nat.reduceLeDiff, Nat.reduceLT, b1, c1, hA]
      exact ⟨by rw [refusedS, if_neg e1, if_pos hA'], r1⟩
    | false =>
      have hA' : ¬ t.epoch ≠ s.epoch := by simpa using hA
      have step3 : (¬ (t.term ≠ 0 ∧ t.term ≠ s.term)) → True := fun _ => trivial
      cases hT : (t.term != 0 && t.term != s.term) with
      | true =>
        simp only [Bool.and_eq_true] at hT
        have hT' : t.term ≠ 0 ∧ t.term ≠ s.term := ⟨by simpa using hT.1, by simpa using hT.2⟩
        simp -dsimp only [go_sem, ↓reduceIte, Nat.reduceEqDiff, Nat.reduceAdd, Nat.reduceMul, Nat.reduceSub, Nat.reduceLeDiff, Nat.reduceLT, b1, c1, hA, hT.1, hT.2]
        exact ⟨by rw [refusedS, if_neg e1, if_neg hA', if_pos hT'], r1⟩
      | false =>
        have hT' : ¬ (t.term ≠ 0 ∧ t.term ≠ s.term) := by simpa using hT
        have bits : (t.term != 0) = false ∨ (t.term != 0) = true ∧ (t.term != s.term) = false := by
          cases h : (t.term != 0) with
          | false => exact .inl rfl
          | true => rw [h, Bool.true_and] at hT; exact .inr ⟨rfl, hT⟩
        have hs1 : refusedS s t = if ∃ m ∈ t.moves, m.from_ ≠ s.offs.getD m.stream.toNat 0 ∨ m.to_ < m.from_ then 142
            else if ∃ m ∈ t.add, hasB s.metas m.seg = true then 121
            else if ¬ Once (t.add.map Meta.seg) then 121
            else if ∃ x ∈ t.drop, hasB s.metas x = false then 120
            else if ¬ Once t.drop then 120
            else if (1000 : Int) < s.metas.length + t.add.length - t.drop.length then 90
            else 0 := by rw [refusedS, if_neg e1, if_neg hA', if_neg hT']
        have hmv := hmay.1.1
        rw [hs1]
        clear hs1
        rcases bits with w1 | ⟨w1, w2⟩
        rotate_left
        simp -dsimp only [go_sem, ↓reduceIte, Nat.reduceEqDiff, Nat.reduceAdd, Nat.reduceMul, Nat.reduceSub, Nat.reduceLeDiff, Nat.reduceLT, b1, c1, hA, w1, w2]
        rotate_left
        simp -dsimp only [go_sem, ↓reduceIte, Nat.reduceEqDiff, Nat.reduceAdd, Nat.reduceMul, Nat.reduceSub, Nat.reduceLeDiff, Nat.reduceLT, b1, c1, hA, w1]
        all_goals
          refine aloop_join (fun T H' => H <+: H' ∧ H'[H.length]? = some (.row (stC s am ao cm co) 5 true) ∧ H'[H.length + 1]? = some (.row (txC t aa ad av ca cd cv) 7 true) ∧ (¬ ∃ m ∈ t.moves, m.from_ ≠ s.offs.getD m.stream.toNat 0 ∨ m.to_ < m.from_) ∧ T 2 = ptrV H.length ∧ T 3 = ptrV (H.length + 1))
            (fun k T H' => ∃ i : Nat, k = t.moves.length - i ∧ i ≤ t.moves.length ∧ H <+: H' ∧ H'[H.length]? = some (.row (stC s am ao cm co) 5 true) ∧ H'[H.length + 1]? = some (.row (txC t aa ad av ca cd cv) 7 true) ∧ (¬ ∃ m ∈ t.moves.take i, m.from_ ≠ s.offs.getD m.stream.toNat 0 ∨ m.to_ < m.from_) ∧
              T 2 = ptrV H.length ∧ T 3 = ptrV (H.length + 1) ∧ T 38 = .slice av t.moves.length cv ∧ T 39 = .int .i64 t.moves.length ∧ T 40 = .int .i64 (i : Nat)) (n := t.moves.length) ?_ ?_ ?_
          · refine ⟨0, ?_⟩
            simp -dsimp only [go_sem, ↓reduceIte, Nat.reduceEqDiff, Nat.reduceAdd, Nat.reduceMul, Nat.reduceSub, Nat.reduceLeDiff, Nat.reduceLT]
            exact ⟨rfl, Nat.zero_le _, r1, b1, c1, by simp, rfl⟩
          · rintro k T H' ⟨i, rfl, hi, hp, hb', hc', hno, t2, t3, t38, t39, t40⟩
            simp -dsimp only [go_sem, ↓reduceIte, Nat.reduceEqDiff, Nat.reduceAdd, Nat.reduceMul, Nat.reduceSub, Nat.reduceLeDiff, Nat.reduceLT, t2, t3, t38, t39, t40]
            refine acondP_of (fun h => ?_) (fun h => ?_)
            · simp at h
              obtain ⟨x, hx⟩ := get_ex h
              obtain ⟨id, off, rfl, hat⟩ := (h5.pre hp).at (by omega)
              have hxm : x ∈ t.moves := List.mem_of_getElem? hx
              have hst := hmv x hxm
              obtain ⟨q, hqe⟩ := Int.eq_ofNat_of_zero_le hst.1
              obtain ⟨o, hoq⟩ := get_ex (show q < s.offs.length by omega)
              have hxe : x = ⟨(q : Int), x.from_, x.to_⟩ := by rw [← hqe]
              have hat' := hat i x hx
              have px := List.prefix_append H' [AObj.row x.cells 3 true]
              rw [hxe] at hat' px
              have hbx := pre_get px hb'
              have hpx := hp.trans px
              obtain ⟨id2, off2, rfl, hat2⟩ := (h2.pre hpx).at (by omega)
              have hgd : s.offs.getD x.stream.toNat 0 = o := by rw [hqe]; show s.offs.getD q 0 = o; rw [List.getD_eq_getElem?_getD, hoq]; rfl
              have hqr := inRange (show q < s.offs.length by omega)
              simp -dsimp only [go_sem, ↓reduceIte, Nat.reduceEqDiff, Nat.reduceAdd, Nat.reduceMul, Nat.reduceSub, Nat.reduceLeDiff, Nat.reduceLT, t2, t3, t38, t39, t40, inRange h, rowLoad_whole hat']
              refine adrawnP_of2 [(0, false), (1, false), (2, false), (3, false), (4, false), (5, false), (6, false), (7, false), (8, false), (9, false), (10, false), (11, false), (12, false), (13, false), (14, false), (15, false)] (by kernel_rfl) ?_
              cases hN : (x.from_ != o) with
              | true =>
                have hN' : x.from_ ≠ o := by simpa using hN
                simp -dsimp only [go_sem, ↓reduceIte, Nat.reduceEqDiff, Nat.reduceAdd, Nat.reduceMul, Nat.reduceSub, Nat.reduceLeDiff, Nat.reduceLT, t2, t3, t38, t39, t40, hbx, hqr, rowLoad_one0 (hat2 q o hoq), hN]
                exact ⟨by rw [if_pos ⟨x, hxm, .inl (by rw [hgd]; exact hN')⟩], hpx⟩
              | false =>
                have hN' : ¬ x.from_ ≠ o := by simpa using hN
                cases hL : decide (x.to_ < x.from_) with
                | true =>
                  have hL' := of_decide_eq_true hL
                  simp -dsimp only [go_sem, ↓reduceIte, Nat.reduceEqDiff, Nat.reduceAdd, Nat.reduceMul, Nat.reduceSub, Nat.reduceLeDiff, Nat.reduceLT, t2, t3, t38, t39, t40, hbx, hqr, rowLoad_one0 (hat2 q o hoq), hN, hL]
                  exact ⟨by rw [if_pos ⟨x, hxm, .inr hL'⟩], hpx⟩
                | false =>
                  have hL' := of_decide_eq_false hL
                  simp -dsimp only [go_sem, ↓reduceIte, Nat.reduceEqDiff, Nat.reduceAdd, Nat.reduceMul, Nat.reduceSub, Nat.reduceLeDiff, Nat.reduceLT, t2, t3, t38, t39, t40, hbx, hqr, rowLoad_one0 (hat2 q o hoq), hN, hL, wrS (show i < 4611686018427387904 by omega)]
                  refine ⟨_, by omega, i + 1, rfl, h, hpx, pre_get px hc', ?_, rfl⟩
                  rintro ⟨m, hm, hbad⟩
                  rw [List.take_add_one, hx, List.mem_append] at hm
                  rcases hm with hm | hm
                  · exact hno ⟨m, hm, hbad⟩
                  · obtain rfl : m = x := by simpa using hm
                    rw [hgd] at hbad
                    exact hbad.elim hN' hL'
            · simp at h
              rw [List.take_of_length_le h] at hno
              simp -dsimp only [go_sem, ↓reduceIte, Nat.reduceEqDiff, Nat.reduceAdd, Nat.reduceMul, Nat.reduceSub, Nat.reduceLeDiff, Nat.reduceLT, t2, t3, t38, t39, t40]
              exact ⟨hp, hb', hc', hno⟩
          · rintro T H2 ⟨hp2, hb2, hc2, hno2, t2, t3⟩
            rw [if_neg hno2]
            simp -dsimp only [go_sem, ↓reduceIte, Nat.reduceEqDiff, Nat.reduceAdd, Nat.reduceMul, Nat.reduceSub, Nat.reduceLeDiff, Nat.reduceLT, t2, t3, hc2]
            refine aloop_join (fun T H' => ∃ v, H <+: H' ∧ H'[H.length]? = some (.row (stC s am ao cm co) 5 true) ∧ H'[H.length + 1]? = some (.row (txC t aa ad av ca cd cv) 7 true) ∧ (¬ ∃ m ∈ t.add, hasB s.metas m.seg = true) ∧ Own (H.length + 2) H' Seg.cells 5 v (t.add.map Meta.seg) ∧ T 2 = ptrV H.length ∧ T 3 = ptrV (H.length + 1) ∧ T 7 = v)
              (fun k T H' => ∃ (i : Nat) (v : Value), k = t.add.length - i ∧ i ≤ t.add.length ∧ H <+: H' ∧ H'[H.length]? = some (.row (stC s am ao cm co) 5 true) ∧ H'[H.length + 1]? = some (.row (txC t aa ad av ca cd cv) 7 true) ∧ (¬ ∃ m ∈ t.add.take i, hasB s.metas m.seg = true) ∧ Own (H.length + 2) H' Seg.cells 5 v ((t.add.take i).map Meta.seg) ∧
                T 2 = ptrV H.length ∧ T 3 = ptrV (H.length + 1) ∧ T 7 = v ∧ T 62 = .slice aa t.add.length ca ∧ T 63 = .int .i64 t.add.length ∧ T 64 = .int .i64 (i : Nat)) (n := t.add.length) ?_ ?_ ?_
            · refine ⟨0, .slice none 0 0, ?_⟩
              simp -dsimp only [go_sem, ↓reduceIte, Nat.reduceEqDiff, Nat.reduceAdd, Nat.reduceMul, Nat.reduceSub, Nat.reduceLeDiff, Nat.reduceLT, t2, t3]
              exact ⟨rfl, Nat.zero_le _, hp2, hb2, hc2, by simp, Own.nil _ _ _ _, rfl⟩
            · rintro k T H' ⟨i, v, rfl, hi, hp, hb', hc', hno, hown, t2, t3, t7, t62, t63, t64⟩
              simp -dsimp only [go_sem, ↓reduceIte, Nat.reduceEqDiff, Nat.reduceAdd, Nat.reduceMul, Nat.reduceSub, Nat.reduceLeDiff, Nat.reduceLT, t2, t3, t7, t62, t63, t64]
              refine acondP_of (fun h => ?_) (fun h => ?_)
              · simp at h
                obtain ⟨x, hx⟩ := get_ex h
                obtain ⟨id, off, rfl, hat⟩ := (h3.pre hp).at (by omega)
                have hxm : x ∈ t.add := List.mem_of_getElem? hx
                have px := List.prefix_append H' [AObj.row x.cells 8 true]
                have hbx := pre_get px hb'
                simp -dsimp only [go_sem, ↓reduceIte, Nat.reduceEqDiff, Nat.reduceAdd, Nat.reduceMul, Nat.reduceSub, Nat.reduceLeDiff, Nat.reduceLT, t2, t3, t7, t62, t63, t64, inRange h, rowLoad_whole (hat i x hx), hbx]
                refine SoundP_of (findLaw s.metas x.seg am cm _ (h1.pre (hp.trans px)) (by omega) hr) ?_
                rintro _ H3 ⟨k, rfl, -, p3⟩
                have q3 := px.trans p3
                have r3 := hp.trans q3
                have gx := pre_get p3 (get_end H' (AObj.row x.cells 8 true) [])
                cases hB : hasB s.metas x.seg with
                | true =>
                  simp -dsimp only [go_sem, ↓reduceIte, Nat.reduceEqDiff, Nat.reduceAdd, Nat.reduceMul, Nat.reduceSub, Nat.reduceLeDiff, Nat.reduceLT, t2, t3, t7, t62, t63, t64, hB]
                  exact ⟨by rw [if_pos ⟨x, hxm, hB⟩], r3⟩
                | false =>
                  have hl3 : H.length + 2 ≤ H3.length := by have := get_lt (pre_get q3 hc'); omega
                  have hlt : ((t.add.take i).map Meta.seg).length < 90000 := by rw [List.length_map, List.length_take]; omega
                  obtain ⟨v', H4, e, ap⟩ := appSeg (hown.pre q3) hl3 hlt x.seg
                  simp -dsimp only [go_sem, ↓reduceIte, Nat.reduceEqDiff, Nat.reduceAdd, Nat.reduceMul, Nat.reduceSub, Nat.reduceLeDiff, Nat.reduceLT, t2, t3, t7, t62, t63, t64, hB, gx, e, wrS (show i < 4611686018427387904 by omega)]
                  have ow : ∀ j, owner v = some j → H.length + 2 ≤ j := fun j hj => (hown.owner_ge hj).1
                  have fr4 : ∀ j, j < H.length + 2 → H4[j]? = H3[j]? := fun j hj => ap.fr j (by omega) fun w => by have := ow _ w; omega
                  refine ⟨_, by omega, i + 1, v', rfl, h, pre_of fun j hj => ?_, (fr4 _ (by omega)).trans (pre_get q3 hb'), (fr4 _ (by omega)).trans (pre_get q3 hc'), ?_, ?_, rfl, rfl⟩
                  · rw [fr4 j (by omega)]
                    obtain ⟨L, rfl⟩ := r3
                    exact List.getElem?_append_left hj
                  · rintro ⟨m, hm, hbad⟩
                    rw [List.take_add_one, hx, List.mem_append] at hm
                    rcases hm with hm | hm
                    · exact hno ⟨m, hm, hbad⟩
                    · obtain rfl : m = x := by simpa using hm
                      rw [hB] at hbad; cases hbad
                  · rw [List.take_add_one, hx, List.map_append]; exact ap.own
              · simp at h
                rw [List.take_of_length_le h] at hno hown
                simp -dsimp only [go_sem, ↓reduceIte, Nat.reduceEqDiff, Nat.reduceAdd, Nat.reduceMul, Nat.reduceSub, Nat.reduceLeDiff, Nat.reduceLT, t2, t3, t7, t62, t63, t64]
                exact ⟨v, hp, hb', hc', hno, hown, rfl⟩
            · rintro T H3 ⟨v, hp3, hb3, hc3, hno3, hown, t2, t3, t7⟩
              rw [if_neg hno3]
              simp -dsimp only [go_sem, ↓reduceIte, Nat.reduceEqDiff, Nat.reduceAdd, Nat.reduceMul, Nat.reduceSub, Nat.reduceLeDiff, Nat.reduceLT, t2, t3, t7]
              refine SoundP_of (twiceLaw _ _ H3 v hown (by rw [List.length_map]; omega)) ?_
              rintro _ H4 ⟨⟨q, rfl, hq4⟩, hl4, hk4⟩
              have ow : ∀ j, owner v = some j → H.length + 2 ≤ j := fun j hj => (hown.owner_ge hj).1
              have hc3l := get_lt hc3
              have fr4 : ∀ j, j < H.length + 2 → H4[j]? = H3[j]? := fun j hj => hk4 j (by omega) fun w => by have := ow _ w; omega
              have hp4 : H <+: H4 := pre_of fun j hj => by
                rw [fr4 j (by omega)]
                obtain ⟨L, rfl⟩ := hp3
                exact List.getElem?_append_left hj
              have hb4 := (fr4 _ (by omega)).trans hb3
              have hc4 := (fr4 _ (by omega)).trans hc3
              cases q with
              | true =>
                simp -dsimp only [go_sem, ↓reduceIte, Nat.reduceEqDiff, Nat.reduceAdd, Nat.reduceMul, Nat.reduceSub, Nat.reduceLeDiff, Nat.reduceLT, t2, t3, t7]
                exact ⟨by rw [if_pos (hq4.1 rfl)], hp4⟩
              | false =>
                have ho4 : ¬ ¬ Once (t.add.map Meta.seg) := fun w => by have := hq4.2 w; cases this
                rw [if_neg ho4]
                simp -dsimp only [go_sem, ↓reduceIte, Nat.reduceEqDiff, Nat.reduceAdd, Nat.reduceMul, Nat.reduceSub, Nat.reduceLeDiff, Nat.reduceLT, t2, t3, t7, hc4]
                refine aloop_join (fun T H' => H <+: H' ∧ H'[H.length]? = some (.row (stC s am ao cm co) 5 true) ∧ H'[H.length + 1]? = some (.row (txC t aa ad av ca cd cv) 7 true) ∧ (¬ ∃ x ∈ t.drop, hasB s.metas x = false) ∧ T 2 = ptrV H.length ∧ T 3 = ptrV (H.length + 1))
                  (fun k T H' => ∃ (i : Nat), k = t.drop.length - i ∧ i ≤ t.drop.length ∧ H <+: H' ∧ H'[H.length]? = some (.row (stC s am ao cm co) 5 true) ∧ H'[H.length + 1]? = some (.row (txC t aa ad av ca cd cv) 7 true) ∧ (¬ ∃ x ∈ t.drop.take i, hasB s.metas x = false) ∧
                    T 2 = ptrV H.length ∧ T 3 = ptrV (H.length + 1) ∧ T 86 = .slice ad t.drop.length cd ∧ T 87 = .int .i64 t.drop.length ∧ T 88 = .int .i64 (i : Nat)) (n := t.drop.length) ?_ ?_ ?_
                · refine ⟨0, ?_⟩
                  simp -dsimp only [go_sem, ↓reduceIte, Nat.reduceEqDiff, Nat.reduceAdd, Nat.reduceMul, Nat.reduceSub, Nat.reduceLeDiff, Nat.reduceLT, t2, t3, t7]
                  exact ⟨rfl, Nat.zero_le _, hp4, hb4, hc4, by simp, rfl⟩
                · rintro k T H' ⟨i, rfl, hi, hp, hb', hc', hno, t2, t3, t86, t87, t88⟩
                  simp -dsimp only [go_sem, ↓reduceIte, Nat.reduceEqDiff, Nat.reduceAdd, Nat.reduceMul, Nat.reduceSub, Nat.reduceLeDiff, Nat.reduceLT, t2, t3, t86, t87, t88]
                  refine acondP_of (fun h => ?_) (fun h => ?_)
                  · simp at h
                    obtain ⟨x, hx⟩ := get_ex h
                    obtain ⟨id, off, rfl, hat⟩ := (h4.pre hp).at (by omega)
                    have hxm : x ∈ t.drop := List.mem_of_getElem? hx
                    have px := List.prefix_append H' [AObj.row x.cells 5 true]
                    have hbx := pre_get px hb'
                    simp -dsimp only [go_sem, ↓reduceIte, Nat.reduceEqDiff, Nat.reduceAdd, Nat.reduceMul, Nat.reduceSub, Nat.reduceLeDiff, Nat.reduceLT, t2, t3, t86, t87, t88, inRange h, rowLoad_whole (hat i x hx), hbx]
                    refine SoundP_of (findLaw s.metas x am cm _ (h1.pre (hp.trans px)) (by omega) hr) ?_
                    rintro _ H5 ⟨k, rfl, -, p5⟩
                    have q5 := px.trans p5
                    have r5 := hp.trans q5
                    cases hB : hasB s.metas x with
                    | false =>
                      simp -dsimp only [go_sem, ↓reduceIte, Nat.reduceEqDiff, Nat.reduceAdd, Nat.reduceMul, Nat.reduceSub, Nat.reduceLeDiff, Nat.reduceLT, t2, t3, t86, t87, t88, hB]
                      exact ⟨by rw [if_pos ⟨x, hxm, hB⟩], r5⟩
                    | true =>
                      simp -dsimp only [go_sem, ↓reduceIte, Nat.reduceEqDiff, Nat.reduceAdd, Nat.reduceMul, Nat.reduceSub, Nat.reduceLeDiff, Nat.reduceLT, t2, t3, t86, t87, t88, hB, wrS (show i < 4611686018427387904 by omega)]
                      refine ⟨_, by omega, i + 1, rfl, h, r5, pre_get q5 hb', pre_get q5 hc', ?_, rfl⟩
                      rintro ⟨m, hm, hbad⟩
                      rw [List.take_add_one, hx, List.mem_append] at hm
                      rcases hm with hm | hm
                      · exact hno ⟨m, hm, hbad⟩
                      · obtain rfl : m = x := by simpa using hm
                        rw [hB] at hbad; cases hbad
                  · simp at h
                    rw [List.take_of_length_le h] at hno
                    simp -dsimp only [go_sem, ↓reduceIte, Nat.reduceEqDiff, Nat.reduceAdd, Nat.reduceMul, Nat.reduceSub, Nat.reduceLeDiff, Nat.reduceLT, t2, t3, t86, t87, t88]
                    exact ⟨hp, hb', hc', hno⟩
                · rintro T H5 ⟨hp5, hb5, hc5, hno5, t2, t3⟩
                  rw [if_neg hno5]
                  simp -dsimp only [go_sem, ↓reduceIte, Nat.reduceEqDiff, Nat.reduceAdd, Nat.reduceMul, Nat.reduceSub, Nat.reduceLeDiff, Nat.reduceLT, t2, t3, hc5]
                  refine SoundP_of (cloneS t.drop ad cd H5 (h4.pre hp5) (by omega)) ?_
                  rintro v6 H6 ⟨p6, o6⟩
                  simp -dsimp only [go_sem, ↓reduceIte, Nat.reduceEqDiff, Nat.reduceAdd, Nat.reduceMul, Nat.reduceSub, Nat.reduceLeDiff, Nat.reduceLT, t2, t3]
                  refine SoundP_of (twiceLaw _ _ H6 v6 o6 (by omega)) ?_
                  rintro _ H7 ⟨⟨q, rfl, hq7⟩, hl7, hk7⟩
                  have r6 := hp5.trans p6
                  have fr7 : ∀ j, j < H5.length → H7[j]? = H6[j]? := fun j hj => hk7 j (by have := pre_len p6; omega) fun w => by have := (o6.owner_ge w).1; omega
                  have hp7 : H <+: H7 := pre_of fun j hj => by
                    rw [fr7 j (by have := pre_len hp5; omega)]
                    obtain ⟨L, rfl⟩ := r6
                    exact List.getElem?_append_left hj
                  have hb7 := (fr7 _ (get_lt hb5)).trans (pre_get p6 hb5)
                  have hc7 := (fr7 _ (get_lt hc5)).trans (pre_get p6 hc5)
                  cases q with
                  | true =>
                    simp -dsimp only [go_sem, ↓reduceIte, Nat.reduceEqDiff, Nat.reduceAdd, Nat.reduceMul, Nat.reduceSub, Nat.reduceLeDiff, Nat.reduceLT, t2, t3]
                    exact ⟨by rw [if_pos (hq7.1 rfl)], hp7⟩
                  | false =>
                    have ho7 : ¬ ¬ Once t.drop := fun w => by have := hq7.2 w; cases this
                    rw [if_neg ho7]
                    have x1 : IntKind.i64.wrap ((s.metas.length : Int) + (t.add.length : Int)) = (s.metas.length : Int) + (t.add.length : Int) := wr64 (by omega) (by omega)
                    have x2 : IntKind.i64.wrap ((s.metas.length : Int) + (t.add.length : Int) - (t.drop.length : Int)) = (s.metas.length : Int) + (t.add.length : Int) - (t.drop.length : Int) := wr64 (by omega) (by omega)
                    cases hN : decide ((1000 : Int) < (s.metas.length : Int) + (t.add.length : Int) - (t.drop.length : Int)) with
                    | true =>
                      have hN' := of_decide_eq_true hN
                      simp -dsimp only [go_sem, ↓reduceIte, Nat.reduceEqDiff, Nat.reduceAdd, Nat.reduceMul, Nat.reduceSub, Nat.reduceLeDiff, Nat.reduceLT, t2, t3, hb7, hc7, x1, x2, hN]
                      exact ⟨by rw [if_pos hN'], hp7⟩
                    | false =>
                      have hN' := of_decide_eq_false hN
                      simp -dsimp only [go_sem, ↓reduceIte, Nat.reduceEqDiff, Nat.reduceAdd, Nat.reduceMul, Nat.reduceSub, Nat.reduceLeDiff, Nat.reduceLT, t2, t3, hb7, hc7, x1, x2, hN]
                      exact ⟨by rw [if_neg hN'], hp7⟩
end Go.Proofs.YtekpdopbiklkfaaGreatDoor
end
