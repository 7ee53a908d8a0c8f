/-
  Parts of the proof, joined: Begin, Lay, Lay2, Do, Do2, Open, Same, Base.
-/
import Derived.Test.YtekpdopbiklkfaaGreatDoorPf16
section
set_option linter.unusedVariables false
set_option linter.unusedSimpArgs false
namespace Go.Proofs.YtekpdopbiklkfaaGreatDoor
open Go Go.AW
set_option linter.unusedSimpArgs false
set_option maxRecDepth 20000
instance lawfulBytes : LawfulBEq ByteArray where
  eq_of_beq {a b} h := by rw [bytes_beq] at h; simpa using h
  rfl {a} := by rw [bytes_beq]; simp
theorem pfx_iff {s p : ByteArray} : pfxB s p = true ↔ p.data.toList <+: s.data.toList := by
  have e : (s.extract 0 p.size).data.toList = s.data.toList.take p.data.toList.length := by
    rw [ByteArray.data_extract, Array.toList_extract]
    simp only [List.extract, List.drop_zero, Nat.sub_zero]
    rfl
  rw [pfxB, Bool.and_eq_true, decide_eq_true_eq, decide_eq_true_eq]
  constructor
  · rintro ⟨h1, h2⟩
    rw [List.prefix_iff_eq_take, ← e, h2]
  · intro h
    refine ⟨h.length_le, ?_⟩
    apply ByteArray.ext
    apply Array.toList_inj.1
    rw [e]
    exact (List.prefix_iff_eq_take.1 h).symm
theorem pfx_draft {s : ByteArray} (h : pfxB s draftM = true) : pfxB s pfxM = true := by
  rw [pfx_iff] at *
  exact List.IsPrefix.trans ⟨[100, 114, 97, 102, 116], rfl⟩ h
def NamesOk (M : List FileS) (gen : Nat) : Prop := ∀ x ∈ M, pfxB x.name pfxM = true → ∃ k, 1 ≤ k ∧ k ≤ gen ∧ x.name = nmB k
variable {b : Nat} {H H' : AHeap} {p d m gen : Nat} {own : Bool} {s : St} {vm vo : Value} {ops : Int} {M M' : List FileS}
theorem names_draft (hN : NamesOk M gen) (hg : gen < 64) : ∀ x ∈ M, pfxB x.name draftM = false := fun x hx => by
  rw [← Bool.not_eq_true]
  intro h
  obtain ⟨k, h1, h2, h3⟩ := hN x hx (pfx_draft h)
  rw [h3, (nm_ok (by omega)).2.2] at h
  cases h
theorem names_nd (hN : NamesOk M gen) (hg : gen < 64) : ∀ x ∈ M, x.name ≠ draftM := fun x hx h => by
  have := names_draft hN hg x hx
  rw [h, draft_ok.2.2] at this
  cases this
theorem names_next (hN : NamesOk M gen) (hg : gen + 1 < 64) : ∀ x ∈ M, x.name ≠ nmB (gen + 1) := fun x hx h => by
  obtain ⟨k, h1, h2, h3⟩ := hN x hx (by rw [h]; exact (nm_ok hg).2.1)
  have := nm_inj (by omega) hg (h3.symm.trans h)
  omega
theorem footD_sub {M1 M2 : List FileS} (h : ∀ x ∈ M1, x ∈ M2) {j : Nat} (hj : footD d m M1 j) : footD d m M2 j := by
  rcases hj with h1 | h1 | ⟨x, hx, h1⟩
  · exact .inl h1
  · exact .inr (.inl h1)
  · exact .inr (.inr ⟨x, h x hx, h1⟩)
theorem filter_out {L : List FileS} (hn : (L.map FileS.name).Nodup) {s : ByteArray} {A B : List FileS} {y : FileS} (h : L = A ++ y :: B) (hy : y.name = s) : L.filter (fun x : FileS => !decide (x.name = s)) = A ++ B := by
  subst h hy
  rw [List.map_append, List.map_cons, List.nodup_append, List.nodup_cons] at hn
  rw [List.filter_append, List.filter_cons_of_neg (by simp), List.filter_eq_self.2 (fun z hz => ?_), List.filter_eq_self.2 (fun z hz => ?_)]
  · have : z.name ≠ y.name := fun e => hn.2.1.1 (by rw [← e]; exact List.mem_map_of_mem hz)
    simpa using this
  · have : z.name ≠ y.name := hn.2.2 _ (List.mem_map_of_mem hz) _ (by simp)
    simpa using this
set_option maxHeartbeats 4000000 in
theorem beginLaw (h : LogAt b H p d m gen own s vm vo ops M) (hs : Good s) (hg : gen + 1 < 64) (hN : NamesOk M gen) (hM : M.length < 900) (ho : 0 ≤ ops ∧ ops < 1000000000000) (hb : b ≤ H.length) :
    Sound Tryz.prog 51 [ptrV p] H fun v H' => v = .nilIface ∧ ∃ ops' id v', ops ≤ ops' ∧ ops' ≤ ops + 4 + M.length ∧
      LogAt b H' p d m (gen + 1) true s vm vo ops' (M.filter (fun x => !pfxB x.name pfxM) ++ [⟨nmB (gen + 1), id, v', frameB s.B, (frameB s.B).length⟩]) ∧
      Chg (footL p d m vm vo M) (footL p d m vm vo (M.filter (fun x => !pfxB x.name pfxM) ++ [⟨nmB (gen + 1), id, v', frameB s.B, (frameB s.B).length⟩])) H H' := by
  refine Sound.of_body (rs := [.tmp 2]) mixed Tryz.func51 rfl (by kernel_rfl) rfl (by kernel_rfl) ?_
  obtain ⟨am, cm, hvm, sm⟩ := h.om.sl (fun _ => rfl)
  obtain ⟨ao, co, hvo, so⟩ := h.oo.sl (fun _ => rfl)
  have h0 := h.at_
  have hle := St.B_le hs.ok
  have sb : Sound Tryz.prog 83 [.agg (stV s.epoch s.term s.leader vm vo).toArray] H fun v H' => H <+: H' ∧ Own H.length H' encB 1 v s.B := by
    rw [hvm, hvo]; exact stateBytes s hs.ok am ao cm co H sm so
  simp -dsimp only [go_sem, ↓reduceIte, Nat.reduceEqDiff, Nat.reduceAdd, Nat.reduceMul, Nat.reduceSub, Nat.reduceLeDiff, Nat.reduceLT, h0]
  refine SoundP_of sb ?_
  rintro v1 H1 ⟨p1, o1⟩
  obtain ⟨a1, c1, rfl, s1⟩ := o1.sl (fun _ => rfl)
  have hfl := frameB_len s.B
  generalize hB : s.B = B at *
  simp -dsimp only [go_sem, ↓reduceIte, Nat.reduceEqDiff, Nat.reduceAdd, Nat.reduceMul, Nat.reduceSub, Nat.reduceLeDiff, Nat.reduceLT]
  refine SoundP_of (frameLaw B a1 c1 H1 s1 hle.1) ?_
  rintro _ H2 ⟨p2, w, rfl, o2⟩
  obtain ⟨a2, c2, rfl, s2⟩ := o2.sl (fun _ => rfl)
  have q2 := p1.trans p2
  have h2 := h.pre q2
  have g2 := h2.at_
  generalize hF : frameB B = F at *
  simp -dsimp only [go_sem, ↓reduceIte, Nat.reduceEqDiff, Nat.reduceAdd, Nat.reduceMul, Nat.reduceSub, Nat.reduceLeDiff, Nat.reduceLT, Int.reduceBNe, g2]
  refine SoundP_of (listLaw h2.disk draftM (by omega)) ?_
  rintro v3 H3 ⟨p3, l3, hl3, o3⟩
  have hl3' : l3 = [] := by
    have e : (M.map FileS.name).filter (fun s => pfxB s draftM) = [] := by
      rw [List.filter_eq_nil_iff]
      intro a ha
      obtain ⟨x, hx, rfl⟩ := List.mem_map.1 ha
      rw [names_draft hN (by omega) x hx]; simp
    rw [e] at hl3
    exact List.Perm.eq_nil hl3
  subst hl3'
  obtain ⟨a3, c3, rfl, -⟩ := o3.sl (fun _ => rfl)
  have q3 := q2.trans p3
  have h3 := h.pre q3
  have g3 := h3.at_
  have z0 : decide ((0 : Int) < ((0 : Nat) : Int)) = false := rfl
  simp -dsimp only [go_sem, ↓reduceIte, Nat.reduceEqDiff, Nat.reduceAdd, Nat.reduceMul, Nat.reduceSub, Nat.reduceLeDiff, Nat.reduceLT, z0, g3]
  refine SoundP_of (appendNew h3.disk (by omega) (by omega) draftM draft_ok.1 (names_nd hN (by omega)) (by omega) F a2 c2 (s2.pre p3) (by omega) (by have := pre_len q3; omega)) ?_
  rintro _ H4 ⟨rfl, id, v', d4, k4⟩
  have h4 := h3.step d4 k4
  have K4 := (Chg.pre (F := footL p d m vm vo M) q3).trans (LogAt.step_chg (p := p) (vm := vm) (vo := vo) k4)
  have g4 := h4.at_
  simp -dsimp only [go_sem, ↓reduceIte, Nat.reduceEqDiff, Nat.reduceAdd, Nat.reduceMul, Nat.reduceSub, Nat.reduceLeDiff, Nat.reduceLT, Int.reduceBNe, g4]
  refine SoundP_of (syncLaw (A := M) (B := []) (x := ⟨draftM, id, v', F, 0⟩) h4.disk (by omega) (by omega) draft_ok.1 (by have := K4.len; omega)) ?_
  rintro _ H5 ⟨rfl, d5, k5⟩
  have h5 := h4.step d5 k5
  have K5 := K4.trans (LogAt.step_chg (p := p) (vm := vm) (vo := vo) k5)
  have g5 := h5.at_
  have ew : IntKind.u64.wrap ((gen : Int) + 1) = ((gen + 1 : Nat) : Int) := by rw [show ((gen : Int) + 1) = ((gen + 1 : Nat) : Int) by omega]; exact wrap64 _ (by omega)
  simp -dsimp only [go_sem, ↓reduceIte, Nat.reduceEqDiff, Nat.reduceAdd, Nat.reduceMul, Nat.reduceSub, Nat.reduceLeDiff, Nat.reduceLT, Int.reduceBNe]
  refine adrawnP_of2 [(0, false), (1, false), (2, false), (3, false), (4, false), (5, false), (6, false), (7, false), (8, false), (9, true), (10, false), (11, false)] (by kernel_rfl) ?_
  simp -dsimp only [go_sem, ↓reduceIte, Nat.reduceEqDiff, Nat.reduceAdd, Nat.reduceMul, Nat.reduceSub, Nat.reduceLeDiff, Nat.reduceLT, g5, ew]
  refine SoundP_of (nameLaw (gen + 1) hg H5) ?_
  rintro _ K ⟨rfl, hK⟩
  rw [hK]
  clear hK
  simp -dsimp only [go_sem, ↓reduceIte, Nat.reduceEqDiff, Nat.reduceAdd, Nat.reduceMul, Nat.reduceSub, Nat.reduceLeDiff, Nat.reduceLT]
  refine SoundP_of (renameLaw (A := M) (B := []) (x := ⟨draftM, id, v', F, F.length⟩) h5.disk (nmB (gen + 1)) (by simpa using names_next hN hg) (by omega) (by omega) draft_ok.1 (nm_ok hg).1 (by have := K5.len; omega)) ?_
  rintro _ H6 ⟨rfl, d6, k6⟩
  obtain ⟨X, hX⟩ : ∃ X : FileS, X = ⟨nmB (gen + 1), id, v', F, F.length⟩ := ⟨_, rfl⟩
  have h6 : LogAt b H6 p d m gen own s vm vo (ops + 1 + 1 + 1) (M ++ [X]) := by rw [hX]; exact h5.step d6 k6
  have K6 : Chg (footL p d m vm vo M) (footL p d m vm vo (M ++ [X])) H H6 := by rw [hX]; exact K5.trans (LogAt.step_chg (p := p) (vm := vm) (vo := vo) k6)
  have g6 := h6.at_
  have hXn : X.name = nmB (gen + 1) := by rw [hX]
  refine ⟨fun q => absurd q (by decide), ?_⟩
  have h7 := h6.set (gen + 1) own h6.om h6.oo h6.sep
  have K7 := K6.trans (chg_p (F := footL p d m vm vo (M ++ [X])) (.row (logC d s vm vo (gen + 1) own) 9 true) (.inl rfl))
  have g7 := h7.at_
  simp -dsimp only [go_sem, ↓reduceIte, Nat.reduceEqDiff, Nat.reduceAdd, Nat.reduceMul, Nat.reduceSub, Nat.reduceLeDiff, Nat.reduceLT, Int.reduceBNe, g6, ew]
  generalize H6.set p (.row (logC d s vm vo (gen + 1) own) 9 true) = H7 at *
  have h8 := h7.set (gen + 1) true h7.om h7.oo h7.sep
  have K8 := K7.trans (chg_p (F := footL p d m vm vo (M ++ [X])) (.row (logC d s vm vo (gen + 1) true) 9 true) (.inl rfl))
  have g8 := h8.at_
  simp -dsimp only [go_sem, ↓reduceIte, Nat.reduceEqDiff, Nat.reduceAdd, Nat.reduceMul, Nat.reduceSub, Nat.reduceLeDiff, Nat.reduceLT, g7]
  generalize H7.set p (.row (logC d s vm vo (gen + 1) true) 9 true) = H8 at *
  simp -dsimp only [go_sem, ↓reduceIte, Nat.reduceEqDiff, Nat.reduceAdd, Nat.reduceMul, Nat.reduceSub, Nat.reduceLeDiff, Nat.reduceLT, g8]
  refine SoundP_of (listLaw h8.disk pfxM (by simp; omega)) ?_
  rintro v9 H9 ⟨p9, l, hl, o9⟩
  have h9 := h8.pre p9
  have K9 := K8.trans (Chg.pre p9)
  have hb8 : b ≤ H8.length := by have := K8.len; omega
  obtain ⟨a9, c9, rfl, s9⟩ := o9.sl (fun _ => rfl)
  have hlp : l.Perm ((M.map FileS.name).filter (fun s => pfxB s pfxM) ++ [nmB (gen + 1)]) := by
    rw [List.map_append, List.filter_append] at hl
    simpa [hXn, (nm_ok hg).2.1] using hl
  have hnd : l.Nodup := by
    have h1 := h9.disk.nodup
    rw [hl.nodup_iff]
    exact h1.filter _
  have hlen : l.length ≤ M.length + 1 := by
    rw [hlp.length_eq, List.length_append, List.length_singleton]
    have := List.length_filter_le (fun s => pfxB s pfxM) (M.map FileS.name)
    rw [List.length_map] at this
    omega
  have hmem : ∀ s ∈ l, s = nmB (gen + 1) ∨ ∃ k, 1 ≤ k ∧ k ≤ gen ∧ s = nmB k ∧ ∃ x ∈ M, x.name = s := fun s hs => by
    rw [hlp.mem_iff, List.mem_append, List.mem_singleton, List.mem_filter, List.mem_map] at hs
    rcases hs with ⟨⟨x, hx, rfl⟩, hp⟩ | rfl
    · obtain ⟨k, h1, h2, h3⟩ := hN x hx hp
      exact .inr ⟨k, h1, h2, h3, x, hx, rfl⟩
    · exact .inl rfl
  have hall : M.filter (fun x : FileS => !decide (x.name ∈ l)) = M.filter (fun x => !pfxB x.name pfxM) := by
    refine List.filter_congr fun x hx => ?_
    congr 1
    rw [Bool.eq_iff_iff, decide_eq_true_eq, hlp.mem_iff, List.mem_append, List.mem_singleton, List.mem_filter]
    constructor
    · rintro (⟨-, h⟩ | h)
      · exact h
      · exact absurd h (names_next hN hg x hx)
    · exact fun h => .inl ⟨List.mem_map_of_mem hx, h⟩
  have hf0 : M.filter (fun x : FileS => !decide (x.name ∈ l.take 0)) = M := List.filter_eq_self.2 fun x _ => by simp
  simp -dsimp only [go_sem, ↓reduceIte, Nat.reduceEqDiff, Nat.reduceAdd, Nat.reduceMul, Nat.reduceSub, Nat.reduceLeDiff, Nat.reduceLT]
  refine aloopP_of (fun k T H' => ∃ (i : Nat) (ops' : Int), k = l.length - i ∧ i ≤ l.length ∧ ops ≤ ops' ∧ ops' ≤ ops + 3 + i ∧ LogAt b H' p d m (gen + 1) true s vm vo ops' (M.filter (fun x : FileS => !decide (x.name ∈ l.take i)) ++ [X]) ∧ Chg (footL p d m vm vo M) (footL p d m vm vo (M.filter (fun x : FileS => !decide (x.name ∈ l.take i)) ++ [X])) H H' ∧
      Own H8.length H' encStrB 1 (.slice a9 l.length c9) l ∧ T 0 = ptrV p ∧ T 90 = .slice a9 l.length c9 ∧ T 91 = .int .i64 l.length ∧ T 92 = .int .i64 (i : Nat)) (n := l.length) ?_ ?_
  · refine ⟨0, ops + 1 + 1 + 1, ?_⟩
    rw [hf0]
    simp -dsimp only [go_sem, ↓reduceIte, Nat.reduceEqDiff, Nat.reduceAdd, Nat.reduceMul, Nat.reduceSub, Nat.reduceLeDiff, Nat.reduceLT]
    exact ⟨rfl, Nat.zero_le _, by omega, by omega, h9, K9, o9, rfl⟩
  · rintro k T H' ⟨i, ops', rfl, hi, ho1, ho2, hL, hK, hown, t0, t90, t91, t92⟩
    have hsub : ∀ x ∈ M.filter (fun x : FileS => !decide (x.name ∈ l.take i)) ++ [X], x ∈ M ++ [X] := fun x hx => by
      rw [List.mem_append] at *
      exact hx.imp (fun q => (List.mem_filter.1 q).1) fun q => q
    simp -dsimp only [go_sem, ↓reduceIte, Nat.reduceEqDiff, Nat.reduceAdd, Nat.reduceMul, Nat.reduceSub, Nat.reduceLeDiff, Nat.reduceLT, t0, t90, t91, t92]
    refine acondP_of (fun h => ?_) (fun h => ?_)
    · simp at h
      obtain ⟨y, hy⟩ := get_ex h
      have hyl : y ∈ l := List.mem_of_getElem? hy
      obtain ⟨id9, off9, hid9, hat⟩ := (hown.slA (fun _ => rfl)).2.at (by omega)
      subst hid9
      have gL := hL.at_
      have hbH : b ≤ H'.length := by have := hK.len; omega
      have hrest : ∀ (f : FileS), (!decide (f.name ∈ l.take (i + 1))) = ((!decide (f.name ∈ l.take i)) && !decide (f.name = y)) := fun f => by
        rw [List.take_add_one, hy]
        by_cases h1 : f.name ∈ l.take i <;> by_cases h2 : f.name = y <;> simp [h1, h2]
      have hfil : M.filter (fun x : FileS => !decide (x.name ∈ l.take (i + 1))) = (M.filter (fun x : FileS => !decide (x.name ∈ l.take i))).filter (fun x : FileS => !decide (x.name = y)) := by
        rw [List.filter_filter]
        exact List.filter_congr fun x _ => by rw [hrest x, Bool.and_comm]
      have hnot : y ∉ l.take i := fun q => by
        have h1 := hnd
        rw [← List.take_append_drop i l, drop_get hy, List.nodup_append] at h1
        exact h1.2.2 y q y (by simp) rfl
      rcases hmem y hyl with rfl | ⟨k, hk1, hk2, rfl, x, hxM, hxn⟩
      · have e : M.filter (fun x : FileS => !decide (x.name ∈ l.take (i + 1))) = M.filter (fun x : FileS => !decide (x.name ∈ l.take i)) := by
          rw [hfil]
          exact List.filter_eq_self.2 fun x hx => by simpa using names_next hN hg x (List.mem_filter.1 hx).1
        have z1 : decide ((0 : Int) < ((gen + 1 : Nat) : Int)) = true := decide_eq_true (by omega)
        have z2 : decide (((gen + 1 : Nat) : Int) < ((gen + 1 : Nat) : Int)) = false := decide_eq_false (by omega)
        simp -dsimp only [go_sem, ↓reduceIte, Nat.reduceEqDiff, Nat.reduceAdd, Nat.reduceMul, Nat.reduceSub, Nat.reduceLeDiff, Nat.reduceLT, t0, t90, t91, t92, inRange h, rowLoad_one0 (hat i _ hy)]
        refine SoundP_of (numberLaw' (gen + 1) hg H') ?_
        rintro _ K ⟨rfl, hK2⟩
        rw [hK2]
        clear hK2
        simp -dsimp only [go_sem, ↓reduceIte, Nat.reduceEqDiff, Nat.reduceAdd, Nat.reduceMul, Nat.reduceSub, Nat.reduceLeDiff, Nat.reduceLT, t0, t90, t91, t92, z1, gL, z2, wrS (show i < 4611686018427387904 by omega)]
        exact ⟨_, by omega, i + 1, ops', rfl, h, ho1, by omega, by rw [e]; exact hL, by rw [e]; exact hK, hown, rfl⟩
      · have z1 : decide ((0 : Int) < ((k : Nat) : Int)) = true := decide_eq_true (by omega)
        have z2 : decide (((k : Nat) : Int) < ((gen + 1 : Nat) : Int)) = true := decide_eq_true (by omega)
        simp -dsimp only [go_sem, ↓reduceIte, Nat.reduceEqDiff, Nat.reduceAdd, Nat.reduceMul, Nat.reduceSub, Nat.reduceLeDiff, Nat.reduceLT, t0, t90, t91, t92, inRange h, rowLoad_one0 (hat i _ hy)]
        refine SoundP_of (numberLaw' k (by omega) H') ?_
        rintro _ K ⟨rfl, hK2⟩
        rw [hK2]
        clear hK2
        have hxf : x ∈ M.filter (fun x : FileS => !decide (x.name ∈ l.take i)) := List.mem_filter.2 ⟨hxM, by rw [hxn]; simpa using hnot⟩
        obtain ⟨A, B, hAB⟩ := List.append_of_mem hxf
        have hLd : DiskAt b H' d m false ops' (-1) 0 (A ++ x :: (B ++ [X])) := by
          have := hL.disk
          rw [hAB] at this
          simpa using this
        have hrm := removeLaw hLd (by omega) (by omega) (by rw [hxn]; exact (nm_ok (by omega)).1) hbH
        rw [hxn] at hrm
        simp -dsimp only [go_sem, ↓reduceIte, Nat.reduceEqDiff, Nat.reduceAdd, Nat.reduceMul, Nat.reduceSub, Nat.reduceLeDiff, Nat.reduceLT, t0, t90, t91, t92, z1, gL, z2]
        refine SoundP_of hrm ?_
        rintro _ H10 ⟨rfl, d10, k10⟩
        have e : M.filter (fun x : FileS => !decide (x.name ∈ l.take (i + 1))) ++ [X] = A ++ (B ++ [X]) := by
          have hn := hL.disk.nodup
          rw [List.map_append, List.nodup_append] at hn
          rw [hfil, filter_out hn.1 hAB hxn, List.append_assoc]
        have e0 : M.filter (fun x : FileS => !decide (x.name ∈ l.take i)) ++ [X] = A ++ x :: (B ++ [X]) := by rw [hAB]; simp
        rw [← e] at d10 k10
        rw [← e0] at k10
        have hL10 := hL.step d10 k10
        have hK10 := hK.trans (LogAt.step_chg (p := p) (vm := vm) (vo := vo) k10)
        have hown10 : Own H8.length H10 encStrB 1 (.slice (some ⟨id9, off9, none⟩) l.length c9) l := hown.keep fun id hid => k10.fr id (hown.owner_ge hid).2 fun q => by
          have h1 := (h8.disk.foot (footD_sub hsub q)).2
          have h2 := (hown.owner_ge hid).1
          omega
        simp -dsimp only [go_sem, ↓reduceIte, Nat.reduceEqDiff, Nat.reduceAdd, Nat.reduceMul, Nat.reduceSub, Nat.reduceLeDiff, Nat.reduceLT, t0, t90, t91, t92, Int.reduceBNe, wrS (show i < 4611686018427387904 by omega)]
        exact ⟨_, by omega, i + 1, ops' + 1, rfl, h, by omega, by omega, hL10, hK10, hown10, rfl⟩
    · simp at h
      rw [List.take_of_length_le h, hall] at hL hK
      simp -dsimp only [go_sem, ↓reduceIte, Nat.reduceEqDiff, Nat.reduceAdd, Nat.reduceMul, Nat.reduceSub, Nat.reduceLeDiff, Nat.reduceLT, t0, t90, t91, t92]
      exact ⟨ops', id, v', ho1, by omega, by rw [← hX]; exact hL, by rw [← hX]; exact hK⟩
end Go.Proofs.YtekpdopbiklkfaaGreatDoor
end
section
set_option linter.unusedVariables false
set_option linter.unusedSimpArgs false
namespace Go.Proofs.YtekpdopbiklkfaaGreatDoor
open Go Go.AW
set_option linter.unusedSimpArgs false
set_option maxRecDepth 20000
variable {b : Nat} {H H' : AHeap} {p d m gen : Nat} {own : Bool} {s : St} {vm vo : Value} {ops : Int} {M M' : List FileS}
theorem answerNil (H : AHeap) (p : Nat) : Sound Tryz.prog 41 [ptrV p, .nilIface] H fun v H' => v = .int .i64 0 ∧ H <+: H' := by
  refine Sound.of_body (rs := [.tmp 4]) mixed Tryz.func41 rfl (by kernel_rfl) rfl (by kernel_rfl) ?_
  simp -dsimp only [go_sem, ↓reduceIte, Nat.reduceEqDiff, Nat.reduceAdd, Nat.reduceMul, Nat.reduceSub, Nat.reduceLeDiff, Nat.reduceLT]
  exact List.prefix_append _ _
theorem set_same {H : AHeap} {p : Nat} {o : AObj} (h : H[p]? = some o) : H.set p o = H := by
  apply List.ext_getElem?
  intro j
  by_cases hj : j = p
  · subst hj; rw [List.getElem?_set_self (get_lt h), h]
  · rw [List.getElem?_set_ne (Ne.symm hj)]
theorem readyLaw (h : LogAt b H p d m gen own s vm vo ops M) : Sound Tryz.prog 39 [ptrV p] H fun v H' => v = .int .i64 0 ∧ H' = H := by
  refine Sound.of_body (rs := [.tmp 2]) mixed Tryz.func39 rfl (by kernel_rfl) rfl (by kernel_rfl) ?_
  have g := h.at_
  simp -dsimp only [go_sem, ↓reduceIte, Nat.reduceEqDiff, Nat.reduceAdd, Nat.reduceMul, Nat.reduceSub, Nat.reduceLeDiff, Nat.reduceLT, g]
  refine SoundP_of (offLaw h.disk) ?_
  rintro _ K ⟨rfl, hK⟩
  rw [hK]
  clear hK
  simp -dsimp only [go_sem, ↓reduceIte, Nat.reduceEqDiff, Nat.reduceAdd, Nat.reduceMul, Nat.reduceSub, Nat.reduceLeDiff, Nat.reduceLT, g, set_same g]
theorem copiedOwn {b : Nat} {H : AHeap} {vm vo : Value} {s : St} (om : Own b H Meta.cells 8 vm s.metas) (oo : Own b H encU 1 vo s.offs) (hs : Good s) :
    Sound Tryz.prog 38 [.agg (stV s.epoch s.term s.leader vm vo).toArray] H fun v H' => H <+: H' ∧ ∃ vm vo, v = .agg (stV s.epoch s.term s.leader vm vo).toArray ∧ Own H.length H' Meta.cells 8 vm s.metas ∧ Own H.length H' encU 1 vo s.offs := by
  obtain ⟨am, cm, rfl, sm⟩ := om.sl (fun _ => rfl)
  obtain ⟨ao, co, rfl, so⟩ := oo.sl (fun _ => rfl)
  exact copiedLaw s am ao cm co _ sm so (by have := hs.ok.len; omega) hs.ok.lenO
theorem stateLaw (h : LogAt b H p d m gen own s vm vo ops M) (hs : Good s) : Sound Tryz.prog 15 [ptrV p] H fun v H' => H <+: H' ∧ ∃ vm' vo', v = .agg (stV s.epoch s.term s.leader vm' vo').toArray ∧ Own H.length H' Meta.cells 8 vm' s.metas ∧ Own H.length H' encU 1 vo' s.offs := by
  refine Sound.of_body (rs := [.cell 2 41]) mixed Tryz.func15 rfl (by kernel_rfl) rfl (by kernel_rfl) ?_
  have p0 := List.prefix_append H [AObj.row (stV 0 0 0 nilV nilV) 5 true]
  have c0 := get_end H (AObj.row (stV 0 0 0 nilV nilV) 5 true) []
  have g := (h.pre p0).at_
  have hc := copiedOwn (h.om.pre p0) (h.oo.pre p0) hs
  simp -dsimp only [go_sem, ↓reduceIte, Nat.reduceEqDiff, Nat.reduceAdd, Nat.reduceMul, Nat.reduceSub, Nat.reduceLeDiff, Nat.reduceLT, g]
  refine SoundP_of hc ?_
  rintro _ H1 ⟨p1, vm', vo', rfl, om', oo'⟩
  have c1 := pre_get p1 c0
  have q1 := p0.trans p1
  have lH : (H ++ [AObj.row (stV 0 0 0 nilV nilV) 5 true]).length = H.length + 1 := by simp
  rw [lH] at om' oo'
  have c2 := List.getElem?_set_self (a := AObj.row (stV s.epoch s.term s.leader vm' vo') 5 true) (get_lt c1)
  have om2 := own_set c1 om' (by decide) (.row (stV s.epoch s.term s.leader vm' vo') 5 true)
  have oo2 := own_set c1 oo' (by decide) (.row (stV s.epoch s.term s.leader vm' vo') 5 true)
  have q2 := pre_set q1 (Nat.le_refl _) (.row (stV s.epoch s.term s.leader vm' vo') 5 true)
  simp -dsimp only [go_sem, ↓reduceIte, Nat.reduceEqDiff, Nat.reduceAdd, Nat.reduceMul, Nat.reduceSub, Nat.reduceLeDiff, Nat.reduceLT, c1, own_one om', own_one oo']
  generalize H1.set H.length (.row (stV s.epoch s.term s.leader vm' vo') 5 true) = H2 at *
  simp -dsimp only [go_sem, ↓reduceIte, Nat.reduceEqDiff, Nat.reduceAdd, Nat.reduceMul, Nat.reduceSub, Nat.reduceLeDiff, Nat.reduceLT, c2]
  exact ⟨q2, vm', vo', rfl, om2.mono (by omega), oo2.mono (by omega)⟩
end Go.Proofs.YtekpdopbiklkfaaGreatDoor
end
section
set_option linter.unusedVariables false
set_option linter.unusedSimpArgs false
namespace Go.Proofs.YtekpdopbiklkfaaGreatDoor
open Go Go.AW
set_option linter.unusedSimpArgs false
set_option maxRecDepth 20000
variable {b : Nat} {H H' : AHeap} {p d m gen : Nat} {own : Bool} {s : St} {vm vo : Value} {ops : Int} {M M' : List FileS}
structure Files (M : List FileS) (gen : Nat) (s : St) (L : Nat) : Prop where
  names : NamesOk M gen
  len : M.length < 800
  file : ∃ x ∈ M, x.name = nmB gen ∧ Tells x.l s ∧ x.l.length ≤ L
structure Laid (b : Nat) (H H' : AHeap) (p d m gen gen' : Nat) (s : St) (vm vo : Value) (M : List FileS) (s' : St) (vm' vo' : Value) (L L' : Nat) (ops ops' : Int) (M' : List FileS) : Prop where
  log : LogAt b H' p d m gen' true s' vm' vo' ops' M'
  files : Files M' gen' s' L'
  n : M'.length ≤ M.length + 1
  o1 : ops ≤ ops'
  o2 : ops' ≤ ops + 6 + M.length
  len : H.length ≤ H'.length
  fr : ∀ j, j < H.length → ¬ footL p d m vm vo M j → H'[j]? = H[j]?
  ow : ∀ j, footD d m M' j → footD d m M j ∨ H.length ≤ j
set_option maxHeartbeats 4000000 in
theorem layOwn (h : LogAt b H p d m gen true s vm vo ops M) {L : Nat} (hF : Files M gen s L) (hgB : gen < 64) (hL : L ≤ 3000000) (ho : 0 ≤ ops ∧ ops < 100000000000) (hb : b ≤ H.length) (r : Rec) (hr : r.Ok s) (hr2 : Good (r.run s))
    {vb vm' vo' : Value} (ob : Own b H encB 1 vb r.B) (om' : Own b H Meta.cells 8 vm' (r.run s).metas) (oo' : Own b H encU 1 vo' (r.run s).offs)
    (nb : ∀ j, owner vb = some j → ¬ footL p d m vm vo M j) (nm : ∀ j, owner vm' = some j → ¬ footL p d m vm vo M j) (no : ∀ j, owner vo' = some j → ¬ footL p d m vm vo M j) :
    Sound Tryz.prog 42 [ptrV p, vb, .agg (stV (r.run s).epoch (r.run s).term (r.run s).leader vm' vo').toArray] H fun v H' => v = .nilIface ∧ ∃ M', Laid b H H' p d m gen gen s vm vo M (r.run s) vm' vo' L (L + 8 + r.B.length) ops (ops + 1 + 1) M' := by
  refine Sound.of_body (rs := [.tmp 6]) mixed Tryz.func42 rfl (by kernel_rfl) rfl (by kernel_rfl) ?_
  obtain ⟨ab, cb, rfl, sb⟩ := ob.sl (fun _ => rfl)
  have pb := List.prefix_append H [AObj.row (stV (r.run s).epoch (r.run s).term (r.run s).leader vm' vo') 5 true]
  have bb := get_end H (AObj.row (stV (r.run s).epoch (r.run s).term (r.run s).leader vm' vo') 5 true) []
  have h1 := h.pre pb
  have g1 := h1.at_
  have lH : (H ++ [AObj.row (stV (r.run s).epoch (r.run s).term (r.run s).leader vm' vo') 5 true]).length = H.length + 1 := by simp
  have hB := h1
  have hFB := hF
  have bbB := bb
  have sbB := sb.pre pb
  have omB := om'.pre pb
  have ooB := oo'.pre pb
  have nbB : ¬ footD d m M H.length := fun q => by have := (h.disk.foot q).2; omega
  have nmBB : ∀ j, owner vm' = some j → ¬ footD d m M j := fun j hj q => nm j hj (.inr (.inr (.inr q)))
  have noB : ∀ j, owner vo' = some j → ¬ footD d m M j := fun j hj q => no j hj (.inr (.inr (.inr q)))
  have frB : ∀ j, j < H.length → ¬ footL p d m vm vo M j → (H ++ [AObj.row (stV (r.run s).epoch (r.run s).term (r.run s).leader vm' vo') 5 true])[j]? = H[j]? := fun j hj _ => List.getElem?_append_left hj
  have owB : ∀ j, footD d m M j → footD d m M j ∨ H.length ≤ j := fun j hj => .inl hj
  have lenB : H.length + 1 ≤ (H ++ [AObj.row (stV (r.run s).epoch (r.run s).term (r.run s).leader vm' vo') 5 true]).length := by omega
  have nB : M.length ≤ M.length + 1 := Nat.le_succ _
  simp -dsimp only [go_sem, ↓reduceIte, Nat.reduceEqDiff, Nat.reduceAdd, Nat.reduceMul, Nat.reduceSub, Nat.reduceLeDiff, Nat.reduceLT, g1]
  generalize H ++ [AObj.row (stV (r.run s).epoch (r.run s).term (r.run s).leader vm' vo') 5 true] = HB at *
  obtain ⟨x, hx, hxn, hxt, hxl⟩ := hFB.file
  obtain ⟨A, B, rfl⟩ := List.append_of_mem hx
  have hrb := Rec.B_le hr
  have hbB : b ≤ HB.length := Nat.le_trans hb (Nat.le_trans (Nat.le_succ _) lenB)
  refine SoundP_of (frameLaw r.B ab cb _ sbB hrb.1) ?_
  rintro _ H2 ⟨q2, w, rfl, o2⟩
  obtain ⟨a2, c2, rfl, s2⟩ := o2.sl (fun _ => rfl)
  have h2 := hB.pre q2
  have g2 := h2.at_
  have hfl := frameB_len r.B
  simp -dsimp only [go_sem, ↓reduceIte, Nat.reduceEqDiff, Nat.reduceAdd, Nat.reduceMul, Nat.reduceSub, Nat.reduceLeDiff, Nat.reduceLT, Int.reduceBNe]
  refine adrawnP_of2 [(0, false), (1, false), (2, false), (3, false), (4, false), (5, false), (6, false), (7, false), (9, false), (8, true), (10, false), (11, false)] (by kernel_rfl) ?_
  simp -dsimp only [go_sem, ↓reduceIte, Nat.reduceEqDiff, Nat.reduceAdd, Nat.reduceMul, Nat.reduceSub, Nat.reduceLeDiff, Nat.reduceLT, g2]
  refine SoundP_of (nameLaw gen hgB H2) ?_
  rintro _ K ⟨rfl, hK⟩
  rw [hK]
  clear hK
  have hap := appendOld h2.disk (by omega) (by omega) (by rw [hxn]; exact (nm_ok hgB).1) (frameB r.B) a2 c2 s2 (by omega) (by omega) (by have := pre_len q2; omega)
  rw [hxn] at hap
  simp -dsimp only [go_sem, ↓reduceIte, Nat.reduceEqDiff, Nat.reduceAdd, Nat.reduceMul, Nat.reduceSub, Nat.reduceLeDiff, Nat.reduceLT]
  refine SoundP_of hap ?_
  rintro _ H3 ⟨rfl, v', d3, k3⟩
  have h3 := h2.step d3 k3
  have g3 := h3.at_
  have l3 := k3.len
  refine ⟨fun q => absurd q (by decide), ?_⟩
  simp -dsimp only [go_sem, ↓reduceIte, Nat.reduceEqDiff, Nat.reduceAdd, Nat.reduceMul, Nat.reduceSub, Nat.reduceLeDiff, Nat.reduceLT, Int.reduceBNe]
  refine adrawnP_of2 [(0, false), (1, false), (2, false), (3, false), (4, false), (5, false), (6, false), (7, false), (8, true), (9, false), (10, false)] (by kernel_rfl) ?_
  simp -dsimp only [go_sem, ↓reduceIte, Nat.reduceEqDiff, Nat.reduceAdd, Nat.reduceMul, Nat.reduceSub, Nat.reduceLeDiff, Nat.reduceLT, g3]
  refine SoundP_of (nameLaw gen hgB H3) ?_
  rintro _ K ⟨rfl, hK⟩
  rw [hK]
  clear hK
  have hsy := syncLaw (A := A) (B := B) (x := ⟨nmB gen, x.id, v', x.l ++ frameB r.B, x.synced⟩) h3.disk (by omega) (by omega) (nm_ok hgB).1 (by have := pre_len q2; omega)
  simp -dsimp only [go_sem, ↓reduceIte, Nat.reduceEqDiff, Nat.reduceAdd, Nat.reduceMul, Nat.reduceSub, Nat.reduceLeDiff, Nat.reduceLT]
  refine SoundP_of hsy ?_
  rintro _ H4 ⟨rfl, d4, k4⟩
  have h4 := h3.step d4 k4
  have g4 := h4.at_
  have K := k3.trans k4
  refine ⟨fun q => absurd q (by decide), ?_⟩
  have fr : ∀ j, j < HB.length → ¬ footD d m (A ++ x :: B) j → H4[j]? = HB[j]? := fun j hj hn => (K.fr j (Nat.lt_of_lt_of_le hj (pre_len q2)) hn).trans (by obtain ⟨L, rfl⟩ := q2; exact List.getElem?_append_left hj)
  have bb4 : H4[H.length]? = some (.row (stV (r.run s).epoch (r.run s).term (r.run s).leader vm' vo') 5 true) := (fr _ (get_lt bbB) nbB).trans bbB
  have om4 : Own b H4 Meta.cells 8 vm' (r.run s).metas := omB.keep fun id hid => fr id (omB.owner_ge hid).2 (nmBB id hid)
  have oo4 : Own b H4 encU 1 vo' (r.run s).offs := ooB.keep fun id hid => fr id (ooB.owner_ge hid).2 (noB id hid)
  have sep4 : ∀ y ∈ A ++ ⟨nmB gen, x.id, v', x.l ++ frameB r.B, ((x.l ++ frameB r.B).length : Nat)⟩ :: B, ∀ j, owner vo' = some j → owner y.v ≠ some j := fun y hy j hj hj2 => by
    rcases K.ow j (.inr (.inr ⟨y, hy, .inr hj2⟩)) with q | q
    · exact noB j hj q
    · have h1 := (ooB.owner_ge hj).2
      have h2 := pre_len q2
      omega
  have h5 := h4.set gen true om4 oo4 sep4
  have l4 := K.len
  have q2l := pre_len q2
  simp -dsimp only [go_sem, ↓reduceIte, Nat.reduceEqDiff, Nat.reduceAdd, Nat.reduceMul, Nat.reduceSub, Nat.reduceLeDiff, Nat.reduceLT, Int.reduceBNe, bb4, g4, own_one om', own_one oo']
  refine ⟨_, ⟨h5, ⟨fun y hy hp => ?_, ?_, ?_⟩, ?_, by omega, by omega, by rw [List.length_set]; omega, fun j hj hn => ?_, fun j hj => ?_⟩⟩
  · rw [List.mem_append, List.mem_cons] at hy
    rcases hy with hy | rfl | hy
    · exact hFB.names y (by simp [hy]) hp
    · exact hFB.names x (by simp) (by rw [hxn]; exact hp) |>.imp fun k hk => by rwa [hxn] at hk
    · exact hFB.names y (by simp [hy]) hp
  · have := hFB.len
    simp at this ⊢
    omega
  · exact ⟨⟨nmB gen, x.id, v', x.l ++ frameB r.B, ((x.l ++ frameB r.B).length : Nat)⟩, by simp, rfl, hxt.step r hr hr2, by simp only [List.length_append]; omega⟩
  · simp
  · rw [List.getElem?_set_ne fun q => hn (.inl q.symm)]
    have hjB := Nat.lt_of_lt_of_le hj (Nat.le_trans (Nat.le_succ _) lenB)
    have hnB : ¬ footD d m (A ++ x :: B) j := fun q => by
      rcases owB j q with q | q
      · exact hn (.inr (.inr (.inr q)))
      · omega
    exact (fr j hjB hnB).trans (frB j hj hn)
  · rcases K.ow j hj with q | q
    · exact owB j q
    · right; have := pre_len q2; omega
set_option maxHeartbeats 4000000 in
theorem layNew (h : LogAt b H p d m gen false s vm vo ops M) {L : Nat} (hs : Good s) (hN : NamesOk M gen) (hM : M.length < 700) (hL0 : 8 + s.B.length ≤ L) (hg : gen + 1 < 64) (hL : L ≤ 3000000) (ho : 0 ≤ ops ∧ ops < 100000000000) (hb : b ≤ H.length) (r : Rec) (hr : r.Ok s) (hr2 : Good (r.run s))
    {vb vm' vo' : Value} (ob : Own b H encB 1 vb r.B) (om' : Own b H Meta.cells 8 vm' (r.run s).metas) (oo' : Own b H encU 1 vo' (r.run s).offs)
    (nb : ∀ j, owner vb = some j → ¬ footL p d m vm vo M j) (nm : ∀ j, owner vm' = some j → ¬ footL p d m vm vo M j) (no : ∀ j, owner vo' = some j → ¬ footL p d m vm vo M j) :
    Sound Tryz.prog 42 [ptrV p, vb, .agg (stV (r.run s).epoch (r.run s).term (r.run s).leader vm' vo').toArray] H fun v H' => v = .nilIface ∧ ∃ ops' M', Laid b H H' p d m gen (gen + 1) s vm vo M (r.run s) vm' vo' L (L + 8 + r.B.length) ops ops' M' := by
  refine Sound.of_body (rs := [.tmp 6]) mixed Tryz.func42 rfl (by kernel_rfl) rfl (by kernel_rfl) ?_
  obtain ⟨ab, cb, rfl, sb⟩ := ob.sl (fun _ => rfl)
  have pb := List.prefix_append H [AObj.row (stV (r.run s).epoch (r.run s).term (r.run s).leader vm' vo') 5 true]
  have bb := get_end H (AObj.row (stV (r.run s).epoch (r.run s).term (r.run s).leader vm' vo') 5 true) []
  have h1 := h.pre pb
  have g1 := h1.at_
  have lH : (H ++ [AObj.row (stV (r.run s).epoch (r.run s).term (r.run s).leader vm' vo') 5 true]).length = H.length + 1 := by simp
  simp -dsimp only [go_sem, ↓reduceIte, Nat.reduceEqDiff, Nat.reduceAdd, Nat.reduceMul, Nat.reduceSub, Nat.reduceLeDiff, Nat.reduceLT, g1]
  refine SoundP_of (beginLaw h1 hs hg hN (by omega) (by omega) (by omega)) ?_
  rintro _ HB ⟨rfl, ops1, id1, vx, ho1, ho2, hB, KB⟩
  have hs0 := St.B_le hs.ok
  have hsl := frameB_len s.B
  generalize hM1 : M.filter (fun x => !pfxB x.name pfxM) ++ [⟨nmB (gen + 1), id1, vx, frameB s.B, ((frameB s.B).length : Nat)⟩] = M1 at *
  have hfl0 := List.length_filter_le (fun x : FileS => !pfxB x.name pfxM) M
  have hml : M1.length ≤ M.length + 1 := by rw [← hM1, List.length_append, List.length_singleton]; omega
  have hFB : Files M1 (gen + 1) s L := by
    refine ⟨fun y hy hp => ?_, by omega, ?_⟩
    · rw [← hM1, List.mem_append, List.mem_singleton, List.mem_filter] at hy
      rcases hy with ⟨-, hy⟩ | rfl
      · rw [hp] at hy; simp at hy
      · exact ⟨gen + 1, by omega, Nat.le_refl _, rfl⟩
    · rw [← hM1]
      exact ⟨⟨nmB (gen + 1), id1, vx, frameB s.B, ((frameB s.B).length : Nat)⟩, by simp, rfl, Tells.base hs, by simp only; omega⟩
  have lenB : H.length + 1 ≤ HB.length := by have := KB.len; omega
  have frB : ∀ j, j < H.length → ¬ footL p d m vm vo M j → HB[j]? = H[j]? := fun j hj hn => (KB.fr j (by omega) hn).trans (List.getElem?_append_left hj)
  have owB : ∀ j, footD d m M1 j → footD d m M j ∨ H.length ≤ j := fun j hj => by
    rcases KB.ow j (.inr (.inr (.inr hj))) with q | q
    · rcases q with q | q | q | q
      · exact absurd (q ▸ hj) hB.p_notD
      · exact absurd hj (hB.m_notD q)
      · exact absurd hj (hB.o_notD q)
      · exact .inl q
    · right; omega
  have bbB : HB[H.length]? = some (.row (stV (r.run s).epoch (r.run s).term (r.run s).leader vm' vo') 5 true) := (KB.fr _ (by omega) fun q => by have := (h.foot q).2; omega).trans bb
  have sbB : SlA HB encB 1 ab r.B := (ob.keep (H' := HB) fun id hid => frB id (ob.owner_ge hid).2 (nb id hid)).slA (fun _ => rfl) |>.2
  have omB : Own b HB Meta.cells 8 vm' (r.run s).metas := om'.keep fun id hid => frB id (om'.owner_ge hid).2 (nm id hid)
  have ooB : Own b HB encU 1 vo' (r.run s).offs := oo'.keep fun id hid => frB id (oo'.owner_ge hid).2 (no id hid)
  have nbB : ¬ footD d m M1 H.length := fun q => by
    rcases KB.ow _ (.inr (.inr (.inr q))) with w | w
    · have := (h.foot w).2; omega
    · rw [lH] at w; omega
  have nmBB : ∀ j, owner vm' = some j → ¬ footD d m M1 j := fun j hj q => by
    rcases KB.ow _ (.inr (.inr (.inr q))) with w | w
    · exact nm j hj w
    · have := (om'.owner_ge hj).2; omega
  have noB : ∀ j, owner vo' = some j → ¬ footD d m M1 j := fun j hj q => by
    rcases KB.ow _ (.inr (.inr (.inr q))) with w | w
    · exact no j hj w
    · have := (oo'.owner_ge hj).2; omega
  have hgB := hg
  have nB : M1.length ≤ M.length + 1 := hml
  obtain ⟨x, hx, hxn, hxt, hxl⟩ := hFB.file
  obtain ⟨A, B, rfl⟩ := List.append_of_mem hx
  have hrb := Rec.B_le hr
  have hbB : b ≤ HB.length := Nat.le_trans hb (Nat.le_trans (Nat.le_succ _) lenB)
  simp -dsimp only [go_sem, ↓reduceIte, Nat.reduceEqDiff, Nat.reduceAdd, Nat.reduceMul, Nat.reduceSub, Nat.reduceLeDiff, Nat.reduceLT]
  refine SoundP_of (frameLaw r.B ab cb _ sbB hrb.1) ?_
  rintro _ H2 ⟨q2, w, rfl, o2⟩
  obtain ⟨a2, c2, rfl, s2⟩ := o2.sl (fun _ => rfl)
  have h2 := hB.pre q2
  have g2 := h2.at_
  have hfl := frameB_len r.B
  simp -dsimp only [go_sem, ↓reduceIte, Nat.reduceEqDiff, Nat.reduceAdd, Nat.reduceMul, Nat.reduceSub, Nat.reduceLeDiff, Nat.reduceLT, Int.reduceBNe]
  refine adrawnP_of2 [(0, false), (1, false), (2, false), (3, false), (4, false), (5, false), (6, false), (7, false), (9, false), (8, true), (10, false), (11, false)] (by kernel_rfl) ?_
  simp -dsimp only [go_sem, ↓reduceIte, Nat.reduceEqDiff, Nat.reduceAdd, Nat.reduceMul, Nat.reduceSub, Nat.reduceLeDiff, Nat.reduceLT, g2]
  refine SoundP_of (nameLaw (gen + 1) hgB H2) ?_
  rintro _ K ⟨rfl, hK⟩
  rw [hK]
  clear hK
  have hap := appendOld h2.disk (by omega) (by omega) (by rw [hxn]; exact (nm_ok hgB).1) (frameB r.B) a2 c2 s2 (by omega) (by omega) (by have := pre_len q2; omega)
  rw [hxn] at hap
  simp -dsimp only [go_sem, ↓reduceIte, Nat.reduceEqDiff, Nat.reduceAdd, Nat.reduceMul, Nat.reduceSub, Nat.reduceLeDiff, Nat.reduceLT]
  refine SoundP_of hap ?_
  rintro _ H3 ⟨rfl, v', d3, k3⟩
  have h3 := h2.step d3 k3
  have g3 := h3.at_
  have l3 := k3.len
  refine ⟨fun q => absurd q (by decide), ?_⟩
  simp -dsimp only [go_sem, ↓reduceIte, Nat.reduceEqDiff, Nat.reduceAdd, Nat.reduceMul, Nat.reduceSub, Nat.reduceLeDiff, Nat.reduceLT, Int.reduceBNe]
  refine adrawnP_of2 [(0, false), (1, false), (2, false), (3, false), (4, false), (5, false), (6, false), (7, false), (8, true), (9, false), (10, false)] (by kernel_rfl) ?_
  simp -dsimp only [go_sem, ↓reduceIte, Nat.reduceEqDiff, Nat.reduceAdd, Nat.reduceMul, Nat.reduceSub, Nat.reduceLeDiff, Nat.reduceLT, g3]
  refine SoundP_of (nameLaw (gen + 1) hgB H3) ?_
  rintro _ K ⟨rfl, hK⟩
  rw [hK]
  clear hK
  have hsy := syncLaw (A := A) (B := B) (x := ⟨nmB (gen + 1), x.id, v', x.l ++ frameB r.B, x.synced⟩) h3.disk (by omega) (by omega) (nm_ok hgB).1 (by have := pre_len q2; omega)
  simp -dsimp only [go_sem, ↓reduceIte, Nat.reduceEqDiff, Nat.reduceAdd, Nat.reduceMul, Nat.reduceSub, Nat.reduceLeDiff, Nat.reduceLT]
  refine SoundP_of hsy ?_
  rintro _ H4 ⟨rfl, d4, k4⟩
  have h4 := h3.step d4 k4
  have g4 := h4.at_
  have K := k3.trans k4
  refine ⟨fun q => absurd q (by decide), ?_⟩
  have fr : ∀ j, j < HB.length → ¬ footD d m (A ++ x :: B) j → H4[j]? = HB[j]? := fun j hj hn => (K.fr j (Nat.lt_of_lt_of_le hj (pre_len q2)) hn).trans (by obtain ⟨L, rfl⟩ := q2; exact List.getElem?_append_left hj)
  have bb4 : H4[H.length]? = some (.row (stV (r.run s).epoch (r.run s).term (r.run s).leader vm' vo') 5 true) := (fr _ (get_lt bbB) nbB).trans bbB
  have om4 : Own b H4 Meta.cells 8 vm' (r.run s).metas := omB.keep fun id hid => fr id (omB.owner_ge hid).2 (nmBB id hid)
  have oo4 : Own b H4 encU 1 vo' (r.run s).offs := ooB.keep fun id hid => fr id (ooB.owner_ge hid).2 (noB id hid)
  have sep4 : ∀ y ∈ A ++ ⟨nmB (gen + 1), x.id, v', x.l ++ frameB r.B, ((x.l ++ frameB r.B).length : Nat)⟩ :: B, ∀ j, owner vo' = some j → owner y.v ≠ some j := fun y hy j hj hj2 => by
    rcases K.ow j (.inr (.inr ⟨y, hy, .inr hj2⟩)) with q | q
    · exact noB j hj q
    · have h1 := (ooB.owner_ge hj).2
      have h2 := pre_len q2
      omega
  have h5 := h4.set (gen + 1) true om4 oo4 sep4
  have l4 := K.len
  have q2l := pre_len q2
  simp -dsimp only [go_sem, ↓reduceIte, Nat.reduceEqDiff, Nat.reduceAdd, Nat.reduceMul, Nat.reduceSub, Nat.reduceLeDiff, Nat.reduceLT, Int.reduceBNe, bb4, g4, own_one om', own_one oo']
  refine ⟨_, ⟨_, ⟨h5, ⟨fun y hy hp => ?_, ?_, ?_⟩, ?_, by omega, by omega, by rw [List.length_set]; omega, fun j hj hn => ?_, fun j hj => ?_⟩⟩⟩
  · rw [List.mem_append, List.mem_cons] at hy
    rcases hy with hy | rfl | hy
    · exact hFB.names y (by simp [hy]) hp
    · exact hFB.names x (by simp) (by rw [hxn]; exact hp) |>.imp fun k hk => by rwa [hxn] at hk
    · exact hFB.names y (by simp [hy]) hp
  · have := hFB.len
    simp at this ⊢
    omega
  · exact ⟨⟨nmB (gen + 1), x.id, v', x.l ++ frameB r.B, ((x.l ++ frameB r.B).length : Nat)⟩, by simp, rfl, hxt.step r hr hr2, by simp only [List.length_append]; omega⟩
  · simpa using nB
  · rw [List.getElem?_set_ne fun q => hn (.inl q.symm)]
    have hjB := Nat.lt_of_lt_of_le hj (Nat.le_trans (Nat.le_succ _) lenB)
    have hnB : ¬ footD d m (A ++ x :: B) j := fun q => by
      rcases owB j q with q | q
      · exact hn (.inr (.inr (.inr q)))
      · omega
    exact (fr j hjB hnB).trans (frB j hj hn)
  · rcases K.ow j hj with q | q
    · exact owB j q
    · right; have := pre_len q2; omega
end Go.Proofs.YtekpdopbiklkfaaGreatDoor
end
section
set_option linter.unusedVariables false
set_option linter.unusedSimpArgs false
namespace Go.Proofs.YtekpdopbiklkfaaGreatDoor
open Go Go.AW
set_option linter.unusedSimpArgs false
set_option maxRecDepth 20000
variable {b : Nat} {H H' : AHeap} {p d m gen : Nat} {own : Bool} {s : St} {vm vo : Value} {ops : Int} {M M' : List FileS}
theorem refused_zero {s : St} {t : Txn} (h : refusedS s t = 0) : MayT t s.offs.length ∧ t.epoch = s.epoch ∧ (t.term = 0 ∨ t.term = s.term) ∧ (∀ m ∈ t.moves, m.from_ = s.offs.getD m.stream.toNat 0 ∧ m.from_ ≤ m.to_) ∧ Fresh s.metas t.add ∧ (∀ x ∈ t.drop, hasB s.metas x = true) ∧ Once t.drop ∧ (s.metas.length : Int) + t.add.length - t.drop.length ≤ 1000 := by
  unfold refusedS at h
  by_cases c1 : MayT t s.offs.length
  · rw [if_neg (not_not_intro c1)] at h
    by_cases c2 : t.epoch ≠ s.epoch
    · rw [if_pos c2] at h; cases h
    rw [if_neg c2] at h
    by_cases c3 : t.term ≠ 0 ∧ t.term ≠ s.term
    · rw [if_pos c3] at h; cases h
    rw [if_neg c3] at h
    by_cases c4 : ∃ m ∈ t.moves, m.from_ ≠ s.offs.getD m.stream.toNat 0 ∨ m.to_ < m.from_
    · rw [if_pos c4] at h; cases h
    rw [if_neg c4] at h
    by_cases c5 : ∃ m ∈ t.add, hasB s.metas m.seg = true
    · rw [if_pos c5] at h; cases h
    rw [if_neg c5] at h
    by_cases c6 : ¬ Once (t.add.map Meta.seg)
    · rw [if_pos c6] at h; cases h
    rw [if_neg c6] at h
    by_cases c7 : ∃ x ∈ t.drop, hasB s.metas x = false
    · rw [if_pos c7] at h; cases h
    rw [if_neg c7] at h
    by_cases c8 : ¬ Once t.drop
    · rw [if_pos c8] at h; cases h
    rw [if_neg c8] at h
    by_cases c9 : (1000 : Int) < s.metas.length + t.add.length - t.drop.length
    · rw [if_pos c9] at h; cases h
    refine ⟨c1, Decidable.not_not.1 c2, ?_, fun m hm => ?_, ⟨fun m hm => ?_, Decidable.not_not.1 c6⟩, fun x hx => ?_, Decidable.not_not.1 c8, by omega⟩
    · by_cases q : t.term = 0
      · exact .inl q
      · exact .inr (Decidable.not_not.1 fun w => c3 ⟨q, w⟩)
    · refine ⟨Decidable.not_not.1 fun w => c4 ⟨m, hm, .inl w⟩, Int.not_lt.1 fun w => c4 ⟨m, hm, .inr w⟩⟩
    · rw [← Bool.not_eq_true]; exact fun w => c5 ⟨m, hm, w⟩
    · rw [← Bool.not_eq_false]; exact fun w => c7 ⟨x, hx, w⟩
  · rw [if_pos c1] at h; cases h
theorem txn_ok {s : St} {t : Txn} (h : refusedS s t = 0) (ht : t.Ok) : TxnOk s t := by
  obtain ⟨h1, -, -, -, h5, -⟩ := refused_zero h
  exact ⟨ht, drops_fresh t.drop s.metas h5, h1.1.1⟩
theorem mem_moves : ∀ (l : List Move) (o : List Int) (n : Int), n ∈ l.foldl moveL o → n ∈ o ∨ ∃ m ∈ l, n = m.to_
  | [], o, n, h => .inl h
  | m :: l, o, n, h => by
    rcases mem_moves l (moveL o m) n h with q | ⟨m', hm', e⟩
    · rcases List.mem_or_eq_of_mem_set q with q | q
      · exact .inl q
      · exact .inr ⟨m, by simp, q⟩
    · exact .inr ⟨m', by simp [hm'], e⟩
theorem drop_len1 {l : List Meta} (hr : Ranked l) {x : Seg} (h : hasB l x = true) : (dropL l x).length + 1 = l.length := by
  obtain ⟨z, hz, he⟩ := hasB_iff.1 h
  obtain ⟨A, B, rfl⟩ := List.append_of_mem hz
  have hr' : (A ++ z :: B).Pairwise fun a b => cmpSeg a.seg b.seg < 0 := hr
  rw [List.pairwise_append, List.pairwise_cons] at hr'
  have a1 : A.filter (fun y => !(cmpSeg y.seg x == 0)) = A := List.filter_eq_self.2 fun y hy => by
    have h1 := hr'.2.2 y hy z (by simp)
    have : cmpSeg y.seg x ≠ 0 := fun q => by rw [cmpSeg_lt] at h1; rw [cmpSeg_eq] at q he; omega
    simpa using this
  have a2 : B.filter (fun y => !(cmpSeg y.seg x == 0)) = B := List.filter_eq_self.2 fun y hy => by
    have h1 := hr'.2.1.1 y hy
    have : cmpSeg y.seg x ≠ 0 := fun q => by rw [cmpSeg_lt] at h1; rw [cmpSeg_eq] at q he; omega
    simpa using this
  rw [dropL, List.filter_append, List.filter_cons_of_neg (by simp [he]), a1, a2]
  simp only [List.length_append, List.length_cons]; omega
theorem hasB_drop2 {l : List Meta} {x y : Seg} (hy : hasB l y = true) (hn : cmpSeg x y ≠ 0) : hasB (dropL l x) y = true := by
  obtain ⟨z, hz, he⟩ := hasB_iff.1 hy
  refine hasB_iff.2 ⟨z, mem_dropL.2 ⟨hz, fun q => hn ?_⟩, he⟩
  rw [cmpSeg_eq] at *; omega
theorem drops_len1 : ∀ (drop : List Seg) (l : List Meta), Ranked l → (∀ x ∈ drop, hasB l x = true) → Once drop → (drop.foldl dropL l).length + drop.length = l.length
  | [], l, _, _, _ => rfl
  | x :: drop, l, hr, h1, h2 => by
    rw [Once, List.pairwise_cons] at h2
    have := drops_len1 drop (dropL l x) (dropL_ranked hr x) (fun y hy => hasB_drop2 (h1 y (by simp [hy])) (h2.1 y hy)) h2.2
    have h3 := drop_len1 hr (h1 x (by simp))
    rw [List.foldl_cons, List.length_cons]; omega
theorem done_good {s : St} {t : Txn} (hs : Good s) (h : refusedS s t = 0) (ht : t.Ok) (he : s.epoch + 1 < 4611686018427387904) : Good (doneS s t) := by
  obtain ⟨h1, h2, h3, h4, h5, h6, h7, h8⟩ := refused_zero h
  have hl : ((doneS s t).metas.length : Int) = s.metas.length + t.add.length - t.drop.length := by
    show ((t.add.foldl putL (t.drop.foldl dropL s.metas)).length : Int) = _
    have := drops_len1 t.drop s.metas hs.ranked h6 h7
    rw [puts_len]; omega
  have ho : (doneS s t).offs.length = s.offs.length := moves_len t.moves s.offs
  refine ⟨⟨⟨by have := hs.ok.epoch.1; show 0 ≤ s.epoch + 1; omega, by show s.epoch + 1 < _; omega⟩, hs.ok.term, hs.ok.leader, fun m hm => ?_, fun n hn => ?_, by omega, by rw [ho]; exact hs.ok.lenO⟩, puts_ranked _ _ (drops_ranked t.drop s.metas hs.ranked) (drops_fresh t.drop s.metas h5), by rw [ho]; exact hs.n1, he, hs.t⟩
  · rcases (mem_puts _ _).1 hm with q | q
    · exact ht.add m q
    · exact hs.ok.metas m ((mem_drops _ _).1 q).1
  · rcases mem_moves _ _ _ hn with q | ⟨m, hm, rfl⟩
    · exact hs.ok.offs n q
    · exact (ht.moves m hm).to_
theorem layLaw (h : LogAt b H p d m gen own s vm vo ops M) {L : Nat} (hs : Good s) (hF : Files M gen s L) (hM : M.length < 700) (hL0 : 8 + s.B.length ≤ L) (hg : gen + 1 < 64) (hL : L ≤ 3000000) (ho : 0 ≤ ops ∧ ops < 100000000000) (hb : b ≤ H.length) (r : Rec) (hr : r.Ok s) (hr2 : Good (r.run s))
    {vb vm' vo' : Value} (ob : Own b H encB 1 vb r.B) (om' : Own b H Meta.cells 8 vm' (r.run s).metas) (oo' : Own b H encU 1 vo' (r.run s).offs)
    (nb : ∀ j, owner vb = some j → ¬ footL p d m vm vo M j) (nm : ∀ j, owner vm' = some j → ¬ footL p d m vm vo M j) (no : ∀ j, owner vo' = some j → ¬ footL p d m vm vo M j) :
    Sound Tryz.prog 42 [ptrV p, vb, .agg (stV (r.run s).epoch (r.run s).term (r.run s).leader vm' vo').toArray] H fun v H' => v = .nilIface ∧ ∃ gen' ops' M', gen ≤ gen' ∧ gen' ≤ gen + 1 ∧ (own = true → gen' = gen) ∧ Laid b H H' p d m gen gen' s vm vo M (r.run s) vm' vo' L (L + 8 + r.B.length) ops ops' M' := by
  cases own with
  | true =>
    refine (layOwn h hF (by omega) hL ho hb r hr hr2 ob om' oo' nb nm no).mono ?_
    rintro v H' ⟨rfl, M', h1⟩
    exact ⟨rfl, gen, _, M', Nat.le_refl _, Nat.le_succ _, fun _ => rfl, h1⟩
  | false =>
    refine (layNew h hs hF.names hM hL0 hg hL ho hb r hr hr2 ob om' oo' nb nm no).mono ?_
    rintro v H' ⟨rfl, ops', M', h1⟩
    exact ⟨rfl, gen + 1, ops', M', Nat.le_succ _, Nat.le_refl _, (fun q => by cases q), h1⟩
end Go.Proofs.YtekpdopbiklkfaaGreatDoor
end
section
set_option linter.unusedVariables false
set_option linter.unusedSimpArgs false
namespace Go.Proofs.YtekpdopbiklkfaaGreatDoor
open Go Go.AW
set_option linter.unusedSimpArgs false
set_option maxRecDepth 20000
variable {b : Nat} {H H' : AHeap} {p d m gen : Nat} {own : Bool} {s : St} {vm vo : Value} {ops : Int} {M M' : List FileS}
theorem doneOwn {b : Nat} {H : AHeap} {vm vo : Value} {s : St} {t : Txn} (om : Own b H Meta.cells 8 vm s.metas) (oo : Own b H encU 1 vo s.offs) (hs : Good s) (ht : TxnOk s t) (aa ad av : Option Addr) (ca cd cv : Nat) (h3 : SlA H Meta.cells 8 aa t.add) (h4 : SlA H Seg.cells 5 ad t.drop) (h5 : SlA H Move.cells 3 av t.moves) :
    Sound Tryz.prog 44 [.agg (stV s.epoch s.term s.leader vm vo).toArray, .agg (txC t aa ad av ca cd cv).toArray] H fun v H' => H <+: H' ∧ ∃ vm vo, v = .agg (stV (s.epoch + 1) s.term s.leader vm vo).toArray ∧ Own H.length H' Meta.cells 8 vm (doneS s t).metas ∧ Own H.length H' encU 1 vo (doneS s t).offs := by
  obtain ⟨am, cm, rfl, sm⟩ := om.sl (fun _ => rfl)
  obtain ⟨ao, co, rfl, so⟩ := oo.sl (fun _ => rfl)
  exact doneLaw s t am ao aa ad av cm co ca cd cv H sm so h3 h4 h5 hs.ranked ht.fresh ht.moves hs.ok.len hs.ok.lenO ht.ok.lenA ht.ok.lenD ht.ok.lenM ⟨by have := hs.ok.epoch.1; omega, hs.e⟩
structure Moved (b : Nat) (H H' : AHeap) (p d m gen : Nat) (s : St) (vm vo : Value) (M : List FileS) (s' : St) (L' : Nat) (ops : Int) (own : Bool) (vmr vor : Value) : Prop where
  ex : ∃ gen' ops' M' vm' vo', LogAt b H' p d m gen' true s' vm' vo' ops' M' ∧ Files M' gen' s' L' ∧ gen ≤ gen' ∧ gen' ≤ gen + 1 ∧ (own = true → gen' = gen) ∧ ops ≤ ops' ∧ ops' ≤ ops + 6 + M.length ∧ M'.length ≤ M.length + 1 ∧
    (∀ j, footL p d m vm' vo' M' j → footL p d m vm vo M j ∨ H.length ≤ j) ∧ ∀ j, owner vmr = some j ∨ owner vor = some j → ¬ footL p d m vm' vo' M' j
  len : H.length ≤ H'.length
  fr : ∀ j, j < H.length → ¬ footL p d m vm vo M j → H'[j]? = H[j]?
  om : Own H.length H' Meta.cells 8 vmr s'.metas
  oo : Own H.length H' encU 1 vor s'.offs
set_option maxHeartbeats 4000000 in
theorem doLaw0 (h : LogAt b H p d m gen own s vm vo ops M) (hs : Good s) (hb : b ≤ H.length) (t : Txn) (aa ad av : Option Addr) (ca cd cv : Nat) (h3 : SlA H Meta.cells 8 aa t.add) (h4 : SlA H Seg.cells 5 ad t.drop) (h5 : SlA H Move.cells 3 av t.moves)
    (hbs : ∀ m ∈ t.add, m.blob.size < 4000000) (hlA : t.add.length ≤ 3000) (hlD : t.drop.length ≤ 3000) (hlM : t.moves.length < 1000000) (hne : refusedS s t ≠ 0) :
    Sound Tryz.prog 16 [ptrV p, .agg (txC t aa ad av ca cd cv).toArray] H fun v H' => v = .tuple #[.agg (stV 0 0 0 nilV nilV).toArray, .int .i64 (refusedS s t)] ∧ H <+: H' := by
  refine Sound.of_body (rs := [.cell 4 41, .tmp 5]) mixed Tryz.func16 rfl (by kernel_rfl) rfl (by kernel_rfl) ?_
  have p0 : H <+: H ++ [AObj.row (txC t aa ad av ca cd cv) 7 true, AObj.row (stV 0 0 0 nilV nilV) 5 true] := List.prefix_append _ _
  have b0 := get_end H (AObj.row (txC t aa ad av ca cd cv) 7 true) [AObj.row (stV 0 0 0 nilV nilV) 5 true]
  have c0 := get_end1 H (AObj.row (txC t aa ad av ca cd cv) 7 true) (AObj.row (stV 0 0 0 nilV nilV) 5 true) []
  have h0 := h.pre p0
  have g0 := h0.at_
  obtain ⟨am, cm, rfl, sm⟩ := h0.om.sl (fun _ => rfl)
  obtain ⟨ao, co, rfl, so⟩ := h0.oo.sl (fun _ => rfl)
  simp -dsimp only [go_sem, ↓reduceIte, Nat.reduceEqDiff, Nat.reduceAdd, Nat.reduceMul, Nat.reduceSub, Nat.reduceLeDiff, Nat.reduceLT]
  refine SoundP_of (readyLaw h0) ?_
  rintro _ K ⟨rfl, hK⟩
  rw [hK]
  clear hK
  simp -dsimp only [go_sem, ↓reduceIte, Nat.reduceEqDiff, Nat.reduceAdd, Nat.reduceMul, Nat.reduceSub, Nat.reduceLeDiff, Nat.reduceLT, Int.reduceBNe]
  refine adrawnP_of2 [(0, false), (1, false), (2, false), (3, false), (4, false), (5, false), (6, false)] (by kernel_rfl) ?_
  simp -dsimp only [go_sem, ↓reduceIte, Nat.reduceEqDiff, Nat.reduceAdd, Nat.reduceMul, Nat.reduceSub, Nat.reduceLeDiff, Nat.reduceLT, g0]
  refine SoundP_of (refusedLaw s t am ao aa ad av cm co ca cd cv _ sm so (h3.pre p0) (h4.pre p0) (h5.pre p0) hs.ranked hs.ok.len hs.ok.lenO hbs hlA hlD hlM) ?_
  rintro _ H1 ⟨rfl, p1⟩
  have c1 := pre_get p1 c0
  have z : (refusedS s t != 0) = true := by simpa using hne
  have q1 := p0.trans p1
  refine grown_any p1 ?_
  simp -dsimp only [go_sem, ↓reduceIte, Nat.reduceEqDiff, Nat.reduceAdd, Nat.reduceMul, Nat.reduceSub, Nat.reduceLeDiff, Nat.reduceLT, z, c1, set_same c1]
  exact q1
set_option maxHeartbeats 4000000 in
theorem doLaw1 (h : LogAt b H p d m gen own s vm vo ops M) {L : Nat} (hs : Good s) (hF : Files M gen s L) (hM : M.length < 700) (hL0 : 8 + s.B.length ≤ L) (hg : gen + 1 < 64) (hL : L ≤ 3000000) (ho : 0 ≤ ops ∧ ops < 100000000000) (hb : b ≤ H.length) (t : Txn) (ht : t.Ok) (he : s.epoch + 1 < 4611686018427387904)
    (aa ad av : Option Addr) (ca cd cv : Nat) (h3 : SlA H Meta.cells 8 aa t.add) (h4 : SlA H Seg.cells 5 ad t.drop) (h5 : SlA H Move.cells 3 av t.moves) (hz : refusedS s t = 0) :
    Sound Tryz.prog 16 [ptrV p, .agg (txC t aa ad av ca cd cv).toArray] H fun v H' => ∃ vmr vor, v = .tuple #[.agg (stV (s.epoch + 1) s.term s.leader vmr vor).toArray, .int .i64 0] ∧ Moved b H H' p d m gen s vm vo M (doneS s t) (L + 8 + t.B.length) ops own vmr vor := by
  refine Sound.of_body (rs := [.cell 4 41, .tmp 5]) mixed Tryz.func16 rfl (by kernel_rfl) rfl (by kernel_rfl) ?_
  have p0 : H <+: H ++ [AObj.row (txC t aa ad av ca cd cv) 7 true, AObj.row (stV 0 0 0 nilV nilV) 5 true] := List.prefix_append _ _
  have b0 := get_end H (AObj.row (txC t aa ad av ca cd cv) 7 true) [AObj.row (stV 0 0 0 nilV nilV) 5 true]
  have c0 := get_end1 H (AObj.row (txC t aa ad av ca cd cv) 7 true) (AObj.row (stV 0 0 0 nilV nilV) 5 true) []
  have lH : (H ++ [AObj.row (txC t aa ad av ca cd cv) 7 true, AObj.row (stV 0 0 0 nilV nilV) 5 true]).length = H.length + 2 := by simp
  have h0 := h.pre p0
  have g0 := h0.at_
  have hT := txn_ok hz ht
  have hG := done_good hs hz ht he
  have hbs : ∀ m ∈ t.add, m.blob.size < 4000000 := fun m hm => by have := (ht.add m hm).blob; omega
  have hlM := ht.lenM
  obtain ⟨am, cm, hvm, sm⟩ := h0.om.sl (fun _ => rfl)
  obtain ⟨ao, co, hvo, so⟩ := h0.oo.sl (fun _ => rfl)
  have hrf : Sound Tryz.prog 40 [.agg (stV s.epoch s.term s.leader vm vo).toArray, .agg (txC t aa ad av ca cd cv).toArray] (H ++ [AObj.row (txC t aa ad av ca cd cv) 7 true, AObj.row (stV 0 0 0 nilV nilV) 5 true]) fun v H' => v = .int .i64 (refusedS s t) ∧ (H ++ [AObj.row (txC t aa ad av ca cd cv) 7 true, AObj.row (stV 0 0 0 nilV nilV) 5 true]) <+: H' := by
    rw [hvm, hvo]; exact refusedLaw s t am ao aa ad av cm co ca cd cv _ sm so (h3.pre p0) (h4.pre p0) (h5.pre p0) hs.ranked hs.ok.len hs.ok.lenO hbs ht.lenA ht.lenD (by omega)
  simp -dsimp only [go_sem, ↓reduceIte, Nat.reduceEqDiff, Nat.reduceAdd, Nat.reduceMul, Nat.reduceSub, Nat.reduceLeDiff, Nat.reduceLT]
  refine SoundP_of (readyLaw h0) ?_
  rintro _ K ⟨rfl, hK⟩
  rw [hK]
  clear hK
  simp -dsimp only [go_sem, ↓reduceIte, Nat.reduceEqDiff, Nat.reduceAdd, Nat.reduceMul, Nat.reduceSub, Nat.reduceLeDiff, Nat.reduceLT, Int.reduceBNe]
  refine adrawnP_of2 [(0, false), (1, false), (2, false), (3, false), (4, false), (5, false), (6, false)] (by kernel_rfl) ?_
  simp -dsimp only [go_sem, ↓reduceIte, Nat.reduceEqDiff, Nat.reduceAdd, Nat.reduceMul, Nat.reduceSub, Nat.reduceLeDiff, Nat.reduceLT, g0]
  refine SoundP_of hrf ?_
  rintro _ H1 ⟨rfl, p1⟩
  have q1 := p0.trans p1
  have l1 := pre_len p1
  rw [lH] at l1
  have h1 := h0.pre p1
  have g1 := h1.at_
  have b1 := pre_get p1 b0
  have c1 := pre_get p1 c0
  refine grown_any p1 ?_
  rw [hz]
  simp -dsimp only [go_sem, ↓reduceIte, Nat.reduceEqDiff, Nat.reduceAdd, Nat.reduceMul, Nat.reduceSub, Nat.reduceLeDiff, Nat.reduceLT, Int.reduceBNe]
  refine adrawnP_of2 [(0, false), (1, false), (2, false), (4, false), (5, false), (6, false), (7, false), (8, false), (3, true), (9, false), (10, false), (11, false), (12, false)] (by kernel_rfl) ?_
  simp -dsimp only [go_sem, ↓reduceIte, Nat.reduceEqDiff, Nat.reduceAdd, Nat.reduceMul, Nat.reduceSub, Nat.reduceLeDiff, Nat.reduceLT, b1, g1]
  refine SoundP_of (txnBytes t ht aa ad av ca cd cv H1 (h3.pre q1) (h4.pre q1) (h5.pre q1)) ?_
  rintro vb H2 ⟨p2, ob⟩
  have q2 := q1.trans p2
  refine grown_any p2 ?_
  have h2 := h1.pre p2
  simp -dsimp only [go_sem, ↓reduceIte, Nat.reduceEqDiff, Nat.reduceAdd, Nat.reduceMul, Nat.reduceSub, Nat.reduceLeDiff, Nat.reduceLT]
  refine SoundP_of (doneOwn h2.om h2.oo hs hT aa ad av ca cd cv (h3.pre q2) (h4.pre q2) (h5.pre q2)) ?_
  rintro _ H3 ⟨p3, vm', vo', rfl, om', oo'⟩
  refine grown_any p3 ?_
  have q3 := q2.trans p3
  have h3L := h2.pre p3
  have hlen2 := pre_len q2
  have ob3 := (ob.pre p3)
  have ftop : ∀ j, footL p d m vm vo M j → j < H.length := fun j hj => (h.foot hj).2
  have lay := layLaw h3L hs hF hM hL0 hg hL ho (by have := pre_len q3; omega) (.txn t) hT hG (ob3.mono (show b ≤ H1.length by omega)) (om'.mono (show b ≤ H2.length by omega)) (oo'.mono (show b ≤ H2.length by omega))
    (fun j hj q => by have := ftop j q; have := (ob.owner_ge hj).1; omega) (fun j hj q => by have := ftop j q; have := (om'.owner_ge hj).1; omega) (fun j hj q => by have := ftop j q; have := (oo'.owner_ge hj).1; omega)
  simp -dsimp only [go_sem, ↓reduceIte, Nat.reduceEqDiff, Nat.reduceAdd, Nat.reduceMul, Nat.reduceSub, Nat.reduceLeDiff, Nat.reduceLT]
  refine SoundP_of lay ?_
  rintro _ H4 ⟨rfl, gen', ops', M', hg1, hg2, hg3, hl⟩
  have hl : Laid b H3 H4 p d m gen gen' s vm vo M (doneS s t) vm' vo' L (L + 8 + t.B.length) ops ops' M' := hl
  refine ⟨fun q => absurd q (by decide), ?_⟩
  simp -dsimp only [go_sem, ↓reduceIte, Nat.reduceEqDiff, Nat.reduceAdd, Nat.reduceMul, Nat.reduceSub, Nat.reduceLeDiff, Nat.reduceLT]
  refine SoundP_of (answerNil H4 p) ?_
  rintro _ H5 ⟨rfl, p5⟩
  have h5L := hl.log.pre p5
  have g5 := h5L.at_
  have hq3l := pre_len q3
  have hl4 := hl.len
  have c4 : H4[H.length + 1]? = some (.row (stV 0 0 0 nilV nilV) 5 true) := (hl.fr _ (by have := pre_len (p1.trans (p2.trans p3)); have := get_lt c1; have := pre_len p2; have := pre_len p3; omega) fun q => by have := ftop _ q; omega).trans (pre_get (p2.trans p3) c1)
  have c5 := pre_get p5 c4
  simp -dsimp only [go_sem, ↓reduceIte, Nat.reduceEqDiff, Nat.reduceAdd, Nat.reduceMul, Nat.reduceSub, Nat.reduceLeDiff, Nat.reduceLT, Int.reduceBNe, g5]
  refine SoundP_of (copiedOwn h5L.om h5L.oo hG) ?_
  rintro _ H6 ⟨p6, vmr, vor, rfl, omr, oor⟩
  have c6 := pre_get p6 c5
  have h6L := h5L.pre p6
  have lH2 := pre_len p2
  have lH3 := pre_len p3
  have hpl := h.lt
  have hnf : ¬ footL p d m vm' vo' M' (H.length + 1) := fun q => by
    rcases q with q | q | q | q
    · omega
    · have := (om'.owner_ge q).1; omega
    · have := (oo'.owner_ge q).1; omega
    · rcases hl.ow _ q with w | w
      · have := (h.disk.foot w).2; omega
      · omega
  have h7L : LogAt b (H6.set (H.length + 1) (.row (stV (doneS s t).epoch (doneS s t).term (doneS s t).leader vmr vor) 5 true)) p d m gen' true (doneS s t) vm' vo' ops' M' := h6L.keep fun j hj => List.getElem?_set_ne fun e => by rw [← e] at hj; exact hnf hj
  have c7 := List.getElem?_set_self (a := AObj.row (stV (doneS s t).epoch (doneS s t).term (doneS s t).leader vmr vor) 5 true) (get_lt c6)
  have omr7 := own_set c6 omr (by decide) (.row (stV (doneS s t).epoch (doneS s t).term (doneS s t).leader vmr vor) 5 true)
  have oor7 := own_set c6 oor (by decide) (.row (stV (doneS s t).epoch (doneS s t).term (doneS s t).leader vmr vor) 5 true)
  have fr7 : ∀ j, j < H.length → ¬ footL p d m vm vo M j → (H6.set (H.length + 1) (.row (stV (doneS s t).epoch (doneS s t).term (doneS s t).leader vmr vor) 5 true))[j]? = H[j]? := fun j hj hn => by
    rw [List.getElem?_set_ne (by omega)]
    have e1 : H6[j]? = H4[j]? := by
      obtain ⟨L1, rfl⟩ := p5
      obtain ⟨L2, rfl⟩ := p6
      rw [List.getElem?_append_left (by rw [List.length_append]; omega), List.getElem?_append_left (by omega)]
    rw [e1, hl.fr j (by omega) hn]
    obtain ⟨L3, rfl⟩ := q3
    exact List.getElem?_append_left hj
  have l5 := pre_len p5
  have l6 := pre_len p6
  have l7 : (H6.set (H.length + 1) (.row (stV (doneS s t).epoch (doneS s t).term (doneS s t).leader vmr vor) 5 true)).length = H6.length := List.length_set
  have sepR : ∀ j, owner vmr = some j ∨ owner vor = some j → ¬ footL p d m vm' vo' M' j := fun j hj q => by
    have h1 := (h5L.foot q).2
    rcases hj with hj | hj
    · have := (omr.owner_ge hj).1; omega
    · have := (oor.owner_ge hj).1; omega
  have owF : ∀ j, footL p d m vm' vo' M' j → footL p d m vm vo M j ∨ H.length ≤ j := fun j hj => by
    rcases hj with q | q | q | q
    · exact .inl (.inl q)
    · right; have := (om'.owner_ge q).1; omega
    · right; have := (oo'.owner_ge q).1; omega
    · rcases hl.ow _ q with w | w
      · exact .inl (.inr (.inr (.inr w)))
      · right; omega
  simp -dsimp only [go_sem, ↓reduceIte, Nat.reduceEqDiff, Nat.reduceAdd, Nat.reduceMul, Nat.reduceSub, Nat.reduceLeDiff, Nat.reduceLT, c6, own_one omr, own_one oor]
  generalize H6.set (H.length + 1) (.row (stV (doneS s t).epoch (doneS s t).term (doneS s t).leader vmr vor) 5 true) = H7 at *
  simp -dsimp only [go_sem, ↓reduceIte, Nat.reduceEqDiff, Nat.reduceAdd, Nat.reduceMul, Nat.reduceSub, Nat.reduceLeDiff, Nat.reduceLT, c7]
  exact ⟨vmr, vor, rfl, ⟨⟨gen', ops', M', vm', vo', h7L, hl.files, hg1, hg2, hg3, hl.o1, hl.o2, hl.n, owF, sepR⟩, by omega, fr7, omr7.mono (by omega), oor7.mono (by omega)⟩⟩
end Go.Proofs.YtekpdopbiklkfaaGreatDoor
end
section
set_option linter.unusedVariables false
set_option linter.unusedSimpArgs false
namespace Go.Proofs.YtekpdopbiklkfaaGreatDoor
open Go Go.AW
set_option linter.unusedSimpArgs false
set_option maxRecDepth 20000
variable {b : Nat} {H H' : AHeap} {d m gen : Nat} {ops : Int} {M M' : List FileS}
def newS (n : Nat) : St := ⟨0, 0, 0, [], List.replicate n 0⟩
theorem newS_good {n : Nat} (h : 1 ≤ n ∧ n ≤ 8) : Good (newS n) := by
  have z : ∀ x ∈ List.replicate n (0 : Int), U64 x := fun x hx => by rw [List.eq_of_mem_replicate hx]; exact ⟨by omega, by omega⟩
  have nz : N63 0 := ⟨by omega, by omega⟩
  refine ⟨⟨nz, nz, nz, fun m hm => (nomatch hm), z, by show (0 : Nat) ≤ 3000; omega, ?_⟩, .nil, ?_, ?_, ?_⟩
  · show (List.replicate n (0 : Int)).length ≤ 8
    rw [List.length_replicate]; exact h.2
  · show 1 ≤ (List.replicate n (0 : Int)).length
    rw [List.length_replicate]; exact h.1
  · show (0 : Int) < _; omega
  · show (0 : Int) < _; omega
theorem alloc_u64 {T : Tm} {d : Option Tmp} {ty : TypeId} {pos : String} {aft : Array Edge} {gd : Option (Nat × Bool)} {l c : Operand} {n : Nat} (h1 : aev T l = .int .i64 (n : Nat)) (h2 : aev T c = .int .i64 (n : Nat)) (hn : n < 4000000) :
    aalloc Tryz.prog T ⟨d, .makeSlice 39 l c, ty, pos, aft, gd⟩ = some (.row ((List.replicate n (0 : Int)).flatMap encU) 1 true, fun id => .slice (some ⟨id, 0, none⟩) n n) := by
  obtain ⟨i, i1, i2, i3, i4⟩ := inf52
  simp only [aalloc, h1, h2, el39, i1, i2, i3, i4, Option.bind_some, Int.toNat_natCast]
  rw [if_pos ⟨by omega, by omega, by omega, by omega, by omega, rfl, rfl⟩]
  congr 3
  rw [Nat.mul_one]
  apply List.ext_getElem?
  intro j
  have e : (List.replicate n (0 : Int)).flatMap encU = List.replicate n (.int .u64 0) := by
    clear h1 h2 hn i4 i3 i2 i1 i
    induction n with
    | zero => rfl
    | succ n ih => rw [List.replicate_succ, List.flatMap_cons, ih]; rfl
  rw [e]
  simp only [Array.toList_map, Array.toList_range, List.getElem?_map, List.getElem?_replicate]
  rcases Nat.lt_or_ge j n with q | q
  · rw [if_pos q, List.getElem?_range q]
    simp [Value.cells, Nat.mod_one]
  · rw [if_neg (by omega), List.getElem?_eq_none (by simpa using q)]; rfl
set_option maxHeartbeats 4000000 in
theorem openLaw (hd : DiskAt b H d m false ops (-1) 0 M) (n : Nat) (hn : 1 ≤ n ∧ n ≤ 8) (hN : NamesOk M gen) (hg : gen + 1 < 64) (hM : M.length < 700) (ho : 0 ≤ ops ∧ ops < 100000000000) (hb : b ≤ H.length) (s : St) (L : Nat)
    (hcase : (gen = 0 ∧ s = newS n ∧ 8 + (newS n).B.length ≤ L) ∨ (1 ≤ gen ∧ Files M gen s L ∧ s.offs.length = n ∧ L ≤ 3000000)) :
    Sound Tryz.prog 27 [ptrV d, .int .i64 n] H fun v H' => ∃ p gen' own' vm vo ops' M', v = .tuple #[ptrV p, .int .i64 0] ∧ LogAt b H' p d m gen' own' s vm vo ops' M' ∧ Files M' gen' s L ∧ (gen = 0 → gen' = 1) ∧ (1 ≤ gen → gen' = gen) ∧ ops ≤ ops' ∧ ops' ≤ ops + 6 + M.length ∧ M'.length ≤ M.length + 1 ∧
      H.length ≤ H'.length ∧ (∀ j, j < H.length → ¬ footD d m M j → H'[j]? = H[j]?) ∧ ∀ j, footL p d m vm vo M' j → footD d m M j ∨ H.length ≤ j := by
  refine Sound.of_body (rs := [.tmp 4, .tmp 5]) mixed Tryz.func27 rfl (by kernel_rfl) rfl (by kernel_rfl) ?_
  have z1 : decide ((n : Int) < 1) = false := decide_eq_false (by omega)
  have z2 : decide ((8 : Int) < (n : Int)) = false := decide_eq_false (by omega)
  simp -dsimp only [go_sem, ↓reduceIte, Nat.reduceEqDiff, Nat.reduceAdd, Nat.reduceMul, Nat.reduceSub, Nat.reduceLeDiff, Nat.reduceLT, z1, z2]
  refine SoundP_of (offLaw hd) ?_
  rintro _ K ⟨rfl, hK⟩
  rw [hK]
  clear hK
  simp -dsimp only [go_sem, ↓reduceIte, Nat.reduceEqDiff, Nat.reduceAdd, Nat.reduceMul, Nat.reduceSub, Nat.reduceLeDiff, Nat.reduceLT]
  refine bindP_of (alloc_u64 (n := n) (by simp -dsimp only [go_sem, ↓reduceIte, Nat.reduceEqDiff, Nat.reduceAdd, Nat.reduceMul, Nat.reduceSub, Nat.reduceLeDiff, Nat.reduceLT]) (by simp -dsimp only [go_sem, ↓reduceIte, Nat.reduceEqDiff, Nat.reduceAdd, Nat.reduceMul, Nat.reduceSub, Nat.reduceLeDiff, Nat.reduceLT]) (by omega)) ?_
  have p0 : H <+: H ++ [AObj.row ((List.replicate n (0 : Int)).flatMap encU) 1 true, AObj.row (logC d (newS n) nilV (.slice (some ⟨H.length, 0, none⟩) n n) 0 false) 9 true] := List.prefix_append _ _
  have b0 := get_end H (AObj.row ((List.replicate n (0 : Int)).flatMap encU) 1 true) [AObj.row (logC d (newS n) nilV (.slice (some ⟨H.length, 0, none⟩) n n) 0 false) 9 true]
  have c0 := get_end1 H (AObj.row ((List.replicate n (0 : Int)).flatMap encU) 1 true) (AObj.row (logC d (newS n) nilV (.slice (some ⟨H.length, 0, none⟩) n n) 0 false) 9 true) []
  simp -dsimp only [go_sem, ↓reduceIte, Nat.reduceEqDiff, Nat.reduceAdd, Nat.reduceMul, Nat.reduceSub, Nat.reduceLeDiff, Nat.reduceLT]
  have hd0 := hd.pre p0
  have lH : (H ++ [AObj.row ((List.replicate n (0 : Int)).flatMap encU) 1 true, AObj.row (logC d (newS n) nilV (.slice (some ⟨H.length, 0, none⟩) n n) 0 false) 9 true]).length = H.length + 2 := by simp
  have hoo : Own b (H ++ [AObj.row ((List.replicate n (0 : Int)).flatMap encU) 1 true, AObj.row (logC d (newS n) nilV (.slice (some ⟨H.length, 0, none⟩) n n) 0 false) 9 true]) encU 1 (.slice (some ⟨H.length, 0, none⟩) n n) (newS n).offs := by
    refine .inr ⟨H.length, [], n, hb, ?_, by rw [List.append_nil]; exact b0, .inr ⟨by omega, ?_⟩⟩
    · show _ = Value.slice (some ⟨H.length, 0, none⟩) (List.replicate n (0 : Int)).length n
      rw [List.length_replicate]
    · rw [List.append_nil, flat_len (k := 1) (fun _ => rfl)]
      show n * 1 = (List.replicate n (0 : Int)).length * 1
      rw [List.length_replicate]
  have h0 : LogAt b _ (H.length + 1) d m 0 false (newS n) nilV (.slice (some ⟨H.length, 0, none⟩) n n) ops M :=
    ⟨by omega, c0, Own.nil _ _ _ _, hoo, hd0, fun x hx j hj q => by
      have h1 := ((hd.files x hx).own.owner_ge q).2
      simp only [owner, Option.some.injEq] at hj
      omega⟩
  generalize hvo : (Value.slice (some ⟨H.length, 0, none⟩) n n) = vo at *
  refine SoundP_of (listLaw hd0 pfxM (by omega)) ?_
  rintro v1 H1 ⟨p1, l, hl, ol⟩
  have h1 := h0.pre p1
  rw [lH] at ol
  have lH1 := pre_len p1
  rw [lH] at lH1
  obtain ⟨al, cl, rfl, sl⟩ := ol.sl (fun _ => rfl)
  have hll : l.length ≤ M.length := by
    rw [hl.length_eq]
    refine Nat.le_trans (List.length_filter_le _ _) ?_
    rw [List.length_map]; exact Nat.le_refl _
  have hmem : ∀ s ∈ l, ∃ k, 1 ≤ k ∧ k ≤ gen ∧ s = nmB k := fun s hs => by
    rw [hl.mem_iff, List.mem_filter, List.mem_map] at hs
    obtain ⟨⟨x, hx, rfl⟩, hp⟩ := hs
    exact hN x hx hp
  simp -dsimp only [go_sem, ↓reduceIte, Nat.reduceEqDiff, Nat.reduceAdd, Nat.reduceMul, Nat.reduceSub, Nat.reduceLeDiff, Nat.reduceLT]
  refine aloop_join (fun T H' => ∃ g, LogAt b H' (H.length + 1) d m g false (newS n) nilV vo ops M ∧ But (H.length + 1) H1 H' ∧ g ≤ gen ∧ (∀ k, k < 64 → nmB k ∈ l → k ≤ g) ∧ T 1 = .int .i64 n ∧ T 6 = ptrV (H.length + 1))
    (fun k T H' => ∃ (i g : Nat), k = l.length - i ∧ i ≤ l.length ∧ LogAt b H' (H.length + 1) d m g false (newS n) nilV vo ops M ∧ But (H.length + 1) H1 H' ∧ Own (H.length + 2) H' encStrB 1 (.slice al l.length cl) l ∧ g ≤ gen ∧ (∀ k, k < 64 → nmB k ∈ l.take i → k ≤ g) ∧
      T 1 = .int .i64 n ∧ T 6 = ptrV (H.length + 1) ∧ T 32 = .slice al l.length cl ∧ T 33 = .int .i64 l.length ∧ T 34 = .int .i64 (i : Nat)) (n := l.length) ?_ ?_ ?_
  · refine ⟨0, 0, ?_⟩
    simp -dsimp only [go_sem, ↓reduceIte, Nat.reduceEqDiff, Nat.reduceAdd, Nat.reduceMul, Nat.reduceSub, Nat.reduceLeDiff, Nat.reduceLT]
    exact ⟨rfl, Nat.zero_le _, h1, But.refl _ _, ol, Nat.zero_le _, by simp, rfl⟩
  · rintro k T H' ⟨i, g, rfl, hi, hL, hB, hown, hgg, hmax, t1, t6, t32, t33, t34⟩
    simp -dsimp only [go_sem, ↓reduceIte, Nat.reduceEqDiff, Nat.reduceAdd, Nat.reduceMul, Nat.reduceSub, Nat.reduceLeDiff, Nat.reduceLT, t1, t6, t32, t33, t34]
    refine acondP_of (fun h => ?_) (fun h => ?_)
    · simp at h
      obtain ⟨y, hy⟩ := get_ex h
      obtain ⟨k, hk1, hk2, rfl⟩ := hmem y (List.mem_of_getElem? hy)
      obtain ⟨id9, off9, hid9, hat⟩ := (hown.slA (fun _ => rfl)).2.at (by omega)
      subst hid9
      have gL := hL.at_
      simp -dsimp only [go_sem, ↓reduceIte, Nat.reduceEqDiff, Nat.reduceAdd, Nat.reduceMul, Nat.reduceSub, Nat.reduceLeDiff, Nat.reduceLT, t1, t6, t32, t33, t34, inRange h, rowLoad_one0 (hat i _ hy)]
      refine adrawnP_of2 [(0, false), (1, false), (2, false), (3, false), (4, false), (5, false), (6, true), (7, false), (8, false), (9, false), (10, false)] (by kernel_rfl) ?_
      simp -dsimp only [go_sem, ↓reduceIte, Nat.reduceEqDiff, Nat.reduceAdd, Nat.reduceMul, Nat.reduceSub, Nat.reduceLeDiff, Nat.reduceLT, t1, t6, t32, t33, t34, gL]
      refine SoundP_of (numberLaw' k (by omega) H') ?_
      rintro _ K ⟨rfl, hK2⟩
      rw [hK2]
      clear hK2
      have e : (if (k : Int) > (g : Int) then (k : Int) else (g : Int)) = ((max g k : Nat) : Int) := by split <;> omega
      simp -dsimp only [go_sem, ↓reduceIte, Nat.reduceEqDiff, Nat.reduceAdd, Nat.reduceMul, Nat.reduceSub, Nat.reduceLeDiff, Nat.reduceLT, t1, t6, t32, t33, t34, gL, e, wrS (show i < 4611686018427387904 by omega)]
      have hm2 : max g k ≤ gen := by omega
      refine ⟨_, by omega, i + 1, max g k, rfl, h, hL.set (max g k) false hL.om hL.oo hL.sep, ⟨by rw [List.length_set]; exact hB.1, fun j hj hn => (List.getElem?_set_ne (Ne.symm hn)).trans (hB.2 j hj hn)⟩, own_set gL hown (by decide) _, hm2, fun q hq hqm => ?_, rfl⟩
      rw [List.take_add_one, hy, List.mem_append] at hqm
      rcases hqm with hqm | hqm
      · have := hmax q hq hqm; omega
      · have e2 : nmB q = nmB k := by simpa using hqm
        have := nm_inj hq (by omega) e2
        omega
    · simp at h
      rw [List.take_of_length_le h] at hmax
      simp -dsimp only [go_sem, ↓reduceIte, Nat.reduceEqDiff, Nat.reduceAdd, Nat.reduceMul, Nat.reduceSub, Nat.reduceLeDiff, Nat.reduceLT, t1, t6, t32, t33, t34]
      exact ⟨g, hL, hB, hgg, hmax⟩
  · rintro T H2 ⟨g, hL, hB, hgg, hmax, t1, t6⟩
    have gL := hL.at_
    have lB := hB.1
    have frB : ∀ j, j < H.length → H2[j]? = H[j]? := fun j hj => by
      rw [hB.2 j (by omega) (by omega)]
      obtain ⟨L1, rfl⟩ := p1
      rw [List.append_assoc, List.getElem?_append_left (by omega)]
    have hown0 : ∀ j, owner vo = some j → j = H.length := fun j hj => by
      rw [← hvo] at hj
      simpa [owner] using hj.symm
    rcases hcase with ⟨hg0, rfl, hL8⟩ | ⟨hg1, hF, hsn, hL3⟩
    · have hgz : g = 0 := by omega
      subst hgz
      subst hg0
      have z : (((0 : Nat) : Int) == 0) = true := rfl
      simp -dsimp only [go_sem, ↓reduceIte, Nat.reduceEqDiff, Nat.reduceAdd, Nat.reduceMul, Nat.reduceSub, Nat.reduceLeDiff, Nat.reduceLT, t1, t6, gL, z]
      refine SoundP_of (beginLaw hL (newS_good hn) hg hN (by omega) (by omega) (by omega)) ?_
      rintro _ H3 ⟨rfl, ops1, id1, vx, ho1, ho2, h3, K3⟩
      simp -dsimp only [go_sem, ↓reduceIte, Nat.reduceEqDiff, Nat.reduceAdd, Nat.reduceMul, Nat.reduceSub, Nat.reduceLeDiff, Nat.reduceLT, t1, t6]
      refine SoundP_of (answerNil H3 (H.length + 1)) ?_
      rintro _ H4 ⟨rfl, p4⟩
      have hsl := frameB_len (newS n).B
      have hfl0 := List.length_filter_le (fun x : FileS => !pfxB x.name pfxM) M
      simp -dsimp only [go_sem, ↓reduceIte, Nat.reduceEqDiff, Nat.reduceAdd, Nat.reduceMul, Nat.reduceSub, Nat.reduceLeDiff, Nat.reduceLT, t1, t6, Int.reduceBNe]
      refine ⟨H.length + 1, 1, true, nilV, vo, ops1, _, rfl, h3.pre p4, ⟨fun y hy hp => ?_, by rw [List.length_append, List.length_singleton]; omega, ⟨nmB 1, id1, vx, frameB (newS n).B, ((frameB (newS n).B).length : Nat)⟩, by simp, rfl, Tells.base (newS_good hn), by simp only; omega⟩, (fun _ => rfl), (fun q => False.elim (by simp at q)), ho1, by omega, by rw [List.length_append, List.length_singleton]; omega, by have := K3.len; have := pre_len p4; omega, fun j hj hn2 => ?_, fun j hj => ?_⟩
      · rw [List.mem_append, List.mem_singleton, List.mem_filter] at hy
        rcases hy with ⟨-, hy⟩ | rfl
        · rw [hp] at hy; simp at hy
        · exact ⟨1, Nat.le_refl _, Nat.le_refl _, rfl⟩
      · have e4 : H4[j]? = H3[j]? := by
          obtain ⟨L1, rfl⟩ := p4
          exact List.getElem?_append_left (by have := K3.len; omega)
        rw [e4, K3.fr j (by omega) fun q => ?_, frB j hj]
        rcases q with q | q | q | q
        · omega
        · simp [owner] at q
        · have := hown0 j q; omega
        · exact hn2 q
      · rcases K3.ow j hj with q | q
        · rcases q with q | q | q | q
          · right; omega
          · simp [owner] at q
          · right; have := hown0 j q; omega
          · exact .inl q
        · right; omega
    · obtain ⟨x, hx, hxn, hxt, hxl⟩ := hF.file
      have hxl2 : nmB gen ∈ l := by
        rw [hl.mem_iff, List.mem_filter, List.mem_map]
        exact ⟨⟨x, hx, hxn⟩, (nm_ok (by omega)).2.1⟩
      have hge := hmax gen (by omega) hxl2
      have hgz : g = gen := by omega
      subst hgz
      have z : (((g : Nat) : Int) == 0) = false := by simp; omega
      obtain ⟨A, B, hAB⟩ := List.append_of_mem hx
      have hdk := hL.disk
      have hpn := hL.p_notD
      rw [hAB] at hdk hpn
      have hrp := replayLaw (s1 := newS n) gL hdk (by omega) hxn hxt (by omega) fun j hj e => hpn (e ▸ hj)
      rw [hsn] at hrp
      simp -dsimp only [go_sem, ↓reduceIte, Nat.reduceEqDiff, Nat.reduceAdd, Nat.reduceMul, Nat.reduceSub, Nat.reduceLeDiff, Nat.reduceLT, t1, t6, gL, z]
      refine SoundP_of hrp ?_
      rintro _ H3 ⟨rfl, b3, vm3, vo3, r3, om3, oo3⟩
      simp -dsimp only [go_sem, ↓reduceIte, Nat.reduceEqDiff, Nat.reduceAdd, Nat.reduceMul, Nat.reduceSub, Nat.reduceLeDiff, Nat.reduceLT, t1, t6]
      refine SoundP_of (answerNil H3 (H.length + 1)) ?_
      rintro _ H4 ⟨rfl, p4⟩
      have l3 := b3.1
      have hL3 : LogAt b H3 (H.length + 1) d m g false s vm3 vo3 ops M := by
        refine ⟨hL.bp, r3, om3.mono (by omega), oo3.mono (by omega), hL.disk.keep fun j hj => b3.2 j (hL.disk.foot hj).2 fun e => hL.p_notD (e ▸ hj), fun y hy j hj q => ?_⟩
        have h1 := (oo3.owner_ge hj).1
        have h2 := ((hL.disk.files y hy).own.owner_ge q).2
        omega
      simp -dsimp only [go_sem, ↓reduceIte, Nat.reduceEqDiff, Nat.reduceAdd, Nat.reduceMul, Nat.reduceSub, Nat.reduceLeDiff, Nat.reduceLT, t1, t6, Int.reduceBNe]
      refine ⟨H.length + 1, g, false, vm3, vo3, ops, M, rfl, hL3.pre p4, hF, (fun q => by omega), (fun _ => rfl), by omega, by omega, by omega, by have := pre_len p4; omega, fun j hj hn2 => ?_, fun j hj => ?_⟩
      · have e4 : H4[j]? = H3[j]? := by
          obtain ⟨L1, rfl⟩ := p4
          exact List.getElem?_append_left (by omega)
        rw [e4, b3.2 j (by omega) (by omega), frB j hj]
      · rcases hj with q | q | q | q
        · right; omega
        · right; have := (om3.owner_ge q).1; omega
        · right; have := (oo3.owner_ge q).1; omega
        · exact .inl q
end Go.Proofs.YtekpdopbiklkfaaGreatDoor
end
section
set_option linter.unusedVariables false
set_option linter.unusedSimpArgs false
namespace Go.Proofs.YtekpdopbiklkfaaGreatDoor
open Go Go.AW
set_option linter.unusedSimpArgs false
set_option maxRecDepth 20000
theorem eqMeta (H : AHeap) (d : Nat) (x : Meta) : aeq Tryz.prog H (d + 4) 51 (.agg x.cells.toArray) (.agg x.cells.toArray) = some true := by
  have e32 : ∀ (H : AHeap) (d : Nat) (x y : Int), aeq Tryz.prog H (d + 1) 49 (.int .u32 x) (.int .u32 y) = some (x == y) := fun H d x y => aeq_int (by kernel_rfl) H d x y
  rw [aeq_struct Tryz.underlying51 (by kernel_rfl) (ps := [(48, 0), (9, 5), (49, 6), (3, 7)]) (by kernel_rfl)]
  simp only [eqParts_cons, eqParts_nil, eqPart_eq, apart_one ag9, apart_one ag49, apart_one ag3, apart_agg ag48 sz48, List.take_zero, List.take_succ_cons, List.drop_zero, List.drop_succ_cons, List.getElem?_cons_zero, List.getElem?_cons_succ, Option.bind_some, eq9, e32, eq3, eq48, andO_some]
  simp
set_option maxHeartbeats 2000000 in
theorem sameLaw {b1 b2 : Nat} {H : AHeap} {s : St} {vm vo vm2 vo2 : Value} (om : Own b1 H Meta.cells 8 vm s.metas) (oo : Own b1 H encU 1 vo s.offs) (om2 : Own b2 H Meta.cells 8 vm2 s.metas) (oo2 : Own b2 H encU 1 vo2 s.offs) (hs : Good s) :
    Sound Tryz.prog 18 [.agg (stV s.epoch s.term s.leader vm vo).toArray, .agg (stV s.epoch s.term s.leader vm2 vo2).toArray] H fun v H' => v = .bool true ∧ H <+: H' := by
  refine Sound.of_body (rs := [.tmp 4]) mixed Tryz.func18 rfl (by kernel_rfl) rfl (by kernel_rfl) ?_
  obtain ⟨a1, c1, rfl, s1⟩ := om.sl (fun _ => rfl)
  obtain ⟨a2, c2, rfl, s2⟩ := oo.sl (fun _ => rfl)
  obtain ⟨a3, c3, rfl, s3⟩ := om2.sl (fun _ => rfl)
  obtain ⟨a4, c4, rfl, s4⟩ := oo2.sl (fun _ => rfl)
  have hlM := hs.ok.len
  have hlO := hs.ok.lenO
  have p0 : H <+: H ++ [AObj.row (stC s a1 a2 c1 c2) 5 true, AObj.row (stC s a3 a4 c3 c4) 5 true] := List.prefix_append _ _
  have b0 := get_end H (AObj.row (stC s a1 a2 c1 c2) 5 true) [AObj.row (stC s a3 a4 c3 c4) 5 true]
  have c0 := get_end1 H (AObj.row (stC s a1 a2 c1 c2) 5 true) (AObj.row (stC s a3 a4 c3 c4) 5 true) []
  have zz : ∀ x : Int, (x != x) = false := fun x => by simp
  simp -dsimp only [go_sem, ↓reduceIte, Nat.reduceEqDiff, Nat.reduceAdd, Nat.reduceMul, Nat.reduceSub, Nat.reduceLeDiff, Nat.reduceLT, zz]
  refine aloop_join (fun T H' => H' = H ++ [AObj.row (stC s a1 a2 c1 c2) 5 true, AObj.row (stC s a3 a4 c3 c4) 5 true] ∧ T 2 = ptrV H.length ∧ T 3 = ptrV (H.length + 1))
    (fun k T H' => ∃ i : Nat, k = s.metas.length - i ∧ i ≤ s.metas.length ∧ H' = H ++ [AObj.row (stC s a1 a2 c1 c2) 5 true, AObj.row (stC s a3 a4 c3 c4) 5 true] ∧ T 2 = ptrV H.length ∧ T 3 = ptrV (H.length + 1) ∧ T 5 = .int .i64 (i : Nat)) (n := s.metas.length) ?_ ?_ ?_
  · refine ⟨0, ?_⟩
    simp -dsimp only [go_sem, ↓reduceIte, Nat.reduceEqDiff, Nat.reduceAdd, Nat.reduceMul, Nat.reduceSub, Nat.reduceLeDiff, Nat.reduceLT]
    exact ⟨rfl, Nat.zero_le _, rfl⟩
  · rintro k T H' ⟨i, rfl, hi, hH', t2, t3, t5⟩
    rw [← hH'] at p0 b0 c0
    simp -dsimp only [go_sem, ↓reduceIte, Nat.reduceEqDiff, Nat.reduceAdd, Nat.reduceMul, Nat.reduceSub, Nat.reduceLeDiff, Nat.reduceLT, t2, t3, t5, b0]
    refine acondP_of (fun h => ?_) (fun h => ?_)
    · simp at h
      obtain ⟨x, hx⟩ := get_ex h
      obtain ⟨id, off, rfl, hat⟩ := (s1.pre p0).at (by omega)
      obtain ⟨id2, off2, rfl, hat2⟩ := (s3.pre p0).at (by omega)
      simp -dsimp only [go_sem, ↓reduceIte, Nat.reduceEqDiff, Nat.reduceAdd, Nat.reduceMul, Nat.reduceSub, Nat.reduceLeDiff, Nat.reduceLT, t2, t3, t5]
      refine adrawnP_of2 [(0, false), (1, false), (2, false), (3, false), (4, false), (5, false), (6, false), (7, false), (8, false), (9, false), (10, false)] (by kernel_rfl) ?_
      have hq : ∀ xo yo, abin Tryz.prog H' .neq 51 xo yo (.agg x.cells.toArray) (.agg x.cells.toArray) = some (.bool false) := fun xo yo => by
        have h1 : aeqGuard Tryz.prog 51 xo yo (.agg x.cells.toArray) (.agg x.cells.toArray) = true := by kernel_rfl
        simp only [abin, h1, if_true, eqMeta H' 9996 x, Option.map_some, Bool.not_true]
      simp -dsimp only [go_sem, ↓reduceIte, Nat.reduceEqDiff, Nat.reduceAdd, Nat.reduceMul, Nat.reduceSub, Nat.reduceLeDiff, Nat.reduceLT, t2, t3, t5, b0, c0, inRange h, rowLoad_whole (hat i x hx), rowLoad_whole (hat2 i x hx), hq, wrS (show i < 4611686018427387904 by omega)]
      exact ⟨_, by omega, i + 1, rfl, h, hH', rfl⟩
    · simp at h
      simp -dsimp only [go_sem, ↓reduceIte, Nat.reduceEqDiff, Nat.reduceAdd, Nat.reduceMul, Nat.reduceSub, Nat.reduceLeDiff, Nat.reduceLT, t2, t3, t5]
      exact hH'
  · rintro T H2 ⟨hH', t2, t3⟩
    rw [← hH'] at p0 b0 c0
    simp -dsimp only [go_sem, ↓reduceIte, Nat.reduceEqDiff, Nat.reduceAdd, Nat.reduceMul, Nat.reduceSub, Nat.reduceLeDiff, Nat.reduceLT, t2, t3]
    refine aloopP_of (fun k T H' => ∃ i : Nat, k = s.offs.length - i ∧ i ≤ s.offs.length ∧ H' = H2 ∧ T 2 = ptrV H.length ∧ T 3 = ptrV (H.length + 1) ∧ T 6 = .int .i64 (i : Nat)) (n := s.offs.length) ?_ ?_
    · refine ⟨0, ?_⟩
      simp -dsimp only [go_sem, ↓reduceIte, Nat.reduceEqDiff, Nat.reduceAdd, Nat.reduceMul, Nat.reduceSub, Nat.reduceLeDiff, Nat.reduceLT, t2, t3]
      exact ⟨rfl, Nat.zero_le _, rfl⟩
    · rintro k T H' ⟨i, rfl, hi, rfl, t2, t3, t6⟩
      simp -dsimp only [go_sem, ↓reduceIte, Nat.reduceEqDiff, Nat.reduceAdd, Nat.reduceMul, Nat.reduceSub, Nat.reduceLeDiff, Nat.reduceLT, t2, t3, t6, b0]
      refine acondP_of (fun h => ?_) (fun h => ?_)
      · simp at h
        obtain ⟨x, hx⟩ := get_ex h
        obtain ⟨id, off, rfl, hat⟩ := (s2.pre p0).at (by omega)
        obtain ⟨id2, off2, rfl, hat2⟩ := (s4.pre p0).at (by omega)
        simp -dsimp only [go_sem, ↓reduceIte, Nat.reduceEqDiff, Nat.reduceAdd, Nat.reduceMul, Nat.reduceSub, Nat.reduceLeDiff, Nat.reduceLT, t2, t3, t6]
        refine adrawnP_of2 [(0, false), (1, false), (2, false), (3, false), (4, false), (5, false), (6, false), (7, false), (8, false), (9, false), (10, false)] (by kernel_rfl) ?_
        simp -dsimp only [go_sem, ↓reduceIte, Nat.reduceEqDiff, Nat.reduceAdd, Nat.reduceMul, Nat.reduceSub, Nat.reduceLeDiff, Nat.reduceLT, t2, t3, t6, b0, c0, inRange h, rowLoad_one0 (hat i x hx), rowLoad_one0 (hat2 i x hx), zz, wrS (show i < 4611686018427387904 by omega)]
        exact ⟨_, by omega, i + 1, rfl, h, rfl⟩
      · simp at h
        simp -dsimp only [go_sem, ↓reduceIte, Nat.reduceEqDiff, Nat.reduceAdd, Nat.reduceMul, Nat.reduceSub, Nat.reduceLeDiff, Nat.reduceLT, t2, t3, t6]
        exact p0
end Go.Proofs.YtekpdopbiklkfaaGreatDoor
end
section
set_option linter.unusedVariables false
set_option linter.unusedSimpArgs false
namespace Go.Proofs.YtekpdopbiklkfaaGreatDoor
open Go Go.AW
set_option linter.unusedSimpArgs false
set_option maxRecDepth 20000
def InI (n : Int) : Prop := -9223372036854775808 ≤ n ∧ n ≤ 9223372036854775807
def absZ (n : Int) : Int := if n < 0 then -(n + 1) else n
theorem absZ_ge (n : Int) : 0 ≤ absZ n := by unfold absZ; split <;> omega
theorem absLaw (n : Int) (H : AHeap) (hn : InI n) : Sound Tryz.prog 13 [.int .i64 n] H fun v H' => v = .int .i64 (absZ n) ∧ H' = H := by
  have h1 := hn.1
  have h2 := hn.2
  refine Sound.of_body (rs := [.tmp 2]) mixed Tryz.func13 rfl (by kernel_rfl) rfl (by kernel_rfl) ?_
  cases h : decide (n < 0) with
  | true =>
    have h' := of_decide_eq_true h
    simp -dsimp only [go_sem, ↓reduceIte, Nat.reduceEqDiff, Nat.reduceAdd, Nat.reduceMul, Nat.reduceSub, Nat.reduceLeDiff, Nat.reduceLT, h, wr64 (i := n + 1) (by omega) (by omega), wr64 (i := 0 - (n + 1)) (by omega) (by omega)]
    simp only [absZ, if_pos h']
    congr 1; omega
  | false =>
    have h' := of_decide_eq_false h
    simp -dsimp only [go_sem, ↓reduceIte, Nat.reduceEqDiff, Nat.reduceAdd, Nat.reduceMul, Nat.reduceSub, Nat.reduceLeDiff, Nat.reduceLT, h]
    simp only [absZ, if_neg h']
theorem Txn.B_len {t : Txn} (h : t.Ok) : t.B.length ≤ 30 + 50 * t.drop.length + 20 * t.moves.length + 142 * t.add.length := by
  have h1 := flatLe Seg.B 50 t.drop (fun x hx => Seg.B_le (h.drop x hx))
  have h2 := flatLe Move.B 20 t.moves (fun x hx => Move.B_le (h.moves x hx))
  have h3 := flatLe Meta.B 142 t.add (fun x hx => Meta.B_le (h.add x hx))
  have h4 := h.lenA
  have h5 := h.lenD
  have h6 := h.lenM
  have l1 := intB_le (n := 1) ⟨by omega, by omega⟩
  have l2 := intB_le (n := (t.drop.length : Int)) ⟨by omega, by omega⟩
  have l3 := intB_le (n := (t.moves.length : Int)) ⟨by omega, by omega⟩
  rw [Txn.B_eq]
  simp only [List.length_append]
  omega
variable {b : Nat} {H H' : AHeap} {d m gen : Nat} {ops : Int} {M M' : List FileS}
theorem onLaw {at_ part : Int} (h : DiskAt b H d m false ops at_ part M) : Sound Tryz.prog 34 [ptrV d] H fun _ H' => H' = H := by
  refine Sound.of_body (rs := []) mixed Tryz.func34 rfl (by kernel_rfl) rfl (by kernel_rfl) ?_
  have g := h.at_
  simp -dsimp only [go_sem, ↓reduceIte, Nat.reduceEqDiff, Nat.reduceAdd, Nat.reduceMul, Nat.reduceSub, Nat.reduceLeDiff, Nat.reduceLT, g, set_same g]
structure Opened (b : Nat) (H H' : AHeap) (d m gen : Nat) (M : List FileS) (s : St) (L : Nat) (ops : Int) (p : Nat) : Prop where
  ex : ∃ gen' own' vm vo ops' M', LogAt b H' p d m gen' own' s vm vo ops' M' ∧ Files M' gen' s L ∧ (gen = 0 → gen' = 1) ∧ (1 ≤ gen → gen' = gen) ∧ ops ≤ ops' ∧ ops' ≤ ops + 6 + M.length ∧ M'.length ≤ M.length + 1 ∧ ∀ j, footL p d m vm vo M' j → footD d m M j ∨ H.length ≤ j
  len : H.length ≤ H'.length
  fr : ∀ j, j < H.length → ¬ footD d m M j → H'[j]? = H[j]?
theorem openLaw' (hd : DiskAt b H d m false ops (-1) 0 M) (n : Nat) (hn : 1 ≤ n ∧ n ≤ 8) (hN : NamesOk M gen) (hg : gen + 1 < 64) (hM : M.length < 700) (ho : 0 ≤ ops ∧ ops < 100000000000) (hb : b ≤ H.length) (s : St) (L : Nat)
    (hcase : (gen = 0 ∧ s = newS n ∧ 8 + (newS n).B.length ≤ L) ∨ (1 ≤ gen ∧ Files M gen s L ∧ s.offs.length = n ∧ L ≤ 3000000)) :
    Sound Tryz.prog 27 [ptrV d, .int .i64 n] H fun v H' => ∃ p, v = .tuple #[ptrV p, .int .i64 0] ∧ Opened b H H' d m gen M s L ops p := by
  refine (openLaw hd n hn hN hg hM ho hb s L hcase).mono ?_
  rintro v H' ⟨p, gen', own', vm, vo, ops', M', rfl, h1, h2, h3, h4, h5, h6, h7, h8, h9, h10⟩
  exact ⟨p, rfl, ⟨gen', own', vm, vo, ops', M', h1, h2, h3, h4, h5, h6, h7, h10⟩, h8, h9⟩
theorem openedLaw (hd : DiskAt b H d m false ops (-1) 0 M) (n : Nat) (hn : 1 ≤ n ∧ n ≤ 8) (hN : NamesOk M gen) (hg : gen + 1 < 64) (hM : M.length < 700) (ho : 0 ≤ ops ∧ ops < 100000000000) (hb : b ≤ H.length) (s : St) (L : Nat)
    (hcase : (gen = 0 ∧ s = newS n ∧ 8 + (newS n).B.length ≤ L) ∨ (1 ≤ gen ∧ Files M gen s L ∧ s.offs.length = n ∧ L ≤ 3000000)) :
    Sound Tryz.prog 12 [ptrV d, .int .i64 n] H fun v H' => ∃ p, v = ptrV p ∧ Opened b H H' d m gen M s L ops p := by
  refine Sound.of_body (rs := [.tmp 4]) mixed Tryz.func12 rfl (by kernel_rfl) rfl (by kernel_rfl) ?_
  simp -dsimp only [go_sem, ↓reduceIte, Nat.reduceEqDiff, Nat.reduceAdd, Nat.reduceMul, Nat.reduceSub, Nat.reduceLeDiff, Nat.reduceLT]
  refine aloopP_once ?_
  simp -dsimp only [go_sem, ↓reduceIte, Nat.reduceEqDiff, Nat.reduceAdd, Nat.reduceMul, Nat.reduceSub, Nat.reduceLeDiff, Nat.reduceLT, Int.reduceLT]
  refine SoundP_of (onLaw hd) ?_
  rintro _ K hK
  rw [hK]
  clear hK
  simp -dsimp only [go_sem, ↓reduceIte, Nat.reduceEqDiff, Nat.reduceAdd, Nat.reduceMul, Nat.reduceSub, Nat.reduceLeDiff, Nat.reduceLT]
  refine SoundP_of (openLaw' hd n hn hN hg hM ho hb s L hcase) ?_
  rintro _ H1 ⟨p, rfl, h1⟩
  simp -dsimp only [go_sem, ↓reduceIte, Nat.reduceEqDiff, Nat.reduceAdd, Nat.reduceMul, Nat.reduceSub, Nat.reduceLeDiff, Nat.reduceLT, Int.reduceBEq]
  exact ⟨p, rfl, h1⟩
end Go.Proofs.YtekpdopbiklkfaaGreatDoor
end
