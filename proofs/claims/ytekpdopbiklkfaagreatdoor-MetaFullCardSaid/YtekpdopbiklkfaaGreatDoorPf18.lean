/-
  Parts of the proof, joined: Awake, FullP, AwTop, LawFull, RowFullH, RowFull.
-/
import Derived.Deep.Slices
import Derived.ProofKit
import Derived.OpenShut
import Derived.ShutString
import Derived.ChangeOld
import Derived.Below
import Derived.SizedLaws
import Derived.Test.YtekpdopbiklkfaaGreatDoorRows
import Derived.Test.YtekpdopbiklkfaaGreatDoorCards
import Derived.Test.YtekpdopbiklkfaaGreatDoorTie
import Derived.LaidMore
import Derived.Stop.Joined
import Derived.SevenTiedAt
import Derived.Test.YtekpdopbiklkfaaGreatDoorPf17
section
set_option linter.unusedVariables false
set_option linter.unusedSimpArgs false
namespace Go.Proofs.YtekpdopbiklkfaaGreatDoor
open Go Go.AW
set_option linter.unusedSimpArgs false
set_option maxRecDepth 20000
def aM : Meta := ⟨⟨0, 10, 0, 0, 0⟩, ⟨#[97]⟩, 0, 0⟩
def aMv : Move := ⟨1, 0, 5⟩
def aT1 : Txn := ⟨0, 0, [aM], [], [aMv], 0, 0⟩
def aT2 : Txn := ⟨0, 0, [], [], [], 0, 0⟩
def aT3 : Txn := ⟨1, 0, [aM], [], [], 0, 0⟩
theorem aM_ok : aM.Ok := by
  have z : N63 0 := ⟨by omega, by omega⟩
  refine ⟨⟨z, ⟨?_, ?_⟩, z, z, z⟩, ?_, ?_, ?_, z⟩ <;> decide
theorem aT1_ok : aT1.Ok := by
  refine ⟨fun m hm => ?_, fun x hx => (nomatch hx), fun m hm => ?_, by decide, by decide, by decide⟩
  · rw [List.mem_singleton.1 hm]; exact aM_ok
  · rw [List.mem_singleton.1 hm]; exact ⟨⟨by decide, by decide⟩, ⟨by decide, by decide⟩⟩
theorem aR1 : refusedS (newS 2) aT1 = 0 := by kernel_rfl
theorem aR2 : refusedS (doneS (newS 2) aT1) aT2 = 140 := by kernel_rfl
theorem aR3 : refusedS (doneS (newS 2) aT1) aT3 = 121 := by kernel_rfl
theorem aG1 : Good (doneS (newS 2) aT1) := done_good (newS_good ⟨by omega, by omega⟩) aR1 aT1_ok (by decide)
set_option maxHeartbeats 4000000 in
theorem awakeLaw (H : AHeap) : Sound Tryz.prog 10 [] H fun v H' => v = .bool true ∧ H <+: H' := by
  refine Sound.of_body (rs := [.tmp 0]) mixed Tryz.func10 rfl (by kernel_rfl) rfl (by kernel_rfl) ?_
  have hn2 : 1 ≤ 2 ∧ 2 ≤ 8 := ⟨by omega, by omega⟩
  have hG0 := newS_good (n := 2) hn2
  have hB0 := St.B_le hG0.ok
  have hBt := Txn.B_len aT1_ok
  have hBt' : aT1.B.length ≤ 200 := Nat.le_trans hBt (by decide)
  simp -dsimp only [go_sem, ↓reduceIte, Nat.reduceEqDiff, Nat.reduceAdd, Nat.reduceMul, Nat.reduceSub, Nat.reduceLeDiff, Nat.reduceLT]
  refine SoundP_of (diskNew H) ?_
  rintro _ H1 ⟨rfl, p1, d1⟩
  have l1 := pre_len p1
  simp -dsimp only [go_sem, ↓reduceIte, Nat.reduceEqDiff, Nat.reduceAdd, Nat.reduceMul, Nat.reduceSub, Nat.reduceLeDiff, Nat.reduceLT]
  refine SoundP_of (openLaw' d1 2 hn2 (gen := 0) (fun x hx => (nomatch hx)) (by omega) (by decide) (by omega) l1 (newS 2) 1048584 (.inl ⟨rfl, rfl, by omega⟩)) ?_
  rintro _ H2 ⟨p, rfl, o2⟩
  have p2 : H <+: H2 := pre_of fun j hj => (o2.fr j (by omega) fun q => by have := (d1.foot q).1; omega).trans (by obtain ⟨L, rfl⟩ := p1; exact List.getElem?_append_left hj)
  simp -dsimp only [go_sem, ↓reduceIte, Nat.reduceEqDiff, Nat.reduceAdd, Nat.reduceMul, Nat.reduceSub, Nat.reduceLeDiff, Nat.reduceLT, Int.reduceBNe]
  obtain ⟨gen1, own1, vm1, vo1, ops1, M1, h2, F2, hg2, -, o21, o22, n2, f2⟩ := o2.ex
  have hg2 := hg2 rfl
  subst hg2
  have l2 := o2.len
  have px : H2 <+: H2 ++ [AObj.row aM.cells 8 true, AObj.row aM.cells 8 true, AObj.row aMv.cells 3 true] := List.prefix_append _ _
  have x0 := get_end H2 (AObj.row aM.cells 8 true) [AObj.row aM.cells 8 true, AObj.row aMv.cells 3 true]
  have x1 := get_end1 H2 (AObj.row aM.cells 8 true) (AObj.row aM.cells 8 true) [AObj.row aMv.cells 3 true]
  have x2 := get_end2 H2 (AObj.row aM.cells 8 true) (AObj.row aM.cells 8 true) (AObj.row aMv.cells 3 true) []
  have lx : (H2 ++ [AObj.row aM.cells 8 true, AObj.row aM.cells 8 true, AObj.row aMv.cells 3 true]).length = H2.length + 3 := by simp
  have do1 := doLaw1 (h2.pre px) hG0 F2 (by simp at n2; omega) (by omega) (by omega) (by omega) (by simp at o22; omega) (by omega) aT1 aT1_ok (by decide) (some ⟨H2.length + 1, 0, none⟩) none (some ⟨H2.length + 2, 0, none⟩) 1 0 1
    (SlA.ofRow x1 (by simp [aT1]) fun _ => rfl) (SlA.nil _ _ _ _) (SlA.ofRow x2 (by simp [aT1]) fun _ => rfl) aR1
  refine SoundP_of do1 ?_
  rintro _ H3 ⟨vmr, vor, rfl, m3⟩
  have l3 := m3.len
  rw [lx] at l3
  have x3 : H3[H2.length]? = some (.row [.int .i64 0, .int .i64 10, .int .i64 0, .int .i64 0, .int .i64 0, .string ⟨#[97]⟩, .int .u32 0, .int .i64 0] 8 true) := (m3.fr _ (by omega) fun q => by have := (h2.foot q).2; omega).trans x0
  have p3 : H <+: H3 := pre_of fun j hj => (m3.fr j (by have := pre_len p2; omega) fun q => by have := (h2.foot q).1; omega).trans (by
    have hp := p2.trans px
    obtain ⟨L, hL⟩ := hp
    rw [← hL]; exact List.getElem?_append_left hj)
  obtain ⟨gen3, ops3, M3, vm3, vo3, h3, F3, g31, g32, -, o31, o32, n3, f3, sp3⟩ := m3.ex
  have om3 := m3.om
  have oo3 := m3.oo
  have b3 : H.length ≤ H3.length := pre_len p3
  simp -dsimp only [go_sem, ↓reduceIte, Nat.reduceEqDiff, Nat.reduceAdd, Nat.reduceMul, Nat.reduceSub, Nat.reduceLeDiff, Nat.reduceLT, own_one om3, own_one oo3]
  have py := List.prefix_append H3 [AObj.row (stV 1 0 0 vmr vor) 5 true]
  have y0 := get_end H3 (AObj.row (stV 1 0 0 vmr vor) 5 true) []
  have h3y := h3.pre py
  have do2 := doLaw0 h3y aG1 (by have := pre_len py; omega) aT2 none none none 0 0 0 (SlA.nil _ _ _ _) (SlA.nil _ _ _ _) (SlA.nil _ _ _ _) (fun m hm => (nomatch hm)) (by decide) (by decide) (by decide) (by rw [aR2]; decide)
  rw [aR2] at do2
  refine SoundP_of do2 ?_
  rintro _ H4 ⟨rfl, p4⟩
  have x4 := pre_get p4 (pre_get py x3)
  have y4 := pre_get p4 y0
  simp -dsimp only [go_sem, ↓reduceIte, Nat.reduceEqDiff, Nat.reduceAdd, Nat.reduceMul, Nat.reduceSub, Nat.reduceLeDiff, Nat.reduceLT, get_app x4]
  have pz : H4 <+: H4 ++ [AObj.row (stV 0 0 0 nilV nilV) 5 true, AObj.row aM.cells 8 true] := List.prefix_append _ _
  have z1 := get_end1 H4 (AObj.row (stV 0 0 0 nilV nilV) 5 true) (AObj.row aM.cells 8 true) []
  have h4z := (h3y.pre p4).pre pz
  have do3 := doLaw0 h4z aG1 (by have := pre_len py; have := pre_len p4; have := pre_len pz; omega) aT3 (some ⟨H4.length + 1, 0, none⟩) none none 1 0 0 (SlA.ofRow z1 (by simp [aT3]) fun _ => rfl) (SlA.nil _ _ _ _) (SlA.nil _ _ _ _) (fun m hm => by rw [List.mem_singleton.1 hm]; decide) (by decide) (by decide) (by decide) (by rw [aR3]; decide)
  rw [aR3] at do3
  refine SoundP_of do3 ?_
  rintro _ H5 ⟨rfl, p5⟩
  have y5 := pre_get p5 (pre_get pz y4)
  simp -dsimp only [go_sem, ↓reduceIte, Nat.reduceEqDiff, Nat.reduceAdd, Nat.reduceMul, Nat.reduceSub, Nat.reduceLeDiff, Nat.reduceLT]
  have pw := List.prefix_append H5 [AObj.row (stV 0 0 0 nilV nilV) 5 true]
  have h5w := (h4z.pre p5).pre pw
  have y5w := pre_get pw y5
  have q35 : H3 <+: H5 ++ [AObj.row (stV 0 0 0 nilV nilV) 5 true] := (((py.trans p4).trans pz).trans p5).trans pw
  have l35 := pre_len q35
  have hs1 : (doneS (newS 2) aT1).offs.length = 2 := by decide
  refine SoundP_of (openLaw' h5w.disk 2 hn2 F3.names (by omega) (by simp at n2; omega) (by simp at o22 n2; omega) (by omega) (doneS (newS 2) aT1) (1048584 + 8 + aT1.B.length) (.inr ⟨by omega, F3, hs1, by omega⟩)) ?_
  rintro _ H6 ⟨pp6, rfl, o6⟩
  obtain ⟨gen6, own6, vm6, vo6, ops6, M6, h6, F6, -, -, -, -, -, f6⟩ := o6.ex
  have ft3 : ∀ j, footD (H.length + 1) H.length M3 j → j < H3.length := fun j hj => (h3.disk.foot hj).2
  have y6 := (o6.fr H3.length (get_lt y5w) fun q => by have := ft3 _ q; omega).trans y5w
  have k6 : ∀ j, j < H3.length → ¬ footD (H.length + 1) H.length M3 j → H6[j]? = H3[j]? := fun j hj hn => (o6.fr j (by omega) hn).trans (by obtain ⟨L, hL⟩ := q35; rw [← hL]; exact List.getElem?_append_left hj)
  have om6 : Own (H2 ++ [AObj.row aM.cells 8 true, AObj.row aM.cells 8 true, AObj.row aMv.cells 3 true]).length H6 Meta.cells 8 vmr (doneS (newS 2) aT1).metas := om3.keep fun id hid => k6 id (om3.owner_ge hid).2 fun q => sp3 id (.inl hid) (.inr (.inr (.inr q)))
  have oo6 : Own (H2 ++ [AObj.row aM.cells 8 true, AObj.row aM.cells 8 true, AObj.row aMv.cells 3 true]).length H6 encU 1 vor (doneS (newS 2) aT1).offs := oo3.keep fun id hid => k6 id (oo3.owner_ge hid).2 fun q => sp3 id (.inr hid) (.inr (.inr (.inr q)))
  have p6 : H <+: H6 := pre_of fun j hj => (k6 j (by omega) fun q => by have := (h3.disk.foot q).1; omega).trans (by obtain ⟨L, rfl⟩ := p3; exact List.getElem?_append_left hj)
  simp -dsimp only [go_sem, ↓reduceIte, Nat.reduceEqDiff, Nat.reduceAdd, Nat.reduceMul, Nat.reduceSub, Nat.reduceLeDiff, Nat.reduceLT]
  refine adrawnP_of2 [(0, false), (1, false), (2, false), (3, false), (4, false), (5, false), (6, false), (7, false), (8, false), (9, false), (10, false), (11, false), (12, false), (13, false), (14, false), (15, false), (16, false), (17, false), (18, false), (19, false), (20, false), (21, false), (22, false), (23, false), (24, false), (26, false), (25, true), (27, false), (28, false), (29, false)] (by kernel_rfl) ?_
  simp -dsimp only [go_sem, ↓reduceIte, Nat.reduceEqDiff, Nat.reduceAdd, Nat.reduceMul, Nat.reduceSub, Nat.reduceLeDiff, Nat.reduceLT, y6, Int.reduceBEq, Int.reduceBNe]
  refine SoundP_of (stateLaw h6 aG1) ?_
  rintro _ H7 ⟨p7, vm7, vo7, rfl, om7, oo7⟩
  refine grown_any p7 ?_
  simp -dsimp only [go_sem, ↓reduceIte, Nat.reduceEqDiff, Nat.reduceAdd, Nat.reduceMul, Nat.reduceSub, Nat.reduceLeDiff, Nat.reduceLT]
  refine SoundP_of (sameLaw om7 oo7 (om6.pre p7) (oo6.pre p7) aG1) ?_
  rintro _ H8 ⟨rfl, p8⟩
  refine grown_any p8 ?_
  simp -dsimp only [go_sem, ↓reduceIte, Nat.reduceEqDiff, Nat.reduceAdd, Nat.reduceMul, Nat.reduceSub, Nat.reduceLeDiff, Nat.reduceLT]
  exact (p6.trans p7).trans p8
end Go.Proofs.YtekpdopbiklkfaaGreatDoor
end
section
set_option linter.unusedVariables false
set_option linter.unusedSimpArgs false
namespace Go.Proofs.YtekpdopbiklkfaaGreatDoor
open Go Go.AW
set_option linter.unusedSimpArgs false
set_option maxRecDepth 20000
abbrev bB : ByteArray := ⟨#[98]⟩
abbrev cB : ByteArray := ⟨#[99]⟩
def fM (v : Int) (s : ByteArray) (i : Nat) : Meta := ⟨⟨i, (i : Int) + 1, v, 0, 0⟩, s, 0, 0⟩
def fAdd (v : Int) (s : ByteArray) (n : Nat) : List Meta := (List.range n).map (fM v s)
theorem fAdd_len (v : Int) (s : ByteArray) (n : Nat) : (fAdd v s n).length = n := by simp [fAdd]
theorem fAdd_succ (v : Int) (s : ByteArray) (n : Nat) : fAdd v s (n + 1) = fAdd v s n ++ [fM v s n] := by simp [fAdd, List.range_succ]
theorem fAdd_get {v : Int} {s : ByteArray} {n i : Nat} (h : i < n) : (fAdd v s n)[i]? = some (fM v s i) := by simp [fAdd, h]
theorem mem_fAdd {v : Int} {s : ByteArray} {n : Nat} {m : Meta} : m ∈ fAdd v s n ↔ ∃ i, i < n ∧ m = fM v s i := by
  simp [fAdd, eq_comm]
def fDrop (a k : Nat) : List Seg := (List.range k).map fun i => (fM 0 bB (a + i)).seg
theorem fDrop_len (a k : Nat) : (fDrop a k).length = k := by simp [fDrop]
theorem fDrop_succ (a k : Nat) : fDrop a (k + 1) = fDrop a k ++ [(fM 0 bB (a + k)).seg] := by simp [fDrop, List.range_succ]
theorem mem_fDrop {a k : Nat} {x : Seg} : x ∈ fDrop a k ↔ ∃ i, i < k ∧ x = (fM 0 bB (a + i)).seg := by
  simp [fDrop, eq_comm]
def tFull : Txn := ⟨0, 0, fAdd 0 bB 1000, [], [], 0, 0⟩
def uFull (n a k : Nat) : Txn := ⟨1, 0, fAdd 1 cB n, fDrop a k, [], 0, 0⟩
theorem fM_ok {v : Int} {s : ByteArray} {i : Nat} (hv : v = 0 ∨ v = 1) (hs : s.size = 1) (hi : i < 2000) : (fM v s i).Ok := by
  refine ⟨⟨⟨?_, ?_⟩, ⟨?_, ?_⟩, ⟨?_, ?_⟩, ⟨?_, ?_⟩, ⟨?_, ?_⟩⟩, ?_, ?_, ?_, ⟨?_, ?_⟩⟩
  · show (0 : Int) ≤ i; omega
  · show (i : Int) < _; omega
  · show (0 : Int) ≤ (i : Int) + 1; omega
  · show (i : Int) + 1 < _; omega
  · show 0 ≤ v; omega
  · show v < _; omega
  · show (0 : Int) ≤ 0; omega
  · show (0 : Int) < _; omega
  · show (0 : Int) ≤ 0; omega
  · show (0 : Int) < _; omega
  · show s.size ≤ 62; omega
  · show (0 : Int) ≤ 0; omega
  · show (0 : Int) < _; omega
  · show (0 : Int) ≤ 0; omega
  · show (0 : Int) < _; omega
theorem fM_meta {v : Int} {s : ByteArray} {i : Nat} (hv : v = 0 ∨ v = 1) (hs : s = bB ∨ s = cB) (hi : i < 2000) : metaB (fM v s i) = true := by
  have h1 : mayB (fM v s i).seg = true := by
    show (decide ((0 : Int) ≤ (i : Int)) && (decide ((i : Int) < (i : Int) + 1) && (decide ((i : Int) + 1 ≤ 1099511627776) && (decide ((0 : Int) ≤ v) && (decide ((0 : Int) ≤ 0) && decide ((0 : Int) ≤ 0)))))) = true
    simp only [Bool.and_eq_true, decide_eq_true_eq]
    omega
  have h2 : (strB s).all (fun b => decide (33 ≤ b.toNat) && decide (b.toNat ≤ 126)) = true ∧ s.size = 1 := by
    rcases hs with rfl | rfl <;> exact ⟨by decide, rfl⟩
  have h3 : (fM v s i).blob = s := rfl
  simp only [metaB, h1, h3, h2.1, h2.2, Bool.true_and]
  rfl
theorem fM_cmp {v : Int} {s s' : ByteArray} {i j : Nat} : cmpSeg (fM v s i).seg (fM v s' j).seg = 0 ↔ i = j := by
  rw [cmpSeg_eq]
  constructor
  · rintro ⟨h, -⟩
    simp only [fM] at h
    omega
  · rintro rfl
    exact ⟨rfl, rfl, rfl, rfl⟩
theorem once_fAdd (v : Int) (s : ByteArray) (n : Nat) : Once ((fAdd v s n).map Meta.seg) := by
  rw [fAdd, List.map_map, Once, List.pairwise_map]
  exact List.pairwise_lt_range.imp fun {a b} h q => by
    have := fM_cmp.1 q; omega
theorem once_fDrop (a k : Nat) : Once (fDrop a k) := by
  rw [fDrop, Once, List.pairwise_map]
  exact List.pairwise_lt_range.imp fun {x y} h q => by
    have := fM_cmp.1 q; omega
theorem tFull_add : tFull.add = fAdd 0 bB 1000 := by simp only [tFull]
theorem uFull_add (n a k : Nat) : (uFull n a k).add = fAdd 1 cB n := rfl
theorem uFull_drop (n a k : Nat) : (uFull n a k).drop = fDrop a k := rfl
theorem tFull_ok : tFull.Ok := by
  refine ⟨fun m hm => ?_, fun x hx => (nomatch hx), fun x hx => (nomatch hx), ?_, (Nat.zero_le 3000), (Nat.zero_le 8)⟩
  · rw [tFull_add] at hm
    obtain ⟨i, hi, rfl⟩ := mem_fAdd.1 hm
    exact fM_ok (.inl rfl) rfl (by omega)
  · have e : tFull.add = fAdd 0 bB 1000 := rfl
    rw [e, fAdd_len]; omega
theorem uFull_ok {n a k : Nat} (hn : n ≤ 9) (ha : a < 900) (hk : k ≤ 10) : (uFull n a k).Ok := by
  refine ⟨fun m hm => ?_, fun x hx => ?_, fun x hx => (nomatch hx), ?_, ?_, (Nat.zero_le 8)⟩
  · obtain ⟨i, hi, rfl⟩ := mem_fAdd.1 hm
    exact fM_ok (.inr rfl) rfl (by omega)
  · obtain ⟨i, hi, rfl⟩ := mem_fDrop.1 hx
    exact (fM_ok (.inl rfl) rfl (by omega)).seg
  · show (fAdd 1 cB n).length ≤ 3000
    rw [fAdd_len]; omega
  · show (fDrop a k).length ≤ 3000
    rw [fDrop_len]; omega
theorem tFull_zero : refusedS (newS 1) tFull = 0 := by
  have h1 : MayT tFull (newS 1).offs.length := by
    refine ⟨⟨fun m hm => (nomatch hm), .nil⟩, by decide, .inl (by decide), fun m hm => ?_, fun x hx => (nomatch hx)⟩
    rw [tFull_add] at hm
    obtain ⟨i, hi, rfl⟩ := mem_fAdd.1 hm
    exact fM_meta (.inl rfl) (.inl rfl) (by omega)
  have h2 : ¬ tFull.epoch ≠ (newS 1).epoch := by decide
  have h3 : ¬ (tFull.term ≠ 0 ∧ tFull.term ≠ (newS 1).term) := by decide
  have h4 : ¬ ∃ m ∈ tFull.moves, m.from_ ≠ (newS 1).offs.getD m.stream.toNat 0 ∨ m.to_ < m.from_ := fun ⟨m, hm, _⟩ => nomatch hm
  have h5 : ¬ ∃ m ∈ tFull.add, hasB (newS 1).metas m.seg = true := fun ⟨m, hm, h⟩ => by cases h
  have h6 : ¬ ¬ Once (tFull.add.map Meta.seg) := by rw [tFull_add]; exact not_not_intro (once_fAdd 0 bB 1000)
  have h7 : ¬ ∃ x ∈ tFull.drop, hasB (newS 1).metas x = false := fun ⟨m, hm, _⟩ => nomatch hm
  have h8 : ¬ ¬ Once tFull.drop := not_not_intro .nil
  have h9 : ¬ ((1000 : Int) < (newS 1).metas.length + tFull.add.length - tFull.drop.length) := by
    have e1 : tFull.add.length = 1000 := by rw [tFull_add]; exact fAdd_len _ _ _
    have e2 : (newS 1).metas.length = 0 := rfl
    have e3 : tFull.drop.length = 0 := rfl
    rw [e1, e2, e3]; decide
  rw [refusedS, if_neg (not_not_intro h1), if_neg h2, if_neg h3, if_neg h4, if_neg h5, if_neg h6, if_neg h7, if_neg h8, if_neg h9]
def sFull : St := doneS (newS 1) tFull
theorem sFull_mem {z : Meta} : z ∈ sFull.metas ↔ ∃ i, i < 1000 ∧ z = fM 0 bB i := by
  show z ∈ tFull.add.foldl putL [] ↔ _
  rw [mem_puts]
  rw [tFull_add, mem_fAdd]
  simp
theorem sFull_len : sFull.metas.length = 1000 := by
  show (tFull.add.foldl putL []).length = 1000
  rw [puts_len]
  rw [tFull_add, fAdd_len]; rfl
theorem sFull_good : Good sFull := done_good (newS_good ⟨by omega, by omega⟩) tFull_zero tFull_ok (by decide)
theorem uFull_why {n a k : Nat} (hn : n ≤ 9) (ha : a < 900) (hk : k ≤ 10) : refusedS sFull (uFull n a k) = if k < n then 90 else 0 := by
  have h1 : MayT (uFull n a k) sFull.offs.length := by
    refine ⟨⟨fun m hm => (nomatch hm), .nil⟩, by show (0 : Int) ≤ 0; omega, .inl (by show (0 : Int) ≤ 0; omega), fun m hm => ?_, fun x hx => ?_⟩
    · obtain ⟨i, hi, rfl⟩ := mem_fAdd.1 hm
      exact fM_meta (.inr rfl) (.inr rfl) (by omega)
    · obtain ⟨i, hi, rfl⟩ := mem_fDrop.1 hx
      show (decide ((0 : Int) ≤ (((a + i : Nat) : Int) : Int)) && (decide ((((a + i : Nat) : Int) : Int) < (((a + i : Nat) : Int) : Int) + 1) && (decide ((((a + i : Nat) : Int) : Int) + 1 ≤ 1099511627776) && (decide ((0 : Int) ≤ 0) && (decide ((0 : Int) ≤ 0) && decide ((0 : Int) ≤ 0)))))) = true
      simp only [Bool.and_eq_true, decide_eq_true_eq]
      omega
  have h2 : ¬ (uFull n a k).epoch ≠ sFull.epoch := fun h => h rfl
  have h3 : ¬ ((uFull n a k).term ≠ 0 ∧ (uFull n a k).term ≠ sFull.term) := fun h => h.1 rfl
  have h4 : ¬ ∃ m ∈ (uFull n a k).moves, m.from_ ≠ sFull.offs.getD m.stream.toNat 0 ∨ m.to_ < m.from_ := fun ⟨m, hm, _⟩ => nomatch hm
  have h5 : ¬ ∃ m ∈ (uFull n a k).add, hasB sFull.metas m.seg = true := fun ⟨m, hm, h⟩ => by
    obtain ⟨i, hi, rfl⟩ := mem_fAdd.1 hm
    obtain ⟨z, hz, he⟩ := hasB_iff.1 h
    obtain ⟨j, hj, rfl⟩ := sFull_mem.1 hz
    rw [cmpSeg_eq] at he
    simp only [fM] at he
    omega
  have h6 : ¬ ¬ Once ((uFull n a k).add.map Meta.seg) := not_not_intro (once_fAdd 1 cB n)
  have h7 : ¬ ∃ x ∈ (uFull n a k).drop, hasB sFull.metas x = false := fun ⟨x, hx, h⟩ => by
    obtain ⟨i, hi, rfl⟩ := mem_fDrop.1 hx
    have : hasB sFull.metas (fM 0 bB (a + i)).seg = true := hasB_iff.2 ⟨fM 0 bB (a + i), sFull_mem.2 ⟨a + i, by omega, rfl⟩, fM_cmp.2 rfl⟩
    rw [this] at h; cases h
  have h8 : ¬ ¬ Once (uFull n a k).drop := not_not_intro (once_fDrop a k)
  rw [refusedS, if_neg (not_not_intro h1), if_neg h2, if_neg h3, if_neg h4, if_neg h5, if_neg h6, if_neg h7, if_neg h8]
  have e1 : (uFull n a k).add.length = n := fAdd_len _ _ _
  have e2 : (uFull n a k).drop.length = k := fDrop_len _ _
  rw [e1, e2, sFull_len]
  by_cases h : k < n
  · rw [if_pos h, if_pos (by omega)]
  · rw [if_neg h, if_neg (by omega)]
theorem uFull_len {n a k : Nat} (hn : n ≤ 9) (ha : a < 900) (hk : k ≤ 10) (h : ¬ k < n) : ((doneS sFull (uFull n a k)).metas.length : Int) = 1000 + n - k := by
  have hz : refusedS sFull (uFull n a k) = 0 := by rw [uFull_why hn ha hk, if_neg h]
  obtain ⟨-, -, -, -, -, h6, h7, -⟩ := refused_zero hz
  have h1 := drops_len1 (uFull n a k).drop sFull.metas sFull_good.ranked h6 h7
  show (((uFull n a k).add.foldl putL ((uFull n a k).drop.foldl dropL sFull.metas)).length : Int) = _
  have e1 : (uFull n a k).add.length = n := fAdd_len _ _ _
  have e2 : (uFull n a k).drop.length = k := fDrop_len _ _
  rw [puts_len, e1]
  rw [e2, sFull_len] at h1
  omega
end Go.Proofs.YtekpdopbiklkfaaGreatDoor
end
section
set_option linter.unusedVariables false
set_option linter.unusedSimpArgs false
namespace Go.AW
open Go Go.RowKit
variable {P : Program}
inductive LK where
  | int (k : IntKind) | bool | str
def LK.fits : LK → Value → Prop
  | .int k, v => ∃ n, v = .int k n ∧ (Lit.int k n).wf = true
  | .bool, v => ∃ b, v = .bool b
  | .str, v => ∃ s : ByteArray, v = .string s ∧ s.size ≤ maxLen
def Fits (ks : List LK) (cs : List Value) : Prop := cs.length = ks.length ∧ ∀ (i : Nat) k v, ks[i]? = some k → cs[i]? = some v → k.fits v
theorem Fits.nil : Fits [] [] := ⟨rfl, by simp⟩
theorem Fits.one {k : LK} {v : Value} (h : k.fits v) : Fits [k] [v] := ⟨rfl, fun i k' v' h1 h2 => by
  cases i with
  | zero => simp at h1 h2; subst h1; subst h2; exact h
  | succ i => simp at h1⟩
theorem Fits.app {a b : List LK} {c d : List Value} (h : Fits a c) (h2 : Fits b d) : Fits (a ++ b) (c ++ d) := by
  refine ⟨by simp [h.1, h2.1], fun i k v hk hv => ?_⟩
  by_cases hi : i < a.length
  · rw [List.getElem?_append_left hi] at hk
    rw [List.getElem?_append_left (by rw [h.1]; exact hi)] at hv
    exact h.2 i k v hk hv
  · rw [List.getElem?_append_right (by omega)] at hk
    rw [List.getElem?_append_right (by rw [h.1]; omega), h.1] at hv
    exact h2.2 _ k v hk hv
theorem Fits.cons {k : LK} {ks : List LK} {cs : List Value} (h : Fits (k :: ks) cs) : ∃ v r, cs = v :: r ∧ k.fits v ∧ Fits ks r := by
  cases cs with
  | nil => have := h.1; simp at this
  | cons v r => exact ⟨v, r, rfl, h.2 0 k v rfl rfl, by have := h.1; simpa using this, fun i k' v' h1 h2 => h.2 (i + 1) k' v' (by simpa using h1) (by simpa using h2)⟩
theorem LK.plain {k : LK} {v : Value} (h : k.fits v) : plain1 v = true := by
  cases k with
  | int k => obtain ⟨n, rfl, _⟩ := h; rfl
  | bool => obtain ⟨n, rfl⟩ := h; rfl
  | str => obtain ⟨n, rfl, _⟩ := h; rfl
theorem Fits.plain {ks : List LK} {cs : List Value} (h : Fits ks cs) : ∀ v ∈ cs, plain1 v = true := fun v hv => by
  obtain ⟨i, hi⟩ := List.getElem?_of_mem hv
  have hl : i < ks.length := by
    rw [← h.1]
    rcases Nat.lt_or_ge i cs.length with q | q
    · exact q
    · rw [List.getElem?_eq_none q] at hi; cases hi
  exact LK.plain (h.2 i _ v (List.getElem?_eq_getElem hl) hi)
section
variable {H : Type} {enc : TypeId × Value → H} {w : World} {base : Nat} {spare : Nat → Bool} {held : Bool}
end
abbrev Given := Option (Loc × List Value)
def objOf : Given → AObj
  | none => .gone
  | some p => .row p.2 0 false
def Good (W : World) : Given → Prop
  | none => True
  | some p => ∃ arr e fz, W.heap[p.1.blk]? = some (.cells arr e fz) ∧ p.1.base + p.2.length ≤ arr.size ∧ ∀ (i : Nat) v, p.2[i]? = some v → arr[p.1.base + i]? = some v ∧ plain1 v = true
def renOf (os : List Given) : Ren := fun id => (os[id]?).bind fun o => o.map Prod.fst
theorem VR.plain {ρ : Ren} {v : Value} (h : plain1 v = true) : VR ρ v v := by
  cases v <;> first | (simp [plain1] at h; done) | constructor
theorem rel_of {W : World} (os : List Given) (h : ∀ o ∈ os, Good W o) : Rel (renOf os) (os.map objOf) (full W) W := by
  have key : ∀ id l, renOf os id = some l → ∃ cs, os[id]? = some (some (l, cs)) := fun id l hl => by
    unfold renOf at hl
    simp only [Option.bind_eq_some_iff, Option.map_eq_some_iff] at hl
    obtain ⟨o, ho, p, hp, rfl⟩ := hl
    subst hp
    exact ⟨p.2, ho⟩
  refine ⟨fun id l hl => ?_, full_ok W, fun id l o hl ho => ?_, fun i j l m o p hl hm ho hp hij h1 h2 => ?_⟩
  · obtain ⟨cs, hc⟩ := key id l hl
    rw [List.length_map]
    rcases Nat.lt_or_ge id os.length with q | q
    · exact q
    · rw [List.getElem?_eq_none q] at hc; cases hc
  · obtain ⟨cs, hc⟩ := key id l hl
    rw [List.getElem?_map, hc] at ho
    simp only [Option.map_some, Option.some.injEq, objOf] at ho
    subst ho
    obtain ⟨arr, e, fz, a1, a2, a3⟩ := h _ (List.mem_of_getElem? hc)
    refine ⟨arr, e, fz, a1, a2, fun i v v' hv hv' => ?_, fun q => Bool.noConfusion q, fun _ => by simp only [full]; rw [a1]; rfl⟩
    obtain ⟨b1, b2⟩ := a3 i v hv
    rw [hv'] at b1
    cases b1
    exact VR.plain b2
  · obtain ⟨cs, hc⟩ := key i l hl
    rw [List.getElem?_map, hc] at ho
    simp only [Option.map_some, Option.some.injEq, objOf] at ho
    subst ho
    simp [isOwn] at h1
def ArgSl (a : Option Addr) (n c : Nat) : Prop := (a = none ∧ n = 0) ∨ (a = some ⟨0, 0, some 0⟩ ∧ n = 0 ∧ c = 0) ∨ ∃ id off, a = some ⟨id, off, none⟩ ∧ 0 < c ∧ n ≤ c
theorem ArgSl.cap {a : Option Addr} {n c : Nat} (h : ArgSl a n c) : n ≤ capOf n c := by
  unfold capOf
  rcases h with ⟨_, rfl⟩ | ⟨_, rfl, _⟩ | ⟨id, off, _, h1, h2⟩
  · exact Nat.zero_le _
  · exact Nat.zero_le _
  · rw [if_neg (by omega)]; exact h2
theorem ArgSl.cut {a : Option Addr} {n c : Nat} (h : ArgSl a n c) {m : Nat} (hm : m ≤ n) (H : AHeap) (k : Nat) :
    ∃ a' c', AW.cut H k a c 0 m = some (.slice a' m c') ∧ ArgSl a' m c' ∧ ∀ {α : Type} (enc : α → List Value) (l : List α), SlA H enc k a l → l.length = n → SlA H enc k a' (l.take m) := by
  rcases h with ⟨rfl, rfl⟩ | ⟨rfl, rfl, rfl⟩ | ⟨id, off, rfl, h1, h2⟩
  · obtain rfl : m = 0 := by omega
    exact ⟨none, 0, rfl, .inl ⟨rfl, rfl⟩, fun enc l h _ => by simpa using SlA.nil _ _ _ _⟩
  · obtain rfl : m = 0 := by omega
    exact ⟨_, 0, rfl, .inr (.inl ⟨rfl, rfl, rfl⟩), fun enc l h _ => by simpa using SlA.nil _ _ _ _⟩
  · refine ⟨some ⟨id, off, none⟩, c, ?_, .inr (.inr ⟨id, off, rfl, h1, by omega⟩), fun enc l h _ => h.take m⟩
    simp only [AW.cut, Option.isSome_none, Bool.false_eq_true, if_false, add_none, Nat.zero_mul, Nat.add_zero, Nat.sub_zero]
    rw [if_neg (by omega), if_neg (by omega)]
section
variable {H : Type} {enc : TypeId × Value → H} {W : World}
end
theorem below_of {W w : World} (h : (full W).ok w) : Below W.heap.size W w :=
  ⟨h.os, h.tape, h.output, h.size, fun k hk => by
    have := h.heap k _ (Array.getElem?_eq_getElem hk)
    rw [this, Array.getElem?_eq_getElem hk]⟩
theorem calls_true {f : FuncId} {args args' : List Value} {W : World} (os : List Given) (h : ∀ o ∈ os, Good W o) (hs : Sound P f args (os.map objOf) fun v _ => v = .bool true) (hv : VRs (renOf os) args args') :
    Calls P f args'.toArray W fun e W' => e = .returned (.bool true) ∧ Below W.heap.size W W' := by
  refine (hs.2 (renOf os) (full W) W args' (rel_of os h) hv).mono ?_
  rintro e W' ⟨v, v', H', ρ', rfl, rfl, hR, _, _, hvr⟩
  cases hvr
  exact ⟨rfl, below_of hR.frm⟩
theorem and_true2 {a b : Bool} (h : a = true) (k : b = true) : (a && b) = true := by rw [h, k]; rfl
end Go.AW
end
section
set_option linter.unusedVariables false
set_option linter.unusedSimpArgs false
namespace Go.Proofs.YtekpdopbiklkfaaGreatDoor
open Go Go.AW
set_option linter.unusedSimpArgs false
set_option maxRecDepth 20000
theorem tm_bd (n k : Int) (hk : 0 < k) : 0 ≤ (absZ n).tmod k ∧ (absZ n).tmod k < k := by
  rw [Int.tmod_eq_emod_of_nonneg (absZ_ge n)]
  exact ⟨Int.emod_nonneg _ (by omega), Int.emod_lt_of_pos _ hk⟩
theorem aload_take {H : AHeap} {a : Addr} {n m : Nat} {cs : List Value} (h : aload H a n = some cs) (hm : m ≤ n) : aload H a m = some (cs.take m) := by
  rw [aload_iff] at h ⊢
  obtain ⟨h1, row, k, own, h2, h3, h4⟩ := h
  refine ⟨h1, row, k, own, h2, by omega, ?_⟩
  rw [h4, List.take_take, Nat.min_eq_left hm]
abbrev txF (e : Int) (va vd : Value) : List Value := [.int .i64 e, .int .i64 0, va, vd, nilV, .int .i64 0, .int .i64 0]
set_option maxHeartbeats 8000000 in
theorem metaFull (more drop : Int) (hm : InI more) (hdr : InI drop) (H : AHeap) : Sound Tryz.prog 4 [.int .i64 more, .int .i64 drop] H fun v _ => v = .bool true := by
  refine Sound.of_body (rs := [.tmp 4]) mixed Tryz.func4 rfl (by kernel_rfl) rfl (by kernel_rfl) ?_
  have hn1 : 1 ≤ 1 ∧ 1 ≤ 8 := ⟨by omega, by omega⟩
  have hG0 := newS_good (n := 1) hn1
  have hB0 := St.B_le hG0.ok
  have hBt : tFull.B.length ≤ 142200 := by
    refine Nat.le_trans (Txn.B_len tFull_ok) ?_
    have e1 : tFull.add.length = 1000 := by rw [tFull_add]; exact fAdd_len _ _ _
    have e2 : tFull.drop.length = 0 := rfl
    have e3 : tFull.moves.length = 0 := rfl
    omega
  simp -dsimp only [go_sem, ↓reduceIte, Nat.reduceEqDiff, Nat.reduceAdd, Nat.reduceMul, Nat.reduceSub, Nat.reduceLeDiff, Nat.reduceLT]
  refine SoundP_of (awakeLaw H) ?_
  rintro _ H0 ⟨rfl, p0⟩
  simp -dsimp only [go_sem, ↓reduceIte, Nat.reduceEqDiff, Nat.reduceAdd, Nat.reduceMul, Nat.reduceSub, Nat.reduceLeDiff, Nat.reduceLT]
  refine SoundP_of (diskNew H0) ?_
  rintro _ H1 ⟨rfl, p1, d1⟩
  have l1 := pre_len p1
  simp -dsimp only [go_sem, ↓reduceIte, Nat.reduceEqDiff, Nat.reduceAdd, Nat.reduceMul, Nat.reduceSub, Nat.reduceLeDiff, Nat.reduceLT]
  refine SoundP_of (openedLaw d1 1 hn1 (gen := 0) (fun x hx => (nomatch hx)) (by omega) (by decide) (by omega) l1 (newS 1) 1048584 (.inl ⟨rfl, rfl, by omega⟩)) ?_
  rintro _ H2 ⟨p, rfl, o2⟩
  obtain ⟨gen1, own1, vm1, vo1, ops1, M1, h2, F2, hg2, -, o21, o22, n2, f2⟩ := o2.ex
  have hg2 := hg2 rfl
  subst hg2
  have p2 : H0 <+: H2 := pre_of fun j hj => (o2.fr j (by omega) fun q => by have := (d1.foot q).1; omega).trans (by obtain ⟨L, rfl⟩ := p1; exact List.getElem?_append_left hj)
  have l2 := pre_len p2
  have py := List.prefix_append H2 [AObj.row (txF 0 nilV nilV) 7 true]
  have y0 := get_end H2 (AObj.row (txF 0 nilV nilV) 7 true) []
  simp -dsimp only [go_sem, ↓reduceIte, Nat.reduceEqDiff, Nat.reduceAdd, Nat.reduceMul, Nat.reduceSub, Nat.reduceLeDiff, Nat.reduceLT]
  refine aloop_join (fun T H' => ∃ va, H2.length < H'.length ∧ (∀ j, j < H2.length → H'[j]? = H2[j]?) ∧ H'[H2.length]? = some (.row (txF 0 va nilV) 7 true) ∧ Own (H2.length + 1) H' Meta.cells 8 va (fAdd 0 bB 1000) ∧ T 0 = .int .i64 more ∧ T 1 = .int .i64 drop ∧ T 6 = ptrV (H0.length + 1) ∧ T 7 = ptrV p ∧ T 8 = ptrV H2.length)
    (fun k T H' => ∃ (i : Nat) (va : Value), k = 1000 - i ∧ i ≤ 1000 ∧ H2.length < H'.length ∧ (∀ j, j < H2.length → H'[j]? = H2[j]?) ∧ H'[H2.length]? = some (.row (txF 0 va nilV) 7 true) ∧ Own (H2.length + 1) H' Meta.cells 8 va (fAdd 0 bB i) ∧
      T 0 = .int .i64 more ∧ T 1 = .int .i64 drop ∧ T 6 = ptrV (H0.length + 1) ∧ T 7 = ptrV p ∧ T 8 = ptrV H2.length ∧ T 9 = .int .i64 (i : Nat)) (n := 1000) ?_ ?_ ?_
  · refine ⟨0, nilV, ?_⟩
    simp -dsimp only [go_sem, ↓reduceIte, Nat.reduceEqDiff, Nat.reduceAdd, Nat.reduceMul, Nat.reduceSub, Nat.reduceLeDiff, Nat.reduceLT]
    exact ⟨by omega, fun j hj => List.getElem?_append_left hj, Own.nil _ _ _ _, rfl⟩
  · rintro k T H' ⟨i, va, rfl, hi, hlt, hfr, hy, hown, t0, t1, t6, t7, t8, t9⟩
    cases hA : decide ((i : Int) < 1000) with
    | true =>
      have h := of_decide_eq_true hA
      have h : i < 1000 := by omega
      have hx : fM 0 bB i = ⟨⟨(i : Int), ((i + 1 : Nat) : Int), 0, 0, 0⟩, bB, 0, 0⟩ := by simp [fM]
      have hll := fAdd_len 0 bB i
      obtain ⟨v', H3, e, ap⟩ := appM hown (by omega) (by omega) ⟨⟨(i : Int), ((i + 1 : Nat) : Int), 0, 0, 0⟩, bB, 0, 0⟩
      have ow : ∀ j, owner va = some j → H2.length + 1 ≤ j := fun j hj => (hown.owner_ge hj).1
      have fr3 : ∀ j, j < H2.length + 1 → H3[j]? = H'[j]? := fun j hj => ap.fr j (by omega) fun q => by have := ow j q; omega
      have hy3 := (fr3 H2.length (by omega)).trans hy
      have hl3 := ap.len
      obtain ⟨a3, c3, rfl, -⟩ := ap.own.sl (fun _ => rfl)
      generalize hnn : (fAdd 0 bB i ++ [(⟨⟨(i : Int), ((i + 1 : Nat) : Int), 0, 0, 0⟩, bB, 0, 0⟩ : Meta)]).length = nn at *
      simp -dsimp only [go_sem, ↓reduceIte, Nat.reduceEqDiff, Nat.reduceAdd, Nat.reduceMul, Nat.reduceSub, Nat.reduceLeDiff, Nat.reduceLT, t0, t1, t6, t7, t8, t9, hA, hy, wrS (show i < 4611686018427387904 by omega), e, hy3]
      refine ⟨_, by omega, i + 1, .slice a3 nn c3, rfl, by omega, by rw [List.length_set]; omega, fun j hj => ?_, List.getElem?_set_self (get_lt hy3), ?_, rfl⟩
      · rw [List.getElem?_set_ne (by omega), fr3 j (by omega)]; exact hfr j hj
      · rw [fAdd_succ, hx]
        exact own_set hy3 ap.own (by decide) _
    | false =>
      have h := of_decide_eq_false hA
      obtain rfl : i = 1000 := by omega
      simp -dsimp only [go_sem, ↓reduceIte, Nat.reduceEqDiff, Nat.reduceAdd, Nat.reduceMul, Nat.reduceSub, Nat.reduceLeDiff, Nat.reduceLT, t0, t1, t6, t7, t8, t9, hA]
      exact ⟨va, hlt, hfr, hy, hown⟩
  · rintro T H3 ⟨va, hlt3, hfr3, hy3, hown3, t0, t1, t6, t7, t8⟩
    have ft2 : ∀ j, footL p (H0.length + 1) H0.length vm1 vo1 M1 j → j < H2.length := fun j hj => (h2.foot hj).2
    have h3 := h2.keep (H' := H3) fun j hj => hfr3 j (ft2 j hj)
    rw [← tFull_add] at hown3
    obtain ⟨a3, c3, rfl, s3⟩ := hown3.sl (fun _ => rfl)
    have do1 : Sound Tryz.prog 16 [ptrV p, .agg (txF 0 (.slice a3 tFull.add.length c3) nilV).toArray] H3 _ :=
      doLaw1 h3 hG0 F2 (by simp at n2; omega) (by omega) (by omega) (by omega) (by simp at o22 n2; omega) (by omega) tFull tFull_ok (by decide) a3 none none c3 0 0 s3 (SlA.nil _ _ _ _) (SlA.nil _ _ _ _) tFull_zero
    generalize hta : tFull.add.length = nta at *
    simp -dsimp only [go_sem, ↓reduceIte, Nat.reduceEqDiff, Nat.reduceAdd, Nat.reduceMul, Nat.reduceSub, Nat.reduceLeDiff, Nat.reduceLT, t0, t1, t6, t7, t8, hy3]
    refine SoundP_of do1 ?_
    rintro _ H4 ⟨vmr, vor, rfl, m4⟩
    have m4 : Moved H0.length H3 H4 p (H0.length + 1) H0.length 1 (newS 1) vm1 vo1 M1 sFull (1048584 + 8 + tFull.B.length) ops1 own1 vmr vor := m4
    have l4 := m4.len
    have lt3 : H2.length < H3.length := hlt3
    -- the transaction's own things stay
    have hy4 : H4[H2.length]? = some (.row (txF 0 (.slice a3 nta c3) nilV) 7 true) := (m4.fr _ lt3 fun q => by have := ft2 _ q; omega).trans hy3
    have s4 : Own (H2.length + 1) H4 Meta.cells 8 (.slice a3 nta c3) tFull.add := hown3.keep fun id hid => m4.fr id (hown3.owner_ge hid).2 fun q => by
      have h1 := ft2 _ q
      have h2 := (hown3.owner_ge hid).1
      omega
    obtain ⟨gen4, ops4, M4, vm4, vo4, h4, F4, g41, g42, -, o41, o42, n4, f4, sp4⟩ := m4.ex
    have om4 := m4.om
    have oo4 := m4.oo
    obtain ⟨am, cm, hvm, sm⟩ := om4.sl (fun _ => rfl)
    rw [sFull_len] at hvm
    subst hvm
    have z1 : (((1000 : Nat) : Int) != 1000) = false := rfl
    obtain ⟨b1, b2⟩ := tm_bd more 9 (by omega)
    obtain ⟨n, hn⟩ : ∃ n : Nat, 1 + (absZ more).tmod 9 = (n : Int) := ⟨(1 + (absZ more).tmod 9).toNat, by omega⟩
    have w1 : IntKind.i64.wrap ((absZ more).tmod 9) = (absZ more).tmod 9 := wr64 (by omega) (by omega)
    have w2 : IntKind.i64.wrap (1 + (absZ more).tmod 9) = (n : Int) := by rw [wr64 (by omega) (by omega)]; exact hn
    simp -dsimp only [go_sem, ↓reduceIte, Nat.reduceEqDiff, Nat.reduceAdd, Nat.reduceMul, Nat.reduceSub, Nat.reduceLeDiff, Nat.reduceLT, t0, t1, t6, t7, t8, Int.reduceBNe, own_one oo4, z1]
    refine SoundP_of (absLaw more _ hm) ?_
    rintro _ K ⟨rfl, hK⟩
    rw [hK]
    clear hK
    simp -dsimp only [go_sem, ↓reduceIte, Nat.reduceEqDiff, Nat.reduceAdd, Nat.reduceMul, Nat.reduceSub, Nat.reduceLeDiff, Nat.reduceLT, t0, t1, t6, t7, t8, w1, w2, Int.reduceEq]
    obtain ⟨H5, hH5⟩ : ∃ H5, H5 = H4 ++ [AObj.row (stV ((newS 1).epoch + 1) (newS 1).term (newS 1).leader (.slice am (1000 : Nat) cm) vor) 5 true, AObj.row (txF 1 nilV nilV) 7 true] := ⟨_, rfl⟩
    have p5 : H4 <+: H5 := by rw [hH5]; exact List.prefix_append _ _
    have x5 : H5[H4.length]? = some (.row (stV ((newS 1).epoch + 1) (newS 1).term (newS 1).leader (.slice am (1000 : Nat) cm) vor) 5 true) := by rw [hH5]; exact get_end _ _ _
    have u5 : H5[H4.length + 1]? = some (.row (txF 1 nilV nilV) 7 true) := by rw [hH5]; exact get_end1 _ _ _ _
    have l5 : H5.length = H4.length + 2 := by rw [hH5]; simp
    refine aloop_join (fun T H' => ∃ va, H4.length + 1 < H'.length ∧ (∀ j, j < H4.length + 1 → H'[j]? = H5[j]?) ∧ H'[H4.length + 1]? = some (.row (txF 1 va nilV) 7 true) ∧ Own (H4.length + 2) H' Meta.cells 8 va (fAdd 1 cB n) ∧ T 1 = .int .i64 drop ∧ T 6 = ptrV (H0.length + 1) ∧ T 7 = ptrV p ∧ T 8 = ptrV H2.length ∧ T 10 = ptrV H4.length ∧ T 12 = ptrV (H4.length + 1) ∧ T 13 = .int .i64 n)
      (fun k T H' => ∃ (i : Nat) (va : Value), k = n - i ∧ i ≤ n ∧ H4.length + 1 < H'.length ∧ (∀ j, j < H4.length + 1 → H'[j]? = H5[j]?) ∧ H'[H4.length + 1]? = some (.row (txF 1 va nilV) 7 true) ∧ Own (H4.length + 2) H' Meta.cells 8 va (fAdd 1 cB i) ∧
        T 1 = .int .i64 drop ∧ T 6 = ptrV (H0.length + 1) ∧ T 7 = ptrV p ∧ T 8 = ptrV H2.length ∧ T 10 = ptrV H4.length ∧ T 12 = ptrV (H4.length + 1) ∧ T 13 = .int .i64 n ∧ T 14 = .int .i64 (i : Nat)) (n := n) ?_ ?_ ?_
    · refine ⟨0, nilV, ?_⟩
      simp -dsimp only [go_sem, ↓reduceIte, Nat.reduceEqDiff, Nat.reduceAdd, Nat.reduceMul, Nat.reduceSub, Nat.reduceLeDiff, Nat.reduceLT, t0, t1, t6, t7, t8]
      exact ⟨rfl, Nat.zero_le _, by omega, fun j _ => by rw [hH5], Own.nil _ _ _ _, rfl⟩
    · rintro k T H' ⟨i, va, rfl, hi, hlt, hfr, hy, hown, t1, t6, t7, t8, t10, t12, t13, t14⟩
      cases hA : decide ((i : Int) < (n : Int)) with
      | true =>
        have h := of_decide_eq_true hA
        have h : i < n := by omega
        have hx : fM 1 cB i = ⟨⟨(i : Int), ((i + 1 : Nat) : Int), 1, 0, 0⟩, cB, 0, 0⟩ := by simp [fM]
        have hll := fAdd_len 1 cB i
        obtain ⟨v', H6, e, ap⟩ := appM hown (by omega) (by omega) ⟨⟨(i : Int), ((i + 1 : Nat) : Int), 1, 0, 0⟩, cB, 0, 0⟩
        have ow : ∀ j, owner va = some j → H4.length + 2 ≤ j := fun j hj => (hown.owner_ge hj).1
        have fr6 : ∀ j, j < H4.length + 2 → H6[j]? = H'[j]? := fun j hj => ap.fr j (by omega) fun q => by have := ow j q; omega
        have hy6 := (fr6 (H4.length + 1) (by omega)).trans hy
        have hl6 := ap.len
        obtain ⟨a6, c6, rfl, -⟩ := ap.own.sl (fun _ => rfl)
        generalize hnn : (fAdd 1 cB i ++ [(⟨⟨(i : Int), ((i + 1 : Nat) : Int), 1, 0, 0⟩, cB, 0, 0⟩ : Meta)]).length = nn at *
        simp -dsimp only [go_sem, ↓reduceIte, Nat.reduceEqDiff, Nat.reduceAdd, Nat.reduceMul, Nat.reduceSub, Nat.reduceLeDiff, Nat.reduceLT, t1, t6, t7, t8, t10, t12, t13, t14, hA, hy, wrS (show i < 4611686018427387904 by omega), e, hy6]
        refine ⟨_, by omega, i + 1, .slice a6 nn c6, rfl, by omega, by rw [List.length_set]; omega, fun j hj => ?_, List.getElem?_set_self (get_lt hy6), ?_, rfl⟩
        · rw [List.getElem?_set_ne (by omega), fr6 j (by omega)]; exact hfr j hj
        · rw [fAdd_succ, hx]
          exact own_set hy6 ap.own (by decide) _
      | false =>
        have h := of_decide_eq_false hA
        obtain rfl : i = n := by omega
        simp -dsimp only [go_sem, ↓reduceIte, Nat.reduceEqDiff, Nat.reduceAdd, Nat.reduceMul, Nat.reduceSub, Nat.reduceLeDiff, Nat.reduceLT, t1, t6, t7, t8, t10, t12, t13, t14, hA]
        exact ⟨va, hlt, hfr, hy, hown⟩
    · rintro T H6 ⟨va6, hlt6, hfr6, hy6, hown6, t1, t6, t7, t8, t10, t12, t13⟩
      obtain ⟨q1, q2⟩ := tm_bd drop ((n : Int) + 2) (by omega)
      obtain ⟨q3, q4⟩ := tm_bd drop 900 (by omega)
      obtain ⟨kk, hkk⟩ : ∃ kk : Nat, (absZ drop).tmod ((n : Int) + 2) = (kk : Int) := ⟨((absZ drop).tmod ((n : Int) + 2)).toNat, by omega⟩
      obtain ⟨aa, haa⟩ : ∃ aa : Nat, (absZ drop).tmod 900 = (aa : Int) := ⟨((absZ drop).tmod 900).toNat, by omega⟩
      have w3 : IntKind.i64.wrap ((n : Int) + 2) = (n : Int) + 2 := wr64 (by omega) (by omega)
      have w4 : IntKind.i64.wrap ((absZ drop).tmod ((n : Int) + 2)) = (kk : Int) := by rw [wr64 (by omega) (by omega)]; exact hkk
      have w5 : ((n : Int) + 2 = 0) = False := eq_false (by omega)
      have hn9 : n ≤ 9 := by omega
      have hk10 : kk ≤ 10 := by omega
      have ha9 : aa < 900 := by omega
      simp -dsimp only [go_sem, ↓reduceIte, Nat.reduceEqDiff, Nat.reduceAdd, Nat.reduceMul, Nat.reduceSub, Nat.reduceLeDiff, Nat.reduceLT, t1, t6, t7, t8, t10, t12, t13]
      refine SoundP_of (absLaw drop _ hdr) ?_
      rintro _ K ⟨rfl, hK⟩
      rw [hK]
      clear hK
      simp -dsimp only [go_sem, ↓reduceIte, Nat.reduceEqDiff, Nat.reduceAdd, Nat.reduceMul, Nat.reduceSub, Nat.reduceLeDiff, Nat.reduceLT, t1, t6, t7, t8, t10, t12, t13, w3, w5, hkk]
      -- what is there
      have kp6 : ∀ j, j < H4.length → H6[j]? = H4[j]? := fun j hj => (hfr6 j (by omega)).trans (by rw [hH5]; exact List.getElem?_append_left hj)
      have hy2 : H6[H2.length]? = some (.row (txF 0 (.slice a3 nta c3) nilV) 7 true) := (kp6 _ (by omega)).trans hy4
      have x6 : H6[H4.length]? = some (.row (stV ((newS 1).epoch + 1) (newS 1).term (newS 1).leader (.slice am (1000 : Nat) cm) vor) 5 true) := (hfr6 _ (by omega)).trans x5
      have s6 : Own (H2.length + 1) H6 Meta.cells 8 (.slice a3 nta c3) tFull.add := s4.keep fun id hid => kp6 id (s4.owner_ge hid).2
      have s6l : ∀ j, owner (.slice a3 nta c3) = some j → j < H4.length := fun j hj => (s4.owner_ge hj).2
      obtain ⟨av, cv, rfl, sv⟩ := hown6.sl (fun _ => rfl)
      have hvl := fAdd_len 1 cB n
      rw [hvl] at hown6
      rw [hvl] at hy6
      have o6one : ∀ j, owner (.slice av n cv) = some j → H4.length + 2 ≤ j := fun j hj => (hown6.owner_ge hj).1
      rw [hvl] at *
      refine aloop_join (fun T H' => ∃ vd, H6.length ≤ H'.length ∧ (∀ j, j < H6.length → j ≠ H4.length + 1 → H'[j]? = H6[j]?) ∧ H'[H4.length + 1]? = some (.row (txF 1 (.slice av n cv) vd) 7 true) ∧ Own H6.length H' Seg.cells 5 vd (fDrop aa kk) ∧ T 6 = ptrV (H0.length + 1) ∧ T 7 = ptrV p ∧ T 8 = ptrV H2.length ∧ T 10 = ptrV H4.length ∧ T 12 = ptrV (H4.length + 1) ∧ T 13 = .int .i64 n ∧ T 15 = .int .i64 kk)
        (fun k T H' => ∃ (i : Nat) (vd : Value), k = kk - i ∧ i ≤ kk ∧ H6.length ≤ H'.length ∧ (∀ j, j < H6.length → j ≠ H4.length + 1 → H'[j]? = H6[j]?) ∧ H'[H4.length + 1]? = some (.row (txF 1 (.slice av n cv) vd) 7 true) ∧ Own H6.length H' Seg.cells 5 vd (fDrop aa i) ∧
          T 1 = .int .i64 drop ∧ T 6 = ptrV (H0.length + 1) ∧ T 7 = ptrV p ∧ T 8 = ptrV H2.length ∧ T 10 = ptrV H4.length ∧ T 12 = ptrV (H4.length + 1) ∧ T 13 = .int .i64 n ∧ T 15 = .int .i64 kk ∧ T 16 = .int .i64 (i : Nat)) (n := kk) ?_ ?_ ?_
      · refine ⟨0, nilV, ?_⟩
        simp -dsimp only [go_sem, ↓reduceIte, Nat.reduceEqDiff, Nat.reduceAdd, Nat.reduceMul, Nat.reduceSub, Nat.reduceLeDiff, Nat.reduceLT, t1, t6, t7, t8, t10, t12, t13]
        exact ⟨rfl, Nat.zero_le _, fun _ _ _ => trivial, hy6, Own.nil _ _ _ _, rfl⟩
      · rintro k T H' ⟨i, vd, rfl, hi, hlt, hfr, hy, hown, t1, t6, t7, t8, t10, t12, t13, t15, t16⟩
        cases hA : decide ((i : Int) < (kk : Int)) with
        | true =>
          have h := of_decide_eq_true hA
          have h : i < kk := by omega
          have hy2' : H'[H2.length]? = some (.row (txF 0 (.slice a3 nta c3) nilV) 7 true) := (hfr _ (by omega) (by omega)).trans hy2
          have hai : aa + i < nta := by rw [← hta, tFull_add, fAdd_len]; omega
          have w6 : IntKind.i64.wrap ((absZ drop).tmod 900) = (aa : Int) := by rw [wr64 (by omega) (by omega)]; exact haa
          have w7 : IntKind.i64.wrap ((absZ drop).tmod 900 + (i : Int)) = ((aa + i : Nat) : Int) := by rw [haa, wr64 (by omega) (by omega)]; omega
          have s6' : Own (H2.length + 1) H' Meta.cells 8 (.slice a3 nta c3) tFull.add := s6.keep fun id hid => hfr id (s6.owner_ge hid).2 (by have := s6l id hid; omega)
          obtain ⟨ida, resta, -, ha3, -, -, -⟩ := own_open s6' (by rw [hta]; omega)
          subst ha3
          have hat := own_at s6' (fun _ => rfl) (aa + i) (fM 0 bB (aa + i)) (by rw [tFull_add]; exact fAdd_get (by omega))
          have hld : (H'[ida]?).bind (rowLoad (some true) (some 5) ((aa + i) * 8 + 0)) = some (.agg [.int .i64 ((aa + i : Nat) : Int), .int .i64 (((aa + i : Nat) : Int) + 1), .int .i64 0, .int .i64 0, .int .i64 0].toArray) := rowLoad_whole (aload_take hat (show 5 ≤ 8 by omega))
          simp -dsimp only [go_sem, ↓reduceIte, Nat.reduceEqDiff, Nat.reduceAdd, Nat.reduceMul, Nat.reduceSub, Nat.reduceLeDiff, Nat.reduceLT, t1, t6, t7, t8, t10, t12, t13, t15, t16, hA]
          refine adrawnP_of2 [(0, false), (1, false), (2, false), (3, false), (4, false), (7, false), (5, true), (6, false), (8, false), (9, false), (10, false), (11, false), (12, false), (13, false), (14, false), (15, false)] (by kernel_rfl) ?_
          simp -dsimp only [go_sem, ↓reduceIte, Nat.reduceEqDiff, Nat.reduceAdd, Nat.reduceMul, Nat.reduceSub, Nat.reduceLeDiff, Nat.reduceLT, t1, t6, t7, t8, t10, t12, t13, t15, t16, hy, hy2']
          refine SoundP_of (absLaw drop _ hdr) ?_
          rintro _ K ⟨rfl, hK⟩
          rw [hK]
          clear hK
          have hll := fDrop_len aa i
          obtain ⟨v', H8, e, ap⟩ := appSeg hown (by omega) (by omega) ⟨((aa + i : Nat) : Int), ((aa + i : Nat) : Int) + 1, 0, 0, 0⟩
          have ow : ∀ j, owner vd = some j → H6.length ≤ j := fun j hj => (hown.owner_ge hj).1
          have fr8 : ∀ j, j < H6.length → H8[j]? = H'[j]? := fun j hj => ap.fr j (by omega) fun q => by have := ow j q; omega
          have hy8 := (fr8 (H4.length + 1) (by omega)).trans hy
          have hl8 := ap.len
          obtain ⟨a8, c8, rfl, -⟩ := ap.own.sl (fun _ => rfl)
          generalize hnn : (fDrop aa i ++ [(⟨((aa + i : Nat) : Int), ((aa + i : Nat) : Int) + 1, 0, 0, 0⟩ : Seg)]).length = nn at *
          simp -dsimp only [go_sem, ↓reduceIte, Nat.reduceEqDiff, Nat.reduceAdd, Nat.reduceMul, Nat.reduceSub, Nat.reduceLeDiff, Nat.reduceLT, t1, t6, t7, t8, t10, t12, t13, t15, t16, w7, Int.reduceEq, inRange hai, hld, e, hy8, wrS (show i < 4611686018427387904 by omega)]
          refine ⟨_, by omega, i + 1, .slice a8 nn c8, rfl, by omega, by rw [List.length_set]; omega, fun j hj hn => ?_, List.getElem?_set_self (get_lt hy8), ?_, rfl⟩
          · rw [List.getElem?_set_ne (Ne.symm hn), fr8 j hj]; exact hfr j hj hn
          · rw [fDrop_succ]
            exact own_set hy8 ap.own (by decide) _
        | false =>
          have h := of_decide_eq_false hA
          obtain rfl : i = kk := by omega
          simp -dsimp only [go_sem, ↓reduceIte, Nat.reduceEqDiff, Nat.reduceAdd, Nat.reduceMul, Nat.reduceSub, Nat.reduceLeDiff, Nat.reduceLT, t1, t6, t7, t8, t10, t12, t13, t15, t16, hA]
          exact ⟨vd, hlt, hfr, hy, hown⟩
      · rintro T H7 ⟨vd7, hlt7, hfr7, hy7, hown7, t6, t7, t8, t10, t12, t13, t15⟩
        have ft4 : ∀ j, footL p (H0.length + 1) H0.length vm4 vo4 M4 j → j < H4.length := fun j hj => (h4.foot hj).2
        have kp7 : ∀ j, j < H4.length → H7[j]? = H4[j]? := fun j hj => (hfr7 j (by omega) (by omega)).trans (kp6 j hj)
        have h7 := h4.keep (H' := H7) fun j hj => kp7 j (ft4 j hj)
        have ov7 : Own (H4.length + 2) H7 Meta.cells 8 (.slice av n cv) (fAdd 1 cB n) := hown6.keep fun id hid => hfr7 id (hown6.owner_ge hid).2 (by have := o6one id hid; omega)
        have x7 : H7[H4.length]? = some (.row (stV ((newS 1).epoch + 1) (newS 1).term (newS 1).leader (.slice am (1000 : Nat) cm) vor) 5 true) := (hfr7 _ (by omega) (by omega)).trans x6
        have hul : (uFull n aa kk).add.length = n := by rw [uFull_add, fAdd_len]
        have hud : (uFull n aa kk).drop.length = kk := by rw [uFull_drop, fDrop_len]
        have huo := uFull_ok hn9 ha9 hk10
        have hwhy := uFull_why hn9 ha9 hk10
        have hBu : (uFull n aa kk).B.length ≤ 2000 := by
          refine Nat.le_trans (Txn.B_len huo) ?_
          have e3 : (uFull n aa kk).moves.length = 0 := rfl
          omega
        obtain ⟨ad, cd, rfl, sd⟩ := hown7.sl (fun _ => rfl)
        rw [fDrop_len] at hy7
        have sv7 := (ov7.slA (fun _ => rfl)).2
        simp -dsimp only [go_sem, ↓reduceIte, Nat.reduceEqDiff, Nat.reduceAdd, Nat.reduceMul, Nat.reduceSub, Nat.reduceLeDiff, Nat.reduceLT, t6, t7, t8, t10, t12, t13, t15, hy7, fDrop_len]
        cases hlt : decide ((kk : Int) < (n : Int)) with
        | true =>
          have hlt' := of_decide_eq_true hlt
          have hlt' : kk < n := by omega
          rw [if_pos hlt'] at hwhy
          have do2 := doLaw0 h7 sFull_good (by omega) (uFull n aa kk) av ad none cv cd 0 (by rw [uFull_add]; exact sv7) (by rw [uFull_drop]; exact sd) (SlA.nil _ _ _ _) (fun m hm => by have := (huo.add m hm).blob; omega) (by omega) (by omega) (by show (0 : Nat) < 1000000; omega) (by rw [hwhy]; decide)
          rw [hwhy] at do2
          simp only [txC, hul, hud] at do2
          refine SoundP_of do2 ?_
          rintro _ H8 ⟨rfl, p8⟩
          have z0 : (((0 : Nat) : Int) == 0) = true := rfl
          simp -dsimp only [go_sem, ↓reduceIte, Nat.reduceEqDiff, Nat.reduceAdd, Nat.reduceMul, Nat.reduceSub, Nat.reduceLeDiff, Nat.reduceLT, t6, t7, t8, t10, t12, t13, t15, hlt, Int.reduceBEq, z0]
        | false =>
          have hlt' := of_decide_eq_false hlt
          have hlt' : ¬ kk < n := by omega
          rw [if_neg hlt'] at hwhy
          have do2 := doLaw1 (L := 1048584 + 8 + tFull.B.length) h7 sFull_good F4 (by simp at n2; omega) (by have := (St.B_le sFull_good.ok).1; omega) (by omega) (by omega) (by simp at o22 n2; omega) (by omega) (uFull n aa kk) huo (by decide) av ad none cv cd 0 (by rw [uFull_add]; exact sv7) (by rw [uFull_drop]; exact sd) (SlA.nil _ _ _ _) hwhy
          simp only [txC, hul, hud] at do2
          refine SoundP_of do2 ?_
          rintro _ H8 ⟨vmx, vox, rfl, m8⟩
          have m8 : Moved H0.length H7 H8 p (H0.length + 1) H0.length gen4 sFull vm4 vo4 M4 (doneS sFull (uFull n aa kk)) (1048584 + 8 + tFull.B.length + 8 + (uFull n aa kk).B.length) ops4 true vmx vox := m8
          have hG8 := done_good sFull_good hwhy huo (by decide)
          have hlen8 := uFull_len hn9 ha9 hk10 hlt'
          have hoff8 : (doneS sFull (uFull n aa kk)).offs.length = 1 := by
            show ((uFull n aa kk).moves.foldl moveL sFull.offs).length = 1
            rw [moves_len]
            show (tFull.moves.foldl moveL (newS 1).offs).length = 1
            rw [moves_len]; rfl
          obtain ⟨gen8, ops8, M8, vm8, vo8, h8, F8, g81, g82, -, o81, o82, n8, f8, sp8⟩ := m8.ex
          have om8 := m8.om
          have oo8 := m8.oo
          obtain ⟨ax, cx, hvx, sx⟩ := om8.sl (fun _ => rfl)
          generalize hm8 : (doneS sFull (uFull n aa kk)).metas.length = nm at *
          subst hvx
          have lt8 := m8.len
          obtain ⟨H9, hH9⟩ : ∃ H9, H9 = H8 ++ [AObj.row (stV (sFull.epoch + 1) sFull.term sFull.leader (.slice ax nm cx) vox) 5 true] := ⟨_, rfl⟩
          have p9 : H8 <+: H9 := by rw [hH9]; exact List.prefix_append _ _
          have x9 : H9[H8.length]? = some (.row (stV (sFull.epoch + 1) sFull.term sFull.leader (.slice ax nm cx) vox) 5 true) := by rw [hH9]; exact get_end _ _ _
          have h9 := h8.pre p9
          have l9 := pre_len p9
          simp -dsimp only [go_sem, ↓reduceIte, Nat.reduceEqDiff, Nat.reduceAdd, Nat.reduceMul, Nat.reduceSub, Nat.reduceLeDiff, Nat.reduceLT, t6, t7, t8, t10, t12, t13, t15, own_one oo8, hlt]
          rw [← hH9]
          have ft8 : ∀ j, footL p (H0.length + 1) H0.length vm8 vo8 M8 j → j < H8.length := fun j hj => (h8.foot hj).2
          have ftd : ∀ j, footD (H0.length + 1) H0.length M8 j → footL p (H0.length + 1) H0.length vm8 vo8 M8 j := fun j hj => .inr (.inr (.inr hj))
          refine SoundP_of (openedLaw h9.disk 1 hn1 F8.names (by omega) (by simp at n2 n4; omega) (by simp at o22 n2 n4; omega) (by omega) (doneS sFull (uFull n aa kk)) (1048584 + 8 + tFull.B.length + 8 + (uFull n aa kk).B.length) (.inr ⟨by omega, F8, hoff8, by omega⟩)) ?_
          rintro _ H10 ⟨q10, rfl, o10⟩
          obtain ⟨gen10, own10, vm10, vo10, ops10, M10, h10, F10, -⟩ := o10.ex
          have k10 : ∀ j, j < H9.length → ¬ footL p (H0.length + 1) H0.length vm8 vo8 M8 j → H10[j]? = H9[j]? := fun j hj hn => o10.fr j hj fun q => hn (ftd j q)
          have x10 : H10[H8.length]? = some (.row (stV (sFull.epoch + 1) sFull.term sFull.leader (.slice ax nm cx) vox) 5 true) := (k10 _ (get_lt x9) fun q => by have := ft8 _ q; omega).trans x9
          have om10 : Own H7.length H10 Meta.cells 8 (.slice ax nm cx) (doneS sFull (uFull n aa kk)).metas := (om8.pre p9).keep fun id hid => k10 id ((om8.pre p9).owner_ge hid).2 fun q => sp8 id (.inl hid) q
          have oo10 : Own H7.length H10 encU 1 vox (doneS sFull (uFull n aa kk)).offs := (oo8.pre p9).keep fun id hid => k10 id ((oo8.pre p9).owner_ge hid).2 fun q => sp8 id (.inr hid) q
          have w8 : IntKind.i64.wrap (1000 + (n : Int)) = 1000 + (n : Int) := wr64 (by omega) (by omega)
          have w9 : IntKind.i64.wrap (1000 + (n : Int) - (kk : Int)) = (nm : Int) := by rw [wr64 (by omega) (by omega)]; omega
          have z3 : ((nm : Int) == (nm : Int)) = true := by simp
          simp -dsimp only [go_sem, ↓reduceIte, Nat.reduceEqDiff, Nat.reduceAdd, Nat.reduceMul, Nat.reduceSub, Nat.reduceLeDiff, Nat.reduceLT, t6, t7, t8, t10, t12, t13, t15]
          refine adrawnP_of2 [(0, false), (1, false), (2, false), (3, false), (4, false), (5, false), (6, false), (7, false), (8, false), (9, false), (10, false), (11, false), (12, false), (13, false), (14, false), (15, false), (16, false), (17, false), (19, false), (18, true), (20, false), (21, false), (22, false)] (by kernel_rfl) ?_
          simp -dsimp only [go_sem, ↓reduceIte, Nat.reduceEqDiff, Nat.reduceAdd, Nat.reduceMul, Nat.reduceSub, Nat.reduceLeDiff, Nat.reduceLT, t6, t7, t8, t10, t12, t13, t15, x10, w8, w9, z3, Int.reduceBEq, Int.reduceBNe]
          refine SoundP_of (stateLaw h10 hG8) ?_
          rintro _ H11 ⟨p11, vm11, vo11, rfl, om11, oo11⟩
          refine grown_any p11 ?_
          simp -dsimp only [go_sem, ↓reduceIte, Nat.reduceEqDiff, Nat.reduceAdd, Nat.reduceMul, Nat.reduceSub, Nat.reduceLeDiff, Nat.reduceLT, t6, t7, t8, t10, t12, t13, t15]
          have om11' := om10.pre p11
          have oo11' := oo10.pre p11
          refine SoundP_of (sameLaw om11 oo11 om11' oo11' hG8) ?_
          rintro _ H12 ⟨rfl, p12⟩
          refine grown_any p12 ?_
          simp -dsimp only [go_sem, ↓reduceIte, Nat.reduceEqDiff, Nat.reduceAdd, Nat.reduceMul, Nat.reduceSub, Nat.reduceLeDiff, Nat.reduceLT, t6, t7, t8, t10, t12, t13, t15]
theorem metaFull' (more drop : Int) (H : AHeap) (h1 : (Lit.int .i64 more).wf = true) (h2 : (Lit.int .i64 drop).wf = true) : Sound Tryz.prog 4 [.int .i64 more, .int .i64 drop] H fun v _ => v = .bool true :=
  metaFull more drop (by simp [Lit.wf, IntKind.min, IntKind.max, IntKind.bits, IntKind.signed] at h1; unfold InI; omega) (by simp [Lit.wf, IntKind.min, IntKind.max, IntKind.bits, IntKind.signed] at h2; unfold InI; omega) H
end Go.Proofs.YtekpdopbiklkfaaGreatDoor
end
section
set_option linter.unusedVariables false
set_option linter.unusedSimpArgs false
namespace Go.Proofs.YtekpdopbiklkfaaGreatDoor
open Go Go.AW Go.ChangeShapes Go.WideShapes Go.ChangeAt Go.RowKit
open Go.ChangeMaps (open_string shut_string)
set_option linter.unusedVariables false
theorem own_metaFull : ownKnob Tryz.prog.godebug = none := by kernel_rfl
theorem doorMet_metaFull (os : Os) (args : Array Value) : laidMetH Tryz.prog Rows.metaFullRow.laid ((World.doorLaid Tryz.prog 69 os).forCall (fun _ _ => 0) ⟨#[], args, []⟩).memory :=
  laidMetH_of_parts3 (fuel := 8) (laidMet_of_run' 8 (by kernel_rfl) (by kernel_rfl)) (by kernel_rfl) (by kernel_rfl)
set_option maxRecDepth 100000 in
theorem lifted_metaFull (os : Os) (started : os.Started) (H : Type) (enc : TypeId × Value → H) :
    ReturnsInHanded {} Tryz.checked os 4 .any (fun w args => (Rows.metaFullSpec.pre enc Tryz.prog Tryz.f4 Rows.metaFullRow.domain false w args ∧ laidMetH Tryz.prog Rows.metaFullRow.laid w) ∧ sizedMet enc Tryz.prog Tryz.f4 (OpenSpec.ofChange Rows.metaFullSpec) false w args) (Rows.metaFullSpec.post enc Tryz.prog Tryz.f4 false true false false) := by
  refine returnsInHanded_of_change_and (C := Tryz.checked) (X := fun w _ => laidMetH Tryz.prog Rows.metaFullRow.laid w) (fun _ _ _ hh h => h.of_heap hh) own_metaFull started (by kernel_rfl) Tryz.func4
    (ChangeSpec.witness_shaped (enc := enc) (C := Tryz.checked) (os := os) (X := fun w _ => laidMetH Tryz.prog Rows.metaFullRow.laid w) false (World.doorLaid Tryz.prog 69 os) #[.int .i64 0, .int .i64 0] 8 rfl (World.shaped_of_RefB (by kernel_rfl) (by kernel_rfl)) (by kernel_rfl) (by kernel_rfl) (by kernel_rfl) (doorMet_metaFull os _)) ?_
  intro W base args ds gs before hval0 hW hcnd hsz0 _ _
  have hval : ∀ (j : Nat) t v, Tryz.f4.params[j]? = some t → args[j]? = some v → Value.okWide Tryz.prog W .any base t v := hval0
  have hW' := hW
  obtain ⟨p, q, hA0, hV, rfl, hfz, hnd⟩ := hW
  have hA : DataW.TrodAll enc Tryz.prog W 0 (fun _ => true) true Tryz.f4.params.toList args.toList ds p := hA0
  rw [Tryz.params4] at hA hval
  obtain ⟨v0, vs0, d0, ds0, p0, q0, hargs, rfl, rfl, h0, r0⟩ := trodAll_cons hA
  obtain ⟨v1, vs1, d1, ds1, p1, q1, rfl, rfl, rfl, h1, r1⟩ := trodAll_cons r0
  obtain ⟨rfl, rfl, rfl⟩ := trodAll_nil r1
  obtain rfl : args = #[v0, v1] := by cases args; simp_all
  obtain ⟨rfl, rfl⟩ := trodVars_none hV
  obtain ⟨a0, rfl, rfl, rfl, w0⟩ := open_int Tryz.underlying3 (hval 0 3 v0 rfl rfl) h0
  obtain ⟨a1, rfl, rfl, rfl, w1⟩ := open_int Tryz.underlying3 (hval 1 3 v1 rfl rfl) h1
  have good : ∀ o ∈ ([] : List AW.Given), AW.Good W o := by
    intro o ho
    cases ho
  have main := calls_true [] good (metaFull' a0 a1 _ w0 w1) (VRs.cons (.int _ _) (VRs.cons (.int _ _) VRs.nil))
  refine main.mono fun e W' ⟨he, bel⟩ => ?_
  subst he
  exact ⟨_, rfl, _, _, _, [], _, [], hW', trodAll_mk1 (shut_bool Tryz.underlying4 _), (trodAll_cons_mk (shut_int Tryz.underlying3 w0) (trodAll_cons_mk (shut_int Tryz.underlying3 w1) trodAll_mk0)), rfl, bel.frame _, fun h => by cases h⟩
set_option maxRecDepth 100000 in
set_option maxHeartbeats 8000000 in
theorem joined_metaFull : joinedFacts Tryz.pinned.checked.prog 4 Tryz.f4 Rows.metaFullSpec Rows.metaFullRow = true := by
  unfold joinedFacts
  repeat' (first | with_reducible refine and_true2 ?_ ?_ | (as_aux_lemma => kernel_rfl))
theorem named_metaFull : Tryz.pinned.checked.prog.funcNamed Rows.metaFullRow.func = some 4 := by kernel_rfl
theorem inst_metaFull : Tryz.f4.isInstance Tryz.pinned.checked.prog Rows.metaFullRow.origin Rows.metaFullRow.targs := of_decide_eq_true (by kernel_rfl)
theorem wrap_metaFull : Tryz.f4.isWrapper Tryz.pinned.checked.prog Rows.metaFullRow.wrapper Rows.metaFullRow.mainSum := by unfold Func.isWrapper; first | (rw [if_pos (by decide +kernel)]; kernel_rfl) | (rw [if_neg (by decide +kernel)]; exact ⟨rfl, rfl⟩)
theorem metaFull_holds : Rows.MetaFullSaid :=
  OpenClaim.holds_of_wide 4 Tryz.f4 rfl rfl rfl rfl rfl rfl rfl ⟨rfl, rfl, rfl, rfl, rfl⟩ rfl rfl rfl rfl rfl named_metaFull Tryz.func4 joined_metaFull inst_metaFull wrap_metaFull
    (fun os started H enc _ => lifted_metaFull os started H enc)
end Go.Proofs.YtekpdopbiklkfaaGreatDoor
end
section
set_option linter.unusedVariables false
set_option linter.unusedSimpArgs false
namespace Go.Proofs.YtekpdopbiklkfaaGreatDoor
open Go Go.AW Go.ChangeShapes Go.WideShapes Go.ChangeAt Go.RowKit
theorem metaFull_card : Rows.MetaFullCardSaid :=
  Claim7.holds_tied_plain_at .later [] [.data, .data, .data, .handle, .sentinel, .sentinel] true (true, "87828cf2165bc95ef888c390fa4de929fd2237ba6ad2cd72d5fadffccc7332dc") true
    metaFull_holds (fun _ h => by cases h) (by as_aux_lemma => kernel_rfl) (fun _ h => by cases h) metaFull_row_tie rfl ⟨rfl, rfl⟩ (by as_aux_lemma => kernel_rfl) rfl
    (fun f fn hf hfn => by
      obtain rfl : f = 4 := Option.some.inj ((show Tryz.prog.funcNamed "gristmill/gristmilllaw14.MetaFull" = some 4 by kernel_rfl).symm.trans hf) |>.symm
      obtain rfl : fn = Tryz.f4 := (Option.some.inj (Tryz.func4.symm.trans hfn)).symm
      exact ⟨by as_aux_lemma => kernel_rfl, fun j t ht => by
        rw [Tryz.params4] at ht
        have hm : t ∈ [3, 3] := by simpa using Array.mem_of_getElem? ht
        have hall : ([3, 3].all fun u => !Tryz.prog.wantsStandIn u) = true := by kernel_rfl
        exact (show Tryz.prog.wantsStandIn t = false by simpa using List.all_eq_true.1 hall t hm)⟩)
    (by as_aux_lemma => kernel_rfl)
end Go.Proofs.YtekpdopbiklkfaaGreatDoor
end
