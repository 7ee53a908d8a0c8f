/-
  Parts of the proof, joined: Dk3, Dk4, AwRange, AwSplit, Keys, Shelf.
-/
import Derived.RangeFuncRecord
import Derived.OrdersIn
import Derived.LoopNIn
import Derived.Below
import Derived.Shelf.SlGeneric
import Derived.Ground.SlgmProg
import Derived.Shelf.SortM.Plain
import Derived.Ground.SlsfProg
import Derived.Shelf.SlSortCmp.WholeK
import Derived.Test.YtekpdopbiklkfaaGreatDoorProg
import Derived.Test.YtekpdopbiklkfaaGreatDoorPf13
section
set_option linter.unusedVariables false
set_option linter.unusedSimpArgs false
namespace Go.Proofs.YtekpdopbiklkfaaGreatDoor
open Go Go.AW
set_option linter.unusedSimpArgs false
set_option maxRecDepth 20000
variable {b : Nat} {H H' : AHeap} {d m : Nat} {off : Bool} {ops at_ part : Int} {M : List FileS}
theorem nameB_size {s : ByteArray} (h : nameB s = true) : 0 < s.size ∧ s.size ≤ 64 := by
  simp only [nameB, Bool.and_eq_true, decide_eq_true_eq] at h
  exact h.2
theorem why_ok {there : Bool} {s : ByteArray} {l : List ByteArray} (h : ∀ x ∈ s :: l, nameB x = true) (ht : there = true → ∃ id, mget (idsOf M) s = some id) : whyD M there (s :: l) = 0 := by
  have h1 : (s :: l).any (fun s => !nameB s) = false := by
    rw [List.any_eq_false]
    intro x hx
    rw [h x hx]; simp
  rw [whyD, h1]
  cases there with
  | false => rfl
  | true =>
    obtain ⟨id, hid⟩ := ht rfl
    simp [hid]
theorem DiskAt.put_chg {F : Nat → Prop} (o : AObj) (hd : F d := by exact .inl rfl) : Chg F F H (H.set d o) :=
  ⟨by rw [List.length_set]; exact Nat.le_refl _, fun j _ hn => List.getElem?_set_ne fun q => by subst q; exact hn hd, fun _ h => .inl h⟩
theorem emptyF (H : AHeap) : Sound Tryz.prog 47 [] H fun _ H' => H' = H := by
  refine Sound.of_body (rs := []) mixed Tryz.func47 rfl (by kernel_rfl) rfl (by kernel_rfl) ?_
  simp -dsimp only [go_sem, ↓reduceIte, Nat.reduceEqDiff, Nat.reduceAdd, Nat.reduceMul, Nat.reduceSub, Nat.reduceLeDiff, Nat.reduceLT]
theorem appendOld {A B : List FileS} {x : FileS} (h : DiskAt b H d m false ops at_ part (A ++ x :: B)) (hat : ops ≠ at_) (ho : -1 ≤ ops ∧ ops < 4611686018427387904) (hnm : nameB x.name = true)
    (l2 : List UInt8) (a : Option Addr) (c : Nat) (hs : SlA H encB 1 a l2) (hl1 : x.l.length < 4000000) (hl2 : l2.length < 4000000) (hb : b ≤ H.length) :
    Sound Tryz.prog 20 [ptrV d, .string x.name, .slice a l2.length c] H fun v H' => v = .int .i64 0 ∧ ∃ v', DiskAt b H' d m false (ops + 1) at_ part (A ++ ⟨x.name, x.id, v', x.l ++ l2, x.synced⟩ :: B) ∧
      Chg (footD d m (A ++ x :: B)) (footD d m (A ++ ⟨x.name, x.id, v', x.l ++ l2, x.synced⟩ :: B)) H H' := by
  refine Sound.of_body (rs := [.tmp 6]) mixed Tryz.func20 rfl (by kernel_rfl) rfl (by kernel_rfl) ?_
  have hsz := nameB_size hnm
  have p0 := List.prefix_append H [AObj.row [.string x.name] 1 true]
  have c0 := get_end H (AObj.row [.string x.name] 1 true) []
  have hxm : x ∈ A ++ x :: B := by simp
  simp -dsimp only [go_sem, ↓reduceIte, Nat.reduceEqDiff, Nat.reduceAdd, Nat.reduceMul, Nat.reduceSub, Nat.reduceLeDiff, Nat.reduceLT]
  refine SoundP_of (refusedD (h.pre p0) false [x.name] (by simp) (by simp) (by simp; omega) _ _ (SlA.ofRow c0 rfl fun _ => rfl)) ?_
  rintro _ H1 ⟨rfl, p1⟩
  rw [why_ok (by simpa using hnm) (by simp)]
  have p2 := p0.trans p1
  have h1 := h.pre p2
  have g1 := h1.at_
  have g2 := h1.look x.name
  have g3 := h1.files x hxm
  rw [mget_at h1.nodup hxm, Option.map_some, Option.getD_some] at g2
  have g4 := g3.at_
  obtain ⟨a1, c1, hv, -⟩ := g3.own.sl (fun _ => rfl)
  obtain ⟨v2, H2, e, ap⟩ := appL (c := c) g3.own (Nat.le_trans hb (pre_len p2)) (hs.pre p2) hl1 hl2
  obtain ⟨a2, c2, rfl, -⟩ := ap.own.sl (fun _ => rfl)
  generalize (x.l ++ l2).length = n at *
  have hidne := own_ne g3.own g4 (by decide)
  have g5 : H2[x.id]? = some (.row [x.v, .int .i64 x.synced] 2 true) := (ap.fr x.id (get_lt g4) fun q => hidne _ q rfl).trans g4
  have g6 := List.getElem?_set_self (a := AObj.row [.slice a2 n c2, .int .i64 x.synced] 2 true) (get_lt g5)
  have ne2 := own_ne ap.own g5 (by decide)
  have fr : ∀ j, j < H1.length → j ≠ x.id → owner x.v ≠ some j → (H2.set x.id (.row [.slice a2 n c2, .int .i64 x.synced] 2 true))[j]? = H1[j]? := fun j hj hn hn2 => by
    rw [List.getElem?_set_ne (Ne.symm hn)]; exact ap.fr j hj hn2
  have h3 := h1.file (H' := H2.set x.id (.row [.slice a2 n c2, .int .i64 x.synced] 2 true)) ⟨x.name, x.id, .slice a2 n c2, x.l ++ l2, x.synced⟩ rfl rfl
    ⟨g3.ge, g6, ap.own.keep fun id hid => List.getElem?_set_ne (Ne.symm (ne2 id hid))⟩ fr ap.ow
  have q3 := DiskAt.file_chg (A := A) (B := B) (x := x) (x' := ⟨x.name, x.id, .slice a2 n c2, x.l ++ l2, x.synced⟩) (d := d) (m := m) rfl (by rw [List.length_set]; exact ap.len) fr ap.ow
  simp -dsimp only [go_sem, ↓reduceIte, Nat.reduceEqDiff, Nat.reduceAdd, Nat.reduceMul, Nat.reduceSub, Nat.reduceLeDiff, Nat.reduceLT, Int.reduceBNe, g1, g2, g4, g5, e]
  generalize H2.set x.id (.row [.slice a2 n c2, .int .i64 x.synced] 2 true) = H3 at *
  refine SoundP_of (doneD h3 hat ho _ #[] (emptyF _)) ?_
  rintro _ _ ⟨rfl, rfl⟩
  simp -dsimp only [go_sem, ↓reduceIte, Nat.reduceEqDiff, Nat.reduceAdd, Nat.reduceMul, Nat.reduceSub, Nat.reduceLeDiff, Nat.reduceLT]
  exact ⟨_, h3.put false (ops + 1) at_ part, ((Chg.pre p2).trans q3).trans (DiskAt.put_chg _)⟩
theorem sla_rows {α : Type} {H H' : AHeap} {enc : α → List Value} {k : Nat} {a : Option Addr} {l : List α} (h : SlA H enc k a l) (hp : ∀ (j : Nat) (cs : List Value) (k2 : Nat) (o : Bool), H[j]? = some (AObj.row cs k2 o) → H'[j]? = H[j]?) : SlA H' enc k a l := fun i x hx => by
  obtain ⟨id, off, rfl, hl⟩ := h i x hx
  refine ⟨id, off, rfl, ?_⟩
  rw [aload_iff] at hl ⊢
  obtain ⟨h1, row, k2, own, h2, h3⟩ := hl
  exact ⟨h1, row, k2, own, (hp _ _ _ _ h2).trans h2, h3⟩
theorem appendNew (h : DiskAt b H d m false ops at_ part M) (hat : ops ≠ at_) (ho : -1 ≤ ops ∧ ops < 4611686018427387904) (name : ByteArray) (hnm : nameB name = true) (hno : ∀ x ∈ M, x.name ≠ name) (hM : M.length < 1000)
    (l2 : List UInt8) (a : Option Addr) (c : Nat) (hs : SlA H encB 1 a l2) (hl2 : l2.length < 4000000) (hb : b ≤ H.length) :
    Sound Tryz.prog 20 [ptrV d, .string name, .slice a l2.length c] H fun v H' => v = .int .i64 0 ∧ ∃ id v', DiskAt b H' d m false (ops + 1) at_ part (M ++ [⟨name, id, v', l2, 0⟩]) ∧
      Chg (footD d m M) (footD d m (M ++ [⟨name, id, v', l2, 0⟩])) H H' := by
  refine Sound.of_body (rs := [.tmp 6]) mixed Tryz.func20 rfl (by kernel_rfl) rfl (by kernel_rfl) ?_
  have hsz := nameB_size hnm
  have p0 := List.prefix_append H [AObj.row [.string name] 1 true]
  have c0 := get_end H (AObj.row [.string name] 1 true) []
  simp -dsimp only [go_sem, ↓reduceIte, Nat.reduceEqDiff, Nat.reduceAdd, Nat.reduceMul, Nat.reduceSub, Nat.reduceLeDiff, Nat.reduceLT]
  refine SoundP_of (refusedD (h.pre p0) false [name] (by simp) (by simp) (by simp; omega) _ _ (SlA.ofRow c0 rfl fun _ => rfl)) ?_
  rintro _ H1 ⟨rfl, p1⟩
  rw [why_ok (by simpa using hnm) (by simp)]
  have p2 := p0.trans p1
  have h1 := h.pre p2
  have g1 := h1.at_
  have g2 := h1.look name
  rw [mget_ids_none.2 hno, Option.map_none, Option.getD_none] at g2
  have gl : alen Tryz.prog H1 82 (.map (some m)) = some (.int .i64 M.length) := by
    have := h1.dict.len un82
    rwa [idsOf, List.length_map] at this
  have z1 : decide ((1000 : Int) ≤ (M.length : Int)) = false := decide_eq_false (by omega)
  -- the new file
  have px := List.prefix_append H1 [AObj.row [.slice none 0 0, .int .i64 0] 2 true]
  have cx := get_end H1 (AObj.row [.slice none 0 0, .int .i64 0] 2 true) []
  have bH1 : b ≤ H1.length := Nat.le_trans hb (pre_len p2)
  have hpx := h1.pre px
  obtain ⟨o, e1, h3⟩ := hpx.more ⟨name, H1.length, .slice none 0 0, [], 0⟩ ⟨bH1, cx, Own.nil _ _ _ _⟩ hno fun y hy => ⟨fun q => by have := get_lt (h1.files y hy).at_; simp only at q; omega, fun j hj => by simp [owner] at hj⟩
  have gd : (H1 ++ [AObj.row [.slice none 0 0, .int .i64 0] 2 true])[d]? = some (.row (diskC m false ops at_ part) 5 true) := hpx.at_
  have k3 : Chg (footD d m M) (footD d m (M ++ [⟨name, H1.length, .slice none 0 0, [], 0⟩])) H ((H1 ++ [AObj.row [.slice none 0 0, .int .i64 0] 2 true]).set m o) := by
    refine (Chg.pre p2).trans ⟨by rw [List.length_set]; exact pre_len px, fun j hj hn => ?_, fun j hj => ?_⟩
    · rw [List.getElem?_set_ne fun q => hn (.inr (.inl q.symm)), List.getElem?_append_left hj]
    rcases hj with rfl | rfl | ⟨y, hy, hj⟩
    · exact .inl (.inl rfl)
    · exact .inl (.inr (.inl rfl))
    · rw [List.mem_append, List.mem_singleton] at hy
      rcases hy with hy | rfl
      · exact .inl (.inr (.inr ⟨y, hy, hj⟩))
      · rcases hj with rfl | hj
        · exact .inr (Nat.le_refl _)
        · simp [owner] at hj
  have bH3 : b ≤ ((H1 ++ [AObj.row [.slice none 0 0, .int .i64 0] 2 true]).set m o).length := Nat.le_trans hb k3.len
  have s3 : SlA ((H1 ++ [AObj.row [.slice none 0 0, .int .i64 0] 2 true]).set m o) encB 1 a l2 := by
    refine sla_rows hs fun j cs k2 o hj => ?_
    rw [List.getElem?_set_ne (Ne.symm (dict_ne_row h.dict hj))]
    exact (get_app (pre_get p2 hj) _).trans hj.symm
  simp -dsimp only [go_sem, ↓reduceIte, Nat.reduceEqDiff, Nat.reduceAdd, Nat.reduceMul, Nat.reduceSub, Nat.reduceLeDiff, Nat.reduceLT, Int.reduceBNe, g1, g2, gl, z1, gd, e1]
  generalize (H1 ++ [AObj.row [.slice none 0 0, .int .i64 0] 2 true]).set m o = H3 at *
  have g3 := h3.files ⟨name, H1.length, .slice none 0 0, [], 0⟩ (by simp)
  have g4 : H3[H1.length]? = some (.row [.slice none 0 0, .int .i64 0] 2 true) := g3.at_
  obtain ⟨v2, H2, e, ap⟩ := appL (c := c) g3.own bH3 s3 (by simp) hl2
  obtain ⟨a2, c2, rfl, -⟩ := ap.own.sl (fun _ => rfl)
  rw [List.nil_append] at ap e
  generalize hn : l2.length = n at *
  have g5 : H2[H1.length]? = some (.row [.slice none 0 0, .int .i64 0] 2 true) := (ap.fr _ (get_lt g4) (by simp [owner])).trans g4
  have g6 := List.getElem?_set_self (a := AObj.row [.slice a2 n c2, .int .i64 0] 2 true) (get_lt g5)
  have ne2 := own_ne ap.own g5 (by decide)
  have fr : ∀ j, j < H3.length → j ≠ H1.length → owner (.slice none 0 0) ≠ some j → (H2.set H1.length (.row [.slice a2 n c2, .int .i64 0] 2 true))[j]? = H3[j]? := fun j hj hn hn2 => by
    rw [List.getElem?_set_ne (Ne.symm hn)]; exact ap.fr j hj hn2
  have h4 := DiskAt.file (A := M) (B := []) (H' := H2.set H1.length (.row [.slice a2 n c2, .int .i64 0] 2 true)) h3 ⟨name, H1.length, .slice a2 n c2, l2, 0⟩ rfl rfl
    ⟨g3.ge, g6, ap.own.keep fun id hid => List.getElem?_set_ne (Ne.symm (ne2 id hid))⟩ fr ap.ow
  have q4 := DiskAt.file_chg (A := M) (B := []) (x := ⟨name, H1.length, .slice none 0 0, [], 0⟩) (x' := ⟨name, H1.length, .slice a2 n c2, l2, 0⟩) (d := d) (m := m) rfl (by rw [List.length_set]; exact ap.len) fr ap.ow
  simp -dsimp only [go_sem, ↓reduceIte, Nat.reduceEqDiff, Nat.reduceAdd, Nat.reduceMul, Nat.reduceSub, Nat.reduceLeDiff, Nat.reduceLT, g4, g5, e]
  generalize H2.set H1.length (.row [.slice a2 n c2, .int .i64 0] 2 true) = H4 at *
  refine SoundP_of (doneD h4 hat ho _ #[] (emptyF _)) ?_
  rintro _ _ ⟨rfl, rfl⟩
  simp -dsimp only [go_sem, ↓reduceIte, Nat.reduceEqDiff, Nat.reduceAdd, Nat.reduceMul, Nat.reduceSub, Nat.reduceLeDiff, Nat.reduceLT]
  exact ⟨_, _, h4.put false (ops + 1) at_ part, (k3.trans q4).trans (DiskAt.put_chg _)⟩
theorem syncF {x : FileS} {bx : Nat} {n : Int} (hbx : H[bx]? = some (.row [ptrV x.id] 1 true)) (hx : FileAt b H x) (hn : n = x.l.length) :
    Sound Tryz.prog 48 [ptrV bx] H fun _ H' => H' = H.set x.id (.row [x.v, .int .i64 n] 2 true) := by
  refine Sound.of_body (rs := []) mixed Tryz.func48 rfl (by kernel_rfl) rfl (by kernel_rfl) ?_
  subst hn
  have h1 := hx.at_
  obtain ⟨a1, c1, hv, -⟩ := hx.own.sl (fun _ => rfl)
  rw [hv] at h1 ⊢
  simp -dsimp only [go_sem, ↓reduceIte, Nat.reduceEqDiff, Nat.reduceAdd, Nat.reduceMul, Nat.reduceSub, Nat.reduceLeDiff, Nat.reduceLT]
  refine adrawnP_of2 [(0, false), (1, false), (2, false), (3, false), (4, false), (5, false), (6, false), (7, false), (8, false)] (by kernel_rfl) ?_
  simp -dsimp only [go_sem, ↓reduceIte, Nat.reduceEqDiff, Nat.reduceAdd, Nat.reduceMul, Nat.reduceSub, Nat.reduceLeDiff, Nat.reduceLT, hbx, h1]
theorem syncLaw {A B : List FileS} {x : FileS} (h : DiskAt b H d m false ops at_ part (A ++ x :: B)) (hat : ops ≠ at_) (ho : -1 ≤ ops ∧ ops < 4611686018427387904) (hnm : nameB x.name = true) (hb : b ≤ H.length) :
    Sound Tryz.prog 21 [ptrV d, .string x.name] H fun v H' => v = .int .i64 0 ∧ DiskAt b H' d m false (ops + 1) at_ part (A ++ ⟨x.name, x.id, x.v, x.l, x.l.length⟩ :: B) ∧
      Chg (footD d m (A ++ x :: B)) (footD d m (A ++ ⟨x.name, x.id, x.v, x.l, x.l.length⟩ :: B)) H H' := by
  refine Sound.of_body (rs := [.tmp 4]) mixed Tryz.func21 rfl (by kernel_rfl) rfl (by kernel_rfl) ?_
  have hsz := nameB_size hnm
  have p0 := List.prefix_append H [AObj.row [.string x.name] 1 true]
  have c0 := get_end H (AObj.row [.string x.name] 1 true) []
  have hxm : x ∈ A ++ x :: B := by simp
  simp -dsimp only [go_sem, ↓reduceIte, Nat.reduceEqDiff, Nat.reduceAdd, Nat.reduceMul, Nat.reduceSub, Nat.reduceLeDiff, Nat.reduceLT]
  refine SoundP_of (refusedD (h.pre p0) true [x.name] (by simp) (by simp) (by simp; omega) _ _ (SlA.ofRow c0 rfl fun _ => rfl)) ?_
  rintro _ H1 ⟨rfl, p1⟩
  rw [why_ok (by simpa using hnm) fun _ => ⟨_, mget_at h.nodup hxm⟩]
  have p2 := p0.trans p1
  have h1 := h.pre p2
  have g1 := h1.at_
  have g2 := h1.look x.name
  rw [mget_at h1.nodup hxm, Option.map_some, Option.getD_some] at g2
  have px := List.prefix_append H1 [AObj.row [ptrV x.id] 1 true]
  have cx := get_end H1 (AObj.row [ptrV x.id] 1 true) []
  have h2 := h1.pre px
  simp -dsimp only [go_sem, ↓reduceIte, Nat.reduceEqDiff, Nat.reduceAdd, Nat.reduceMul, Nat.reduceSub, Nat.reduceLeDiff, Nat.reduceLT, Int.reduceBNe, g1, g2]
  have h3 := h2.put false (ops + 1) at_ part
  have k3 := DiskAt.put_chg (F := footD d m (A ++ x :: B)) (H := H1 ++ [AObj.row [ptrV x.id] 1 true]) (.row (diskC m false (ops + 1) at_ part) 5 true)
  have cx3 : ((H1 ++ [AObj.row [ptrV x.id] 1 true]).set d (.row (diskC m false (ops + 1) at_ part) 5 true))[H1.length]? = some (.row [ptrV x.id] 1 true) := by
    rw [List.getElem?_set_ne (by have := h1.lt; omega)]; exact cx
  refine SoundP_of (doneD h2 hat ho _ #[ptrV H1.length] (syncF (n := x.l.length) cx3 (h3.files x hxm) rfl)) ?_
  rintro _ _ ⟨rfl, rfl⟩
  generalize (H1 ++ [AObj.row [ptrV x.id] 1 true]).set d (.row (diskC m false (ops + 1) at_ part) 5 true) = H3 at *
  have g3 := h3.files x hxm
  have g4 := g3.at_
  have g5 := List.getElem?_set_self (a := AObj.row [x.v, .int .i64 x.l.length] 2 true) (get_lt g4)
  have fr : ∀ j, j < H3.length → j ≠ x.id → owner x.v ≠ some j → (H3.set x.id (.row [x.v, .int .i64 x.l.length] 2 true))[j]? = H3[j]? := fun j hj hn hn2 => List.getElem?_set_ne (Ne.symm hn)
  simp -dsimp only [go_sem, ↓reduceIte, Nat.reduceEqDiff, Nat.reduceAdd, Nat.reduceMul, Nat.reduceSub, Nat.reduceLeDiff, Nat.reduceLT]
  exact ⟨h3.file ⟨x.name, x.id, x.v, x.l, x.l.length⟩ rfl rfl ⟨g3.ge, g5, g3.own.keep fun id hid => List.getElem?_set_ne (Ne.symm (own_ne g3.own g4 (by decide) id hid))⟩ fr fun j hj => .inl hj,
    ((Chg.pre (p2.trans px)).trans k3).trans (DiskAt.file_chg (x := x) (x' := ⟨x.name, x.id, x.v, x.l, x.l.length⟩) rfl (by rw [List.length_set]; exact Nat.le_refl _) fr fun j hj => .inl hj)⟩
end Go.Proofs.YtekpdopbiklkfaaGreatDoor
end
section
set_option linter.unusedVariables false
set_option linter.unusedSimpArgs false
namespace Go.Proofs.YtekpdopbiklkfaaGreatDoor
open Go Go.AW
set_option linter.unusedSimpArgs false
set_option maxRecDepth 20000
variable {b : Nat} {H H' : AHeap} {d m : Nat} {off : Bool} {ops at_ part : Int} {M : List FileS}
theorem diskNew (H : AHeap) : Sound Tryz.prog 11 [] H fun v H' => v = ptrV (H.length + 1) ∧ H <+: H' ∧ DiskAt H.length H' (H.length + 1) H.length false 0 (-1) 0 [] := by
  refine Sound.of_body (rs := [.tmp 0]) mixed Tryz.func11 rfl (by kernel_rfl) rfl (by kernel_rfl) ?_
  simp -dsimp only [go_sem, ↓reduceIte, Nat.reduceEqDiff, Nat.reduceAdd, Nat.reduceMul, Nat.reduceSub, Nat.reduceLeDiff, Nat.reduceLT]
  exact ⟨List.prefix_append _ _, by omega, Nat.le_refl _, get_end1 _ _ _ _, DictAt.new _ _ _ _, by simp, .nil⟩
theorem offLaw (h : DiskAt b H d m off ops at_ part M) : Sound Tryz.prog 33 [ptrV d] H fun v H' => v = .bool off ∧ H' = H := by
  refine Sound.of_body (rs := [.tmp 2]) mixed Tryz.func33 rfl (by kernel_rfl) rfl (by kernel_rfl) ?_
  have h1 := h.at_
  simp -dsimp only [go_sem, ↓reduceIte, Nat.reduceEqDiff, Nat.reduceAdd, Nat.reduceMul, Nat.reduceSub, Nat.reduceLeDiff, Nat.reduceLT, h1]
theorem chg_less {A B : List FileS} {x : FileS} (o : AObj) : Chg (footD d m (A ++ x :: B)) (footD d m (A ++ B)) H (H.set m o) := by
  refine ⟨by rw [List.length_set]; exact Nat.le_refl _, fun j _ hn => List.getElem?_set_ne fun q => hn (.inr (.inl q.symm)), fun j hj => .inl ?_⟩
  rcases hj with rfl | rfl | ⟨y, hy, hj⟩
  · exact .inl rfl
  · exact .inr (.inl rfl)
  · refine .inr (.inr ⟨y, ?_, hj⟩)
    rw [List.mem_append] at hy
    rw [List.mem_append, List.mem_cons]
    rcases hy with q | q <;> simp [q]
theorem removeF {A B : List FileS} {x : FileS} {p q : Nat} (h : DiskAt b H d m off ops at_ part (A ++ x :: B)) (hp : H[p]? = some (.row [ptrV d] 1 true)) (hq : H[q]? = some (.row [.string x.name] 1 true)) :
    Sound Tryz.prog 124 [ptrV p, ptrV q] H fun _ H' => DiskAt b H' d m off ops at_ part (A ++ B) ∧ Chg (footD d m (A ++ x :: B)) (footD d m (A ++ B)) H H' := by
  refine Sound.of_body (rs := []) mixed Tryz.func124 rfl (by kernel_rfl) rfl (by kernel_rfl) ?_
  obtain ⟨o, e, h2⟩ := h.less
  have h1 := h.at_
  simp -dsimp only [go_sem, ↓reduceIte, Nat.reduceEqDiff, Nat.reduceAdd, Nat.reduceMul, Nat.reduceSub, Nat.reduceLeDiff, Nat.reduceLT]
  refine adrawnP_of2 [(0, false), (1, false), (2, false), (3, false), (4, false), (5, false)] (by kernel_rfl) ?_
  simp -dsimp only [go_sem, ↓reduceIte, Nat.reduceEqDiff, Nat.reduceAdd, Nat.reduceMul, Nat.reduceSub, Nat.reduceLeDiff, Nat.reduceLT, hp, hq, h1, e]
  exact ⟨h2, chg_less o⟩
theorem removeLaw {A B : List FileS} {x : FileS} (h : DiskAt b H d m false ops at_ part (A ++ x :: B)) (hat : ops ≠ at_) (ho : -1 ≤ ops ∧ ops < 4611686018427387904) (hnm : nameB x.name = true) (hb : b ≤ H.length) :
    Sound Tryz.prog 84 [ptrV d, .string x.name] H fun v H' => v = .int .i64 0 ∧ DiskAt b H' d m false (ops + 1) at_ part (A ++ B) ∧ Chg (footD d m (A ++ x :: B)) (footD d m (A ++ B)) H H' := by
  refine Sound.of_body (rs := [.tmp 4]) mixed Tryz.func84 rfl (by kernel_rfl) rfl (by kernel_rfl) ?_
  have hsz := nameB_size hnm
  have hxm : x ∈ A ++ x :: B := by simp
  have p0 := List.prefix_append H [AObj.row [ptrV d] 1 true, AObj.row [.string x.name] 1 true, AObj.row [.string x.name] 1 true]
  have b0 := get_end H (AObj.row [ptrV d] 1 true) [AObj.row [.string x.name] 1 true, AObj.row [.string x.name] 1 true]
  have c0 := get_end1 H (AObj.row [ptrV d] 1 true) (AObj.row [.string x.name] 1 true) [AObj.row [.string x.name] 1 true]
  have d0 := get_end2 H (AObj.row [ptrV d] 1 true) (AObj.row [.string x.name] 1 true) (AObj.row [.string x.name] 1 true) []
  simp -dsimp only [go_sem, ↓reduceIte, Nat.reduceEqDiff, Nat.reduceAdd, Nat.reduceMul, Nat.reduceSub, Nat.reduceLeDiff, Nat.reduceLT]
  refine SoundP_of (refusedD (h.pre p0) true [x.name] (by simp) (by simp) (by simp; omega) _ _ (SlA.ofRow d0 rfl fun _ => rfl)) ?_
  rintro _ H1 ⟨rfl, p1⟩
  rw [why_ok (by simpa using hnm) fun _ => ⟨_, mget_at h.nodup hxm⟩]
  have p2 := p0.trans p1
  have h1 := h.pre p2
  have b1 := pre_get p1 b0
  have c1 := pre_get p1 c0
  simp -dsimp only [go_sem, ↓reduceIte, Nat.reduceEqDiff, Nat.reduceAdd, Nat.reduceMul, Nat.reduceSub, Nat.reduceLeDiff, Nat.reduceLT, Int.reduceBNe, b1, c1]
  have h3 := h1.put false (ops + 1) at_ part
  have k3 := DiskAt.put_chg (F := footD d m (A ++ x :: B)) (H := H1) (.row (diskC m false (ops + 1) at_ part) 5 true)
  have hlt := h.lt
  have b3 : (H1.set d (.row (diskC m false (ops + 1) at_ part) 5 true))[H.length]? = _ := (List.getElem?_set_ne (by omega)).trans b1
  have c3 : (H1.set d (.row (diskC m false (ops + 1) at_ part) 5 true))[H.length + 1]? = _ := (List.getElem?_set_ne (by omega)).trans c1
  refine SoundP_of (doneD h1 hat ho _ #[ptrV H.length, ptrV (H.length + 1)] (removeF h3 b3 c3)) ?_
  rintro _ H4 ⟨rfl, h4, k4⟩
  simp -dsimp only [go_sem, ↓reduceIte, Nat.reduceEqDiff, Nat.reduceAdd, Nat.reduceMul, Nat.reduceSub, Nat.reduceLeDiff, Nat.reduceLT]
  exact ⟨h4, ((Chg.pre p2).trans k3).trans k4⟩
theorem renameF {A B : List FileS} {x : FileS} {p q r : Nat} {to : ByteArray} (h : DiskAt b H d m off ops at_ part (A ++ x :: B)) (hto : ∀ y ∈ A ++ B, y.name ≠ to) (hp : H[p]? = some (.row [ptrV d] 1 true)) (hq : H[q]? = some (.row [.string x.name] 1 true)) (hr : H[r]? = some (.row [.string to] 1 true)) :
    Sound Tryz.prog 125 [ptrV p, ptrV q, ptrV r] H fun _ H' => DiskAt b H' d m off ops at_ part (A ++ (B ++ [⟨to, x.id, x.v, x.l, x.synced⟩])) ∧ Chg (footD d m (A ++ x :: B)) (footD d m (A ++ (B ++ [⟨to, x.id, x.v, x.l, x.synced⟩]))) H H' := by
  refine Sound.of_body (rs := []) mixed Tryz.func125 rfl (by kernel_rfl) rfl (by kernel_rfl) ?_
  have hxm : x ∈ A ++ x :: B := by simp
  have hx := h.files x hxm
  have nm := h.ne_m hxm
  obtain ⟨o, e, h2⟩ := h.less
  have h1 := h.at_
  have g2 := h.look x.name
  rw [mget_at h.nodup hxm, Option.map_some, Option.getD_some] at g2
  simp -dsimp only [go_sem, ↓reduceIte, Nat.reduceEqDiff, Nat.reduceAdd, Nat.reduceMul, Nat.reduceSub, Nat.reduceLeDiff, Nat.reduceLT]
  refine adrawnP_of2 [(0, false), (1, false), (2, false), (3, false), (4, false), (5, false), (6, false)] (by kernel_rfl) ?_
  simp -dsimp only [go_sem, ↓reduceIte, Nat.reduceEqDiff, Nat.reduceAdd, Nat.reduceMul, Nat.reduceSub, Nat.reduceLeDiff, Nat.reduceLT, hp, hq, h1, g2]
  refine adrawnP_of2 [(0, false), (1, false), (2, false), (3, false), (4, false), (5, false)] (by kernel_rfl) ?_
  simp -dsimp only [go_sem, ↓reduceIte, Nat.reduceEqDiff, Nat.reduceAdd, Nat.reduceMul, Nat.reduceSub, Nat.reduceLeDiff, Nat.reduceLT, hp, hq, h1, e]
  have k2 := chg_less (A := A) (x := x) (B := B) (d := d) (m := m) (H := H) o
  have kp : ∀ {j cs k o2}, H[j]? = some (AObj.row cs k o2) → (H.set m o)[j]? = some (AObj.row cs k o2) := fun {j cs k o2} hj => by
    rw [List.getElem?_set_ne (Ne.symm (dict_ne_row h.dict hj))]; exact hj
  have hx2 : FileAt b (H.set m o) x := hx.keep (List.getElem?_set_ne (Ne.symm nm.1)) fun j hj => List.getElem?_set_ne (Ne.symm (nm.2 j hj))
  have hp2 := kp hp
  have hr2 := kp hr
  have h12 := h2.at_
  generalize H.set m o = H2 at *
  have hm := apart_mid h.apart
  obtain ⟨o2, e2, h3⟩ := h2.more ⟨to, x.id, x.v, x.l, x.synced⟩ ⟨hx2.ge, hx2.at_, hx2.own⟩ hto fun y hy => hm y (List.mem_append.1 hy)
  rw [List.append_assoc] at h3
  refine adrawnP_of2 [(0, false), (1, false), (2, false), (3, false), (4, false), (5, false), (6, false)] (by kernel_rfl) ?_
  simp -dsimp only [go_sem, ↓reduceIte, Nat.reduceEqDiff, Nat.reduceAdd, Nat.reduceMul, Nat.reduceSub, Nat.reduceLeDiff, Nat.reduceLT, hp2, hr2, h12, e2]
  refine ⟨h3, ⟨by rw [List.length_set]; exact k2.len, fun j hj hn => ?_, fun j hj => .inl ?_⟩⟩
  · rw [List.getElem?_set_ne fun q => hn (.inr (.inl q.symm))]
    exact k2.fr j hj hn
  · rcases hj with rfl | rfl | ⟨y, hy, hj⟩
    · exact .inl rfl
    · exact .inr (.inl rfl)
    · rw [List.mem_append, List.mem_append, List.mem_singleton] at hy
      rcases hy with hy | hy | rfl
      · exact .inr (.inr ⟨y, by simp [hy], hj⟩)
      · exact .inr (.inr ⟨y, by simp [hy], hj⟩)
      · exact .inr (.inr ⟨x, hxm, hj⟩)
theorem renameLaw {A B : List FileS} {x : FileS} (h : DiskAt b H d m false ops at_ part (A ++ x :: B)) (to : ByteArray) (hto : ∀ y ∈ A ++ B, y.name ≠ to) (hat : ops ≠ at_) (ho : -1 ≤ ops ∧ ops < 4611686018427387904) (hnm : nameB x.name = true) (hnt : nameB to = true) (hb : b ≤ H.length) :
    Sound Tryz.prog 85 [ptrV d, .string x.name, .string to] H fun v H' => v = .int .i64 0 ∧ DiskAt b H' d m false (ops + 1) at_ part (A ++ (B ++ [⟨to, x.id, x.v, x.l, x.synced⟩])) ∧ Chg (footD d m (A ++ x :: B)) (footD d m (A ++ (B ++ [⟨to, x.id, x.v, x.l, x.synced⟩]))) H H' := by
  refine Sound.of_body (rs := [.tmp 6]) mixed Tryz.func85 rfl (by kernel_rfl) rfl (by kernel_rfl) ?_
  have hsz := nameB_size hnm
  have hsz2 := nameB_size hnt
  have hxm : x ∈ A ++ x :: B := by simp
  have p0 := List.prefix_append H [AObj.row [ptrV d] 1 true, AObj.row [.string x.name] 1 true, AObj.row [.string to] 1 true, AObj.row [.string x.name, .string to] 1 true]
  have b0 := get_end H (AObj.row [ptrV d] 1 true) [AObj.row [.string x.name] 1 true, AObj.row [.string to] 1 true, AObj.row [.string x.name, .string to] 1 true]
  have c0 := get_end1 H (AObj.row [ptrV d] 1 true) (AObj.row [.string x.name] 1 true) [AObj.row [.string to] 1 true, AObj.row [.string x.name, .string to] 1 true]
  have d0 := get_end2 H (AObj.row [ptrV d] 1 true) (AObj.row [.string x.name] 1 true) (AObj.row [.string to] 1 true) [AObj.row [.string x.name, .string to] 1 true]
  have e0 := get_end3 H (AObj.row [ptrV d] 1 true) (AObj.row [.string x.name] 1 true) (AObj.row [.string to] 1 true) (AObj.row [.string x.name, .string to] 1 true) []
  simp -dsimp only [go_sem, ↓reduceIte, Nat.reduceEqDiff, Nat.reduceAdd, Nat.reduceMul, Nat.reduceSub, Nat.reduceLeDiff, Nat.reduceLT]
  refine SoundP_of (refusedD (h.pre p0) true [x.name, to] (by simp) (by simp) (by simp; omega) _ _ (SlA.ofRow e0 rfl fun _ => rfl)) ?_
  rintro _ H1 ⟨rfl, p1⟩
  rw [why_ok (by simp [hnm, hnt]) fun _ => ⟨_, mget_at h.nodup hxm⟩]
  have p2 := p0.trans p1
  have h1 := h.pre p2
  have b1 := pre_get p1 b0
  have c1 := pre_get p1 c0
  have d1 := pre_get p1 d0
  simp -dsimp only [go_sem, ↓reduceIte, Nat.reduceEqDiff, Nat.reduceAdd, Nat.reduceMul, Nat.reduceSub, Nat.reduceLeDiff, Nat.reduceLT, Int.reduceBNe, b1, c1, d1]
  have h3 := h1.put false (ops + 1) at_ part
  have k3 := DiskAt.put_chg (F := footD d m (A ++ x :: B)) (H := H1) (.row (diskC m false (ops + 1) at_ part) 5 true)
  have hlt := h.lt
  have b3 : (H1.set d (.row (diskC m false (ops + 1) at_ part) 5 true))[H.length]? = _ := (List.getElem?_set_ne (by omega)).trans b1
  have c3 : (H1.set d (.row (diskC m false (ops + 1) at_ part) 5 true))[H.length + 1]? = _ := (List.getElem?_set_ne (by omega)).trans c1
  have d3 : (H1.set d (.row (diskC m false (ops + 1) at_ part) 5 true))[H.length + 2]? = _ := (List.getElem?_set_ne (by omega)).trans d1
  refine SoundP_of (doneD h1 hat ho _ #[ptrV H.length, ptrV (H.length + 1), ptrV (H.length + 2)] (renameF h3 hto b3 c3 d3)) ?_
  rintro _ H4 ⟨rfl, h4, k4⟩
  simp -dsimp only [go_sem, ↓reduceIte, Nat.reduceEqDiff, Nat.reduceAdd, Nat.reduceMul, Nat.reduceSub, Nat.reduceLeDiff, Nat.reduceLT]
  exact ⟨h4, ((Chg.pre p2).trans k3).trans k4⟩
theorem readD {A B : List FileS} {x : FileS} (h : DiskAt b H d m false ops at_ part (A ++ x :: B)) (hnm : nameB x.name = true) (hne : x.l ≠ []) (hl : x.l.length < 3500000) :
    Sound Tryz.prog 22 [ptrV d, .string x.name] H fun v H' => H <+: H' ∧ ∃ w, v = .tuple #[w, .int .i64 0] ∧ BAt H' w x.l := by
  refine Sound.of_body (rs := [.tmp 4, .tmp 5]) mixed Tryz.func22 rfl (by kernel_rfl) rfl (by kernel_rfl) ?_
  have hsz := nameB_size hnm
  have p0 := List.prefix_append H [AObj.row [.string x.name] 1 true]
  have c0 := get_end H (AObj.row [.string x.name] 1 true) []
  have hxm : x ∈ A ++ x :: B := by simp
  simp -dsimp only [go_sem, ↓reduceIte, Nat.reduceEqDiff, Nat.reduceAdd, Nat.reduceMul, Nat.reduceSub, Nat.reduceLeDiff, Nat.reduceLT]
  refine SoundP_of (refusedD (h.pre p0) true [x.name] (by simp) (by simp) (by simp; omega) _ _ (SlA.ofRow c0 rfl fun _ => rfl)) ?_
  rintro _ H1 ⟨rfl, p1⟩
  rw [why_ok (by simpa using hnm) fun _ => ⟨_, mget_at h.nodup hxm⟩]
  have p2 := p0.trans p1
  have h1 := h.pre p2
  have g1 := h1.at_
  have g2 := h1.look x.name
  rw [mget_at h1.nodup hxm, Option.map_some, Option.getD_some] at g2
  have g3 := h1.files x hxm
  have g4 := g3.at_
  obtain ⟨a1, c1, hv, hs⟩ := g3.own.sl (fun _ => rfl)
  rw [hv] at g4
  simp -dsimp only [go_sem, ↓reduceIte, Nat.reduceEqDiff, Nat.reduceAdd, Nat.reduceMul, Nat.reduceSub, Nat.reduceLeDiff, Nat.reduceLT, Int.reduceBNe, g1, g2, g4]
  refine SoundP_of (cloneB x.l a1 c1 H1 hs hl) ?_
  rintro w H2 ⟨p3, hw⟩
  rcases hw with ⟨q, -⟩ | ⟨-, id, hid, rfl, hrow⟩
  · exact absurd q hne
  simp -dsimp only [go_sem, ↓reduceIte, Nat.reduceEqDiff, Nat.reduceAdd, Nat.reduceMul, Nat.reduceSub, Nat.reduceLeDiff, Nat.reduceLT]
  exact ⟨p2.trans p3, _, rfl, .inr ⟨id, 0, 0, [], [], rfl, by simpa using hrow, rfl, .inl rfl⟩⟩
end Go.Proofs.YtekpdopbiklkfaaGreatDoor
end
section
set_option linter.unusedVariables false
set_option linter.unusedSimpArgs false
namespace Go.AW
open Go
variable {P : Program} {n : Nat} {F : Frm} {ds : List Deferred}
structure Open (P : Program) (G : Fence) : Prop where
  fn : ∀ f, G.fn f
  depth : G.depth = none
  calls : ∀ {m : Nat} {f : FuncId} {args : Array Value} {w : World} {R : Ending → World → Prop}, Calls P f args w R → CallsIn G m P f args w R
  rows : ∀ {m : Nat} {row : String} {args : Array Value} {w : World} {R : Value → World → Prop}, Rows P row args w R → RowsIn G m P row args w R
theorem rows_wide {m : Nat} {row : String} {args : Array Value} {w : World} {R : Value → World → Prop} (h : Rows P row args w R) : RowsIn Fence.wide m P row args w R :=
  fun c cs _ => let ⟨v, w', r, s⟩ := h c cs; ⟨v, w', r, stepsIn_wide.2 s⟩
theorem open_wide : Open P Fence.wide := ⟨fun _ => trivial, rfl, fun h => callsIn_wide.2 h, rows_wide⟩
theorem open_round (l : Nat) : Open P (Fence.wide.inRound l) := ⟨fun _ => trivial, rfl, fun h => (callsIn_wide.2 h : CallsIn Fence.wide _ P _ _ _ _), fun h => (rows_wide h : RowsIn Fence.wide _ P _ _ _ _)⟩
theorem lift_op {G : Fence} (hG : Open P G) {m : Nat} {o : Oper} {a : Act} {w : World} {next : Act → World → Prop} {Q : Exit → Act → World → Prop} (hd : ∀ c, o.op ≠ .defer c) (h : o.wp P a w next Q) : o.wpIn G m P a w next Q := by
  refine ⟨fun f _ => hG.fn f, ?_⟩
  rw [Oper.semAt_eq _ _ _ hd]
  unfold Oper.wp at h
  generalize (execOp a.eval o).run P w = r at *
  have dep : G.depth.isSome = true → 1 ≤ m := fun q => by rw [hG.depth] at q; simp at q
  cases r with
  | ok x w' =>
    cases x <;> simp only [Oper.upon, Oper.uponIn] at h ⊢ <;>
      first
        | exact h
        | exact ⟨dep, CallsIn.mono (hG.calls h) fun e w'' he => by cases e <;> exact he⟩
        | exact ⟨dep, hG.rows h⟩
        | exact h.elim
  | halt x w' => cases x <;> simp only [Oper.upon, Oper.uponIn] at h ⊢ <;> exact h
def noDefer (o : Oper) : Bool := match o.op with | .defer _ => false | _ => true
theorem noDefer_of {o : Oper} (h : noDefer o = true) : ∀ c, o.op ≠ .defer c := fun c q => by simp [noDefer, q] at h
def quietC : Code → Bool
  | .region _ ops _ => ops.toList.all noDefer
  | .seq a b => quietC a && quietC b
  | .cond _ a b => quietC a && quietC b
  | .block _ c | .loop c | .scope c => quietC c
  | _ => true
theorem lift_ops {G : Fence} (hG : Open P G) {m : Nat} {ops : Array Oper} {Q : Exit → Act → World → Prop} (hno : ¬ LetsOut Q) (hd : ops.toList.all noDefer = true) :
    ∀ (l : List Nat) (a : Act) (w : World), wpOps P ops Q l a w → wpOpsIn G m P ops Q l a w
  | [], _, _, h => h
  | i :: l, a, w, h => by
    simp only [wpOps] at h
    simp only [wpOpsIn]
    cases ho : ops[i]? with
    | none => simp only [ho] at h ⊢; exact lift_ops hG hno hd l a w h
    | some o =>
      simp only [ho] at h ⊢
      have hmem : o ∈ ops.toList := by rw [← Array.getElem?_toList] at ho; exact List.mem_of_getElem? ho
      have hdo := noDefer_of (List.all_eq_true.1 hd o hmem)
      split
      · rename_i hw
        rw [if_pos hw] at h
        rcases h with h | ⟨_, h⟩
        · exact Oper.wpIn_mono (fun a w => lift_ops hG hno hd l a w) (lift_op hG hdo h)
        · exact absurd h hno
      · rename_i hw
        rw [if_neg hw] at h
        exact ⟨fun f _ => hG.fn f, lift_ops hG hno hd l _ w h⟩
theorem lift_any {G : Fence} (hG : Open P G) {m : Nat} {md : Region.Mode} {ops : Array Oper} {Q : Exit → Act → World → Prop} (hno : ¬ LetsOut Q) (hd : ops.toList.all noDefer = true) :
    ∀ (fuel : Nat) (listed : Array Bool) (a : Act) (w : World), wpAny P md ops Q fuel listed a w → wpAnyIn G m P md ops Q fuel listed a w
  | 0, _, _, _, h => h
  | fuel + 1, listed, a, w, h => by
    obtain ⟨h0, h1⟩ := h
    refine ⟨h0, fun i hi => ?_⟩
    have h := h1 i hi
    unfold wpOp at h
    unfold wpOpIn
    cases ho : ops[i]? with
    | none => simp only [ho] at h ⊢; exact lift_any hG hno hd fuel _ a w h
    | some o =>
      simp only [ho] at h ⊢
      have hmem : o ∈ ops.toList := by rw [← Array.getElem?_toList] at ho; exact List.mem_of_getElem? ho
      have hdo := noDefer_of (List.all_eq_true.1 hd o hmem)
      split
      · rename_i hw
        rw [if_pos hw] at h
        rcases h with h | ⟨_, h⟩
        · exact Oper.wpIn_mono (fun a w => lift_any hG hno hd fuel _ a w) (lift_op hG hdo h)
        · exact absurd h hno
      · rename_i hw
        rw [if_neg hw] at h
        exact ⟨fun f _ => hG.fn f, lift_any hG hno hd fuel _ _ w h⟩
theorem noOut_then {Q : Exit → Act → World → Prop} {K : Act → World → Prop} (h : ¬ LetsOut Q) : ¬ LetsOut (Exit.then K Q) := h
theorem noOut_block {Q : Exit → Act → World → Prop} {id : Nat} (h : ¬ LetsOut Q) : ¬ LetsOut (Exit.inBlock id Q) := h
theorem sim_codeIn (hm : P.follows .mixedOrders = true) {G : Fence} (hG : Open P G) {m : Nat} : ∀ (c : Code), codeOk n c = true → quietC c = true → ∀ {ρ : Ren} {H : AHeap} {w : World} {T : Tm} {a : Act} {Qa : Exit → Tm → AHeap → Prop} {Q : Exit → Act → World → Prop},
    awp P c Qa T H → Rel ρ H F w → TR ρ n ds T a → QR n ds F ρ H Qa Q → ¬ LetsOut Q → c.wpIn G m P Q a w := by
  intro c
  induction c with
  | skip => intro _ _ ρ H w T a Qa Q h hR hT hQ _; exact wpIn_skip (hQ .normal T H ρ a w h hR (Ext.refl _ _) (Nat.le_refl _) hT)
  | label l => intro _ _ ρ H w T a Qa Q h hR hT hQ _; exact wpIn_label (hQ .normal T H ρ a w h hR (Ext.refl _ _) (Nat.le_refl _) hT)
  | exit id => intro _ _ ρ H w T a Qa Q h hR hT hQ _; exact wpIn_exit (hQ (.exit id) T H ρ a w h hR (Ext.refl _ _) (Nat.le_refl _) hT)
  | ret => intro _ _ ρ H w T a Qa Q h hR hT hQ _; exact wpIn_ret (hQ .ret T H ρ a w h hR (Ext.refl _ _) (Nat.le_refl _) hT)
  | goto l => intro _ _ ρ H w T a Qa Q h; exact h.elim
  | scope c ih => intro _ _ ρ H w T a Qa Q h; exact h.elim
  | refuse s => intro _ _ ρ H w T a Qa Q h; exact h.elim
  | rangeFunc f ps x y => intro _ _ ρ H w T a Qa Q h; exact h.elim
  | region id ops draw =>
    intro hok hqc ρ H w T a Qa Q h hR hT hQ hno
    have hops : ∀ o ∈ ops.toList, operOk n o = true := List.all_eq_true.1 (by simpa only [codeOk] using hok)
    have hd : ops.toList.all noDefer = true := by simpa only [quietC] using hqc
    cases draw with
    | false =>
      refine wpIn_region (lift_ops hG hno hd _ _ _ ?_)
      have := sim_aops (P := P) (ρ := ρ) (H := H) (F := F) (Q := Q) (K := Qa .normal) hops (fun T' H' ρ' a' w' hk hr hx hl ht => hQ .normal T' H' ρ' a' w' hk hr hx hl ht) ops.toList 0 T H ρ a w (by simp) hR (Ext.refl _ _) (Nat.le_refl _) hT h
      simpa [List.range_eq_range'] using this
    | true =>
      obtain ⟨plan, hp, hdr⟩ := h
      exact wpIn_region_any hm (lift_any hG hno hd _ _ _ _ (sim_any hp hops hR hT hdr fun T' H' ρ' a' w' hk hr hx hl ht => hQ .normal T' H' ρ' a' w' hk hr hx hl ht))
  | seq x y ihx ihy =>
    intro hok hqc ρ H w T a Qa Q h hR hT hQ hno
    simp only [codeOk, Bool.and_eq_true] at hok
    simp only [quietC, Bool.and_eq_true] at hqc
    refine wpIn_seq (ihx hok.1 hqc.1 h hR hT (fun e T' H' ρ' a' w' hq hr hx hl ht => ?_) (noOut_then hno))
    cases e with
    | normal => exact ihy hok.2 hqc.2 hq hr ht (hQ.step hx hl) hno
    | exit id => exact hQ (.exit id) T' H' ρ' a' w' hq hr hx hl ht
    | goto l => exact hQ (.goto l) T' H' ρ' a' w' hq hr hx hl ht
    | ret => exact hQ .ret T' H' ρ' a' w' hq hr hx hl ht
    | panic ch => exact hQ (.panic ch) T' H' ρ' a' w' hq hr hx hl ht
    | outgrown => exact hQ .outgrown T' H' ρ' a' w' hq hr hx hl ht
  | cond c x y ihx ihy =>
    intro hok hqc ρ H w T a Qa Q h hR hT hQ hno
    simp only [codeOk, Bool.and_eq_true] at hok
    simp only [quietC, Bool.and_eq_true] at hqc
    obtain ⟨g, hg, h1⟩ := bindO_iff.1 h
    have hv := hT.eval hok.1.1
    have hb : a.eval c = .bool g := by
      unfold aboolv at hg
      split at hg
      · rename_i b hb; cases hg
        rw [hb] at hv; revert hv; generalize a.eval c = u; intro hv; cases hv; rfl
      · simp at hg
    cases g with
    | true => exact wpIn_cond_true hb (ihx hok.1.2 hqc.1 h1 hR hT hQ hno)
    | false => exact wpIn_cond_false hb (ihy hok.2 hqc.2 h1 hR hT hQ hno)
  | block id c ih =>
    intro hok hqc ρ H w T a Qa Q h hR hT hQ hno
    refine wpIn_block (ih (by simpa only [codeOk] using hok) (by simpa only [quietC] using hqc) h hR hT (fun e T' H' ρ' a' w' hq hr hx hl ht => ?_) (noOut_block hno))
    cases e with
    | exit id' =>
      simp only [Exit.inBlock, Exit.inBlockA] at hq ⊢
      split
      · rename_i q; rw [if_pos q] at hq; exact hQ .normal T' H' ρ' a' w' hq hr hx hl ht
      · rename_i q; rw [if_neg q] at hq; exact hQ (.exit id') T' H' ρ' a' w' hq hr hx hl ht
    | normal => exact hQ .normal T' H' ρ' a' w' hq hr hx hl ht
    | goto l => exact hQ (.goto l) T' H' ρ' a' w' hq hr hx hl ht
    | ret => exact hQ .ret T' H' ρ' a' w' hq hr hx hl ht
    | panic ch => exact hQ (.panic ch) T' H' ρ' a' w' hq hr hx hl ht
    | outgrown => exact hQ .outgrown T' H' ρ' a' w' hq hr hx hl ht
  | loop c ih =>
    intro hok hqc ρ H w T a Qa Q h hR hT hQ hno
    obtain ⟨k, hk'⟩ := h
    refine wpIn_loop_rounds k ?_
    have key : ∀ (k : Nat) (ρ1 : Ren) (H1 : AHeap) (w1 : World) (T1 : Tm) (a1 : Act), arounds (awp P c) Qa k T1 H1 → Rel ρ1 H1 F w1 → Ext H ρ ρ1 → H.length ≤ H1.length → TR ρ1 n ds T1 a1 → Code.roundsIn G m P c Q k a1 w1 := by
      intro k
      induction k with
      | zero => intro ρ1 H1 w1 T1 a1 h1; exact h1.elim
      | succ k ihm =>
        intro ρ1 H1 w1 T1 a1 h1 hR1 hx1 hl1 hT1
        rw [roundsIn_succ]
        refine ih (by simpa only [codeOk] using hok) (by simpa only [quietC] using hqc) h1 hR1 hT1 (fun e T' H' ρ' a' w' hq hr hx hl ht => ?_) (noOut_then hno)
        cases e with
        | normal => exact ihm ρ' H' w' T' a' hq hr (hx1.trans hx hl1) (by omega) ht
        | exit id => exact hQ (.exit id) T' H' ρ' a' w' hq hr (hx1.trans hx hl1) (by omega) ht
        | goto l => exact hQ (.goto l) T' H' ρ' a' w' hq hr (hx1.trans hx hl1) (by omega) ht
        | ret => exact hQ .ret T' H' ρ' a' w' hq hr (hx1.trans hx hl1) (by omega) ht
        | panic ch => exact hQ (.panic ch) T' H' ρ' a' w' hq hr (hx1.trans hx hl1) (by omega) ht
        | outgrown => exact hQ .outgrown T' H' ρ' a' w' hq hr (hx1.trans hx hl1) (by omega) ht
    exact key k ρ H w T a hk' hR (Ext.refl _ _) (Nat.le_refl _) hT
theorem ObjAt.gone_or {ρ : Ren} {F : Nat → Option Obj} {l : Loc} {O : Obj} {o : AObj} (h : ObjAt ρ F l (Option.some O) o) : o = .gone ∨ (∃ arr e fz, O = .cells arr e fz) ∨ (∃ es ck, O = .map es ck) ∨ (∃ m s se la, O = .mapIter m s se la) ∨ ∃ s p, O = .stringIter s p := by
  cases o with
  | row cs k own => obtain ⟨arr, e, fz, h1, _⟩ := h; right; left; exact ⟨arr, e, fz, Option.some.inj h1⟩
  | map es ck => obtain ⟨_, _, es', h3, _⟩ := h; right; right; left; exact ⟨es', ck, Option.some.inj h3⟩
  | mapIter m since seen last =>
    obtain ⟨_, _, h3⟩ := h
    right; right; right; left
    cases m with
    | none => exact ⟨_, _, _, _, Option.some.inj h3⟩
    | some id => obtain ⟨lm, _, h4⟩ := h3; exact ⟨_, _, _, _, Option.some.inj h4⟩
  | strIter s pos => obtain ⟨_, _, h3⟩ := h; right; right; right; right; exact ⟨s, pos, Option.some.inj h3⟩
  | gone => exact .inl rfl
  | rowx cs k ext => obtain ⟨arr, e, fz, h1, _⟩ := h; right; left; exact ⟨arr, e, fz, Option.some.inj h1⟩
theorem ObjAt.heapOf {ρ : Ren} {F F' : Nat → Option Obj} {l : Loc} {O : Option Obj} {o : AObj} (h : ObjAt ρ F l O o) (hF : F' l.blk = F l.blk) : ObjAt ρ F' l O o := by
  cases o <;> simp only [ObjAt, hF] at h ⊢ <;> exact h
theorem Rel.reframe {ρ : Ren} {H : AHeap} {F : Frm} {w : World} (h : Rel ρ H F w) {L : Nat} {O O' : Obj} (hL : F.heap L = some O) (hO : ¬ ((∃ arr e fz, O = .cells arr e fz) ∨ (∃ es ck, O = .map es ck) ∨ (∃ m s se la, O = .mapIter m s se la) ∨ ∃ s p, O = .stringIter s p)) :
    Rel ρ H { F with heap := fun b => if b = L then some O' else F.heap b } (w.putObj L O') := by
  have hwL := h.frm.heap L O hL
  have hlt : L < w.heap.size := (Array.getElem?_eq_some_iff.1 hwL).1
  refine ⟨h.dom, ⟨fun b o hb => ?_, h.frm.tape, h.frm.os, h.frm.output, h.frm.drawn, by rw [World.putObj_size]; exact h.frm.size⟩, fun id l o hl ho => ?_, h.sep⟩
  · simp only at hb
    by_cases q : b = L
    · rw [if_pos q] at hb; cases hb; rw [q]; exact World.putObj_heap_same hlt
    · rw [if_neg q] at hb; rw [World.putObj_heap_other q]; exact h.frm.heap b o hb
  · have h1 := h.obj id l o hl ho
    by_cases q : l.blk = L
    · rw [q, hwL] at h1
      rcases h1.gone_or with rfl | h2
      · trivial
      · exact absurd h2 hO
    · rw [World.putObj_heap_other q]
      refine h1.heapOf ?_
      simp only; rw [if_neg q]
theorem Rel.keepNew {ρ : Ren} {H : AHeap} {F : Frm} {w : World} (h : Rel ρ H F w) (O : Obj) (hO : ¬ ((∃ arr e fz, O = .cells arr e fz) ∨ (∃ es ck, O = .map es ck) ∨ (∃ m s se la, O = .mapIter m s se la) ∨ ∃ s p, O = .stringIter s p)) :
    Rel ρ H { F with heap := fun b => if b = w.heap.size then some O else F.heap b, size := F.size } (w.alloc O) := by
  have old : ∀ b, b < w.heap.size → (w.alloc O).heap[b]? = w.heap[b]? := fun b hb => Go.RowKit.Below.heap_alloc w O b hb
  refine ⟨h.dom, ⟨fun b o hb => ?_, h.frm.tape, h.frm.os, h.frm.output, h.frm.drawn, by have := h.frm.size; simp; omega⟩, fun id l o hl ho => ?_, h.sep⟩
  · simp only at hb
    by_cases q : b = w.heap.size
    · rw [if_pos q] at hb; cases hb; rw [q]; exact World.alloc_heap_new w O
    · rw [if_neg q] at hb
      have h1 := h.frm.heap b o hb
      rw [old b (Array.getElem?_eq_some_iff.1 h1).1]; exact h1
  · have h1 := h.obj id l o hl ho
    by_cases q : l.blk < w.heap.size
    · rw [old _ q]
      refine h1.heapOf ?_
      simp only; rw [if_neg (by omega)]
    · -- nothing lies there
      rw [Array.getElem?_eq_none (by omega)] at h1
      cases o with
      | gone => trivial
      | row cs k own => obtain ⟨_, _, _, h2, _⟩ := h1; cases h2
      | map es ck => obtain ⟨_, _, _, h2, _⟩ := h1; cases h2
      | mapIter m since seen last =>
        obtain ⟨_, _, h2⟩ := h1
        cases m with
        | none => cases h2
        | some id => obtain ⟨_, _, h3⟩ := h2; cases h3
      | strIter s pos => obtain ⟨_, _, h2⟩ := h1; cases h2
      | rowx cs k ext => obtain ⟨_, _, _, h2, _⟩ := h1; cases h2
def Odd (O : Obj) : Prop := ¬ ((∃ arr e fz, O = .cells arr e fz) ∨ (∃ es ck, O = .map es ck) ∨ (∃ m s se la, O = .mapIter m s se la) ∨ ∃ s p, O = .stringIter s p)
theorem odd_loop (r : Loop) : Odd (.loop r) := by rintro (⟨_, _, _, h⟩ | ⟨_, _, h⟩ | ⟨_, _, _, _, h⟩ | ⟨_, _, h⟩) <;> cases h
theorem odd_deferred (d : Option (List Deferred)) : Odd (.deferred d) := by rintro (⟨_, _, _, h⟩ | ⟨_, _, h⟩ | ⟨_, _, _, _, h⟩ | ⟨_, _, h⟩) <;> cases h
def Frm.two (F : Frm) (D L : Nat) (x y : Obj) : Frm := { F with heap := fun b => if b = L then some y else if b = D then some x else F.heap b }
theorem Frm.two_L (F : Frm) (D L : Nat) (x y : Obj) : (F.two D L x y).heap L = some y := if_pos rfl
theorem Frm.two_D (F : Frm) {D L : Nat} (x y : Obj) (h : D ≠ L) : (F.two D L x y).heap D = some x := by simp [Frm.two, h]
theorem Rel.turnL {ρ : Ren} {H : AHeap} {F : Frm} {w : World} {D L : Nat} {x y : Obj} (h : Rel ρ H (F.two D L x y) w) (hy : Odd y) (y' : Obj) : Rel ρ H (F.two D L x y') (w.putObj L y') := by
  have := h.reframe (O' := y') (Frm.two_L F D L x y) hy
  have e : ({ F.two D L x y with heap := fun b => if b = L then some y' else (F.two D L x y).heap b } : Frm) = F.two D L x y' := by
    have e0 : (fun b => if b = L then some y' else (F.two D L x y).heap b) = (F.two D L x y').heap := by
      funext b
      by_cases q : b = L <;> simp [Frm.two, q]
    rw [e0]; rfl
  rwa [e] at this
theorem Rel.turnD {ρ : Ren} {H : AHeap} {F : Frm} {w : World} {D L : Nat} {x y : Obj} (h : Rel ρ H (F.two D L x y) w) (hDL : D ≠ L) (hx : Odd x) (x' : Obj) : Rel ρ H (F.two D L x' y) (w.putObj D x') := by
  have := h.reframe (O' := x') (Frm.two_D F x y hDL) hx
  have e : ({ F.two D L x y with heap := fun b => if b = D then some x' else (F.two D L x y).heap b } : Frm) = F.two D L x' y := by
    have e0 : (fun b => if b = D then some x' else (F.two D L x y).heap b) = (F.two D L x' y).heap := by
      funext b
      by_cases q : b = D
      · subst q; simp [Frm.two, hDL]
      · simp [Frm.two, q]
    rw [e0]; rfl
  rwa [e] at this
theorem Rel.back {ρ : Ren} {H : AHeap} {F : Frm} {w : World} {D L : Nat} {x y : Obj} (h : Rel ρ H (F.two D L x y) w) (hDL : D ≠ L) (hx : Odd x) (hy : Odd y) (hD : F.heap D = none) (hL : F.heap L = none) : Rel ρ H F w := by
  have sub : ∀ b o, F.heap b = some o → (F.two D L x y).heap b = some o := fun b o hb => by
    have h1 : b ≠ L := fun q => by rw [q, hL] at hb; cases hb
    have h2 : b ≠ D := fun q => by rw [q, hD] at hb; cases hb
    simp [Frm.two, h1, h2, hb]
  refine ⟨h.dom, ⟨fun b o hb => h.frm.heap b o (sub b o hb), h.frm.tape, h.frm.os, h.frm.output, h.frm.drawn, h.frm.size⟩, fun id l o hl ho => ?_, h.sep⟩
  have h1 := h.obj id l o hl ho
  by_cases q : l.blk = L
  · rw [q, h.frm.heap L y (Frm.two_L F D L x y)] at h1
    rcases h1.gone_or with rfl | h2
    · trivial
    · exact absurd h2 hy
  · by_cases q2 : l.blk = D
    · rw [q2, h.frm.heap D x (Frm.two_D F x y hDL)] at h1
      rcases h1.gone_or with rfl | h2
      · trivial
      · exact absurd h2 hx
    · refine h1.heapOf ?_
      simp [Frm.two, q, q2]
theorem Rel.enter {ρ : Ren} {H : AHeap} {F : Frm} {w : World} (h : Rel ρ H F w) (r : Loop) :
    Rel ρ H (F.two w.heap.size (w.heap.size + 1) (.deferred (some [])) (.loop r)) ((w.alloc (.deferred (some []))).alloc (.loop r)) ∧ F.heap w.heap.size = none ∧ F.heap (w.heap.size + 1) = none := by
  have none_ : ∀ b, w.heap.size ≤ b → F.heap b = none := fun b hb => by
    cases q : F.heap b with
    | none => rfl
    | some o => have := (Array.getElem?_eq_some_iff.1 (h.frm.heap b o q)).1; omega
  refine ⟨?_, none_ _ (Nat.le_refl _), none_ _ (Nat.le_succ _)⟩
  have h1 := (h.keepNew (.deferred (some [])) (odd_deferred _)).keepNew (.loop r) (odd_loop r)
  rw [World.size_alloc] at h1
  exact h1
theorem round_sim (hm : P.follows .mixedOrders = true) {px : Tmp} {assign body : Code} (h1 : codeOk n assign = true) (h2 : codeOk n body = true) (q1 : quietC assign = true) (q2 : quietC body = true) {ρ : Ren} {H : AHeap} {F : Frm} {W : World} {D L k : Nat} {fn : FuncId} {tmps : Array Value} {x : Obj} {T : Tm} {v v' : Value} {J : AHeap → Prop}
    (hR : Rel ρ H (F.two D L x (.loop { state := .ready, pending := none, fn, tmps, params := #[px], assign, body, defers := D })) W) (hT : TR ρ n [] T { tmps := tmps, defers := [] }) (hpx : px < n) (hv : VR ρ v v')
    (hA : awp P assign (Exit.thenA (awp P body (fun e _ H' => e = .normal ∧ J H')) (fun _ _ _ => False)) (T.put (some px) v) H) :
    ∃ tmps', (Instr.yield L #[v']).run P W = .ok (.round L fn tmps' assign body) W ∧ RoundIn Fence.wide k P L fn tmps' assign body W fun e W' => e = .returned (.bool true) ∧ ∃ ρ' H', J H' ∧ Rel ρ' H' (F.two D L x (.loop { state := .ready, pending := none, fn, tmps, params := #[px], assign, body, defers := D })) W' ∧ Ext H ρ ρ' ∧ H.length ≤ H'.length := by
  have hL := hR.frm.heap L _ (Frm.two_L _ _ _ _ _)
  refine ⟨_, run_yield hL (by simp), roundIn_of_wpIn trivial ?_⟩
  have hT2 : TR ρ n [] (T.put (some px) v) { tmps := (#[px].zip #[v']).foldl (fun t (p, a) => t.setIfInBounds p a) tmps, defers := [] } := by
    have := hT.put (d := some px) (fun t q => by cases q; exact hpx) hv
    simpa [Act.put] using this
  refine sim_codeIn hm (open_round L) assign h1 q1 hA hR hT2 (fun e T1 H1 ρ1 a1 w1 hq hr hx hl ht => ?_) (fun ⟨_, _, q⟩ => q)
  cases e with
  | normal =>
    have hL1 := hr.frm.heap L _ (Frm.two_L _ _ _ _ _)
    refine ⟨_, run_beginRound hL1 rfl, ?_⟩
    have hr2 := hr.turnL (odd_loop _) (.loop { state := .busy, pending := none, fn, tmps, params := #[px], assign, body, defers := D })
    refine sim_codeIn hm (open_round L) body h2 q2 hq hr2 ht (fun e2 T2 H2 ρ2 a2 w2 hq2 hr3 hx2 hl2 ht2 => ?_) (fun ⟨_, _, q⟩ => q)
    obtain ⟨rfl, hJ⟩ := hq2
    have hL2 := hr3.frm.heap L _ (Frm.two_L _ _ _ _ _)
    refine ⟨_, _, run_endRound none hL2, rfl, ρ2, H2, hJ, ?_, hx.trans hx2 hl, by omega⟩
    exact hr3.turnL (odd_loop _) _
  | ret => exact hq.elim
  | exit id => exact hq.elim
  | goto l => exact hq.elim
  | panic ch => exact hq.elim
  | outgrown => exact hq.elim
theorem sim_range {g : Operand} {px : Tmp} {assign body : Code} {ρ : Ren} {H : AHeap} {F : Frm} {w : World} {a : Act} {k : Nat} {kf : FuncId} {cap : Array Value} {J : AHeap → Prop} {Q : Exit → Act → World → Prop} (hg : a.eval g = .func (.func kf) #[] cap) (eg : ∀ args w, (callFunc kf args).run P w = .ok (.enter kf args) w) (hR : Rel ρ H F w)
    (hiter : ∀ (fn : FuncId) (D L : Nat) (W : World), D ≠ L → F.heap D = none → F.heap L = none → Rel ρ H (F.two D L (.deferred (some [])) (.loop { state := .ready, pending := none, fn, tmps := a.tmps, params := #[px], assign, body, defers := D })) W →
      CallsIn Fence.wide (k - 1) P kf (#[.func (.yield L) #[] #[]] ++ cap) W fun e W' => (∃ v, e = .returned v) ∧ ∃ ρ' H', J H' ∧ Rel ρ' H' (F.two D L (.deferred (some [])) (.loop { state := .ready, pending := none, fn, tmps := a.tmps, params := #[px], assign, body, defers := D })) W' ∧ Ext H ρ ρ' ∧ H.length ≤ H'.length)
    (hdone : ∀ (D L : Nat) (y : Obj) (ρ' : Ren) (H' : AHeap) (w' : World), D ≠ L → F.heap D = none → F.heap L = none → Odd y → J H' → Rel ρ' H' (F.two D L (.deferred (some [])) y) w' → Ext H ρ ρ' → H.length ≤ H'.length → Q .normal { a with defers := { target := .collected D, args := #[] } :: a.defers } w') :
    (Code.rangeFunc g #[px] assign body).wpIn Fence.wide k P Q a w := by
  refine wpIn_rangeFunc fun fn _ => ?_
  have hent := hR.enter { state := .ready, pending := none, fn, tmps := a.tmps, params := #[px], assign, body, defers := w.heap.size }
  have hrun := run_enterLoop_outer (P := P) (w := w) fn a.tmps #[px] assign body
  generalize (w.alloc (.deferred (some []))).alloc (.loop { state := .ready, pending := none, fn, tmps := a.tmps, params := #[px], assign, body, defers := w.heap.size }) = W1 at hrun hent
  refine ⟨w.heap.size + 1, [{ target := .collected w.heap.size, args := #[] }], W1, { target := .fn (.func kf) cap, args := #[.func (.yield (w.heap.size + 1)) #[] #[]] }, W1, kf,
    #[.func (.yield (w.heap.size + 1)) #[] #[]] ++ cap, W1, hrun, ?_, fun _ _ => trivial, ?_, (fun q => by cases q), ?_⟩
  · simp only [resolve, hg]
    simp [go_sem]
  · simp [invoke, go_sem, eg]
  · refine (hiter fn w.heap.size (w.heap.size + 1) _ (by omega) hent.2.1 hent.2.2 hent.1).mono ?_
    rintro e W' ⟨⟨v, rfl⟩, ρ', H', hJ, hR', hx, hl⟩
    have hL := hR'.frm.heap _ _ (Frm.two_L _ _ _ _ _)
    exact ⟨none, _, run_endLoop hL (by simp), hdone w.heap.size (w.heap.size + 1) _ ρ' H' _ (by omega) hent.2.1 hent.2.2 (odd_loop _) hJ (hR'.turnL (odd_loop _) _) hx hl⟩
theorem enters_body {f : FuncId} {fn : Func} {c : Code} (hf : P.funcs[f]? = some fn) (hn : (fn.name == "runtime.NumGoroutine") = false) (hb : fn.body = some c) (xs : Array Value) (w : World) : (callFunc f xs).run P w = .ok (.enter f xs) w := by
  have h3 : ¬ fn.name = "runtime.NumGoroutine" := by simpa using hn
  simp [callFunc, hf, h3, hb]
theorem TR.start {ρ : Ren} {args args' : List Value} (hv : VRs ρ args args') (hn : args.length ≤ n) : TR ρ n [] (fun t => args.getD t undef) { tmps := args'.toArray ++ Array.replicate (n - args'.toArray.size) undef, defers := [] } := by
  refine ⟨?_, rfl, fun t ht => ?_⟩
  · have := hv.1; simp; omega
  · have hl := hv.1
    simp only [Array.getD_eq_getD_getElem?, List.getD_eq_getElem?_getD]
    by_cases hta : t < args.length
    · rw [Array.getElem?_append_left (by simp; omega)]
      have e1 := List.getElem?_eq_getElem hta
      have e2 := List.getElem?_eq_getElem (show t < args'.length by omega)
      rw [e1, List.getElem?_toArray, e2]
      exact hv.2 t _ _ e1 e2
    · rw [List.getElem?_eq_none (by omega), Array.getElem?_append_right (by simp; omega), Array.getElem?_replicate, if_pos (by simp; omega)]
      exact VR.undef _
theorem sim_opIn {G : Fence} (hG : Open P G) {m i : Nat} {rest : List Nat} {ops : Array Oper} {Q : Exit → Act → World → Prop} {o : Oper} (ho : ops[i]? = some o) (hok : operOk n o = true) (hq : noDefer o = true) (hgd : o.guard = none) {ρ : Ren} {H : AHeap} {w : World} {T : Tm} {a : Act} {K : Value → AHeap → Prop} (hR : Rel ρ H F w) (hT : TR ρ n ds T a) (h : aop P T o H K)
    (hn : ∀ v v' H' ρ' w', K v H' → Rel ρ' H' F w' → Ext H ρ ρ' → H.length ≤ H'.length → TR ρ' n ds (T.put o.dst v) (a.put o.dst v') → wpOpsIn G m P ops Q rest (a.put o.dst v') w') : wpOpsIn G m P ops Q (i :: rest) a w := by
  obtain ⟨od, oo⟩ := operOk_opd hok
  rw [wpOpsIn_cons]
  unfold wpOpIn
  have hw : Region.wanted o (yielded ops a.tmps) = true := by unfold Region.wanted; rw [hgd]
  simp only [ho, hw, if_true]
  exact lift_op hG (noDefer_of hq) (sim_aop hR (fun x hx => hT.eval (oo x hx)) h fun v v' H' ρ' w' hK r1 r2 r3 r4 => hn v v' H' ρ' w' hK r1 r2 r3 ((hT.mono (hR.ext r2)).put od r4))
end Go.AW
end
section
set_option linter.unusedVariables false
set_option linter.unusedSimpArgs false
namespace Go.AW
open Go
variable {P : Program} {n : Nat} {F : Frm}
structure RangeS where
  g : Operand
  ps : Array Tmp
  assign : Code
  body : Code
  post : List Code
def hasR : Code → Bool
  | .block _ (.rangeFunc _ _ _ _) => true
  | .seq a b => hasR a || hasR b
  | _ => false
def awpL (P : Program) (Q : Exit → Tm → AHeap → Prop) : List Code → Tm → AHeap → Prop
  | [], T, H => Q .normal T H
  | b :: bs, T, H => awp P b (Exit.thenA (awpL P Q bs) Q) T H
def awpR (P : Program) (Mid : RangeS → Tm → AHeap → Prop) (Q : Exit → Tm → AHeap → Prop) : Code → List Code → Tm → AHeap → Prop
  | .block _ (.rangeFunc g ps x y), post, T, H => Mid ⟨g, ps, x, y, post⟩ T H
  | .seq a b, post, T, H => match hasR a with
    | true => awpR P Mid Q a (b :: post) T H
    | false => awp P a (Exit.thenA (awpR P Mid Q b post) Q) T H
  | _, _, _, _ => False
section
variable (P : Program) (Mid : RangeS → Tm → AHeap → Prop) (Q : Exit → Tm → AHeap → Prop) (T : Tm) (H : AHeap)
theorem awpL_nil : awpL P Q [] T H = Q .normal T H := (rfl)
theorem awpL_cons (b : Code) (bs : List Code) : awpL P Q (b :: bs) T H = awp P b (Exit.thenA (awpL P Q bs) Q) T H := (rfl)
theorem awpR_here (id : Nat) (g : Operand) (ps : Array Tmp) (x y : Code) (post : List Code) : awpR P Mid Q (.block id (.rangeFunc g ps x y)) post T H = Mid ⟨g, ps, x, y, post⟩ T H := (rfl)
theorem awpR_in {a : Code} (h : hasR a = true) (b : Code) (post : List Code) : awpR P Mid Q (.seq a b) post T H = awpR P Mid Q a (b :: post) T H := by simp only [awpR, h]
theorem awpR_next {a : Code} (h : hasR a = false) (b : Code) (post : List Code) : awpR P Mid Q (.seq a b) post T H = awp P a (Exit.thenA (awpR P Mid Q b post) Q) T H := by simp only [awpR, h]
end
theorem hasR_region (id : Nat) (ops : Array Oper) (d : Bool) : hasR (.region id ops d) = false := (rfl)
theorem hasR_cond (c : Operand) (x y : Code) : hasR (.cond c x y) = false := (rfl)
theorem hasR_loop (x : Code) : hasR (.loop x) = false := (rfl)
theorem hasR_seq (x y : Code) : hasR (.seq x y) = (hasR x || hasR y) := (rfl)
theorem hasR_range (id : Nat) (g : Operand) (ps : Array Tmp) (x y : Code) : hasR (.block id (.rangeFunc g ps x y)) = true := (rfl)
theorem hasR_bseq (id : Nat) (x y : Code) : hasR (.block id (.seq x y)) = false := (rfl)
theorem hasR_bcond (id : Nat) (c : Operand) (x y : Code) : hasR (.block id (.cond c x y)) = false := (rfl)
theorem hasR_bloop (id : Nat) (x : Code) : hasR (.block id (.loop x)) = false := (rfl)
theorem hasR_bregion (id i : Nat) (ops : Array Oper) (d : Bool) : hasR (.block id (.region i ops d)) = false := (rfl)
theorem hasR_bblock (id i : Nat) (x : Code) : hasR (.block id (.block i x)) = false := (rfl)
attribute [go_sem] awpL_nil awpL_cons hasR_region hasR_cond hasR_loop hasR_seq hasR_range hasR_bseq hasR_bcond hasR_bloop hasR_bregion hasR_bblock Bool.or_false Bool.or_true Bool.false_or
attribute [go_sem ↓] awpR_here awpR_in awpR_next
def okR (n : Nat) : Code → List Code → Bool
  | .block _ (.rangeFunc g _ _ _), post => opdOk n g && post.all fun c => codeOk n c && quietC c
  | .seq a b, post => match hasR a with
    | true => okR n a (b :: post)
    | false => codeOk n a && quietC a && okR n b post
  | _, _ => false
def contL (P : Program) (G : Fence) (m : Nat) (Q : Exit → Act → World → Prop) : List Code → Act → World → Prop
  | [], a, w => Q .normal a w
  | b :: bs, a, w => b.wpIn G m P (Exit.then (contL P G m Q bs) Q) a w
theorem then_then {K K' : Act → World → Prop} {Q : Exit → Act → World → Prop} : Exit.then K (Exit.then K' Q) = Exit.then K Q := by
  funext e a w; cases e <;> rfl
theorem noOut_thenK {Q : Exit → Act → World → Prop} {K : Act → World → Prop} (h : ¬ LetsOut Q) : ¬ LetsOut (Exit.then K Q) := h
theorem sim_awpL (hm : P.follows .mixedOrders = true) {G : Fence} (hG : Open P G) {m : Nat} {ds : List Deferred} {Qa : Exit → Tm → AHeap → Prop} {Q : Exit → Act → World → Prop} (hno : ¬ LetsOut Q) : ∀ (l : List Code), (l.all fun c => codeOk n c && quietC c) = true →
    ∀ {ρ : Ren} {H : AHeap} {w : World} {T : Tm} {a : Act}, awpL P Qa l T H → Rel ρ H F w → TR ρ n ds T a → QR n ds F ρ H Qa Q → contL P G m Q l a w
  | [], _, ρ, H, w, T, a, h, hR, hT, hQ => hQ .normal T H ρ a w h hR (Ext.refl _ _) (Nat.le_refl _) hT
  | c :: cs, hok, ρ, H, w, T, a, h, hR, hT, hQ => by
    simp only [List.all_cons, Bool.and_eq_true] at hok
    refine sim_codeIn hm hG c hok.1.1 hok.1.2 h hR hT (fun e T' H' ρ' a' w' hq hr hx hl ht => ?_) (noOut_thenK hno)
    cases e with
    | normal => exact sim_awpL hm hG hno cs (by simpa using hok.2) hq hr ht (hQ.step hx hl)
    | exit id => exact hQ (.exit id) T' H' ρ' a' w' hq hr hx hl ht
    | goto l => exact hQ (.goto l) T' H' ρ' a' w' hq hr hx hl ht
    | ret => exact hQ .ret T' H' ρ' a' w' hq hr hx hl ht
    | panic ch => exact hQ (.panic ch) T' H' ρ' a' w' hq hr hx hl ht
    | outgrown => exact hQ .outgrown T' H' ρ' a' w' hq hr hx hl ht
theorem sim_awpR (hm : P.follows .mixedOrders = true) {G : Fence} (hG : Open P G) {m : Nat} {ds : List Deferred} {Mid : RangeS → Tm → AHeap → Prop} {Q : Exit → Act → World → Prop} (hno : ¬ LetsOut Q) : ∀ (c : Code) (post : List Code), okR n c post = true →
    ∀ {ρ : Ren} {H : AHeap} {w : World} {T : Tm} {a : Act} {Qa : Exit → Tm → AHeap → Prop}, awpR P Mid Qa c post T H → Rel ρ H F w → TR ρ n ds T a → (∀ e, e ≠ .normal → ∀ T' H' ρ' a' w', Qa e T' H' → Rel ρ' H' F w' → Ext H ρ ρ' → H.length ≤ H'.length → TR ρ' n ds T' a' → Q e a' w') →
    (∀ (id : Nat) (r : RangeS) (T' : Tm) (H' : AHeap) (ρ' : Ren) (a' : Act) (w' : World), opdOk n r.g = true → (r.post.all fun c => codeOk n c && quietC c) = true → Mid r T' H' → Rel ρ' H' F w' → Ext H ρ ρ' → H.length ≤ H'.length → TR ρ' n ds T' a' →
      (Code.block id (.rangeFunc r.g r.ps r.assign r.body)).wpIn G m P (Exit.then (contL P G m Q r.post) Q) a' w') → c.wpIn G m P (Exit.then (contL P G m Q post) Q) a w := by
  intro c
  induction c with
  | block id c _ =>
    intro post hok ρ H w T a Qa h hR hT hQ hM
    cases c with
    | rangeFunc g ps x y =>
      simp only [okR, Bool.and_eq_true] at hok
      exact hM id ⟨g, ps, x, y, post⟩ T H ρ a w hok.1 hok.2 h hR (Ext.refl _ _) (Nat.le_refl _) hT
    | _ => simp [okR] at hok
  | seq x y ihx ihy =>
    intro post hok ρ H w T a Qa h hR hT hQ hM
    simp only [okR] at hok
    simp only [awpR] at h
    cases hh : hasR x with
    | true =>
      rw [hh] at h hok
      refine wpIn_seq ?_
      rw [then_then]
      exact ihx (y :: post) hok h hR hT hQ hM
    | false =>
      rw [hh] at h hok
      simp only [Bool.and_eq_true] at hok
      refine wpIn_seq ?_
      rw [then_then]
      refine sim_codeIn hm hG x hok.1.1 hok.1.2 h hR hT (fun e T' H' ρ' a' w' hq hr hx hl ht => ?_) (noOut_thenK hno)
      have other : ∀ e, e ≠ .normal → ∀ T2 H2 ρ2 a2 w2, Qa e T2 H2 → Rel ρ2 H2 F w2 → Ext H' ρ' ρ2 → H'.length ≤ H2.length → TR ρ2 n ds T2 a2 → Q e a2 w2 := fun e he T2 H2 ρ2 a2 w2 hq2 hr2 hx2 hl2 ht2 => hQ e he T2 H2 ρ2 a2 w2 hq2 hr2 (hx.trans hx2 hl) (by omega) ht2
      cases e with
      | normal => exact ihy post hok.2 hq hr ht other fun id r T2 H2 ρ2 a2 w2 o1 o2 hm' hr2 hx2 hl2 ht2 => hM id r T2 H2 ρ2 a2 w2 o1 o2 hm' hr2 (hx.trans hx2 hl) (by omega) ht2
      | exit id => exact hQ (.exit id) (by simp) T' H' ρ' a' w' hq hr hx hl ht
      | goto l => exact hQ (.goto l) (by simp) T' H' ρ' a' w' hq hr hx hl ht
      | ret => exact hQ .ret (by simp) T' H' ρ' a' w' hq hr hx hl ht
      | panic ch => exact hQ (.panic ch) (by simp) T' H' ρ' a' w' hq hr hx hl ht
      | outgrown => exact hQ .outgrown (by simp) T' H' ρ' a' w' hq hr hx hl ht
  | _ => intro post hok; simp [okR] at hok
def IterA (P : Program) (n : Nat) (kf : FuncId) (cap : Array Value) (T : Tm) (px : Tmp) (assign body : Code) (H : AHeap) (J : AHeap → Prop) : Prop :=
  ∀ (k : Nat) (ρ : Ren) (F : Frm) (D L : Nat) (fn : FuncId) (W : World) (tmps : Array Value) (cap' : Array Value), D ≠ L → F.heap D = none → F.heap L = none →
    Rel ρ H (F.two D L (.deferred (some [])) (.loop { state := .ready, pending := none, fn, tmps, params := #[px], assign, body, defers := D })) W → TR ρ n [] T { tmps := tmps, defers := [] } → VRs ρ cap.toList cap'.toList →
    CallsIn Fence.wide k P kf (#[.func (.yield L) #[] #[]] ++ cap') W fun e W' => (∃ v, e = .returned v) ∧ ∃ ρ' H', J H' ∧ Rel ρ' H' (F.two D L (.deferred (some [])) (.loop { state := .ready, pending := none, fn, tmps, params := #[px], assign, body, defers := D })) W' ∧ Ext H ρ ρ' ∧ H.length ≤ H'.length
theorem IterA.none {kf : FuncId} {cap : Array Value} {T : Tm} {px : Tmp} {assign body : Code} {H : AHeap} {J : AHeap → Prop} (h : ∀ L, Sound P kf (.func (.yield L) #[] #[] :: cap.toList) H fun _ H' => J H') : IterA P n kf cap T px assign body H J := by
  intro k ρ F D L fn W tmps cap' _ _ _ hR _ hc
  refine open_wide.calls ?_
  have := (h L).2 ρ _ W (.func (.yield L) #[] #[] :: cap'.toList) hR (VRs.cons (.func _ rfl rfl (by simp) (by simp)) hc)
  have e : (Value.func (.yield L) #[] #[] :: cap'.toList).toArray = #[.func (.yield L) #[] #[]] ++ cap' := by apply Array.ext'; simp
  rw [e] at this
  exact this.mono fun e w' ⟨v, v', H', ρ', h1, h2, h3, h4, h5, _⟩ => ⟨⟨v', h1⟩, ρ', H', h2, h3, h4, h5⟩
def rangeOk (fn : Func) : Bool :=
  fn.results.toList.all (resOk fn.ntmps) && (match fn.body with | some c => okR fn.ntmps c [] | none => false) && fn.name != "runtime.NumGoroutine"
def RangeMid (P : Program) (n : Nat) (Q : Exit → Tm → AHeap → Prop) (r : RangeS) (T : Tm) (H : AHeap) : Prop :=
  ∃ (px : Tmp) (kf : FuncId) (cap : Array Value) (J : AHeap → Prop), r.ps = #[px] ∧ aev T r.g = .func (.func kf) #[] cap ∧ (∀ args w, (callFunc kf args).run P w = .ok (.enter kf args) w) ∧
    IterA P n kf cap T px r.assign r.body H J ∧ ∀ H', J H' → H.length ≤ H'.length → awpL P Q r.post T H'
theorem Sound.of_range (hm : P.follows .mixedOrders = true) {f : FuncId} {fn : Func} {c : Code} (hf : P.funcs[f]? = some fn) (hb : fn.body = some c) (hok : rangeOk fn = true) {rs : List ResultVar} (hrs : fn.results.toList = rs) {args : List Value} {H : AHeap} {K : Value → AHeap → Prop}
    (hn : Nat.ble args.length fn.ntmps = true) (h : awpR P (RangeMid P fn.ntmps (abody P rs K)) (abody P rs K) c [] (fun t => args.getD t undef) H) : Sound P f args H K := by
  subst hrs
  have hn := Nat.le_of_ble_eq_true hn
  simp only [rangeOk, hb, Bool.and_eq_true] at hok
  obtain ⟨⟨o1, o2⟩, o7⟩ := hok
  refine ⟨fun asx9 w => ?_, fun ρ F w args' hR hv => callsIn_wide.1 (callsIn_of_wp_marks (n := 2) hf hb trivial ?_)⟩
  · have h3' : ¬ fn.name = "runtime.NumGoroutine" := by simpa using o7
    simp [callFunc, hf, h3', hb]
  have hT0 := TR.start (n := fn.ntmps) hv hn
  generalize ({ tmps := args'.toArray ++ Array.replicate (fn.ntmps - args'.toArray.size) undef, defers := [] } : Act) = a0 at hT0 ⊢
  -- the end, without a mark
  have fin0 : ∀ {T1 : Tm} {H1 : AHeap} {ρ1 : Ren} {a1 : Act} {w1 : World}, (bindO (aresults fn.results.toList P T1 H1) fun vs => K (ares vs) H1) → Rel ρ1 H1 F w1 → Ext H ρ ρ1 → H.length ≤ H1.length → TR ρ1 fn.ntmps [] T1 a1 →
      LeavesInM Fence.wide 2 P fn a1.tmps (fun e w' => ∃ v v' H' ρ', e = .returned v' ∧ K v H' ∧ Rel ρ' H' F w' ∧ Ext H ρ ρ' ∧ H.length ≤ H'.length ∧ VR ρ' v v') a1.defers .returning w1 := fun {T1 H1 ρ1 a1 w1} hq hr hx hl ht => by
    obtain ⟨vs, hvs, hk⟩ := bindO_iff.1 hq
    obtain ⟨v', g1, g2⟩ := sim_results o1 hr ht hvs
    rw [ht.defers]
    exact ⟨v', g1, ares vs, v', H1, ρ1, rfl, hk, hr, hx, hl, g2⟩
  generalize hPost : bodyPostM Fence.wide 2 P fn (fun e w' => ∃ v v' H' ρ', e = .returned v' ∧ K v H' ∧ Rel ρ' H' F w' ∧ Ext H ρ ρ' ∧ H.length ≤ H'.length ∧ VR ρ' v v') = Post
  have hno : ¬ LetsOut Post := by rw [← hPost]; exact fun ⟨_, _, _, _, _, _, q, _⟩ => by cases q
  have key := sim_awpR (n := fn.ntmps) (F := F) (ds := []) (Q := Post) hm open_wide (m := 2) hno c [] o2 h hR hT0 (fun e he T1 H1 ρ1 a1 w1 hq hr hx hl ht => ?_) fun id r T1 H1 ρ1 a1 w1 o6 o4 hq hr hx hl ht => ?_
  · have e0 : Exit.then (contL P Fence.wide 2 Post []) Post = Post := by funext e a w; cases e <;> rfl
    rw [e0] at key
    exact key
  · rw [← hPost]
    cases e with
    | normal => exact absurd rfl he
    | ret => exact fin0 hq hr hx hl ht
    | exit id => exact hq.elim
    | goto l => exact hq.elim
    | panic ch => exact hq.elim
    | outgrown => exact hq.elim
  · obtain ⟨px, kf, cap, J, hps, hg, hent, hit, hpost⟩ := hq
    rw [hps]
    have hv1 := ht.eval o6
    rw [hg] at hv1
    obtain ⟨asx9', cap', hval, ha, hcap⟩ := hv1.func_inv
    have e1 : asx9' = #[] := by
      have := ha.1; apply Array.toList_inj.1; exact List.length_eq_zero_iff.1 (by simpa using this.symm)
    rw [e1] at hval
    refine wpIn_block ?_
    refine sim_range (J := J) hval hent hr (fun fn' D L W hDL hFD hFL hRW => hit _ _ _ D L fn' W _ cap' hDL hFD hFL hRW ⟨ht.size, rfl, ht.vr⟩ hcap) ?_
    intro D L y ρ' H' w' hDL hFD hFL hy hJ hR' hX hLn
    simp only [Exit.inBlock, Exit.then]
    have x1 : Ext H ρ ρ' := hx.trans hX (by omega)
    refine sim_awpL (n := fn.ntmps) (ds := [{ target := .collected D, args := #[] }]) hm open_wide hno r.post o4 (hpost H' hJ hLn) hR' ⟨ht.size, by simp [ht.defers], fun t htt => (ht.vr t htt).mono (hr.ext hX)⟩ ?_
    intro e T6 H6 ρ6 a6 w6 hq6 hR6 hX6 hL6 hT6
    rw [← hPost]
    have hK := hR6.frm.heap D _ (Frm.two_D _ _ _ hDL)
    have hRf := (hR6.turnD hDL (odd_deferred _) (.deferred none)).back hDL (odd_deferred _) hy hFD hFL
    have fin : (bindO (aresults fn.results.toList P T6 H6) fun vs => K (ares vs) H6) → LeavesInM Fence.wide 2 P fn a6.tmps (fun e w' => ∃ v v' H' ρ', e = .returned v' ∧ K v H' ∧ Rel ρ' H' F w' ∧ Ext H ρ ρ' ∧ H.length ≤ H'.length ∧ VR ρ' v v') a6.defers .returning w6 := fun hq => by
      obtain ⟨vs, hvs, hk⟩ := bindO_iff.1 hq
      obtain ⟨v', g1, g2⟩ := sim_results o1 hRf hT6 hvs
      rw [hT6.defers]
      exact ⟨by simp, .inl ⟨D, _, rfl, run_takeDeferred hK, v', g1, ares vs, v', H6, ρ6, rfl, hk, hRf, x1.trans hX6 (by omega), by omega, g2⟩⟩
    cases e with
    | normal => exact fin hq6
    | ret => exact fin hq6
    | exit id => exact hq6.elim
    | goto l => exact hq6.elim
    | panic ch => exact hq6.elim
    | outgrown => exact hq6.elim
end Go.AW
end
section
set_option linter.unusedVariables false
set_option linter.unusedSimpArgs false
namespace Go.Proofs.YtekpdopbiklkfaaGreatDoor
open Go Go.AW
set_option linter.unusedSimpArgs false
set_option maxRecDepth 20000
abbrev keysF : FuncId := 88
structure Rounds (H : AHeap) (m : Nat) (M : List (ByteArray × Nat)) (J : List (ByteArray × Nat) → AHeap → Prop) : Prop where
  set : ∀ L H' o, J L H' → J L (H'.set H.length o)
  app : ∀ L H' o, J L H' → J L (H' ++ [o])
theorem keys_walk {n : Nat} {px : Tmp} {assign body : Code} (h1 : codeOk n assign = true) (h2 : codeOk n body = true) (q1 : quietC assign = true) (q2 : quietC body = true) (hpx : px < n)
    {ρ : Ren} {H : AHeap} {F : Frm} {W : World} {D L k : Nat} {fn : FuncId} {tmps : Array Value} {x : Obj} {T : Tm} {bx m : Nat} {cap' : Value} {M : List (ByteArray × Nat)} {J : List (ByteArray × Nat) → AHeap → Prop}
    (hR : Rel ρ H (F.two D L x (.loop { state := .ready, pending := none, fn, tmps, params := #[px], assign, body, defers := D })) W) (hT : TR ρ n [] T { tmps := tmps, defers := [] }) (hcap : VR ρ (ptrV bx) cap')
    (hbx : H[bx]? = some (.row [.map (some m)] 1 true)) (hM : DictAt H m strV ptrV M) (hJ : Rounds H m M J) (hJ0 : J M H)
    (hround : ∀ L1 k v L2 H', J (L1 ++ (k, v) :: L2) H' → DictAt H' m strV ptrV M → H.length < H'.length → awp Tryz.prog assign (Exit.thenA (awp Tryz.prog body (fun e _ H'' => e = .normal ∧ (J (L1 ++ L2) H'' ∧ H''[m]? = H'[m]? ∧ H''[H.length]? = H'[H.length]?))) (fun _ _ _ => False)) (T.put (some px) (strV k)) H') :
    CallsIn Fence.wide k Tryz.prog keysF (#[.func (.yield L) #[] #[]] ++ #[cap']) W fun e W' => (∃ v, e = .returned v) ∧ ∃ ρ' H', J [] H' ∧ Rel ρ' H' (F.two D L x (.loop { state := .ready, pending := none, fn, tmps, params := #[px], assign, body, defers := D })) W' ∧ Ext H ρ ρ' ∧ H.length ≤ H'.length := by
  have hR0 := hR
  have hvs : VRs ρ [.func (.yield L) #[] #[], ptrV bx] [.func (.yield L) #[] #[], cap'] := VRs.cons (.func _ rfl rfl (by simp) (by simp)) (VRs.cons hcap VRs.nil)
  have hT0 := TR.start (n := 14) hvs (by simp)
  refine callsIn_of_wp Tryz.func88 rfl trivial ?_
  have hact : ({ tmps := (#[Value.func (.yield L) #[] #[]] ++ #[cap']) ++ Array.replicate (14 - (#[Value.func (.yield L) #[] #[]] ++ #[cap']).size) undef, defers := [] } : Act) = { tmps := [Value.func (.yield L) #[] #[], cap'].toArray ++ Array.replicate (14 - [Value.func (.yield L) #[] #[], cap'].toArray.size) undef, defers := [] } := rfl
  rw [show (Tryz.f88).ntmps = 14 by kernel_rfl, hact]
  generalize ({ tmps := [Value.func (.yield L) #[] #[], cap'].toArray ++ Array.replicate (14 - [Value.func (.yield L) #[] #[], cap'].toArray.size) undef, defers := [] } : Act) = a0 at hT0 ⊢
  have hm : (Tryz.prog).follows .mixedOrders = true := mixed
  obtain ⟨o3, e3, hr⟩ := hM.range (t := 82) un82
  refine wpIn_seq (sim_codeIn (n := 14) hm open_wide _ (by kernel_rfl) (by kernel_rfl) (Qa := fun e T' H' => e = .normal ∧ T' 0 = .func (.yield L) #[] #[] ∧ T' 5 = ptrV H.length ∧ H' = H ++ [o3]) ?_ hR hT0 ?_ ?_)
  · simp -dsimp only [go_sem, ↓reduceIte, Nat.reduceEqDiff, Nat.reduceAdd, Nat.reduceMul, Nat.reduceSub, Nat.reduceLeDiff, Nat.reduceLT, hbx, e3]
  · rintro e T1 H1 ρ1 a1 w1 ⟨rfl, t0, t5, hH1⟩ hR1 hX1 hL1 hT1
    refine wpIn_block (wpIn_loop_rounds (M.length + 1) ?_)
    have hrM : RangeAt H1 H.length m strV ptrV M M := by rw [hH1]; exact hr
    have hJM : J M H1 := by rw [hH1]; exact hJ.app _ _ _ hJ0
    have hlt1 : H.length < H1.length := by rw [hH1]; simp
    clear hH1 hL1 hT0 hR hr e3
    obtain ⟨left, hleft⟩ : ∃ left, left = M := ⟨M, rfl⟩
    have hq : left.length < M.length + 1 := by rw [hleft]; omega
    have hr1 : RangeAt H1 H.length m strV ptrV M left := by rw [hleft]; exact hrM
    have hJ1 : J left H1 := by rw [hleft]; exact hJM
    clear hleft hrM hJM
    generalize M.length + 1 = q at *
    induction q generalizing left ρ1 H1 w1 T1 a1 with
    | zero => omega
    | succ q ih =>
      rw [roundsIn_succ]
      refine wpIn_seq (sim_codeIn (n := 14) hm open_wide _ (by kernel_rfl) (by kernel_rfl) (Qa := fun e T' H' => e = .normal ∧ T' 0 = .func (.yield L) #[] #[] ∧ T' 5 = ptrV H.length ∧ ((T' 7 = .bool false ∧ J [] H') ∨ (T' 7 = .bool true ∧ ∃ L1 k v L2, left = L1 ++ (k, v) :: L2 ∧ RangeAt H' H.length m strV ptrV M (L1 ++ L2) ∧ EntryAt H' H.length m strV ptrV k v ∧ J left H' ∧ H.length < H'.length))) ?_ hR1 hT1 ?_ ?_)
      · simp -dsimp only [go_sem, ↓reduceIte, Nat.reduceEqDiff, Nat.reduceAdd, Nat.reduceMul, Nat.reduceSub, Nat.reduceLeDiff, Nat.reduceLT, t5]
        refine hr1.next2 ?_ ?_
        · rintro rfl
          simp -dsimp only [go_sem, ↓reduceIte, Nat.reduceEqDiff, Nat.reduceAdd, Nat.reduceMul, Nat.reduceSub, Nat.reduceLeDiff, Nat.reduceLT, t0, t5]
          exact .inl hJ1
        · intro L1 k2 v L2 o hL hr2 he
          simp -dsimp only [go_sem, ↓reduceIte, Nat.reduceEqDiff, Nat.reduceAdd, Nat.reduceMul, Nat.reduceSub, Nat.reduceLeDiff, Nat.reduceLT, t0, t5]
          exact .inr ⟨L1, k2, v, L2, hL, hr2, he, hJ.set _ _ _ hJ1, by rw [List.length_set]; exact hlt1⟩
      · rintro e T2 H2 ρ2 a2 w2 ⟨rfl, t0, t5, hcase⟩ hR2 hX2 hL2 hT2
        rcases hcase with ⟨t7, hJe⟩ | ⟨t7, L1, k2, v, L2, rfl, hr2, he, hJ2, hlt2⟩
        · have hv7 := hT2.vr 7 (by decide)
          rw [t7] at hv7
          have h7 : a2.eval (.tmp 7) = .bool false := by
            show a2.tmps.getD 7 undef = _
            revert hv7; generalize a2.tmps.getD 7 undef = u; intro hv7; cases hv7; rfl
          refine wpIn_seq (wpIn_cond_false h7 (wpIn_exit ?_))
          simp only [Exit.then, Exit.inBlock, if_true]
          obtain ⟨v', hv', -⟩ := sim_results (n := 14) (fn := Tryz.f88) (vs := []) (by kernel_rfl) hR2 hT2 (by kernel_rfl)
          exact ⟨hT2.defers, v', hv', ⟨v', rfl⟩, ρ2, H2, hJe, hR2, hX1.trans hX2 (by omega), by omega⟩
        · have hv7 := hT2.vr 7 (by decide)
          rw [t7] at hv7
          have h7 : a2.eval (.tmp 7) = .bool true := by
            show a2.tmps.getD 7 undef = _
            revert hv7; generalize a2.tmps.getD 7 undef = u; intro hv7; cases hv7; rfl
          refine wpIn_seq (wpIn_cond_true h7 (wpIn_skip ?_))
          refine wpIn_block ?_
          refine wpIn_seq (sim_codeIn (n := 14) hm open_wide _ (by kernel_rfl) (by kernel_rfl) (Qa := fun e T' H' => e = .normal ∧ T' 0 = .func (.yield L) #[] #[] ∧ T' 5 = ptrV H.length ∧ T' 3 = strV k2 ∧ H' = H2) ?_ hR2 hT2 ?_ ?_)
          · simp -dsimp only [go_sem, ↓reduceIte, Nat.reduceEqDiff, Nat.reduceAdd, Nat.reduceMul, Nat.reduceSub, Nat.reduceLeDiff, Nat.reduceLT, t0, t5, he.get]
          · rintro e T3 H3 ρ3 a3 w3 ⟨rfl, t0, t5, t3, hH3⟩ hR3 hX3 hL3 hT3
            refine wpIn_seq (wpIn_region ?_)
            show wpOpsIn _ _ _ _ _ [0, 1, 2, 3] _ _
            refine sim_opIn (n := 14) (o := ⟨some 10, .move (.tmp 0), 109, "iter.go:28", #[], none⟩) open_wide rfl (by kernel_rfl) rfl rfl hR3 hT3 (K := fun v H' => v = .func (.yield L) #[] #[] ∧ H' = H3) ?_ ?_
            · simp -dsimp only [go_sem, ↓reduceIte, Nat.reduceEqDiff, Nat.reduceAdd, Nat.reduceMul, Nat.reduceSub, Nat.reduceLeDiff, Nat.reduceLT, t0]
            rintro _ v4 H4 ρ4 w4 ⟨rfl, rfl⟩ hR4 hX4 hL4 hT4
            refine sim_opIn (n := 14) (o := ⟨some 11, .move (.tmp 3), 9, "iter.go:28", #[], none⟩) open_wide rfl (by kernel_rfl) rfl rfl hR4 hT4 (K := fun v H'' => v = strV k2 ∧ H'' = H4) ?_ ?_
            · simp -dsimp only [go_sem, ↓reduceIte, Nat.reduceEqDiff, Nat.reduceAdd, Nat.reduceMul, Nat.reduceSub, Nat.reduceLeDiff, Nat.reduceLT, t3]
            rintro _ v5 H5 ρ5 w5 ⟨rfl, rfl⟩ hR5 hX5 hL5 hT5
            have X5 : Ext H ρ ρ5 := ((((hX1.trans hX2 (by omega)).trans hX3 (by omega)).trans hX4 (by omega)).trans hX5 (by omega))
            have lt5 : H.length < H5.length := by omega
            have hJ5 : J (L1 ++ (k2, v) :: L2) H5 := by rw [hH3]; exact hJ2
            have hr5 : RangeAt H5 H.length m strV ptrV M (L1 ++ L2) := by rw [hH3]; exact hr2
            have hv10 := hT5.vr 10 (by decide)
            have h10 : Act.eval ((a3.put (some 10) v4).put (some 11) v5) (.tmp 10) = .func (.yield L) #[] #[] := by
              show Array.getD _ 10 undef = _
              revert hv10
              rw [show (Tm.put (Tm.put T3 (some 10) (Value.func (.yield L) #[] #[])) (some 11) (strV k2)) 10 = .func (.yield L) #[] #[] from rfl]
              generalize Array.getD _ 10 undef = u
              intro hv10
              obtain ⟨asx9', bs', rfl, ha, hb⟩ := hv10.func_inv
              have e1 : asx9' = #[] := by
                have := ha.1; apply Array.toList_inj.1; exact List.length_eq_zero_iff.1 (by simpa using this.symm)
              have e2 : bs' = #[] := by
                have := hb.1; apply Array.toList_inj.1; exact List.length_eq_zero_iff.1 (by simpa using this.symm)
              rw [e1, e2]
            have hv11 : VR ρ5 (strV k2) (Act.eval ((a3.put (some 10) v4).put (some 11) v5) (.tmp 11)) := hT5.vr 11 (by decide)
            obtain ⟨tmps', hy, hround'⟩ := round_sim (k := k - 1) hm h1 h2 q1 q2 hR5 (hT.mono (hR0.ext X5)) hpx hv11 (hround L1 k2 v L2 H5 hJ5 hr5.map lt5)
            rw [wpOpsIn_cons]
            unfold wpOpIn
            simp only [List.getElem?_toArray, List.getElem?_cons_succ, List.getElem?_cons_zero]
            rw [if_pos (by rfl)]
            refine ⟨fun _ _ => trivial, ?_⟩
            have hrun : (Oper.semAt Fence.wide.round (Act.eval ((a3.put (some 10) v4).put (some 11) v5)) ⟨some 12, .call ⟨.value (.tmp 10), #[.tmp 11], #[9]⟩, 4, "iter.go:28", #[⟨0, .data⟩, ⟨1, .data⟩], none⟩).run Tryz.prog w5 = .ok (.round L fn tmps' assign body) w5 := by
              rw [show Fence.wide.round = none from rfl, Oper.semAt_none]
              simp only [execOp, resolve, h10, Deferred.ofValue, Sem.run_bind, Sem.run_pure, Result.andThen_ok, invoke]
              simpa using hy
            rw [hrun]
            refine ⟨(fun q => by cases q), RoundIn.mono hround' ?_⟩
            rintro e W' ⟨rfl, ρ6, H6, ⟨hJ6, hm6, hr6⟩, hR6, hX6, hL6⟩
            have hT6 := (hT5.mono (hR5.ext hX6)).put (d := some 12) (fun t q => by cases q; decide) (VR.bool (ρ := ρ6) true)
            refine sim_opIn (n := 14) (o := ⟨some 13, .unOp .not 4 (.tmp 12), 4, "iter.go:28", #[⟨2, .data⟩], none⟩) open_wide rfl (by kernel_rfl) rfl rfl hR6 hT6 (K := fun v H'' => v = .bool false ∧ H'' = H6) ?_ ?_
            · simp -dsimp only [go_sem, ↓reduceIte, Nat.reduceEqDiff, Nat.reduceAdd, Nat.reduceMul, Nat.reduceSub, Nat.reduceLeDiff, Nat.reduceLT]
            rintro _ v7 H7 ρ7 w7 ⟨rfl, rfl⟩ hR7 hX7 hL7 hT7
            have hv13 := hT7.vr 13 (by decide)
            simp only [wpOpsIn, Exit.then]
            refine wpIn_cond_false ?_ (wpIn_skip ?_)
            · show Array.getD _ 13 undef = _
              revert hv13
              rw [show (Tm.put (Tm.put (Tm.put (Tm.put T3 (some 10) (Value.func (.yield L) #[] #[])) (some 11) (strV k2)) (some 12) (.bool true)) (some 13) (.bool false)) 13 = .bool false from rfl]
              generalize Array.getD _ 13 undef = u
              intro hv13
              cases hv13; rfl
            · simp only [Exit.inBlock, Exit.then]
              refine ih _ H7 ρ7 _ _ ?_ ?_ hR7 ((X5.trans hX6 (by omega)).trans hX7 (by omega)) hT7 (by omega) (L1 ++ L2) (hr5.keep hm6 hr6) hJ6 ?_
              · exact t0
              · exact t5
              · simp at hq ⊢; omega
          · rintro ⟨_, _, ⟨v, q⟩, _⟩; cases q
      · rintro ⟨_, _, ⟨v, q⟩, _⟩; cases q
  · rintro ⟨_, _, ⟨v, q⟩, _⟩; cases q
end Go.Proofs.YtekpdopbiklkfaaGreatDoor
end
section
namespace Go.Proofs
open Go.Shelf
def Tryz.laysS_f87_ren : Go.Shelf.Ren := ⟨fun | 6 => 87 | 8 => 128 | 9 => 127 | 19 => 166 | 20 => 167 | 21 => 157 | 22 => 158 | 23 => 159 | 24 => 160 | 25 => 161 | 26 => 162 | 27 => 163 | 28 => 164 | 29 => 165 | 36 => 196 | 31 => 197 | 32 => 198 | 37 => 199 | 38 => 200 | 39 => 201 | 41 => 215 | n => n, fun | 27 => 58 | 29 => 9 | 3 => 3 | 32 => 182 | 26 => 58 | 0 => 0 | 44 => 49 | 46 => 52 | 4 => 4 | 36 => 223 | 35 => 222 | 41 => 117 | 5 => 5 | 9 => 9 | 53 => 257 | 57 => 260 | 63 => 273 | 64 => 274 | n => n, fun | n => n⟩
theorem Tryz.laysS_f87 : Go.Proofs.SlLaysM.n6 Tryz.prog Tryz.laysS_f87_ren := {
  mixed := by kernel_rfl
  f6 := ⟨Tryz.f87.name, by decide, Tryz.func87.trans (congrArg some (by kernel_rfl))⟩
  f8 := Tryz.func128.trans (congrArg some (by kernel_rfl))
  f9 := ⟨Tryz.f127.name, by decide, Tryz.func127.trans (congrArg some (by kernel_rfl))⟩
  f19 := Tryz.func166.trans (congrArg some (by kernel_rfl))
  f20 := Tryz.func167.trans (congrArg some (by kernel_rfl))
  f21 := ⟨Tryz.f157.name, by decide, Tryz.func157.trans (congrArg some (by kernel_rfl))⟩
  f22 := ⟨Tryz.f158.name, by decide, Tryz.func158.trans (congrArg some (by kernel_rfl))⟩
  f23 := ⟨Tryz.f159.name, by decide, Tryz.func159.trans (congrArg some (by kernel_rfl))⟩
  f24 := ⟨Tryz.f160.name, by decide, Tryz.func160.trans (congrArg some (by kernel_rfl))⟩
  f25 := ⟨Tryz.f161.name, by decide, Tryz.func161.trans (congrArg some (by kernel_rfl))⟩
  f26 := ⟨Tryz.f162.name, by decide, Tryz.func162.trans (congrArg some (by kernel_rfl))⟩
  f27 := ⟨Tryz.f163.name, by decide, Tryz.func163.trans (congrArg some (by kernel_rfl))⟩
  f28 := ⟨Tryz.f164.name, by decide, Tryz.func164.trans (congrArg some (by kernel_rfl))⟩
  f29 := ⟨Tryz.f165.name, by decide, Tryz.func165.trans (congrArg some (by kernel_rfl))⟩
  f31 := Tryz.func197.trans (congrArg some (by kernel_rfl))
  f32 := Tryz.func198.trans (congrArg some (by kernel_rfl))
  f36 := ⟨Tryz.f196.name, by decide, Tryz.func196.trans (congrArg some (by kernel_rfl))⟩
  f37 := ⟨Tryz.f199.name, by decide, Tryz.func199.trans (congrArg some (by kernel_rfl))⟩
  f38 := ⟨Tryz.f200.name, by decide, Tryz.func200.trans (congrArg some (by kernel_rfl))⟩
  f39 := ⟨Tryz.f201.name, by decide, Tryz.func201.trans (congrArg some (by kernel_rfl))⟩
  f41 := ⟨Tryz.f215.name, by decide, Tryz.func215.trans (congrArg some (by kernel_rfl))⟩
  t0 := Tryz.underlying0
  a0 := Tryz.isAgg0
  z0 := Tryz.sizeOf0
  v0 := Tryz.zeroValue0
  t3 := Tryz.underlying3
  a3 := Tryz.isAgg3
  z3 := Tryz.sizeOf3
  v3 := Tryz.zeroValue3
  t4 := Tryz.underlying4
  a4 := Tryz.isAgg4
  z4 := Tryz.sizeOf4
  v4 := Tryz.zeroValue4
  t5 := Tryz.underlying5
  a5 := Tryz.isAgg5
  z5 := Tryz.sizeOf5
  v5 := Tryz.zeroValue5
  t9 := Tryz.underlying9
  a9 := Tryz.isAgg9
  z9 := Tryz.sizeOf9
  v9 := Tryz.zeroValue9
  t26 := Tryz.underlying58
  a26 := Tryz.isAgg58
  z26 := Tryz.sizeOf58
  v26 := Tryz.zeroValue58
  t27 := Tryz.underlying58
  a27 := Tryz.isAgg58
  z27 := Tryz.sizeOf58
  v27 := Tryz.zeroValue58
  t29 := Tryz.underlying9
  a29 := Tryz.isAgg9
  z29 := Tryz.sizeOf9
  v29 := Tryz.zeroValue9
  t32 := Tryz.underlying182
  a32 := Tryz.isAgg182
  z32 := Tryz.sizeOf182
  v32 := Tryz.zeroValue182
  t35 := Tryz.underlying222
  a35 := Tryz.isAgg222
  z35 := Tryz.sizeOf222
  v35 := Tryz.zeroValue222
  t36 := Tryz.underlying223
  a36 := Tryz.isAgg223
  z36 := Tryz.sizeOf223
  v36 := Tryz.zeroValue223
  t41 := Tryz.underlying117
  a41 := Tryz.isAgg117
  z41 := Tryz.sizeOf117
  v41 := Tryz.zeroValue117
  t44 := Tryz.underlying49
  a44 := Tryz.isAgg49
  z44 := Tryz.sizeOf49
  v44 := Tryz.zeroValue49
  t46 := Tryz.underlying52
  a46 := Tryz.isAgg52
  z46 := Tryz.sizeOf52
  v46 := Tryz.zeroValue52
  t53 := Tryz.underlying257
  a53 := Tryz.isAgg257
  z53 := Tryz.sizeOf257
  v53 := Tryz.zeroValue257
  t57 := Tryz.underlying260
  a57 := Tryz.isAgg260
  z57 := Tryz.sizeOf260
  v57 := Tryz.zeroValue260
  t63 := Tryz.underlying273
  a63 := Tryz.isAgg273
  z63 := Tryz.sizeOf273
  v63 := Tryz.zeroValue273
  t64 := Tryz.underlying274
  a64 := Tryz.isAgg274
  z64 := Tryz.sizeOf274
  v64 := Tryz.zeroValue274 }
def Tryz.laysSF_f108_ren : Go.Shelf.Ren := ⟨fun | 6 => 108 | 15 => 128 | 14 => 146 | 28 => 166 | 29 => 167 | 20 => 179 | 21 => 180 | 22 => 181 | 23 => 182 | 24 => 183 | 25 => 184 | 26 => 185 | 27 => 186 | 46 => 206 | 47 => 197 | 48 => 198 | 49 => 207 | 50 => 208 | 57 => 217 | n => n, fun | 22 => 29 | 24 => 48 | 25 => 155 | 3 => 3 | 39 => 182 | 0 => 0 | 53 => 49 | 55 => 52 | 4 => 4 | 46 => 223 | 45 => 222 | 50 => 117 | 5 => 5 | 9 => 9 | 66 => 257 | 70 => 260 | 76 => 273 | 77 => 274 | n => n, fun | n => n⟩
theorem Tryz.laysSF_f108 : Go.Proofs.SlLaysF0.n6 Tryz.prog Tryz.laysSF_f108_ren := {
  mixed := by kernel_rfl
  f6 := ⟨Tryz.f108.name, by decide, Tryz.func108.trans (congrArg some (by kernel_rfl))⟩
  f14 := ⟨Tryz.f146.name, by decide, Tryz.func146.trans (congrArg some (by kernel_rfl))⟩
  f15 := Tryz.func128.trans (congrArg some (by kernel_rfl))
  f20 := ⟨Tryz.f179.name, by decide, Tryz.func179.trans (congrArg some (by kernel_rfl))⟩
  f21 := ⟨Tryz.f180.name, by decide, Tryz.func180.trans (congrArg some (by kernel_rfl))⟩
  f22 := ⟨Tryz.f181.name, by decide, Tryz.func181.trans (congrArg some (by kernel_rfl))⟩
  f23 := ⟨Tryz.f182.name, by decide, Tryz.func182.trans (congrArg some (by kernel_rfl))⟩
  f24 := ⟨Tryz.f183.name, by decide, Tryz.func183.trans (congrArg some (by kernel_rfl))⟩
  f25 := ⟨Tryz.f184.name, by decide, Tryz.func184.trans (congrArg some (by kernel_rfl))⟩
  f26 := ⟨Tryz.f185.name, by decide, Tryz.func185.trans (congrArg some (by kernel_rfl))⟩
  f27 := ⟨Tryz.f186.name, by decide, Tryz.func186.trans (congrArg some (by kernel_rfl))⟩
  f28 := Tryz.func166.trans (congrArg some (by kernel_rfl))
  f29 := Tryz.func167.trans (congrArg some (by kernel_rfl))
  f46 := ⟨Tryz.f206.name, by decide, Tryz.func206.trans (congrArg some (by kernel_rfl))⟩
  f47 := Tryz.func197.trans (congrArg some (by kernel_rfl))
  f48 := Tryz.func198.trans (congrArg some (by kernel_rfl))
  f49 := ⟨Tryz.f207.name, by decide, Tryz.func207.trans (congrArg some (by kernel_rfl))⟩
  f50 := ⟨Tryz.f208.name, by decide, Tryz.func208.trans (congrArg some (by kernel_rfl))⟩
  f57 := ⟨Tryz.f217.name, by decide, Tryz.func217.trans (congrArg some (by kernel_rfl))⟩
  t0 := Tryz.underlying0
  a0 := Tryz.isAgg0
  z0 := Tryz.sizeOf0
  v0 := Tryz.zeroValue0
  t3 := Tryz.underlying3
  a3 := Tryz.isAgg3
  z3 := Tryz.sizeOf3
  v3 := Tryz.zeroValue3
  t4 := Tryz.underlying4
  a4 := Tryz.isAgg4
  z4 := Tryz.sizeOf4
  v4 := Tryz.zeroValue4
  t5 := Tryz.underlying5
  a5 := Tryz.isAgg5
  z5 := Tryz.sizeOf5
  v5 := Tryz.zeroValue5
  t9 := Tryz.underlying9
  a9 := Tryz.isAgg9
  z9 := Tryz.sizeOf9
  v9 := Tryz.zeroValue9
  t22 := Tryz.underlying29
  a22 := Tryz.isAgg29
  z22 := Tryz.sizeOf29
  v22 := Tryz.zeroValue29
  t25 := Tryz.underlying155
  a25 := Tryz.isAgg155
  z25 := Tryz.sizeOf155
  v25 := Tryz.zeroValue155
  t39 := Tryz.underlying182
  a39 := Tryz.isAgg182
  z39 := Tryz.sizeOf182
  v39 := Tryz.zeroValue182
  t45 := Tryz.underlying222
  a45 := Tryz.isAgg222
  z45 := Tryz.sizeOf222
  v45 := Tryz.zeroValue222
  t46 := Tryz.underlying223
  a46 := Tryz.isAgg223
  z46 := Tryz.sizeOf223
  v46 := Tryz.zeroValue223
  t50 := Tryz.underlying117
  a50 := Tryz.isAgg117
  z50 := Tryz.sizeOf117
  v50 := Tryz.zeroValue117
  t53 := Tryz.underlying49
  a53 := Tryz.isAgg49
  z53 := Tryz.sizeOf49
  v53 := Tryz.zeroValue49
  t55 := Tryz.underlying52
  a55 := Tryz.isAgg52
  z55 := Tryz.sizeOf52
  v55 := Tryz.zeroValue52
  t66 := Tryz.underlying257
  a66 := Tryz.isAgg257
  z66 := Tryz.sizeOf257
  v66 := Tryz.zeroValue257
  t70 := Tryz.underlying260
  a70 := Tryz.isAgg260
  z70 := Tryz.sizeOf260
  v70 := Tryz.zeroValue260
  t76 := Tryz.underlying273
  a76 := Tryz.isAgg273
  z76 := Tryz.sizeOf273
  v76 := Tryz.zeroValue273
  t77 := Tryz.underlying274
  a77 := Tryz.isAgg274
  z77 := Tryz.sizeOf274
  v77 := Tryz.zeroValue274 }
end Go.Proofs
end
