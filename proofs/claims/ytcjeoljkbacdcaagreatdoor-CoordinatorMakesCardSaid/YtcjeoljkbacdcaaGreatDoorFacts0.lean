/-
  The seat's types, as walks ask for them: written by program (gen/seat.py).
-/
import Derived.Test.YtcjeoljkbacdcaaGreatDoorAwMore
import Derived.Test.YtcjeoljkbacdcaaGreatDoorAwLoop
import Derived.Test.YtcjeoljkbacdcaaGreatDoorProg
set_option linter.unusedVariables false
set_option linter.unusedSimpArgs false
namespace Go.Proofs.YtcjeoljkbacdcaaGreatDoor
open Go Go.AW
set_option linter.unusedSimpArgs false
theorem mixed : Tryz.prog.follows .mixedOrders = true := by kernel_rfl
theorem sz2 : szT Tryz.prog 2 = some 1 := by kernel_rfl
theorem ag2 : aggT Tryz.prog 2 = some false := by kernel_rfl
theorem ze2 : zeroT Tryz.prog 2 = some (.int .i64 0) := by kernel_rfl
theorem pz2 : plainV 100 (.int .i64 0) = true := by kernel_rfl
theorem inf2 : ∃ i, Tryz.prog.info? 2 = some i ∧ i.zero = some (.int .i64 0) ∧ i.size = 1 ∧ i.bytes = 8 := by
  have h : (Tryz.prog.info? 2).map (fun i => (i.zero, i.size, i.bytes)) = some (some (.int .i64 0), 1, 8) := by kernel_rfl
  obtain ⟨i, h1, h2⟩ := Option.map_eq_some_iff.1 h
  simp only [Prod.mk.injEq] at h2
  exact ⟨i, h1, h2.1, h2.2.1, h2.2.2⟩
theorem st2 (H : AHeap) (id off : Nat) (x : Value) : astoreT Tryz.prog H 2 (.pointer (some ⟨id, off, none⟩)) x = if x.cells.size = 1 ∧ x.cells.toList.all oneCell = true then ((H[id]?).bind (rowStore off x.cells.toList)).map fun o => H.set id o else none := astore_rule sz2 H id off x
theorem kd2 : kindT Tryz.prog 2 = .int .i64 := by kernel_rfl
theorem sz3 : szT Tryz.prog 3 = some 1 := by kernel_rfl
theorem ag3 : aggT Tryz.prog 3 = some false := by kernel_rfl
theorem ze3 : zeroT Tryz.prog 3 = some (.int .i64 0) := by kernel_rfl
theorem inf3 : ∃ i, Tryz.prog.info? 3 = some i ∧ i.zero = some (.int .i64 0) ∧ i.size = 1 ∧ i.bytes = 8 := by
  have h : (Tryz.prog.info? 3).map (fun i => (i.zero, i.size, i.bytes)) = some (some (.int .i64 0), 1, 8) := by kernel_rfl
  obtain ⟨i, h1, h2⟩ := Option.map_eq_some_iff.1 h
  simp only [Prod.mk.injEq] at h2
  exact ⟨i, h1, h2.1, h2.2.1, h2.2.2⟩
theorem st3 (H : AHeap) (id off : Nat) (x : Value) : astoreT Tryz.prog H 3 (.pointer (some ⟨id, off, none⟩)) x = if x.cells.size = 1 ∧ x.cells.toList.all oneCell = true then ((H[id]?).bind (rowStore off x.cells.toList)).map fun o => H.set id o else none := astore_rule sz3 H id off x
theorem kd3 : kindT Tryz.prog 3 = .int .i64 := by kernel_rfl
theorem sz4 : szT Tryz.prog 4 = some 1 := by kernel_rfl
theorem ag4 : aggT Tryz.prog 4 = some false := by kernel_rfl
theorem ze4 : zeroT Tryz.prog 4 = some (.bool false) := by kernel_rfl
theorem pz4 : plainV 100 (.bool false) = true := by kernel_rfl
theorem inf4 : ∃ i, Tryz.prog.info? 4 = some i ∧ i.zero = some (.bool false) ∧ i.size = 1 ∧ i.bytes = 1 := by
  have h : (Tryz.prog.info? 4).map (fun i => (i.zero, i.size, i.bytes)) = some (some (.bool false), 1, 1) := by kernel_rfl
  obtain ⟨i, h1, h2⟩ := Option.map_eq_some_iff.1 h
  simp only [Prod.mk.injEq] at h2
  exact ⟨i, h1, h2.1, h2.2.1, h2.2.2⟩
theorem st4 (H : AHeap) (id off : Nat) (x : Value) : astoreT Tryz.prog H 4 (.pointer (some ⟨id, off, none⟩)) x = if x.cells.size = 1 ∧ x.cells.toList.all oneCell = true then ((H[id]?).bind (rowStore off x.cells.toList)).map fun o => H.set id o else none := astore_rule sz4 H id off x
theorem en4 (H : AHeap) (xo yo : Operand) (a b : Bool) : abin Tryz.prog H .eql 4 xo yo (.bool a) (.bool b) = some (.bool (a == b)) := abin_eq_bool (by kernel_rfl) H xo yo a b
theorem nn4 (H : AHeap) (xo yo : Operand) (a b : Bool) : abin Tryz.prog H .neq 4 xo yo (.bool a) (.bool b) = some (.bool !(a == b)) := abin_ne_bool (by kernel_rfl) H xo yo a b
theorem sz5 : szT Tryz.prog 5 = some 1 := by kernel_rfl
theorem ag5 : aggT Tryz.prog 5 = some false := by kernel_rfl
theorem ze5 : zeroT Tryz.prog 5 = some (.int .u8 0) := by kernel_rfl
theorem pz5 : plainV 100 (.int .u8 0) = true := by kernel_rfl
theorem inf5 : ∃ i, Tryz.prog.info? 5 = some i ∧ i.zero = some (.int .u8 0) ∧ i.size = 1 ∧ i.bytes = 1 := by
  have h : (Tryz.prog.info? 5).map (fun i => (i.zero, i.size, i.bytes)) = some (some (.int .u8 0), 1, 1) := by kernel_rfl
  obtain ⟨i, h1, h2⟩ := Option.map_eq_some_iff.1 h
  simp only [Prod.mk.injEq] at h2
  exact ⟨i, h1, h2.1, h2.2.1, h2.2.2⟩
theorem st5 (H : AHeap) (id off : Nat) (x : Value) : astoreT Tryz.prog H 5 (.pointer (some ⟨id, off, none⟩)) x = if x.cells.size = 1 ∧ x.cells.toList.all oneCell = true then ((H[id]?).bind (rowStore off x.cells.toList)).map fun o => H.set id o else none := astore_rule sz5 H id off x
theorem kd5 : kindT Tryz.prog 5 = .int .u8 := by kernel_rfl
theorem sz6 : szT Tryz.prog 6 = some 1 := by kernel_rfl
theorem ag6 : aggT Tryz.prog 6 = some false := by kernel_rfl
theorem ze6 : zeroT Tryz.prog 6 = some (.int .u8 0) := by kernel_rfl
theorem inf6 : ∃ i, Tryz.prog.info? 6 = some i ∧ i.zero = some (.int .u8 0) ∧ i.size = 1 ∧ i.bytes = 1 := by
  have h : (Tryz.prog.info? 6).map (fun i => (i.zero, i.size, i.bytes)) = some (some (.int .u8 0), 1, 1) := by kernel_rfl
  obtain ⟨i, h1, h2⟩ := Option.map_eq_some_iff.1 h
  simp only [Prod.mk.injEq] at h2
  exact ⟨i, h1, h2.1, h2.2.1, h2.2.2⟩
theorem st6 (H : AHeap) (id off : Nat) (x : Value) : astoreT Tryz.prog H 6 (.pointer (some ⟨id, off, none⟩)) x = if x.cells.size = 1 ∧ x.cells.toList.all oneCell = true then ((H[id]?).bind (rowStore off x.cells.toList)).map fun o => H.set id o else none := astore_rule sz6 H id off x
theorem kd6 : kindT Tryz.prog 6 = .int .u8 := by kernel_rfl
theorem sz7 : szT Tryz.prog 7 = some 4 := by kernel_rfl
theorem ag7 : aggT Tryz.prog 7 = some true := by kernel_rfl
theorem ze7 : zeroT Tryz.prog 7 = some (.agg #[.int .i64 0, .int .i64 0, .bool false, .int .u8 0]) := by kernel_rfl
theorem pz7 : plainV 100 (.agg #[.int .i64 0, .int .i64 0, .bool false, .int .u8 0]) = true := by kernel_rfl
theorem inf7 : ∃ i, Tryz.prog.info? 7 = some i ∧ i.zero = some (.agg #[.int .i64 0, .int .i64 0, .bool false, .int .u8 0]) ∧ i.size = 4 ∧ i.bytes = 24 := by
  have h : (Tryz.prog.info? 7).map (fun i => (i.zero, i.size, i.bytes)) = some (some (.agg #[.int .i64 0, .int .i64 0, .bool false, .int .u8 0]), 4, 24) := by kernel_rfl
  obtain ⟨i, h1, h2⟩ := Option.map_eq_some_iff.1 h
  simp only [Prod.mk.injEq] at h2
  exact ⟨i, h1, h2.1, h2.2.1, h2.2.2⟩
theorem st7 (H : AHeap) (id off : Nat) (x : Value) : astoreT Tryz.prog H 7 (.pointer (some ⟨id, off, none⟩)) x = if x.cells.size = 4 ∧ x.cells.toList.all oneCell = true then ((H[id]?).bind (rowStore off x.cells.toList)).map fun o => H.set id o else none := astore_rule sz7 H id off x
theorem fa7_0 (id off : Nat) : afieldAddr Tryz.prog 7 (.pointer (some ⟨id, off, none⟩)) 0 = some (.pointer (some ⟨id, off + 0, none⟩)) := afieldAddr_at (n := 0) (f := (fieldT Tryz.prog 7 0).getD default) (by kernel_rfl) (by kernel_rfl) (by kernel_rfl) id off
theorem fl7_0 (cs : List Value) : afield Tryz.prog 7 (.agg cs.toArray) 0 = cs[0]? := afield_one (f := (fieldT Tryz.prog 7 0).getD default) (by kernel_rfl) (by kernel_rfl) (by kernel_rfl) cs
theorem fa7_1 (id off : Nat) : afieldAddr Tryz.prog 7 (.pointer (some ⟨id, off, none⟩)) 1 = some (.pointer (some ⟨id, off + 1, none⟩)) := afieldAddr_at (n := 0) (f := (fieldT Tryz.prog 7 1).getD default) (by kernel_rfl) (by kernel_rfl) (by kernel_rfl) id off
theorem fl7_1 (cs : List Value) : afield Tryz.prog 7 (.agg cs.toArray) 1 = cs[1]? := afield_one (f := (fieldT Tryz.prog 7 1).getD default) (by kernel_rfl) (by kernel_rfl) (by kernel_rfl) cs
theorem fa7_2 (id off : Nat) : afieldAddr Tryz.prog 7 (.pointer (some ⟨id, off, none⟩)) 2 = some (.pointer (some ⟨id, off + 2, none⟩)) := afieldAddr_at (n := 0) (f := (fieldT Tryz.prog 7 2).getD default) (by kernel_rfl) (by kernel_rfl) (by kernel_rfl) id off
theorem fl7_2 (cs : List Value) : afield Tryz.prog 7 (.agg cs.toArray) 2 = cs[2]? := afield_one (f := (fieldT Tryz.prog 7 2).getD default) (by kernel_rfl) (by kernel_rfl) (by kernel_rfl) cs
theorem fa7_3 (id off : Nat) : afieldAddr Tryz.prog 7 (.pointer (some ⟨id, off, none⟩)) 3 = some (.pointer (some ⟨id, off + 3, none⟩)) := afieldAddr_at (n := 0) (f := (fieldT Tryz.prog 7 3).getD default) (by kernel_rfl) (by kernel_rfl) (by kernel_rfl) id off
theorem fl7_3 (cs : List Value) : afield Tryz.prog 7 (.agg cs.toArray) 3 = cs[3]? := afield_one (f := (fieldT Tryz.prog 7 3).getD default) (by kernel_rfl) (by kernel_rfl) (by kernel_rfl) cs
theorem sz8 : szT Tryz.prog 8 = some 4 := by kernel_rfl
theorem ag8 : aggT Tryz.prog 8 = some true := by kernel_rfl
theorem ze8 : zeroT Tryz.prog 8 = some (.agg #[.int .i64 0, .int .i64 0, .bool false, .int .u8 0]) := by kernel_rfl
theorem inf8 : ∃ i, Tryz.prog.info? 8 = some i ∧ i.zero = some (.agg #[.int .i64 0, .int .i64 0, .bool false, .int .u8 0]) ∧ i.size = 4 ∧ i.bytes = 24 := by
  have h : (Tryz.prog.info? 8).map (fun i => (i.zero, i.size, i.bytes)) = some (some (.agg #[.int .i64 0, .int .i64 0, .bool false, .int .u8 0]), 4, 24) := by kernel_rfl
  obtain ⟨i, h1, h2⟩ := Option.map_eq_some_iff.1 h
  simp only [Prod.mk.injEq] at h2
  exact ⟨i, h1, h2.1, h2.2.1, h2.2.2⟩
theorem st8 (H : AHeap) (id off : Nat) (x : Value) : astoreT Tryz.prog H 8 (.pointer (some ⟨id, off, none⟩)) x = if x.cells.size = 4 ∧ x.cells.toList.all oneCell = true then ((H[id]?).bind (rowStore off x.cells.toList)).map fun o => H.set id o else none := astore_rule sz8 H id off x
theorem fa8_0 (id off : Nat) : afieldAddr Tryz.prog 8 (.pointer (some ⟨id, off, none⟩)) 0 = some (.pointer (some ⟨id, off + 0, none⟩)) := afieldAddr_at (n := 0) (f := (fieldT Tryz.prog 8 0).getD default) (by kernel_rfl) (by kernel_rfl) (by kernel_rfl) id off
theorem fl8_0 (cs : List Value) : afield Tryz.prog 8 (.agg cs.toArray) 0 = cs[0]? := afield_one (f := (fieldT Tryz.prog 8 0).getD default) (by kernel_rfl) (by kernel_rfl) (by kernel_rfl) cs
theorem fa8_1 (id off : Nat) : afieldAddr Tryz.prog 8 (.pointer (some ⟨id, off, none⟩)) 1 = some (.pointer (some ⟨id, off + 1, none⟩)) := afieldAddr_at (n := 0) (f := (fieldT Tryz.prog 8 1).getD default) (by kernel_rfl) (by kernel_rfl) (by kernel_rfl) id off
theorem fl8_1 (cs : List Value) : afield Tryz.prog 8 (.agg cs.toArray) 1 = cs[1]? := afield_one (f := (fieldT Tryz.prog 8 1).getD default) (by kernel_rfl) (by kernel_rfl) (by kernel_rfl) cs
theorem fa8_2 (id off : Nat) : afieldAddr Tryz.prog 8 (.pointer (some ⟨id, off, none⟩)) 2 = some (.pointer (some ⟨id, off + 2, none⟩)) := afieldAddr_at (n := 0) (f := (fieldT Tryz.prog 8 2).getD default) (by kernel_rfl) (by kernel_rfl) (by kernel_rfl) id off
theorem fl8_2 (cs : List Value) : afield Tryz.prog 8 (.agg cs.toArray) 2 = cs[2]? := afield_one (f := (fieldT Tryz.prog 8 2).getD default) (by kernel_rfl) (by kernel_rfl) (by kernel_rfl) cs
theorem fa8_3 (id off : Nat) : afieldAddr Tryz.prog 8 (.pointer (some ⟨id, off, none⟩)) 3 = some (.pointer (some ⟨id, off + 3, none⟩)) := afieldAddr_at (n := 0) (f := (fieldT Tryz.prog 8 3).getD default) (by kernel_rfl) (by kernel_rfl) (by kernel_rfl) id off
theorem fl8_3 (cs : List Value) : afield Tryz.prog 8 (.agg cs.toArray) 3 = cs[3]? := afield_one (f := (fieldT Tryz.prog 8 3).getD default) (by kernel_rfl) (by kernel_rfl) (by kernel_rfl) cs
theorem sz9 : szT Tryz.prog 9 = some 1 := by kernel_rfl
theorem ag9 : aggT Tryz.prog 9 = some false := by kernel_rfl
theorem ze9 : zeroT Tryz.prog 9 = some (.string ByteArray.empty) := by kernel_rfl
theorem pz9 : plainV 100 (.string ByteArray.empty) = true := by kernel_rfl
theorem inf9 : ∃ i, Tryz.prog.info? 9 = some i ∧ i.zero = some (.string ByteArray.empty) ∧ i.size = 1 ∧ i.bytes = 16 := by
  have h : (Tryz.prog.info? 9).map (fun i => (i.zero, i.size, i.bytes)) = some (some (.string ByteArray.empty), 1, 16) := by kernel_rfl
  obtain ⟨i, h1, h2⟩ := Option.map_eq_some_iff.1 h
  simp only [Prod.mk.injEq] at h2
  exact ⟨i, h1, h2.1, h2.2.1, h2.2.2⟩
theorem st9 (H : AHeap) (id off : Nat) (x : Value) : astoreT Tryz.prog H 9 (.pointer (some ⟨id, off, none⟩)) x = if x.cells.size = 1 ∧ x.cells.toList.all oneCell = true then ((H[id]?).bind (rowStore off x.cells.toList)).map fun o => H.set id o else none := astore_rule sz9 H id off x
theorem kd9 : kindT Tryz.prog 9 = .str := by kernel_rfl
theorem sz12 : szT Tryz.prog 12 = some 1 := by kernel_rfl
theorem ag12 : aggT Tryz.prog 12 = some false := by kernel_rfl
theorem ze12 : zeroT Tryz.prog 12 = some (.int .u64 0) := by kernel_rfl
theorem pz12 : plainV 100 (.int .u64 0) = true := by kernel_rfl
theorem inf12 : ∃ i, Tryz.prog.info? 12 = some i ∧ i.zero = some (.int .u64 0) ∧ i.size = 1 ∧ i.bytes = 8 := by
  have h : (Tryz.prog.info? 12).map (fun i => (i.zero, i.size, i.bytes)) = some (some (.int .u64 0), 1, 8) := by kernel_rfl
  obtain ⟨i, h1, h2⟩ := Option.map_eq_some_iff.1 h
  simp only [Prod.mk.injEq] at h2
  exact ⟨i, h1, h2.1, h2.2.1, h2.2.2⟩
theorem st12 (H : AHeap) (id off : Nat) (x : Value) : astoreT Tryz.prog H 12 (.pointer (some ⟨id, off, none⟩)) x = if x.cells.size = 1 ∧ x.cells.toList.all oneCell = true then ((H[id]?).bind (rowStore off x.cells.toList)).map fun o => H.set id o else none := astore_rule sz12 H id off x
theorem kd12 : kindT Tryz.prog 12 = .int .u64 := by kernel_rfl
theorem sz13 : szT Tryz.prog 13 = some 2 := by kernel_rfl
theorem ag13 : aggT Tryz.prog 13 = some true := by kernel_rfl
theorem ze13 : zeroT Tryz.prog 13 = some (.agg #[.string ByteArray.empty, .int .u64 0]) := by kernel_rfl
theorem pz13 : plainV 100 (.agg #[.string ByteArray.empty, .int .u64 0]) = true := by kernel_rfl
theorem inf13 : ∃ i, Tryz.prog.info? 13 = some i ∧ i.zero = some (.agg #[.string ByteArray.empty, .int .u64 0]) ∧ i.size = 2 ∧ i.bytes = 24 := by
  have h : (Tryz.prog.info? 13).map (fun i => (i.zero, i.size, i.bytes)) = some (some (.agg #[.string ByteArray.empty, .int .u64 0]), 2, 24) := by kernel_rfl
  obtain ⟨i, h1, h2⟩ := Option.map_eq_some_iff.1 h
  simp only [Prod.mk.injEq] at h2
  exact ⟨i, h1, h2.1, h2.2.1, h2.2.2⟩
theorem st13 (H : AHeap) (id off : Nat) (x : Value) : astoreT Tryz.prog H 13 (.pointer (some ⟨id, off, none⟩)) x = if x.cells.size = 2 ∧ x.cells.toList.all oneCell = true then ((H[id]?).bind (rowStore off x.cells.toList)).map fun o => H.set id o else none := astore_rule sz13 H id off x
theorem fa13_0 (id off : Nat) : afieldAddr Tryz.prog 13 (.pointer (some ⟨id, off, none⟩)) 0 = some (.pointer (some ⟨id, off + 0, none⟩)) := afieldAddr_at (n := 0) (f := (fieldT Tryz.prog 13 0).getD default) (by kernel_rfl) (by kernel_rfl) (by kernel_rfl) id off
theorem fl13_0 (cs : List Value) : afield Tryz.prog 13 (.agg cs.toArray) 0 = cs[0]? := afield_one (f := (fieldT Tryz.prog 13 0).getD default) (by kernel_rfl) (by kernel_rfl) (by kernel_rfl) cs
theorem fa13_1 (id off : Nat) : afieldAddr Tryz.prog 13 (.pointer (some ⟨id, off, none⟩)) 1 = some (.pointer (some ⟨id, off + 1, none⟩)) := afieldAddr_at (n := 0) (f := (fieldT Tryz.prog 13 1).getD default) (by kernel_rfl) (by kernel_rfl) (by kernel_rfl) id off
theorem fl13_1 (cs : List Value) : afield Tryz.prog 13 (.agg cs.toArray) 1 = cs[1]? := afield_one (f := (fieldT Tryz.prog 13 1).getD default) (by kernel_rfl) (by kernel_rfl) (by kernel_rfl) cs
theorem sz22 : szT Tryz.prog 22 = some 2 := by kernel_rfl
theorem ag22 : aggT Tryz.prog 22 = some true := by kernel_rfl
theorem ze22 : zeroT Tryz.prog 22 = some (.agg #[.int .i64 0, .int .i64 0]) := by kernel_rfl
theorem pz22 : plainV 100 (.agg #[.int .i64 0, .int .i64 0]) = true := by kernel_rfl
theorem inf22 : ∃ i, Tryz.prog.info? 22 = some i ∧ i.zero = some (.agg #[.int .i64 0, .int .i64 0]) ∧ i.size = 2 ∧ i.bytes = 16 := by
  have h : (Tryz.prog.info? 22).map (fun i => (i.zero, i.size, i.bytes)) = some (some (.agg #[.int .i64 0, .int .i64 0]), 2, 16) := by kernel_rfl
  obtain ⟨i, h1, h2⟩ := Option.map_eq_some_iff.1 h
  simp only [Prod.mk.injEq] at h2
  exact ⟨i, h1, h2.1, h2.2.1, h2.2.2⟩
theorem st22 (H : AHeap) (id off : Nat) (x : Value) : astoreT Tryz.prog H 22 (.pointer (some ⟨id, off, none⟩)) x = if x.cells.size = 2 ∧ x.cells.toList.all oneCell = true then ((H[id]?).bind (rowStore off x.cells.toList)).map fun o => H.set id o else none := astore_rule sz22 H id off x
theorem fa22_0 (id off : Nat) : afieldAddr Tryz.prog 22 (.pointer (some ⟨id, off, none⟩)) 0 = some (.pointer (some ⟨id, off + 0, none⟩)) := afieldAddr_at (n := 0) (f := (fieldT Tryz.prog 22 0).getD default) (by kernel_rfl) (by kernel_rfl) (by kernel_rfl) id off
theorem fl22_0 (cs : List Value) : afield Tryz.prog 22 (.agg cs.toArray) 0 = cs[0]? := afield_one (f := (fieldT Tryz.prog 22 0).getD default) (by kernel_rfl) (by kernel_rfl) (by kernel_rfl) cs
theorem fa22_1 (id off : Nat) : afieldAddr Tryz.prog 22 (.pointer (some ⟨id, off, none⟩)) 1 = some (.pointer (some ⟨id, off + 1, none⟩)) := afieldAddr_at (n := 0) (f := (fieldT Tryz.prog 22 1).getD default) (by kernel_rfl) (by kernel_rfl) (by kernel_rfl) id off
theorem fl22_1 (cs : List Value) : afield Tryz.prog 22 (.agg cs.toArray) 1 = cs[1]? := afield_one (f := (fieldT Tryz.prog 22 1).getD default) (by kernel_rfl) (by kernel_rfl) (by kernel_rfl) cs
theorem sz23 : szT Tryz.prog 23 = some 2 := by kernel_rfl
theorem ag23 : aggT Tryz.prog 23 = some true := by kernel_rfl
theorem ze23 : zeroT Tryz.prog 23 = some (.agg #[.int .i64 0, .int .i64 0]) := by kernel_rfl
theorem inf23 : ∃ i, Tryz.prog.info? 23 = some i ∧ i.zero = some (.agg #[.int .i64 0, .int .i64 0]) ∧ i.size = 2 ∧ i.bytes = 16 := by
  have h : (Tryz.prog.info? 23).map (fun i => (i.zero, i.size, i.bytes)) = some (some (.agg #[.int .i64 0, .int .i64 0]), 2, 16) := by kernel_rfl
  obtain ⟨i, h1, h2⟩ := Option.map_eq_some_iff.1 h
  simp only [Prod.mk.injEq] at h2
  exact ⟨i, h1, h2.1, h2.2.1, h2.2.2⟩
theorem st23 (H : AHeap) (id off : Nat) (x : Value) : astoreT Tryz.prog H 23 (.pointer (some ⟨id, off, none⟩)) x = if x.cells.size = 2 ∧ x.cells.toList.all oneCell = true then ((H[id]?).bind (rowStore off x.cells.toList)).map fun o => H.set id o else none := astore_rule sz23 H id off x
theorem fa23_0 (id off : Nat) : afieldAddr Tryz.prog 23 (.pointer (some ⟨id, off, none⟩)) 0 = some (.pointer (some ⟨id, off + 0, none⟩)) := afieldAddr_at (n := 0) (f := (fieldT Tryz.prog 23 0).getD default) (by kernel_rfl) (by kernel_rfl) (by kernel_rfl) id off
theorem fl23_0 (cs : List Value) : afield Tryz.prog 23 (.agg cs.toArray) 0 = cs[0]? := afield_one (f := (fieldT Tryz.prog 23 0).getD default) (by kernel_rfl) (by kernel_rfl) (by kernel_rfl) cs
theorem fa23_1 (id off : Nat) : afieldAddr Tryz.prog 23 (.pointer (some ⟨id, off, none⟩)) 1 = some (.pointer (some ⟨id, off + 1, none⟩)) := afieldAddr_at (n := 0) (f := (fieldT Tryz.prog 23 1).getD default) (by kernel_rfl) (by kernel_rfl) (by kernel_rfl) id off
theorem fl23_1 (cs : List Value) : afield Tryz.prog 23 (.agg cs.toArray) 1 = cs[1]? := afield_one (f := (fieldT Tryz.prog 23 1).getD default) (by kernel_rfl) (by kernel_rfl) (by kernel_rfl) cs
theorem sz24 : szT Tryz.prog 24 = some 10 := by kernel_rfl
theorem ag24 : aggT Tryz.prog 24 = some true := by kernel_rfl
theorem ze24 : zeroT Tryz.prog 24 = some (.agg #[.int .i64 0, .int .i64 0, .int .i64 0, .int .i64 0, .int .i64 0, .int .i64 0, .int .i64 0, .int .i64 0, .int .i64 0, .int .i64 0]) := by kernel_rfl
theorem pz24 : plainV 100 (.agg #[.int .i64 0, .int .i64 0, .int .i64 0, .int .i64 0, .int .i64 0, .int .i64 0, .int .i64 0, .int .i64 0, .int .i64 0, .int .i64 0]) = true := by kernel_rfl
theorem inf24 : ∃ i, Tryz.prog.info? 24 = some i ∧ i.zero = some (.agg #[.int .i64 0, .int .i64 0, .int .i64 0, .int .i64 0, .int .i64 0, .int .i64 0, .int .i64 0, .int .i64 0, .int .i64 0, .int .i64 0]) ∧ i.size = 10 ∧ i.bytes = 80 := by
  have h : (Tryz.prog.info? 24).map (fun i => (i.zero, i.size, i.bytes)) = some (some (.agg #[.int .i64 0, .int .i64 0, .int .i64 0, .int .i64 0, .int .i64 0, .int .i64 0, .int .i64 0, .int .i64 0, .int .i64 0, .int .i64 0]), 10, 80) := by kernel_rfl
  obtain ⟨i, h1, h2⟩ := Option.map_eq_some_iff.1 h
  simp only [Prod.mk.injEq] at h2
  exact ⟨i, h1, h2.1, h2.2.1, h2.2.2⟩
theorem st24 (H : AHeap) (id off : Nat) (x : Value) : astoreT Tryz.prog H 24 (.pointer (some ⟨id, off, none⟩)) x = if x.cells.size = 10 ∧ x.cells.toList.all oneCell = true then ((H[id]?).bind (rowStore off x.cells.toList)).map fun o => H.set id o else none := astore_rule sz24 H id off x
theorem fa24_0 (id off : Nat) : afieldAddr Tryz.prog 24 (.pointer (some ⟨id, off, none⟩)) 0 = some (.pointer (some ⟨id, off + 0, none⟩)) := afieldAddr_at (n := 1) (f := (fieldT Tryz.prog 24 0).getD default) (by kernel_rfl) (by kernel_rfl) (by kernel_rfl) id off
theorem fl24_0 (cs : List Value) : afield Tryz.prog 24 (.agg cs.toArray) 0 = some (.agg ((cs.drop 0).take 2).toArray) := afield_agg (f := (fieldT Tryz.prog 24 0).getD default) (by kernel_rfl) (by kernel_rfl) (by kernel_rfl) (by kernel_rfl) cs
theorem fa24_1 (id off : Nat) : afieldAddr Tryz.prog 24 (.pointer (some ⟨id, off, none⟩)) 1 = some (.pointer (some ⟨id, off + 2, none⟩)) := afieldAddr_at (n := 0) (f := (fieldT Tryz.prog 24 1).getD default) (by kernel_rfl) (by kernel_rfl) (by kernel_rfl) id off
theorem fl24_1 (cs : List Value) : afield Tryz.prog 24 (.agg cs.toArray) 1 = cs[2]? := afield_one (f := (fieldT Tryz.prog 24 1).getD default) (by kernel_rfl) (by kernel_rfl) (by kernel_rfl) cs
theorem fa24_2 (id off : Nat) : afieldAddr Tryz.prog 24 (.pointer (some ⟨id, off, none⟩)) 2 = some (.pointer (some ⟨id, off + 3, none⟩)) := afieldAddr_at (n := 0) (f := (fieldT Tryz.prog 24 2).getD default) (by kernel_rfl) (by kernel_rfl) (by kernel_rfl) id off
theorem fl24_2 (cs : List Value) : afield Tryz.prog 24 (.agg cs.toArray) 2 = cs[3]? := afield_one (f := (fieldT Tryz.prog 24 2).getD default) (by kernel_rfl) (by kernel_rfl) (by kernel_rfl) cs
theorem fa24_3 (id off : Nat) : afieldAddr Tryz.prog 24 (.pointer (some ⟨id, off, none⟩)) 3 = some (.pointer (some ⟨id, off + 4, none⟩)) := afieldAddr_at (n := 0) (f := (fieldT Tryz.prog 24 3).getD default) (by kernel_rfl) (by kernel_rfl) (by kernel_rfl) id off
theorem fl24_3 (cs : List Value) : afield Tryz.prog 24 (.agg cs.toArray) 3 = cs[4]? := afield_one (f := (fieldT Tryz.prog 24 3).getD default) (by kernel_rfl) (by kernel_rfl) (by kernel_rfl) cs
theorem fa24_4 (id off : Nat) : afieldAddr Tryz.prog 24 (.pointer (some ⟨id, off, none⟩)) 4 = some (.pointer (some ⟨id, off + 5, none⟩)) := afieldAddr_at (n := 0) (f := (fieldT Tryz.prog 24 4).getD default) (by kernel_rfl) (by kernel_rfl) (by kernel_rfl) id off
theorem fl24_4 (cs : List Value) : afield Tryz.prog 24 (.agg cs.toArray) 4 = cs[5]? := afield_one (f := (fieldT Tryz.prog 24 4).getD default) (by kernel_rfl) (by kernel_rfl) (by kernel_rfl) cs
theorem fa24_5 (id off : Nat) : afieldAddr Tryz.prog 24 (.pointer (some ⟨id, off, none⟩)) 5 = some (.pointer (some ⟨id, off + 6, none⟩)) := afieldAddr_at (n := 0) (f := (fieldT Tryz.prog 24 5).getD default) (by kernel_rfl) (by kernel_rfl) (by kernel_rfl) id off
theorem fl24_5 (cs : List Value) : afield Tryz.prog 24 (.agg cs.toArray) 5 = cs[6]? := afield_one (f := (fieldT Tryz.prog 24 5).getD default) (by kernel_rfl) (by kernel_rfl) (by kernel_rfl) cs
theorem fa24_6 (id off : Nat) : afieldAddr Tryz.prog 24 (.pointer (some ⟨id, off, none⟩)) 6 = some (.pointer (some ⟨id, off + 7, none⟩)) := afieldAddr_at (n := 0) (f := (fieldT Tryz.prog 24 6).getD default) (by kernel_rfl) (by kernel_rfl) (by kernel_rfl) id off
theorem fl24_6 (cs : List Value) : afield Tryz.prog 24 (.agg cs.toArray) 6 = cs[7]? := afield_one (f := (fieldT Tryz.prog 24 6).getD default) (by kernel_rfl) (by kernel_rfl) (by kernel_rfl) cs
theorem fa24_7 (id off : Nat) : afieldAddr Tryz.prog 24 (.pointer (some ⟨id, off, none⟩)) 7 = some (.pointer (some ⟨id, off + 8, none⟩)) := afieldAddr_at (n := 0) (f := (fieldT Tryz.prog 24 7).getD default) (by kernel_rfl) (by kernel_rfl) (by kernel_rfl) id off
theorem fl24_7 (cs : List Value) : afield Tryz.prog 24 (.agg cs.toArray) 7 = cs[8]? := afield_one (f := (fieldT Tryz.prog 24 7).getD default) (by kernel_rfl) (by kernel_rfl) (by kernel_rfl) cs
theorem fa24_8 (id off : Nat) : afieldAddr Tryz.prog 24 (.pointer (some ⟨id, off, none⟩)) 8 = some (.pointer (some ⟨id, off + 9, none⟩)) := afieldAddr_at (n := 0) (f := (fieldT Tryz.prog 24 8).getD default) (by kernel_rfl) (by kernel_rfl) (by kernel_rfl) id off
theorem fl24_8 (cs : List Value) : afield Tryz.prog 24 (.agg cs.toArray) 8 = cs[9]? := afield_one (f := (fieldT Tryz.prog 24 8).getD default) (by kernel_rfl) (by kernel_rfl) (by kernel_rfl) cs
theorem sz25 : szT Tryz.prog 25 = some 10 := by kernel_rfl
theorem ag25 : aggT Tryz.prog 25 = some true := by kernel_rfl
theorem ze25 : zeroT Tryz.prog 25 = some (.agg #[.int .i64 0, .int .i64 0, .int .i64 0, .int .i64 0, .int .i64 0, .int .i64 0, .int .i64 0, .int .i64 0, .int .i64 0, .int .i64 0]) := by kernel_rfl
theorem inf25 : ∃ i, Tryz.prog.info? 25 = some i ∧ i.zero = some (.agg #[.int .i64 0, .int .i64 0, .int .i64 0, .int .i64 0, .int .i64 0, .int .i64 0, .int .i64 0, .int .i64 0, .int .i64 0, .int .i64 0]) ∧ i.size = 10 ∧ i.bytes = 80 := by
  have h : (Tryz.prog.info? 25).map (fun i => (i.zero, i.size, i.bytes)) = some (some (.agg #[.int .i64 0, .int .i64 0, .int .i64 0, .int .i64 0, .int .i64 0, .int .i64 0, .int .i64 0, .int .i64 0, .int .i64 0, .int .i64 0]), 10, 80) := by kernel_rfl
  obtain ⟨i, h1, h2⟩ := Option.map_eq_some_iff.1 h
  simp only [Prod.mk.injEq] at h2
  exact ⟨i, h1, h2.1, h2.2.1, h2.2.2⟩
theorem st25 (H : AHeap) (id off : Nat) (x : Value) : astoreT Tryz.prog H 25 (.pointer (some ⟨id, off, none⟩)) x = if x.cells.size = 10 ∧ x.cells.toList.all oneCell = true then ((H[id]?).bind (rowStore off x.cells.toList)).map fun o => H.set id o else none := astore_rule sz25 H id off x
theorem fa25_0 (id off : Nat) : afieldAddr Tryz.prog 25 (.pointer (some ⟨id, off, none⟩)) 0 = some (.pointer (some ⟨id, off + 0, none⟩)) := afieldAddr_at (n := 1) (f := (fieldT Tryz.prog 25 0).getD default) (by kernel_rfl) (by kernel_rfl) (by kernel_rfl) id off
theorem fl25_0 (cs : List Value) : afield Tryz.prog 25 (.agg cs.toArray) 0 = some (.agg ((cs.drop 0).take 2).toArray) := afield_agg (f := (fieldT Tryz.prog 25 0).getD default) (by kernel_rfl) (by kernel_rfl) (by kernel_rfl) (by kernel_rfl) cs
theorem fa25_1 (id off : Nat) : afieldAddr Tryz.prog 25 (.pointer (some ⟨id, off, none⟩)) 1 = some (.pointer (some ⟨id, off + 2, none⟩)) := afieldAddr_at (n := 0) (f := (fieldT Tryz.prog 25 1).getD default) (by kernel_rfl) (by kernel_rfl) (by kernel_rfl) id off
theorem fl25_1 (cs : List Value) : afield Tryz.prog 25 (.agg cs.toArray) 1 = cs[2]? := afield_one (f := (fieldT Tryz.prog 25 1).getD default) (by kernel_rfl) (by kernel_rfl) (by kernel_rfl) cs
theorem fa25_2 (id off : Nat) : afieldAddr Tryz.prog 25 (.pointer (some ⟨id, off, none⟩)) 2 = some (.pointer (some ⟨id, off + 3, none⟩)) := afieldAddr_at (n := 0) (f := (fieldT Tryz.prog 25 2).getD default) (by kernel_rfl) (by kernel_rfl) (by kernel_rfl) id off
theorem fl25_2 (cs : List Value) : afield Tryz.prog 25 (.agg cs.toArray) 2 = cs[3]? := afield_one (f := (fieldT Tryz.prog 25 2).getD default) (by kernel_rfl) (by kernel_rfl) (by kernel_rfl) cs
theorem fa25_3 (id off : Nat) : afieldAddr Tryz.prog 25 (.pointer (some ⟨id, off, none⟩)) 3 = some (.pointer (some ⟨id, off + 4, none⟩)) := afieldAddr_at (n := 0) (f := (fieldT Tryz.prog 25 3).getD default) (by kernel_rfl) (by kernel_rfl) (by kernel_rfl) id off
theorem fl25_3 (cs : List Value) : afield Tryz.prog 25 (.agg cs.toArray) 3 = cs[4]? := afield_one (f := (fieldT Tryz.prog 25 3).getD default) (by kernel_rfl) (by kernel_rfl) (by kernel_rfl) cs
theorem fa25_4 (id off : Nat) : afieldAddr Tryz.prog 25 (.pointer (some ⟨id, off, none⟩)) 4 = some (.pointer (some ⟨id, off + 5, none⟩)) := afieldAddr_at (n := 0) (f := (fieldT Tryz.prog 25 4).getD default) (by kernel_rfl) (by kernel_rfl) (by kernel_rfl) id off
theorem fl25_4 (cs : List Value) : afield Tryz.prog 25 (.agg cs.toArray) 4 = cs[5]? := afield_one (f := (fieldT Tryz.prog 25 4).getD default) (by kernel_rfl) (by kernel_rfl) (by kernel_rfl) cs
theorem fa25_5 (id off : Nat) : afieldAddr Tryz.prog 25 (.pointer (some ⟨id, off, none⟩)) 5 = some (.pointer (some ⟨id, off + 6, none⟩)) := afieldAddr_at (n := 0) (f := (fieldT Tryz.prog 25 5).getD default) (by kernel_rfl) (by kernel_rfl) (by kernel_rfl) id off
theorem fl25_5 (cs : List Value) : afield Tryz.prog 25 (.agg cs.toArray) 5 = cs[6]? := afield_one (f := (fieldT Tryz.prog 25 5).getD default) (by kernel_rfl) (by kernel_rfl) (by kernel_rfl) cs
theorem fa25_6 (id off : Nat) : afieldAddr Tryz.prog 25 (.pointer (some ⟨id, off, none⟩)) 6 = some (.pointer (some ⟨id, off + 7, none⟩)) := afieldAddr_at (n := 0) (f := (fieldT Tryz.prog 25 6).getD default) (by kernel_rfl) (by kernel_rfl) (by kernel_rfl) id off
theorem fl25_6 (cs : List Value) : afield Tryz.prog 25 (.agg cs.toArray) 6 = cs[7]? := afield_one (f := (fieldT Tryz.prog 25 6).getD default) (by kernel_rfl) (by kernel_rfl) (by kernel_rfl) cs
theorem fa25_7 (id off : Nat) : afieldAddr Tryz.prog 25 (.pointer (some ⟨id, off, none⟩)) 7 = some (.pointer (some ⟨id, off + 8, none⟩)) := afieldAddr_at (n := 0) (f := (fieldT Tryz.prog 25 7).getD default) (by kernel_rfl) (by kernel_rfl) (by kernel_rfl) id off
theorem fl25_7 (cs : List Value) : afield Tryz.prog 25 (.agg cs.toArray) 7 = cs[8]? := afield_one (f := (fieldT Tryz.prog 25 7).getD default) (by kernel_rfl) (by kernel_rfl) (by kernel_rfl) cs
theorem fa25_8 (id off : Nat) : afieldAddr Tryz.prog 25 (.pointer (some ⟨id, off, none⟩)) 8 = some (.pointer (some ⟨id, off + 9, none⟩)) := afieldAddr_at (n := 0) (f := (fieldT Tryz.prog 25 8).getD default) (by kernel_rfl) (by kernel_rfl) (by kernel_rfl) id off
theorem fl25_8 (cs : List Value) : afield Tryz.prog 25 (.agg cs.toArray) 8 = cs[9]? := afield_one (f := (fieldT Tryz.prog 25 8).getD default) (by kernel_rfl) (by kernel_rfl) (by kernel_rfl) cs
theorem sz26 : szT Tryz.prog 26 = some 2 := by kernel_rfl
theorem ag26 : aggT Tryz.prog 26 = some true := by kernel_rfl
theorem ze26 : zeroT Tryz.prog 26 = some (.agg #[.int .i64 0, .int .i64 0]) := by kernel_rfl
theorem inf26 : ∃ i, Tryz.prog.info? 26 = some i ∧ i.zero = some (.agg #[.int .i64 0, .int .i64 0]) ∧ i.size = 2 ∧ i.bytes = 16 := by
  have h : (Tryz.prog.info? 26).map (fun i => (i.zero, i.size, i.bytes)) = some (some (.agg #[.int .i64 0, .int .i64 0]), 2, 16) := by kernel_rfl
  obtain ⟨i, h1, h2⟩ := Option.map_eq_some_iff.1 h
  simp only [Prod.mk.injEq] at h2
  exact ⟨i, h1, h2.1, h2.2.1, h2.2.2⟩
theorem st26 (H : AHeap) (id off : Nat) (x : Value) : astoreT Tryz.prog H 26 (.pointer (some ⟨id, off, none⟩)) x = if x.cells.size = 2 ∧ x.cells.toList.all oneCell = true then ((H[id]?).bind (rowStore off x.cells.toList)).map fun o => H.set id o else none := astore_rule sz26 H id off x
theorem fa26_0 (id off : Nat) : afieldAddr Tryz.prog 26 (.pointer (some ⟨id, off, none⟩)) 0 = some (.pointer (some ⟨id, off + 0, none⟩)) := afieldAddr_at (n := 0) (f := (fieldT Tryz.prog 26 0).getD default) (by kernel_rfl) (by kernel_rfl) (by kernel_rfl) id off
theorem fl26_0 (cs : List Value) : afield Tryz.prog 26 (.agg cs.toArray) 0 = cs[0]? := afield_one (f := (fieldT Tryz.prog 26 0).getD default) (by kernel_rfl) (by kernel_rfl) (by kernel_rfl) cs
theorem fa26_1 (id off : Nat) : afieldAddr Tryz.prog 26 (.pointer (some ⟨id, off, none⟩)) 1 = some (.pointer (some ⟨id, off + 1, none⟩)) := afieldAddr_at (n := 0) (f := (fieldT Tryz.prog 26 1).getD default) (by kernel_rfl) (by kernel_rfl) (by kernel_rfl) id off
theorem fl26_1 (cs : List Value) : afield Tryz.prog 26 (.agg cs.toArray) 1 = cs[1]? := afield_one (f := (fieldT Tryz.prog 26 1).getD default) (by kernel_rfl) (by kernel_rfl) (by kernel_rfl) cs
theorem sz27 : szT Tryz.prog 27 = some 2 := by kernel_rfl
theorem ag27 : aggT Tryz.prog 27 = some true := by kernel_rfl
theorem ze27 : zeroT Tryz.prog 27 = some (.agg #[.int .i64 0, .int .i64 0]) := by kernel_rfl
theorem inf27 : ∃ i, Tryz.prog.info? 27 = some i ∧ i.zero = some (.agg #[.int .i64 0, .int .i64 0]) ∧ i.size = 2 ∧ i.bytes = 16 := by
  have h : (Tryz.prog.info? 27).map (fun i => (i.zero, i.size, i.bytes)) = some (some (.agg #[.int .i64 0, .int .i64 0]), 2, 16) := by kernel_rfl
  obtain ⟨i, h1, h2⟩ := Option.map_eq_some_iff.1 h
  simp only [Prod.mk.injEq] at h2
  exact ⟨i, h1, h2.1, h2.2.1, h2.2.2⟩
theorem st27 (H : AHeap) (id off : Nat) (x : Value) : astoreT Tryz.prog H 27 (.pointer (some ⟨id, off, none⟩)) x = if x.cells.size = 2 ∧ x.cells.toList.all oneCell = true then ((H[id]?).bind (rowStore off x.cells.toList)).map fun o => H.set id o else none := astore_rule sz27 H id off x
theorem fa27_0 (id off : Nat) : afieldAddr Tryz.prog 27 (.pointer (some ⟨id, off, none⟩)) 0 = some (.pointer (some ⟨id, off + 0, none⟩)) := afieldAddr_at (n := 0) (f := (fieldT Tryz.prog 27 0).getD default) (by kernel_rfl) (by kernel_rfl) (by kernel_rfl) id off
theorem fl27_0 (cs : List Value) : afield Tryz.prog 27 (.agg cs.toArray) 0 = cs[0]? := afield_one (f := (fieldT Tryz.prog 27 0).getD default) (by kernel_rfl) (by kernel_rfl) (by kernel_rfl) cs
theorem fa27_1 (id off : Nat) : afieldAddr Tryz.prog 27 (.pointer (some ⟨id, off, none⟩)) 1 = some (.pointer (some ⟨id, off + 1, none⟩)) := afieldAddr_at (n := 0) (f := (fieldT Tryz.prog 27 1).getD default) (by kernel_rfl) (by kernel_rfl) (by kernel_rfl) id off
theorem fl27_1 (cs : List Value) : afield Tryz.prog 27 (.agg cs.toArray) 1 = cs[1]? := afield_one (f := (fieldT Tryz.prog 27 1).getD default) (by kernel_rfl) (by kernel_rfl) (by kernel_rfl) cs
theorem sz29 : szT Tryz.prog 29 = some 1 := by kernel_rfl
theorem ag29 : aggT Tryz.prog 29 = some false := by kernel_rfl
theorem ze29 : zeroT Tryz.prog 29 = some (.pointer none) := by kernel_rfl
theorem pz29 : plainV 100 (.pointer none) = true := by kernel_rfl
theorem inf29 : ∃ i, Tryz.prog.info? 29 = some i ∧ i.zero = some (.pointer none) ∧ i.size = 1 ∧ i.bytes = 8 := by
  have h : (Tryz.prog.info? 29).map (fun i => (i.zero, i.size, i.bytes)) = some (some (.pointer none), 1, 8) := by kernel_rfl
  obtain ⟨i, h1, h2⟩ := Option.map_eq_some_iff.1 h
  simp only [Prod.mk.injEq] at h2
  exact ⟨i, h1, h2.1, h2.2.1, h2.2.2⟩
theorem st29 (H : AHeap) (id off : Nat) (x : Value) : astoreT Tryz.prog H 29 (.pointer (some ⟨id, off, none⟩)) x = if x.cells.size = 1 ∧ x.cells.toList.all oneCell = true then ((H[id]?).bind (rowStore off x.cells.toList)).map fun o => H.set id o else none := astore_rule sz29 H id off x
theorem en29 (H : AHeap) (xo yo : Operand) (a : Option Addr) : abin Tryz.prog H .eql 29 xo yo (.pointer a) (.pointer none) = some (.bool a.isNone) := abin_eq_ptrnil (e := 82) (by kernel_rfl) H xo yo a
theorem nn29 (H : AHeap) (xo yo : Operand) (a : Option Addr) : abin Tryz.prog H .neq 29 xo yo (.pointer a) (.pointer none) = some (.bool !a.isNone) := abin_ne_ptrnil (e := 82) (by kernel_rfl) H xo yo a
theorem sz30 : szT Tryz.prog 30 = some 1 := by kernel_rfl
theorem ag30 : aggT Tryz.prog 30 = some false := by kernel_rfl
theorem ze30 : zeroT Tryz.prog 30 = some (.int .i64 0) := by kernel_rfl
theorem inf30 : ∃ i, Tryz.prog.info? 30 = some i ∧ i.zero = some (.int .i64 0) ∧ i.size = 1 ∧ i.bytes = 8 := by
  have h : (Tryz.prog.info? 30).map (fun i => (i.zero, i.size, i.bytes)) = some (some (.int .i64 0), 1, 8) := by kernel_rfl
  obtain ⟨i, h1, h2⟩ := Option.map_eq_some_iff.1 h
  simp only [Prod.mk.injEq] at h2
  exact ⟨i, h1, h2.1, h2.2.1, h2.2.2⟩
theorem st30 (H : AHeap) (id off : Nat) (x : Value) : astoreT Tryz.prog H 30 (.pointer (some ⟨id, off, none⟩)) x = if x.cells.size = 1 ∧ x.cells.toList.all oneCell = true then ((H[id]?).bind (rowStore off x.cells.toList)).map fun o => H.set id o else none := astore_rule sz30 H id off x
theorem kd30 : kindT Tryz.prog 30 = .int .i64 := by kernel_rfl
theorem sz34 : szT Tryz.prog 34 = some 1 := by kernel_rfl
theorem ag34 : aggT Tryz.prog 34 = some false := by kernel_rfl
theorem ze34 : zeroT Tryz.prog 34 = some (.int .u64 0) := by kernel_rfl
theorem inf34 : ∃ i, Tryz.prog.info? 34 = some i ∧ i.zero = some (.int .u64 0) ∧ i.size = 1 ∧ i.bytes = 8 := by
  have h : (Tryz.prog.info? 34).map (fun i => (i.zero, i.size, i.bytes)) = some (some (.int .u64 0), 1, 8) := by kernel_rfl
  obtain ⟨i, h1, h2⟩ := Option.map_eq_some_iff.1 h
  simp only [Prod.mk.injEq] at h2
  exact ⟨i, h1, h2.1, h2.2.1, h2.2.2⟩
theorem st34 (H : AHeap) (id off : Nat) (x : Value) : astoreT Tryz.prog H 34 (.pointer (some ⟨id, off, none⟩)) x = if x.cells.size = 1 ∧ x.cells.toList.all oneCell = true then ((H[id]?).bind (rowStore off x.cells.toList)).map fun o => H.set id o else none := astore_rule sz34 H id off x
theorem kd34 : kindT Tryz.prog 34 = .int .u64 := by kernel_rfl
theorem sz35 : szT Tryz.prog 35 = some 1 := by kernel_rfl
theorem ag35 : aggT Tryz.prog 35 = some false := by kernel_rfl
theorem ze35 : zeroT Tryz.prog 35 = some (.slice none 0 0) := by kernel_rfl
theorem pz35 : plainV 100 (.slice none 0 0) = true := by kernel_rfl
theorem inf35 : ∃ i, Tryz.prog.info? 35 = some i ∧ i.zero = some (.slice none 0 0) ∧ i.size = 1 ∧ i.bytes = 24 := by
  have h : (Tryz.prog.info? 35).map (fun i => (i.zero, i.size, i.bytes)) = some (some (.slice none 0 0), 1, 24) := by kernel_rfl
  obtain ⟨i, h1, h2⟩ := Option.map_eq_some_iff.1 h
  simp only [Prod.mk.injEq] at h2
  exact ⟨i, h1, h2.1, h2.2.1, h2.2.2⟩
theorem st35 (H : AHeap) (id off : Nat) (x : Value) : astoreT Tryz.prog H 35 (.pointer (some ⟨id, off, none⟩)) x = if x.cells.size = 1 ∧ x.cells.toList.all oneCell = true then ((H[id]?).bind (rowStore off x.cells.toList)).map fun o => H.set id o else none := astore_rule sz35 H id off x
theorem un35 : Tryz.prog.underlying 35 = some (.slice 9) := by kernel_rfl
theorem el35 : elemT Tryz.prog 35 = some 9 := by kernel_rfl
theorem ln35 (H : AHeap) (a : Option Addr) (m c : Nat) : alen Tryz.prog H 35 (.slice a m c) = some (.int .i64 m) := alen_slice un35 H a m c
theorem cp35 (a : Addr) (m c : Nat) : acap Tryz.prog 35 (.slice (some a) m c) = if c = 0 then none else some (.int .i64 c) := acap_slice un35 a m c
theorem ix35 (id off m c : Nat) (ik : IntKind) (i : Int) : aindexAddr Tryz.prog 35 (.slice (some ⟨id, off, none⟩) m c) (.int ik i) = if 0 ≤ i ∧ i < m then some (.pointer (some ⟨id, off + i.toNat * 1, none⟩)) else none := aindexAddr_at un35 (by kernel_rfl) id off m c ik i
theorem en35 (H : AHeap) (xo yo : Operand) (a : Option Addr) (n c m q : Nat) : abin Tryz.prog H .eql 35 xo yo (.slice a n c) (.slice none m q) = some (.bool a.isNone) := abin_eq_slnil un35 H xo yo a n c m q
theorem nn35 (H : AHeap) (xo yo : Operand) (a : Option Addr) (n c m q : Nat) : abin Tryz.prog H .neq 35 xo yo (.slice a n c) (.slice none m q) = some (.bool !a.isNone) := abin_ne_slnil un35 H xo yo a n c m q
theorem sc35 (H : AHeap) (a : Option Addr) (n c : Nat) (lo hi : Option Value) : aslice Tryz.prog H 35 (.slice a n c) lo hi none = (optB hi (some n) (capOf n c)).bind fun h => (optB lo (some 0) h).bind fun l => cut H 1 a c l h := aslice_sl un35 (by kernel_rfl) H a n c lo hi
theorem sz36 : szT Tryz.prog 36 = some 1 := by kernel_rfl
theorem ag36 : aggT Tryz.prog 36 = some false := by kernel_rfl
theorem ze36 : zeroT Tryz.prog 36 = some (.slice none 0 0) := by kernel_rfl
theorem inf36 : ∃ i, Tryz.prog.info? 36 = some i ∧ i.zero = some (.slice none 0 0) ∧ i.size = 1 ∧ i.bytes = 24 := by
  have h : (Tryz.prog.info? 36).map (fun i => (i.zero, i.size, i.bytes)) = some (some (.slice none 0 0), 1, 24) := by kernel_rfl
  obtain ⟨i, h1, h2⟩ := Option.map_eq_some_iff.1 h
  simp only [Prod.mk.injEq] at h2
  exact ⟨i, h1, h2.1, h2.2.1, h2.2.2⟩
theorem st36 (H : AHeap) (id off : Nat) (x : Value) : astoreT Tryz.prog H 36 (.pointer (some ⟨id, off, none⟩)) x = if x.cells.size = 1 ∧ x.cells.toList.all oneCell = true then ((H[id]?).bind (rowStore off x.cells.toList)).map fun o => H.set id o else none := astore_rule sz36 H id off x
theorem un36 : Tryz.prog.underlying 36 = some (.slice 2) := by kernel_rfl
theorem el36 : elemT Tryz.prog 36 = some 2 := by kernel_rfl
theorem ln36 (H : AHeap) (a : Option Addr) (m c : Nat) : alen Tryz.prog H 36 (.slice a m c) = some (.int .i64 m) := alen_slice un36 H a m c
theorem cp36 (a : Addr) (m c : Nat) : acap Tryz.prog 36 (.slice (some a) m c) = if c = 0 then none else some (.int .i64 c) := acap_slice un36 a m c
theorem ix36 (id off m c : Nat) (ik : IntKind) (i : Int) : aindexAddr Tryz.prog 36 (.slice (some ⟨id, off, none⟩) m c) (.int ik i) = if 0 ≤ i ∧ i < m then some (.pointer (some ⟨id, off + i.toNat * 1, none⟩)) else none := aindexAddr_at un36 (by kernel_rfl) id off m c ik i
theorem en36 (H : AHeap) (xo yo : Operand) (a : Option Addr) (n c m q : Nat) : abin Tryz.prog H .eql 36 xo yo (.slice a n c) (.slice none m q) = some (.bool a.isNone) := abin_eq_slnil un36 H xo yo a n c m q
theorem nn36 (H : AHeap) (xo yo : Operand) (a : Option Addr) (n c m q : Nat) : abin Tryz.prog H .neq 36 xo yo (.slice a n c) (.slice none m q) = some (.bool !a.isNone) := abin_ne_slnil un36 H xo yo a n c m q
theorem sc36 (H : AHeap) (a : Option Addr) (n c : Nat) (lo hi : Option Value) : aslice Tryz.prog H 36 (.slice a n c) lo hi none = (optB hi (some n) (capOf n c)).bind fun h => (optB lo (some 0) h).bind fun l => cut H 1 a c l h := aslice_sl un36 (by kernel_rfl) H a n c lo hi
theorem sz37 : szT Tryz.prog 37 = some 3 := by kernel_rfl
theorem ag37 : aggT Tryz.prog 37 = some true := by kernel_rfl
theorem ze37 : zeroT Tryz.prog 37 = some (.agg #[.int .i64 0, .slice none 0 0, .slice none 0 0]) := by kernel_rfl
theorem pz37 : plainV 100 (.agg #[.int .i64 0, .slice none 0 0, .slice none 0 0]) = true := by kernel_rfl
theorem inf37 : ∃ i, Tryz.prog.info? 37 = some i ∧ i.zero = some (.agg #[.int .i64 0, .slice none 0 0, .slice none 0 0]) ∧ i.size = 3 ∧ i.bytes = 56 := by
  have h : (Tryz.prog.info? 37).map (fun i => (i.zero, i.size, i.bytes)) = some (some (.agg #[.int .i64 0, .slice none 0 0, .slice none 0 0]), 3, 56) := by kernel_rfl
  obtain ⟨i, h1, h2⟩ := Option.map_eq_some_iff.1 h
  simp only [Prod.mk.injEq] at h2
  exact ⟨i, h1, h2.1, h2.2.1, h2.2.2⟩
theorem st37 (H : AHeap) (id off : Nat) (x : Value) : astoreT Tryz.prog H 37 (.pointer (some ⟨id, off, none⟩)) x = if x.cells.size = 3 ∧ x.cells.toList.all oneCell = true then ((H[id]?).bind (rowStore off x.cells.toList)).map fun o => H.set id o else none := astore_rule sz37 H id off x
theorem fa37_0 (id off : Nat) : afieldAddr Tryz.prog 37 (.pointer (some ⟨id, off, none⟩)) 0 = some (.pointer (some ⟨id, off + 0, none⟩)) := afieldAddr_at (n := 0) (f := (fieldT Tryz.prog 37 0).getD default) (by kernel_rfl) (by kernel_rfl) (by kernel_rfl) id off
theorem fl37_0 (cs : List Value) : afield Tryz.prog 37 (.agg cs.toArray) 0 = cs[0]? := afield_one (f := (fieldT Tryz.prog 37 0).getD default) (by kernel_rfl) (by kernel_rfl) (by kernel_rfl) cs
theorem fa37_1 (id off : Nat) : afieldAddr Tryz.prog 37 (.pointer (some ⟨id, off, none⟩)) 1 = some (.pointer (some ⟨id, off + 1, none⟩)) := afieldAddr_at (n := 0) (f := (fieldT Tryz.prog 37 1).getD default) (by kernel_rfl) (by kernel_rfl) (by kernel_rfl) id off
theorem fl37_1 (cs : List Value) : afield Tryz.prog 37 (.agg cs.toArray) 1 = cs[1]? := afield_one (f := (fieldT Tryz.prog 37 1).getD default) (by kernel_rfl) (by kernel_rfl) (by kernel_rfl) cs
theorem fa37_2 (id off : Nat) : afieldAddr Tryz.prog 37 (.pointer (some ⟨id, off, none⟩)) 2 = some (.pointer (some ⟨id, off + 2, none⟩)) := afieldAddr_at (n := 0) (f := (fieldT Tryz.prog 37 2).getD default) (by kernel_rfl) (by kernel_rfl) (by kernel_rfl) id off
theorem fl37_2 (cs : List Value) : afield Tryz.prog 37 (.agg cs.toArray) 2 = cs[2]? := afield_one (f := (fieldT Tryz.prog 37 2).getD default) (by kernel_rfl) (by kernel_rfl) (by kernel_rfl) cs
theorem sz38 : szT Tryz.prog 38 = some 3 := by kernel_rfl
theorem ag38 : aggT Tryz.prog 38 = some true := by kernel_rfl
theorem ze38 : zeroT Tryz.prog 38 = some (.agg #[.int .i64 0, .slice none 0 0, .slice none 0 0]) := by kernel_rfl
theorem inf38 : ∃ i, Tryz.prog.info? 38 = some i ∧ i.zero = some (.agg #[.int .i64 0, .slice none 0 0, .slice none 0 0]) ∧ i.size = 3 ∧ i.bytes = 56 := by
  have h : (Tryz.prog.info? 38).map (fun i => (i.zero, i.size, i.bytes)) = some (some (.agg #[.int .i64 0, .slice none 0 0, .slice none 0 0]), 3, 56) := by kernel_rfl
  obtain ⟨i, h1, h2⟩ := Option.map_eq_some_iff.1 h
  simp only [Prod.mk.injEq] at h2
  exact ⟨i, h1, h2.1, h2.2.1, h2.2.2⟩
theorem st38 (H : AHeap) (id off : Nat) (x : Value) : astoreT Tryz.prog H 38 (.pointer (some ⟨id, off, none⟩)) x = if x.cells.size = 3 ∧ x.cells.toList.all oneCell = true then ((H[id]?).bind (rowStore off x.cells.toList)).map fun o => H.set id o else none := astore_rule sz38 H id off x
theorem fa38_0 (id off : Nat) : afieldAddr Tryz.prog 38 (.pointer (some ⟨id, off, none⟩)) 0 = some (.pointer (some ⟨id, off + 0, none⟩)) := afieldAddr_at (n := 0) (f := (fieldT Tryz.prog 38 0).getD default) (by kernel_rfl) (by kernel_rfl) (by kernel_rfl) id off
theorem fl38_0 (cs : List Value) : afield Tryz.prog 38 (.agg cs.toArray) 0 = cs[0]? := afield_one (f := (fieldT Tryz.prog 38 0).getD default) (by kernel_rfl) (by kernel_rfl) (by kernel_rfl) cs
theorem fa38_1 (id off : Nat) : afieldAddr Tryz.prog 38 (.pointer (some ⟨id, off, none⟩)) 1 = some (.pointer (some ⟨id, off + 1, none⟩)) := afieldAddr_at (n := 0) (f := (fieldT Tryz.prog 38 1).getD default) (by kernel_rfl) (by kernel_rfl) (by kernel_rfl) id off
theorem fl38_1 (cs : List Value) : afield Tryz.prog 38 (.agg cs.toArray) 1 = cs[1]? := afield_one (f := (fieldT Tryz.prog 38 1).getD default) (by kernel_rfl) (by kernel_rfl) (by kernel_rfl) cs
theorem fa38_2 (id off : Nat) : afieldAddr Tryz.prog 38 (.pointer (some ⟨id, off, none⟩)) 2 = some (.pointer (some ⟨id, off + 2, none⟩)) := afieldAddr_at (n := 0) (f := (fieldT Tryz.prog 38 2).getD default) (by kernel_rfl) (by kernel_rfl) (by kernel_rfl) id off
theorem fl38_2 (cs : List Value) : afield Tryz.prog 38 (.agg cs.toArray) 2 = cs[2]? := afield_one (f := (fieldT Tryz.prog 38 2).getD default) (by kernel_rfl) (by kernel_rfl) (by kernel_rfl) cs
theorem sz39 : szT Tryz.prog 39 = some 1 := by kernel_rfl
theorem ag39 : aggT Tryz.prog 39 = some false := by kernel_rfl
theorem ze39 : zeroT Tryz.prog 39 = some (.slice none 0 0) := by kernel_rfl
theorem inf39 : ∃ i, Tryz.prog.info? 39 = some i ∧ i.zero = some (.slice none 0 0) ∧ i.size = 1 ∧ i.bytes = 24 := by
  have h : (Tryz.prog.info? 39).map (fun i => (i.zero, i.size, i.bytes)) = some (some (.slice none 0 0), 1, 24) := by kernel_rfl
  obtain ⟨i, h1, h2⟩ := Option.map_eq_some_iff.1 h
  simp only [Prod.mk.injEq] at h2
  exact ⟨i, h1, h2.1, h2.2.1, h2.2.2⟩
theorem st39 (H : AHeap) (id off : Nat) (x : Value) : astoreT Tryz.prog H 39 (.pointer (some ⟨id, off, none⟩)) x = if x.cells.size = 1 ∧ x.cells.toList.all oneCell = true then ((H[id]?).bind (rowStore off x.cells.toList)).map fun o => H.set id o else none := astore_rule sz39 H id off x
theorem un39 : Tryz.prog.underlying 39 = some (.slice 41) := by kernel_rfl
theorem el39 : elemT Tryz.prog 39 = some 41 := by kernel_rfl
theorem ln39 (H : AHeap) (a : Option Addr) (m c : Nat) : alen Tryz.prog H 39 (.slice a m c) = some (.int .i64 m) := alen_slice un39 H a m c
theorem cp39 (a : Addr) (m c : Nat) : acap Tryz.prog 39 (.slice (some a) m c) = if c = 0 then none else some (.int .i64 c) := acap_slice un39 a m c
theorem ix39 (id off m c : Nat) (ik : IntKind) (i : Int) : aindexAddr Tryz.prog 39 (.slice (some ⟨id, off, none⟩) m c) (.int ik i) = if 0 ≤ i ∧ i < m then some (.pointer (some ⟨id, off + i.toNat * 6, none⟩)) else none := aindexAddr_at un39 (by kernel_rfl) id off m c ik i
theorem en39 (H : AHeap) (xo yo : Operand) (a : Option Addr) (n c m q : Nat) : abin Tryz.prog H .eql 39 xo yo (.slice a n c) (.slice none m q) = some (.bool a.isNone) := abin_eq_slnil un39 H xo yo a n c m q
theorem nn39 (H : AHeap) (xo yo : Operand) (a : Option Addr) (n c m q : Nat) : abin Tryz.prog H .neq 39 xo yo (.slice a n c) (.slice none m q) = some (.bool !a.isNone) := abin_ne_slnil un39 H xo yo a n c m q
theorem sc39 (H : AHeap) (a : Option Addr) (n c : Nat) (lo hi : Option Value) : aslice Tryz.prog H 39 (.slice a n c) lo hi none = (optB hi (some n) (capOf n c)).bind fun h => (optB lo (some 0) h).bind fun l => cut H 6 a c l h := aslice_sl un39 (by kernel_rfl) H a n c lo hi
theorem sz40 : szT Tryz.prog 40 = some 6 := by kernel_rfl
theorem ag40 : aggT Tryz.prog 40 = some true := by kernel_rfl
theorem ze40 : zeroT Tryz.prog 40 = some (.agg #[.int .i64 0, .int .i64 0, .slice none 0 0, .int .i64 0, .int .i64 0, .slice none 0 0]) := by kernel_rfl
theorem pz40 : plainV 100 (.agg #[.int .i64 0, .int .i64 0, .slice none 0 0, .int .i64 0, .int .i64 0, .slice none 0 0]) = true := by kernel_rfl
theorem inf40 : ∃ i, Tryz.prog.info? 40 = some i ∧ i.zero = some (.agg #[.int .i64 0, .int .i64 0, .slice none 0 0, .int .i64 0, .int .i64 0, .slice none 0 0]) ∧ i.size = 6 ∧ i.bytes = 80 := by
  have h : (Tryz.prog.info? 40).map (fun i => (i.zero, i.size, i.bytes)) = some (some (.agg #[.int .i64 0, .int .i64 0, .slice none 0 0, .int .i64 0, .int .i64 0, .slice none 0 0]), 6, 80) := by kernel_rfl
  obtain ⟨i, h1, h2⟩ := Option.map_eq_some_iff.1 h
  simp only [Prod.mk.injEq] at h2
  exact ⟨i, h1, h2.1, h2.2.1, h2.2.2⟩
theorem st40 (H : AHeap) (id off : Nat) (x : Value) : astoreT Tryz.prog H 40 (.pointer (some ⟨id, off, none⟩)) x = if x.cells.size = 6 ∧ x.cells.toList.all oneCell = true then ((H[id]?).bind (rowStore off x.cells.toList)).map fun o => H.set id o else none := astore_rule sz40 H id off x
theorem fa40_0 (id off : Nat) : afieldAddr Tryz.prog 40 (.pointer (some ⟨id, off, none⟩)) 0 = some (.pointer (some ⟨id, off + 0, none⟩)) := afieldAddr_at (n := 0) (f := (fieldT Tryz.prog 40 0).getD default) (by kernel_rfl) (by kernel_rfl) (by kernel_rfl) id off
theorem fl40_0 (cs : List Value) : afield Tryz.prog 40 (.agg cs.toArray) 0 = cs[0]? := afield_one (f := (fieldT Tryz.prog 40 0).getD default) (by kernel_rfl) (by kernel_rfl) (by kernel_rfl) cs
theorem fa40_1 (id off : Nat) : afieldAddr Tryz.prog 40 (.pointer (some ⟨id, off, none⟩)) 1 = some (.pointer (some ⟨id, off + 1, none⟩)) := afieldAddr_at (n := 0) (f := (fieldT Tryz.prog 40 1).getD default) (by kernel_rfl) (by kernel_rfl) (by kernel_rfl) id off
theorem fl40_1 (cs : List Value) : afield Tryz.prog 40 (.agg cs.toArray) 1 = cs[1]? := afield_one (f := (fieldT Tryz.prog 40 1).getD default) (by kernel_rfl) (by kernel_rfl) (by kernel_rfl) cs
theorem fa40_2 (id off : Nat) : afieldAddr Tryz.prog 40 (.pointer (some ⟨id, off, none⟩)) 2 = some (.pointer (some ⟨id, off + 2, none⟩)) := afieldAddr_at (n := 0) (f := (fieldT Tryz.prog 40 2).getD default) (by kernel_rfl) (by kernel_rfl) (by kernel_rfl) id off
theorem fl40_2 (cs : List Value) : afield Tryz.prog 40 (.agg cs.toArray) 2 = cs[2]? := afield_one (f := (fieldT Tryz.prog 40 2).getD default) (by kernel_rfl) (by kernel_rfl) (by kernel_rfl) cs
theorem fa40_3 (id off : Nat) : afieldAddr Tryz.prog 40 (.pointer (some ⟨id, off, none⟩)) 3 = some (.pointer (some ⟨id, off + 3, none⟩)) := afieldAddr_at (n := 0) (f := (fieldT Tryz.prog 40 3).getD default) (by kernel_rfl) (by kernel_rfl) (by kernel_rfl) id off
theorem fl40_3 (cs : List Value) : afield Tryz.prog 40 (.agg cs.toArray) 3 = cs[3]? := afield_one (f := (fieldT Tryz.prog 40 3).getD default) (by kernel_rfl) (by kernel_rfl) (by kernel_rfl) cs
theorem fa40_4 (id off : Nat) : afieldAddr Tryz.prog 40 (.pointer (some ⟨id, off, none⟩)) 4 = some (.pointer (some ⟨id, off + 4, none⟩)) := afieldAddr_at (n := 0) (f := (fieldT Tryz.prog 40 4).getD default) (by kernel_rfl) (by kernel_rfl) (by kernel_rfl) id off
theorem fl40_4 (cs : List Value) : afield Tryz.prog 40 (.agg cs.toArray) 4 = cs[4]? := afield_one (f := (fieldT Tryz.prog 40 4).getD default) (by kernel_rfl) (by kernel_rfl) (by kernel_rfl) cs
theorem fa40_5 (id off : Nat) : afieldAddr Tryz.prog 40 (.pointer (some ⟨id, off, none⟩)) 5 = some (.pointer (some ⟨id, off + 5, none⟩)) := afieldAddr_at (n := 0) (f := (fieldT Tryz.prog 40 5).getD default) (by kernel_rfl) (by kernel_rfl) (by kernel_rfl) id off
theorem fl40_5 (cs : List Value) : afield Tryz.prog 40 (.agg cs.toArray) 5 = cs[5]? := afield_one (f := (fieldT Tryz.prog 40 5).getD default) (by kernel_rfl) (by kernel_rfl) (by kernel_rfl) cs
theorem sz41 : szT Tryz.prog 41 = some 6 := by kernel_rfl
theorem ag41 : aggT Tryz.prog 41 = some true := by kernel_rfl
theorem ze41 : zeroT Tryz.prog 41 = some (.agg #[.int .i64 0, .int .i64 0, .slice none 0 0, .int .i64 0, .int .i64 0, .slice none 0 0]) := by kernel_rfl
theorem inf41 : ∃ i, Tryz.prog.info? 41 = some i ∧ i.zero = some (.agg #[.int .i64 0, .int .i64 0, .slice none 0 0, .int .i64 0, .int .i64 0, .slice none 0 0]) ∧ i.size = 6 ∧ i.bytes = 80 := by
  have h : (Tryz.prog.info? 41).map (fun i => (i.zero, i.size, i.bytes)) = some (some (.agg #[.int .i64 0, .int .i64 0, .slice none 0 0, .int .i64 0, .int .i64 0, .slice none 0 0]), 6, 80) := by kernel_rfl
  obtain ⟨i, h1, h2⟩ := Option.map_eq_some_iff.1 h
  simp only [Prod.mk.injEq] at h2
  exact ⟨i, h1, h2.1, h2.2.1, h2.2.2⟩
theorem st41 (H : AHeap) (id off : Nat) (x : Value) : astoreT Tryz.prog H 41 (.pointer (some ⟨id, off, none⟩)) x = if x.cells.size = 6 ∧ x.cells.toList.all oneCell = true then ((H[id]?).bind (rowStore off x.cells.toList)).map fun o => H.set id o else none := astore_rule sz41 H id off x
theorem fa41_0 (id off : Nat) : afieldAddr Tryz.prog 41 (.pointer (some ⟨id, off, none⟩)) 0 = some (.pointer (some ⟨id, off + 0, none⟩)) := afieldAddr_at (n := 0) (f := (fieldT Tryz.prog 41 0).getD default) (by kernel_rfl) (by kernel_rfl) (by kernel_rfl) id off
theorem fl41_0 (cs : List Value) : afield Tryz.prog 41 (.agg cs.toArray) 0 = cs[0]? := afield_one (f := (fieldT Tryz.prog 41 0).getD default) (by kernel_rfl) (by kernel_rfl) (by kernel_rfl) cs
theorem fa41_1 (id off : Nat) : afieldAddr Tryz.prog 41 (.pointer (some ⟨id, off, none⟩)) 1 = some (.pointer (some ⟨id, off + 1, none⟩)) := afieldAddr_at (n := 0) (f := (fieldT Tryz.prog 41 1).getD default) (by kernel_rfl) (by kernel_rfl) (by kernel_rfl) id off
theorem fl41_1 (cs : List Value) : afield Tryz.prog 41 (.agg cs.toArray) 1 = cs[1]? := afield_one (f := (fieldT Tryz.prog 41 1).getD default) (by kernel_rfl) (by kernel_rfl) (by kernel_rfl) cs
theorem fa41_2 (id off : Nat) : afieldAddr Tryz.prog 41 (.pointer (some ⟨id, off, none⟩)) 2 = some (.pointer (some ⟨id, off + 2, none⟩)) := afieldAddr_at (n := 0) (f := (fieldT Tryz.prog 41 2).getD default) (by kernel_rfl) (by kernel_rfl) (by kernel_rfl) id off
theorem fl41_2 (cs : List Value) : afield Tryz.prog 41 (.agg cs.toArray) 2 = cs[2]? := afield_one (f := (fieldT Tryz.prog 41 2).getD default) (by kernel_rfl) (by kernel_rfl) (by kernel_rfl) cs
theorem fa41_3 (id off : Nat) : afieldAddr Tryz.prog 41 (.pointer (some ⟨id, off, none⟩)) 3 = some (.pointer (some ⟨id, off + 3, none⟩)) := afieldAddr_at (n := 0) (f := (fieldT Tryz.prog 41 3).getD default) (by kernel_rfl) (by kernel_rfl) (by kernel_rfl) id off
theorem fl41_3 (cs : List Value) : afield Tryz.prog 41 (.agg cs.toArray) 3 = cs[3]? := afield_one (f := (fieldT Tryz.prog 41 3).getD default) (by kernel_rfl) (by kernel_rfl) (by kernel_rfl) cs
theorem fa41_4 (id off : Nat) : afieldAddr Tryz.prog 41 (.pointer (some ⟨id, off, none⟩)) 4 = some (.pointer (some ⟨id, off + 4, none⟩)) := afieldAddr_at (n := 0) (f := (fieldT Tryz.prog 41 4).getD default) (by kernel_rfl) (by kernel_rfl) (by kernel_rfl) id off
theorem fl41_4 (cs : List Value) : afield Tryz.prog 41 (.agg cs.toArray) 4 = cs[4]? := afield_one (f := (fieldT Tryz.prog 41 4).getD default) (by kernel_rfl) (by kernel_rfl) (by kernel_rfl) cs
theorem fa41_5 (id off : Nat) : afieldAddr Tryz.prog 41 (.pointer (some ⟨id, off, none⟩)) 5 = some (.pointer (some ⟨id, off + 5, none⟩)) := afieldAddr_at (n := 0) (f := (fieldT Tryz.prog 41 5).getD default) (by kernel_rfl) (by kernel_rfl) (by kernel_rfl) id off
theorem fl41_5 (cs : List Value) : afield Tryz.prog 41 (.agg cs.toArray) 5 = cs[5]? := afield_one (f := (fieldT Tryz.prog 41 5).getD default) (by kernel_rfl) (by kernel_rfl) (by kernel_rfl) cs
theorem sz42 : szT Tryz.prog 42 = some 1 := by kernel_rfl
theorem ag42 : aggT Tryz.prog 42 = some false := by kernel_rfl
theorem ze42 : zeroT Tryz.prog 42 = some (.slice none 0 0) := by kernel_rfl
theorem inf42 : ∃ i, Tryz.prog.info? 42 = some i ∧ i.zero = some (.slice none 0 0) ∧ i.size = 1 ∧ i.bytes = 24 := by
  have h : (Tryz.prog.info? 42).map (fun i => (i.zero, i.size, i.bytes)) = some (some (.slice none 0 0), 1, 24) := by kernel_rfl
  obtain ⟨i, h1, h2⟩ := Option.map_eq_some_iff.1 h
  simp only [Prod.mk.injEq] at h2
  exact ⟨i, h1, h2.1, h2.2.1, h2.2.2⟩
theorem st42 (H : AHeap) (id off : Nat) (x : Value) : astoreT Tryz.prog H 42 (.pointer (some ⟨id, off, none⟩)) x = if x.cells.size = 1 ∧ x.cells.toList.all oneCell = true then ((H[id]?).bind (rowStore off x.cells.toList)).map fun o => H.set id o else none := astore_rule sz42 H id off x
theorem un42 : Tryz.prog.underlying 42 = some (.slice 61) := by kernel_rfl
theorem el42 : elemT Tryz.prog 42 = some 61 := by kernel_rfl
theorem ln42 (H : AHeap) (a : Option Addr) (m c : Nat) : alen Tryz.prog H 42 (.slice a m c) = some (.int .i64 m) := alen_slice un42 H a m c
theorem cp42 (a : Addr) (m c : Nat) : acap Tryz.prog 42 (.slice (some a) m c) = if c = 0 then none else some (.int .i64 c) := acap_slice un42 a m c
theorem ix42 (id off m c : Nat) (ik : IntKind) (i : Int) : aindexAddr Tryz.prog 42 (.slice (some ⟨id, off, none⟩) m c) (.int ik i) = if 0 ≤ i ∧ i < m then some (.pointer (some ⟨id, off + i.toNat * 1, none⟩)) else none := aindexAddr_at un42 (by kernel_rfl) id off m c ik i
theorem en42 (H : AHeap) (xo yo : Operand) (a : Option Addr) (n c m q : Nat) : abin Tryz.prog H .eql 42 xo yo (.slice a n c) (.slice none m q) = some (.bool a.isNone) := abin_eq_slnil un42 H xo yo a n c m q
theorem nn42 (H : AHeap) (xo yo : Operand) (a : Option Addr) (n c m q : Nat) : abin Tryz.prog H .neq 42 xo yo (.slice a n c) (.slice none m q) = some (.bool !a.isNone) := abin_ne_slnil un42 H xo yo a n c m q
theorem sc42 (H : AHeap) (a : Option Addr) (n c : Nat) (lo hi : Option Value) : aslice Tryz.prog H 42 (.slice a n c) lo hi none = (optB hi (some n) (capOf n c)).bind fun h => (optB lo (some 0) h).bind fun l => cut H 1 a c l h := aslice_sl un42 (by kernel_rfl) H a n c lo hi
theorem sz43 : szT Tryz.prog 43 = some 1 := by kernel_rfl
theorem ag43 : aggT Tryz.prog 43 = some false := by kernel_rfl
theorem ze43 : zeroT Tryz.prog 43 = some (.slice none 0 0) := by kernel_rfl
theorem inf43 : ∃ i, Tryz.prog.info? 43 = some i ∧ i.zero = some (.slice none 0 0) ∧ i.size = 1 ∧ i.bytes = 24 := by
  have h : (Tryz.prog.info? 43).map (fun i => (i.zero, i.size, i.bytes)) = some (some (.slice none 0 0), 1, 24) := by kernel_rfl
  obtain ⟨i, h1, h2⟩ := Option.map_eq_some_iff.1 h
  simp only [Prod.mk.injEq] at h2
  exact ⟨i, h1, h2.1, h2.2.1, h2.2.2⟩
theorem st43 (H : AHeap) (id off : Nat) (x : Value) : astoreT Tryz.prog H 43 (.pointer (some ⟨id, off, none⟩)) x = if x.cells.size = 1 ∧ x.cells.toList.all oneCell = true then ((H[id]?).bind (rowStore off x.cells.toList)).map fun o => H.set id o else none := astore_rule sz43 H id off x
theorem un43 : Tryz.prog.underlying 43 = some (.slice 410) := by kernel_rfl
theorem el43 : elemT Tryz.prog 43 = some 410 := by kernel_rfl
theorem ln43 (H : AHeap) (a : Option Addr) (m c : Nat) : alen Tryz.prog H 43 (.slice a m c) = some (.int .i64 m) := alen_slice un43 H a m c
theorem cp43 (a : Addr) (m c : Nat) : acap Tryz.prog 43 (.slice (some a) m c) = if c = 0 then none else some (.int .i64 c) := acap_slice un43 a m c
theorem ix43 (id off m c : Nat) (ik : IntKind) (i : Int) : aindexAddr Tryz.prog 43 (.slice (some ⟨id, off, none⟩) m c) (.int ik i) = if 0 ≤ i ∧ i < m then some (.pointer (some ⟨id, off + i.toNat * 2, none⟩)) else none := aindexAddr_at un43 (by kernel_rfl) id off m c ik i
theorem en43 (H : AHeap) (xo yo : Operand) (a : Option Addr) (n c m q : Nat) : abin Tryz.prog H .eql 43 xo yo (.slice a n c) (.slice none m q) = some (.bool a.isNone) := abin_eq_slnil un43 H xo yo a n c m q
theorem nn43 (H : AHeap) (xo yo : Operand) (a : Option Addr) (n c m q : Nat) : abin Tryz.prog H .neq 43 xo yo (.slice a n c) (.slice none m q) = some (.bool !a.isNone) := abin_ne_slnil un43 H xo yo a n c m q
theorem sc43 (H : AHeap) (a : Option Addr) (n c : Nat) (lo hi : Option Value) : aslice Tryz.prog H 43 (.slice a n c) lo hi none = (optB hi (some n) (capOf n c)).bind fun h => (optB lo (some 0) h).bind fun l => cut H 2 a c l h := aslice_sl un43 (by kernel_rfl) H a n c lo hi
theorem sz44 : szT Tryz.prog 44 = some 13 := by kernel_rfl
theorem ag44 : aggT Tryz.prog 44 = some true := by kernel_rfl
theorem ze44 : zeroT Tryz.prog 44 = some (.agg #[.int .i64 0, .int .i64 0, .int .i64 0, .int .i64 0, .slice none 0 0, .int .i64 0, .int .i64 0, .slice none 0 0, .int .i64 0, .slice none 0 0, .slice none 0 0, .int .i64 0, .int .i64 0]) := by kernel_rfl
theorem pz44 : plainV 100 (.agg #[.int .i64 0, .int .i64 0, .int .i64 0, .int .i64 0, .slice none 0 0, .int .i64 0, .int .i64 0, .slice none 0 0, .int .i64 0, .slice none 0 0, .slice none 0 0, .int .i64 0, .int .i64 0]) = true := by kernel_rfl
theorem inf44 : ∃ i, Tryz.prog.info? 44 = some i ∧ i.zero = some (.agg #[.int .i64 0, .int .i64 0, .int .i64 0, .int .i64 0, .slice none 0 0, .int .i64 0, .int .i64 0, .slice none 0 0, .int .i64 0, .slice none 0 0, .slice none 0 0, .int .i64 0, .int .i64 0]) ∧ i.size = 13 ∧ i.bytes = 168 := by
  have h : (Tryz.prog.info? 44).map (fun i => (i.zero, i.size, i.bytes)) = some (some (.agg #[.int .i64 0, .int .i64 0, .int .i64 0, .int .i64 0, .slice none 0 0, .int .i64 0, .int .i64 0, .slice none 0 0, .int .i64 0, .slice none 0 0, .slice none 0 0, .int .i64 0, .int .i64 0]), 13, 168) := by kernel_rfl
  obtain ⟨i, h1, h2⟩ := Option.map_eq_some_iff.1 h
  simp only [Prod.mk.injEq] at h2
  exact ⟨i, h1, h2.1, h2.2.1, h2.2.2⟩
theorem st44 (H : AHeap) (id off : Nat) (x : Value) : astoreT Tryz.prog H 44 (.pointer (some ⟨id, off, none⟩)) x = if x.cells.size = 13 ∧ x.cells.toList.all oneCell = true then ((H[id]?).bind (rowStore off x.cells.toList)).map fun o => H.set id o else none := astore_rule sz44 H id off x
theorem fa44_0 (id off : Nat) : afieldAddr Tryz.prog 44 (.pointer (some ⟨id, off, none⟩)) 0 = some (.pointer (some ⟨id, off + 0, none⟩)) := afieldAddr_at (n := 1) (f := (fieldT Tryz.prog 44 0).getD default) (by kernel_rfl) (by kernel_rfl) (by kernel_rfl) id off
theorem fl44_0 (cs : List Value) : afield Tryz.prog 44 (.agg cs.toArray) 0 = some (.agg ((cs.drop 0).take 2).toArray) := afield_agg (f := (fieldT Tryz.prog 44 0).getD default) (by kernel_rfl) (by kernel_rfl) (by kernel_rfl) (by kernel_rfl) cs
theorem fa44_1 (id off : Nat) : afieldAddr Tryz.prog 44 (.pointer (some ⟨id, off, none⟩)) 1 = some (.pointer (some ⟨id, off + 2, none⟩)) := afieldAddr_at (n := 5) (f := (fieldT Tryz.prog 44 1).getD default) (by kernel_rfl) (by kernel_rfl) (by kernel_rfl) id off
theorem fl44_1 (cs : List Value) : afield Tryz.prog 44 (.agg cs.toArray) 1 = some (.agg ((cs.drop 2).take 6).toArray) := afield_agg (f := (fieldT Tryz.prog 44 1).getD default) (by kernel_rfl) (by kernel_rfl) (by kernel_rfl) (by kernel_rfl) cs
theorem fa44_2 (id off : Nat) : afieldAddr Tryz.prog 44 (.pointer (some ⟨id, off, none⟩)) 2 = some (.pointer (some ⟨id, off + 8, none⟩)) := afieldAddr_at (n := 0) (f := (fieldT Tryz.prog 44 2).getD default) (by kernel_rfl) (by kernel_rfl) (by kernel_rfl) id off
theorem fl44_2 (cs : List Value) : afield Tryz.prog 44 (.agg cs.toArray) 2 = cs[8]? := afield_one (f := (fieldT Tryz.prog 44 2).getD default) (by kernel_rfl) (by kernel_rfl) (by kernel_rfl) cs
theorem fa44_3 (id off : Nat) : afieldAddr Tryz.prog 44 (.pointer (some ⟨id, off, none⟩)) 3 = some (.pointer (some ⟨id, off + 9, none⟩)) := afieldAddr_at (n := 0) (f := (fieldT Tryz.prog 44 3).getD default) (by kernel_rfl) (by kernel_rfl) (by kernel_rfl) id off
theorem fl44_3 (cs : List Value) : afield Tryz.prog 44 (.agg cs.toArray) 3 = cs[9]? := afield_one (f := (fieldT Tryz.prog 44 3).getD default) (by kernel_rfl) (by kernel_rfl) (by kernel_rfl) cs
theorem fa44_4 (id off : Nat) : afieldAddr Tryz.prog 44 (.pointer (some ⟨id, off, none⟩)) 4 = some (.pointer (some ⟨id, off + 10, none⟩)) := afieldAddr_at (n := 0) (f := (fieldT Tryz.prog 44 4).getD default) (by kernel_rfl) (by kernel_rfl) (by kernel_rfl) id off
theorem fl44_4 (cs : List Value) : afield Tryz.prog 44 (.agg cs.toArray) 4 = cs[10]? := afield_one (f := (fieldT Tryz.prog 44 4).getD default) (by kernel_rfl) (by kernel_rfl) (by kernel_rfl) cs
theorem fa44_5 (id off : Nat) : afieldAddr Tryz.prog 44 (.pointer (some ⟨id, off, none⟩)) 5 = some (.pointer (some ⟨id, off + 11, none⟩)) := afieldAddr_at (n := 0) (f := (fieldT Tryz.prog 44 5).getD default) (by kernel_rfl) (by kernel_rfl) (by kernel_rfl) id off
theorem fl44_5 (cs : List Value) : afield Tryz.prog 44 (.agg cs.toArray) 5 = cs[11]? := afield_one (f := (fieldT Tryz.prog 44 5).getD default) (by kernel_rfl) (by kernel_rfl) (by kernel_rfl) cs
theorem fa44_6 (id off : Nat) : afieldAddr Tryz.prog 44 (.pointer (some ⟨id, off, none⟩)) 6 = some (.pointer (some ⟨id, off + 12, none⟩)) := afieldAddr_at (n := 0) (f := (fieldT Tryz.prog 44 6).getD default) (by kernel_rfl) (by kernel_rfl) (by kernel_rfl) id off
theorem fl44_6 (cs : List Value) : afield Tryz.prog 44 (.agg cs.toArray) 6 = cs[12]? := afield_one (f := (fieldT Tryz.prog 44 6).getD default) (by kernel_rfl) (by kernel_rfl) (by kernel_rfl) cs
theorem sz45 : szT Tryz.prog 45 = some 13 := by kernel_rfl
theorem ag45 : aggT Tryz.prog 45 = some true := by kernel_rfl
theorem ze45 : zeroT Tryz.prog 45 = some (.agg #[.int .i64 0, .int .i64 0, .int .i64 0, .int .i64 0, .slice none 0 0, .int .i64 0, .int .i64 0, .slice none 0 0, .int .i64 0, .slice none 0 0, .slice none 0 0, .int .i64 0, .int .i64 0]) := by kernel_rfl
theorem inf45 : ∃ i, Tryz.prog.info? 45 = some i ∧ i.zero = some (.agg #[.int .i64 0, .int .i64 0, .int .i64 0, .int .i64 0, .slice none 0 0, .int .i64 0, .int .i64 0, .slice none 0 0, .int .i64 0, .slice none 0 0, .slice none 0 0, .int .i64 0, .int .i64 0]) ∧ i.size = 13 ∧ i.bytes = 168 := by
  have h : (Tryz.prog.info? 45).map (fun i => (i.zero, i.size, i.bytes)) = some (some (.agg #[.int .i64 0, .int .i64 0, .int .i64 0, .int .i64 0, .slice none 0 0, .int .i64 0, .int .i64 0, .slice none 0 0, .int .i64 0, .slice none 0 0, .slice none 0 0, .int .i64 0, .int .i64 0]), 13, 168) := by kernel_rfl
  obtain ⟨i, h1, h2⟩ := Option.map_eq_some_iff.1 h
  simp only [Prod.mk.injEq] at h2
  exact ⟨i, h1, h2.1, h2.2.1, h2.2.2⟩
theorem st45 (H : AHeap) (id off : Nat) (x : Value) : astoreT Tryz.prog H 45 (.pointer (some ⟨id, off, none⟩)) x = if x.cells.size = 13 ∧ x.cells.toList.all oneCell = true then ((H[id]?).bind (rowStore off x.cells.toList)).map fun o => H.set id o else none := astore_rule sz45 H id off x
theorem fa45_0 (id off : Nat) : afieldAddr Tryz.prog 45 (.pointer (some ⟨id, off, none⟩)) 0 = some (.pointer (some ⟨id, off + 0, none⟩)) := afieldAddr_at (n := 1) (f := (fieldT Tryz.prog 45 0).getD default) (by kernel_rfl) (by kernel_rfl) (by kernel_rfl) id off
theorem fl45_0 (cs : List Value) : afield Tryz.prog 45 (.agg cs.toArray) 0 = some (.agg ((cs.drop 0).take 2).toArray) := afield_agg (f := (fieldT Tryz.prog 45 0).getD default) (by kernel_rfl) (by kernel_rfl) (by kernel_rfl) (by kernel_rfl) cs
theorem fa45_1 (id off : Nat) : afieldAddr Tryz.prog 45 (.pointer (some ⟨id, off, none⟩)) 1 = some (.pointer (some ⟨id, off + 2, none⟩)) := afieldAddr_at (n := 5) (f := (fieldT Tryz.prog 45 1).getD default) (by kernel_rfl) (by kernel_rfl) (by kernel_rfl) id off
theorem fl45_1 (cs : List Value) : afield Tryz.prog 45 (.agg cs.toArray) 1 = some (.agg ((cs.drop 2).take 6).toArray) := afield_agg (f := (fieldT Tryz.prog 45 1).getD default) (by kernel_rfl) (by kernel_rfl) (by kernel_rfl) (by kernel_rfl) cs
theorem fa45_2 (id off : Nat) : afieldAddr Tryz.prog 45 (.pointer (some ⟨id, off, none⟩)) 2 = some (.pointer (some ⟨id, off + 8, none⟩)) := afieldAddr_at (n := 0) (f := (fieldT Tryz.prog 45 2).getD default) (by kernel_rfl) (by kernel_rfl) (by kernel_rfl) id off
theorem fl45_2 (cs : List Value) : afield Tryz.prog 45 (.agg cs.toArray) 2 = cs[8]? := afield_one (f := (fieldT Tryz.prog 45 2).getD default) (by kernel_rfl) (by kernel_rfl) (by kernel_rfl) cs
theorem fa45_3 (id off : Nat) : afieldAddr Tryz.prog 45 (.pointer (some ⟨id, off, none⟩)) 3 = some (.pointer (some ⟨id, off + 9, none⟩)) := afieldAddr_at (n := 0) (f := (fieldT Tryz.prog 45 3).getD default) (by kernel_rfl) (by kernel_rfl) (by kernel_rfl) id off
theorem fl45_3 (cs : List Value) : afield Tryz.prog 45 (.agg cs.toArray) 3 = cs[9]? := afield_one (f := (fieldT Tryz.prog 45 3).getD default) (by kernel_rfl) (by kernel_rfl) (by kernel_rfl) cs
theorem fa45_4 (id off : Nat) : afieldAddr Tryz.prog 45 (.pointer (some ⟨id, off, none⟩)) 4 = some (.pointer (some ⟨id, off + 10, none⟩)) := afieldAddr_at (n := 0) (f := (fieldT Tryz.prog 45 4).getD default) (by kernel_rfl) (by kernel_rfl) (by kernel_rfl) id off
theorem fl45_4 (cs : List Value) : afield Tryz.prog 45 (.agg cs.toArray) 4 = cs[10]? := afield_one (f := (fieldT Tryz.prog 45 4).getD default) (by kernel_rfl) (by kernel_rfl) (by kernel_rfl) cs
theorem fa45_5 (id off : Nat) : afieldAddr Tryz.prog 45 (.pointer (some ⟨id, off, none⟩)) 5 = some (.pointer (some ⟨id, off + 11, none⟩)) := afieldAddr_at (n := 0) (f := (fieldT Tryz.prog 45 5).getD default) (by kernel_rfl) (by kernel_rfl) (by kernel_rfl) id off
theorem fl45_5 (cs : List Value) : afield Tryz.prog 45 (.agg cs.toArray) 5 = cs[11]? := afield_one (f := (fieldT Tryz.prog 45 5).getD default) (by kernel_rfl) (by kernel_rfl) (by kernel_rfl) cs
theorem fa45_6 (id off : Nat) : afieldAddr Tryz.prog 45 (.pointer (some ⟨id, off, none⟩)) 6 = some (.pointer (some ⟨id, off + 12, none⟩)) := afieldAddr_at (n := 0) (f := (fieldT Tryz.prog 45 6).getD default) (by kernel_rfl) (by kernel_rfl) (by kernel_rfl) id off
theorem fl45_6 (cs : List Value) : afield Tryz.prog 45 (.agg cs.toArray) 6 = cs[12]? := afield_one (f := (fieldT Tryz.prog 45 6).getD default) (by kernel_rfl) (by kernel_rfl) (by kernel_rfl) cs
theorem sz46 : szT Tryz.prog 46 = some 5 := by kernel_rfl
theorem ag46 : aggT Tryz.prog 46 = some true := by kernel_rfl
theorem ze46 : zeroT Tryz.prog 46 = some (.agg #[.int .i64 0, .int .i64 0, .int .i64 0, .int .i64 0, .int .i64 0]) := by kernel_rfl
theorem pz46 : plainV 100 (.agg #[.int .i64 0, .int .i64 0, .int .i64 0, .int .i64 0, .int .i64 0]) = true := by kernel_rfl
theorem inf46 : ∃ i, Tryz.prog.info? 46 = some i ∧ i.zero = some (.agg #[.int .i64 0, .int .i64 0, .int .i64 0, .int .i64 0, .int .i64 0]) ∧ i.size = 5 ∧ i.bytes = 40 := by
  have h : (Tryz.prog.info? 46).map (fun i => (i.zero, i.size, i.bytes)) = some (some (.agg #[.int .i64 0, .int .i64 0, .int .i64 0, .int .i64 0, .int .i64 0]), 5, 40) := by kernel_rfl
  obtain ⟨i, h1, h2⟩ := Option.map_eq_some_iff.1 h
  simp only [Prod.mk.injEq] at h2
  exact ⟨i, h1, h2.1, h2.2.1, h2.2.2⟩
theorem st46 (H : AHeap) (id off : Nat) (x : Value) : astoreT Tryz.prog H 46 (.pointer (some ⟨id, off, none⟩)) x = if x.cells.size = 5 ∧ x.cells.toList.all oneCell = true then ((H[id]?).bind (rowStore off x.cells.toList)).map fun o => H.set id o else none := astore_rule sz46 H id off x
theorem fa46_0 (id off : Nat) : afieldAddr Tryz.prog 46 (.pointer (some ⟨id, off, none⟩)) 0 = some (.pointer (some ⟨id, off + 0, none⟩)) := afieldAddr_at (n := 1) (f := (fieldT Tryz.prog 46 0).getD default) (by kernel_rfl) (by kernel_rfl) (by kernel_rfl) id off
theorem fl46_0 (cs : List Value) : afield Tryz.prog 46 (.agg cs.toArray) 0 = some (.agg ((cs.drop 0).take 2).toArray) := afield_agg (f := (fieldT Tryz.prog 46 0).getD default) (by kernel_rfl) (by kernel_rfl) (by kernel_rfl) (by kernel_rfl) cs
theorem fa46_1 (id off : Nat) : afieldAddr Tryz.prog 46 (.pointer (some ⟨id, off, none⟩)) 1 = some (.pointer (some ⟨id, off + 2, none⟩)) := afieldAddr_at (n := 0) (f := (fieldT Tryz.prog 46 1).getD default) (by kernel_rfl) (by kernel_rfl) (by kernel_rfl) id off
theorem fl46_1 (cs : List Value) : afield Tryz.prog 46 (.agg cs.toArray) 1 = cs[2]? := afield_one (f := (fieldT Tryz.prog 46 1).getD default) (by kernel_rfl) (by kernel_rfl) (by kernel_rfl) cs
theorem fa46_2 (id off : Nat) : afieldAddr Tryz.prog 46 (.pointer (some ⟨id, off, none⟩)) 2 = some (.pointer (some ⟨id, off + 3, none⟩)) := afieldAddr_at (n := 0) (f := (fieldT Tryz.prog 46 2).getD default) (by kernel_rfl) (by kernel_rfl) (by kernel_rfl) id off
theorem fl46_2 (cs : List Value) : afield Tryz.prog 46 (.agg cs.toArray) 2 = cs[3]? := afield_one (f := (fieldT Tryz.prog 46 2).getD default) (by kernel_rfl) (by kernel_rfl) (by kernel_rfl) cs
theorem fa46_3 (id off : Nat) : afieldAddr Tryz.prog 46 (.pointer (some ⟨id, off, none⟩)) 3 = some (.pointer (some ⟨id, off + 4, none⟩)) := afieldAddr_at (n := 0) (f := (fieldT Tryz.prog 46 3).getD default) (by kernel_rfl) (by kernel_rfl) (by kernel_rfl) id off
theorem fl46_3 (cs : List Value) : afield Tryz.prog 46 (.agg cs.toArray) 3 = cs[4]? := afield_one (f := (fieldT Tryz.prog 46 3).getD default) (by kernel_rfl) (by kernel_rfl) (by kernel_rfl) cs
theorem sz47 : szT Tryz.prog 47 = some 5 := by kernel_rfl
theorem ag47 : aggT Tryz.prog 47 = some true := by kernel_rfl
theorem ze47 : zeroT Tryz.prog 47 = some (.agg #[.int .i64 0, .int .i64 0, .int .i64 0, .int .i64 0, .int .i64 0]) := by kernel_rfl
theorem inf47 : ∃ i, Tryz.prog.info? 47 = some i ∧ i.zero = some (.agg #[.int .i64 0, .int .i64 0, .int .i64 0, .int .i64 0, .int .i64 0]) ∧ i.size = 5 ∧ i.bytes = 40 := by
  have h : (Tryz.prog.info? 47).map (fun i => (i.zero, i.size, i.bytes)) = some (some (.agg #[.int .i64 0, .int .i64 0, .int .i64 0, .int .i64 0, .int .i64 0]), 5, 40) := by kernel_rfl
  obtain ⟨i, h1, h2⟩ := Option.map_eq_some_iff.1 h
  simp only [Prod.mk.injEq] at h2
  exact ⟨i, h1, h2.1, h2.2.1, h2.2.2⟩
theorem st47 (H : AHeap) (id off : Nat) (x : Value) : astoreT Tryz.prog H 47 (.pointer (some ⟨id, off, none⟩)) x = if x.cells.size = 5 ∧ x.cells.toList.all oneCell = true then ((H[id]?).bind (rowStore off x.cells.toList)).map fun o => H.set id o else none := astore_rule sz47 H id off x
theorem fa47_0 (id off : Nat) : afieldAddr Tryz.prog 47 (.pointer (some ⟨id, off, none⟩)) 0 = some (.pointer (some ⟨id, off + 0, none⟩)) := afieldAddr_at (n := 1) (f := (fieldT Tryz.prog 47 0).getD default) (by kernel_rfl) (by kernel_rfl) (by kernel_rfl) id off
theorem fl47_0 (cs : List Value) : afield Tryz.prog 47 (.agg cs.toArray) 0 = some (.agg ((cs.drop 0).take 2).toArray) := afield_agg (f := (fieldT Tryz.prog 47 0).getD default) (by kernel_rfl) (by kernel_rfl) (by kernel_rfl) (by kernel_rfl) cs
theorem fa47_1 (id off : Nat) : afieldAddr Tryz.prog 47 (.pointer (some ⟨id, off, none⟩)) 1 = some (.pointer (some ⟨id, off + 2, none⟩)) := afieldAddr_at (n := 0) (f := (fieldT Tryz.prog 47 1).getD default) (by kernel_rfl) (by kernel_rfl) (by kernel_rfl) id off
theorem fl47_1 (cs : List Value) : afield Tryz.prog 47 (.agg cs.toArray) 1 = cs[2]? := afield_one (f := (fieldT Tryz.prog 47 1).getD default) (by kernel_rfl) (by kernel_rfl) (by kernel_rfl) cs
theorem fa47_2 (id off : Nat) : afieldAddr Tryz.prog 47 (.pointer (some ⟨id, off, none⟩)) 2 = some (.pointer (some ⟨id, off + 3, none⟩)) := afieldAddr_at (n := 0) (f := (fieldT Tryz.prog 47 2).getD default) (by kernel_rfl) (by kernel_rfl) (by kernel_rfl) id off
theorem fl47_2 (cs : List Value) : afield Tryz.prog 47 (.agg cs.toArray) 2 = cs[3]? := afield_one (f := (fieldT Tryz.prog 47 2).getD default) (by kernel_rfl) (by kernel_rfl) (by kernel_rfl) cs
theorem fa47_3 (id off : Nat) : afieldAddr Tryz.prog 47 (.pointer (some ⟨id, off, none⟩)) 3 = some (.pointer (some ⟨id, off + 4, none⟩)) := afieldAddr_at (n := 0) (f := (fieldT Tryz.prog 47 3).getD default) (by kernel_rfl) (by kernel_rfl) (by kernel_rfl) id off
theorem fl47_3 (cs : List Value) : afield Tryz.prog 47 (.agg cs.toArray) 3 = cs[4]? := afield_one (f := (fieldT Tryz.prog 47 3).getD default) (by kernel_rfl) (by kernel_rfl) (by kernel_rfl) cs
theorem sz48 : szT Tryz.prog 48 = some 7 := by kernel_rfl
theorem ag48 : aggT Tryz.prog 48 = some true := by kernel_rfl
theorem ze48 : zeroT Tryz.prog 48 = some (.agg #[.int .i64 0, .int .i64 0, .int .i64 0, .int .i64 0, .int .i64 0, .int .i64 0, .int .i64 0]) := by kernel_rfl
theorem pz48 : plainV 100 (.agg #[.int .i64 0, .int .i64 0, .int .i64 0, .int .i64 0, .int .i64 0, .int .i64 0, .int .i64 0]) = true := by kernel_rfl
theorem inf48 : ∃ i, Tryz.prog.info? 48 = some i ∧ i.zero = some (.agg #[.int .i64 0, .int .i64 0, .int .i64 0, .int .i64 0, .int .i64 0, .int .i64 0, .int .i64 0]) ∧ i.size = 7 ∧ i.bytes = 56 := by
  have h : (Tryz.prog.info? 48).map (fun i => (i.zero, i.size, i.bytes)) = some (some (.agg #[.int .i64 0, .int .i64 0, .int .i64 0, .int .i64 0, .int .i64 0, .int .i64 0, .int .i64 0]), 7, 56) := by kernel_rfl
  obtain ⟨i, h1, h2⟩ := Option.map_eq_some_iff.1 h
  simp only [Prod.mk.injEq] at h2
  exact ⟨i, h1, h2.1, h2.2.1, h2.2.2⟩
theorem st48 (H : AHeap) (id off : Nat) (x : Value) : astoreT Tryz.prog H 48 (.pointer (some ⟨id, off, none⟩)) x = if x.cells.size = 7 ∧ x.cells.toList.all oneCell = true then ((H[id]?).bind (rowStore off x.cells.toList)).map fun o => H.set id o else none := astore_rule sz48 H id off x
theorem fa48_0 (id off : Nat) : afieldAddr Tryz.prog 48 (.pointer (some ⟨id, off, none⟩)) 0 = some (.pointer (some ⟨id, off + 0, none⟩)) := afieldAddr_at (n := 4) (f := (fieldT Tryz.prog 48 0).getD default) (by kernel_rfl) (by kernel_rfl) (by kernel_rfl) id off
theorem fl48_0 (cs : List Value) : afield Tryz.prog 48 (.agg cs.toArray) 0 = some (.agg ((cs.drop 0).take 5).toArray) := afield_agg (f := (fieldT Tryz.prog 48 0).getD default) (by kernel_rfl) (by kernel_rfl) (by kernel_rfl) (by kernel_rfl) cs
theorem fa48_1 (id off : Nat) : afieldAddr Tryz.prog 48 (.pointer (some ⟨id, off, none⟩)) 1 = some (.pointer (some ⟨id, off + 5, none⟩)) := afieldAddr_at (n := 1) (f := (fieldT Tryz.prog 48 1).getD default) (by kernel_rfl) (by kernel_rfl) (by kernel_rfl) id off
theorem fl48_1 (cs : List Value) : afield Tryz.prog 48 (.agg cs.toArray) 1 = some (.agg ((cs.drop 5).take 2).toArray) := afield_agg (f := (fieldT Tryz.prog 48 1).getD default) (by kernel_rfl) (by kernel_rfl) (by kernel_rfl) (by kernel_rfl) cs
theorem sz49 : szT Tryz.prog 49 = some 7 := by kernel_rfl
theorem ag49 : aggT Tryz.prog 49 = some true := by kernel_rfl
theorem ze49 : zeroT Tryz.prog 49 = some (.agg #[.int .i64 0, .int .i64 0, .int .i64 0, .int .i64 0, .int .i64 0, .int .i64 0, .int .i64 0]) := by kernel_rfl
theorem inf49 : ∃ i, Tryz.prog.info? 49 = some i ∧ i.zero = some (.agg #[.int .i64 0, .int .i64 0, .int .i64 0, .int .i64 0, .int .i64 0, .int .i64 0, .int .i64 0]) ∧ i.size = 7 ∧ i.bytes = 56 := by
  have h : (Tryz.prog.info? 49).map (fun i => (i.zero, i.size, i.bytes)) = some (some (.agg #[.int .i64 0, .int .i64 0, .int .i64 0, .int .i64 0, .int .i64 0, .int .i64 0, .int .i64 0]), 7, 56) := by kernel_rfl
  obtain ⟨i, h1, h2⟩ := Option.map_eq_some_iff.1 h
  simp only [Prod.mk.injEq] at h2
  exact ⟨i, h1, h2.1, h2.2.1, h2.2.2⟩
theorem st49 (H : AHeap) (id off : Nat) (x : Value) : astoreT Tryz.prog H 49 (.pointer (some ⟨id, off, none⟩)) x = if x.cells.size = 7 ∧ x.cells.toList.all oneCell = true then ((H[id]?).bind (rowStore off x.cells.toList)).map fun o => H.set id o else none := astore_rule sz49 H id off x
theorem fa49_0 (id off : Nat) : afieldAddr Tryz.prog 49 (.pointer (some ⟨id, off, none⟩)) 0 = some (.pointer (some ⟨id, off + 0, none⟩)) := afieldAddr_at (n := 4) (f := (fieldT Tryz.prog 49 0).getD default) (by kernel_rfl) (by kernel_rfl) (by kernel_rfl) id off
theorem fl49_0 (cs : List Value) : afield Tryz.prog 49 (.agg cs.toArray) 0 = some (.agg ((cs.drop 0).take 5).toArray) := afield_agg (f := (fieldT Tryz.prog 49 0).getD default) (by kernel_rfl) (by kernel_rfl) (by kernel_rfl) (by kernel_rfl) cs
theorem fa49_1 (id off : Nat) : afieldAddr Tryz.prog 49 (.pointer (some ⟨id, off, none⟩)) 1 = some (.pointer (some ⟨id, off + 5, none⟩)) := afieldAddr_at (n := 1) (f := (fieldT Tryz.prog 49 1).getD default) (by kernel_rfl) (by kernel_rfl) (by kernel_rfl) id off
theorem fl49_1 (cs : List Value) : afield Tryz.prog 49 (.agg cs.toArray) 1 = some (.agg ((cs.drop 5).take 2).toArray) := afield_agg (f := (fieldT Tryz.prog 49 1).getD default) (by kernel_rfl) (by kernel_rfl) (by kernel_rfl) (by kernel_rfl) cs
theorem sz50 : szT Tryz.prog 50 = some 7 := by kernel_rfl
theorem ag50 : aggT Tryz.prog 50 = some true := by kernel_rfl
theorem ze50 : zeroT Tryz.prog 50 = some (.agg #[.bool false, .int .i64 0, .int .i64 0, .int .i64 0, .int .i64 0, .int .i64 0, .int .i64 0]) := by kernel_rfl
theorem pz50 : plainV 100 (.agg #[.bool false, .int .i64 0, .int .i64 0, .int .i64 0, .int .i64 0, .int .i64 0, .int .i64 0]) = true := by kernel_rfl
theorem inf50 : ∃ i, Tryz.prog.info? 50 = some i ∧ i.zero = some (.agg #[.bool false, .int .i64 0, .int .i64 0, .int .i64 0, .int .i64 0, .int .i64 0, .int .i64 0]) ∧ i.size = 7 ∧ i.bytes = 56 := by
  have h : (Tryz.prog.info? 50).map (fun i => (i.zero, i.size, i.bytes)) = some (some (.agg #[.bool false, .int .i64 0, .int .i64 0, .int .i64 0, .int .i64 0, .int .i64 0, .int .i64 0]), 7, 56) := by kernel_rfl
  obtain ⟨i, h1, h2⟩ := Option.map_eq_some_iff.1 h
  simp only [Prod.mk.injEq] at h2
  exact ⟨i, h1, h2.1, h2.2.1, h2.2.2⟩
theorem st50 (H : AHeap) (id off : Nat) (x : Value) : astoreT Tryz.prog H 50 (.pointer (some ⟨id, off, none⟩)) x = if x.cells.size = 7 ∧ x.cells.toList.all oneCell = true then ((H[id]?).bind (rowStore off x.cells.toList)).map fun o => H.set id o else none := astore_rule sz50 H id off x
theorem fa50_0 (id off : Nat) : afieldAddr Tryz.prog 50 (.pointer (some ⟨id, off, none⟩)) 0 = some (.pointer (some ⟨id, off + 0, none⟩)) := afieldAddr_at (n := 0) (f := (fieldT Tryz.prog 50 0).getD default) (by kernel_rfl) (by kernel_rfl) (by kernel_rfl) id off
theorem fl50_0 (cs : List Value) : afield Tryz.prog 50 (.agg cs.toArray) 0 = cs[0]? := afield_one (f := (fieldT Tryz.prog 50 0).getD default) (by kernel_rfl) (by kernel_rfl) (by kernel_rfl) cs
theorem fa50_1 (id off : Nat) : afieldAddr Tryz.prog 50 (.pointer (some ⟨id, off, none⟩)) 1 = some (.pointer (some ⟨id, off + 1, none⟩)) := afieldAddr_at (n := 4) (f := (fieldT Tryz.prog 50 1).getD default) (by kernel_rfl) (by kernel_rfl) (by kernel_rfl) id off
theorem fl50_1 (cs : List Value) : afield Tryz.prog 50 (.agg cs.toArray) 1 = some (.agg ((cs.drop 1).take 5).toArray) := afield_agg (f := (fieldT Tryz.prog 50 1).getD default) (by kernel_rfl) (by kernel_rfl) (by kernel_rfl) (by kernel_rfl) cs
theorem fa50_2 (id off : Nat) : afieldAddr Tryz.prog 50 (.pointer (some ⟨id, off, none⟩)) 2 = some (.pointer (some ⟨id, off + 6, none⟩)) := afieldAddr_at (n := 0) (f := (fieldT Tryz.prog 50 2).getD default) (by kernel_rfl) (by kernel_rfl) (by kernel_rfl) id off
theorem fl50_2 (cs : List Value) : afield Tryz.prog 50 (.agg cs.toArray) 2 = cs[6]? := afield_one (f := (fieldT Tryz.prog 50 2).getD default) (by kernel_rfl) (by kernel_rfl) (by kernel_rfl) cs
theorem sz51 : szT Tryz.prog 51 = some 7 := by kernel_rfl
theorem ag51 : aggT Tryz.prog 51 = some true := by kernel_rfl
theorem ze51 : zeroT Tryz.prog 51 = some (.agg #[.bool false, .int .i64 0, .int .i64 0, .int .i64 0, .int .i64 0, .int .i64 0, .int .i64 0]) := by kernel_rfl
theorem inf51 : ∃ i, Tryz.prog.info? 51 = some i ∧ i.zero = some (.agg #[.bool false, .int .i64 0, .int .i64 0, .int .i64 0, .int .i64 0, .int .i64 0, .int .i64 0]) ∧ i.size = 7 ∧ i.bytes = 56 := by
  have h : (Tryz.prog.info? 51).map (fun i => (i.zero, i.size, i.bytes)) = some (some (.agg #[.bool false, .int .i64 0, .int .i64 0, .int .i64 0, .int .i64 0, .int .i64 0, .int .i64 0]), 7, 56) := by kernel_rfl
  obtain ⟨i, h1, h2⟩ := Option.map_eq_some_iff.1 h
  simp only [Prod.mk.injEq] at h2
  exact ⟨i, h1, h2.1, h2.2.1, h2.2.2⟩
theorem st51 (H : AHeap) (id off : Nat) (x : Value) : astoreT Tryz.prog H 51 (.pointer (some ⟨id, off, none⟩)) x = if x.cells.size = 7 ∧ x.cells.toList.all oneCell = true then ((H[id]?).bind (rowStore off x.cells.toList)).map fun o => H.set id o else none := astore_rule sz51 H id off x
theorem fa51_0 (id off : Nat) : afieldAddr Tryz.prog 51 (.pointer (some ⟨id, off, none⟩)) 0 = some (.pointer (some ⟨id, off + 0, none⟩)) := afieldAddr_at (n := 0) (f := (fieldT Tryz.prog 51 0).getD default) (by kernel_rfl) (by kernel_rfl) (by kernel_rfl) id off
theorem fl51_0 (cs : List Value) : afield Tryz.prog 51 (.agg cs.toArray) 0 = cs[0]? := afield_one (f := (fieldT Tryz.prog 51 0).getD default) (by kernel_rfl) (by kernel_rfl) (by kernel_rfl) cs
theorem fa51_1 (id off : Nat) : afieldAddr Tryz.prog 51 (.pointer (some ⟨id, off, none⟩)) 1 = some (.pointer (some ⟨id, off + 1, none⟩)) := afieldAddr_at (n := 4) (f := (fieldT Tryz.prog 51 1).getD default) (by kernel_rfl) (by kernel_rfl) (by kernel_rfl) id off
theorem fl51_1 (cs : List Value) : afield Tryz.prog 51 (.agg cs.toArray) 1 = some (.agg ((cs.drop 1).take 5).toArray) := afield_agg (f := (fieldT Tryz.prog 51 1).getD default) (by kernel_rfl) (by kernel_rfl) (by kernel_rfl) (by kernel_rfl) cs
theorem fa51_2 (id off : Nat) : afieldAddr Tryz.prog 51 (.pointer (some ⟨id, off, none⟩)) 2 = some (.pointer (some ⟨id, off + 6, none⟩)) := afieldAddr_at (n := 0) (f := (fieldT Tryz.prog 51 2).getD default) (by kernel_rfl) (by kernel_rfl) (by kernel_rfl) id off
theorem fl51_2 (cs : List Value) : afield Tryz.prog 51 (.agg cs.toArray) 2 = cs[6]? := afield_one (f := (fieldT Tryz.prog 51 2).getD default) (by kernel_rfl) (by kernel_rfl) (by kernel_rfl) cs
theorem sz52 : szT Tryz.prog 52 = some 1 := by kernel_rfl
theorem ag52 : aggT Tryz.prog 52 = some false := by kernel_rfl
theorem ze52 : zeroT Tryz.prog 52 = some (.slice none 0 0) := by kernel_rfl
theorem inf52 : ∃ i, Tryz.prog.info? 52 = some i ∧ i.zero = some (.slice none 0 0) ∧ i.size = 1 ∧ i.bytes = 24 := by
  have h : (Tryz.prog.info? 52).map (fun i => (i.zero, i.size, i.bytes)) = some (some (.slice none 0 0), 1, 24) := by kernel_rfl
  obtain ⟨i, h1, h2⟩ := Option.map_eq_some_iff.1 h
  simp only [Prod.mk.injEq] at h2
  exact ⟨i, h1, h2.1, h2.2.1, h2.2.2⟩
theorem st52 (H : AHeap) (id off : Nat) (x : Value) : astoreT Tryz.prog H 52 (.pointer (some ⟨id, off, none⟩)) x = if x.cells.size = 1 ∧ x.cells.toList.all oneCell = true then ((H[id]?).bind (rowStore off x.cells.toList)).map fun o => H.set id o else none := astore_rule sz52 H id off x
theorem un52 : Tryz.prog.underlying 52 = some (.slice 47) := by kernel_rfl
theorem el52 : elemT Tryz.prog 52 = some 47 := by kernel_rfl
theorem ln52 (H : AHeap) (a : Option Addr) (m c : Nat) : alen Tryz.prog H 52 (.slice a m c) = some (.int .i64 m) := alen_slice un52 H a m c
theorem cp52 (a : Addr) (m c : Nat) : acap Tryz.prog 52 (.slice (some a) m c) = if c = 0 then none else some (.int .i64 c) := acap_slice un52 a m c
theorem ix52 (id off m c : Nat) (ik : IntKind) (i : Int) : aindexAddr Tryz.prog 52 (.slice (some ⟨id, off, none⟩) m c) (.int ik i) = if 0 ≤ i ∧ i < m then some (.pointer (some ⟨id, off + i.toNat * 5, none⟩)) else none := aindexAddr_at un52 (by kernel_rfl) id off m c ik i
theorem en52 (H : AHeap) (xo yo : Operand) (a : Option Addr) (n c m q : Nat) : abin Tryz.prog H .eql 52 xo yo (.slice a n c) (.slice none m q) = some (.bool a.isNone) := abin_eq_slnil un52 H xo yo a n c m q
theorem nn52 (H : AHeap) (xo yo : Operand) (a : Option Addr) (n c m q : Nat) : abin Tryz.prog H .neq 52 xo yo (.slice a n c) (.slice none m q) = some (.bool !a.isNone) := abin_ne_slnil un52 H xo yo a n c m q
theorem sc52 (H : AHeap) (a : Option Addr) (n c : Nat) (lo hi : Option Value) : aslice Tryz.prog H 52 (.slice a n c) lo hi none = (optB hi (some n) (capOf n c)).bind fun h => (optB lo (some 0) h).bind fun l => cut H 5 a c l h := aslice_sl un52 (by kernel_rfl) H a n c lo hi
theorem sz53 : szT Tryz.prog 53 = some 1 := by kernel_rfl
theorem ag53 : aggT Tryz.prog 53 = some false := by kernel_rfl
theorem ze53 : zeroT Tryz.prog 53 = some (.slice none 0 0) := by kernel_rfl
theorem inf53 : ∃ i, Tryz.prog.info? 53 = some i ∧ i.zero = some (.slice none 0 0) ∧ i.size = 1 ∧ i.bytes = 24 := by
  have h : (Tryz.prog.info? 53).map (fun i => (i.zero, i.size, i.bytes)) = some (some (.slice none 0 0), 1, 24) := by kernel_rfl
  obtain ⟨i, h1, h2⟩ := Option.map_eq_some_iff.1 h
  simp only [Prod.mk.injEq] at h2
  exact ⟨i, h1, h2.1, h2.2.1, h2.2.2⟩
theorem st53 (H : AHeap) (id off : Nat) (x : Value) : astoreT Tryz.prog H 53 (.pointer (some ⟨id, off, none⟩)) x = if x.cells.size = 1 ∧ x.cells.toList.all oneCell = true then ((H[id]?).bind (rowStore off x.cells.toList)).map fun o => H.set id o else none := astore_rule sz53 H id off x
theorem un53 : Tryz.prog.underlying 53 = some (.slice 415) := by kernel_rfl
theorem el53 : elemT Tryz.prog 53 = some 415 := by kernel_rfl
theorem ln53 (H : AHeap) (a : Option Addr) (m c : Nat) : alen Tryz.prog H 53 (.slice a m c) = some (.int .i64 m) := alen_slice un53 H a m c
theorem cp53 (a : Addr) (m c : Nat) : acap Tryz.prog 53 (.slice (some a) m c) = if c = 0 then none else some (.int .i64 c) := acap_slice un53 a m c
theorem ix53 (id off m c : Nat) (ik : IntKind) (i : Int) : aindexAddr Tryz.prog 53 (.slice (some ⟨id, off, none⟩) m c) (.int ik i) = if 0 ≤ i ∧ i < m then some (.pointer (some ⟨id, off + i.toNat * 4, none⟩)) else none := aindexAddr_at un53 (by kernel_rfl) id off m c ik i
theorem en53 (H : AHeap) (xo yo : Operand) (a : Option Addr) (n c m q : Nat) : abin Tryz.prog H .eql 53 xo yo (.slice a n c) (.slice none m q) = some (.bool a.isNone) := abin_eq_slnil un53 H xo yo a n c m q
theorem nn53 (H : AHeap) (xo yo : Operand) (a : Option Addr) (n c m q : Nat) : abin Tryz.prog H .neq 53 xo yo (.slice a n c) (.slice none m q) = some (.bool !a.isNone) := abin_ne_slnil un53 H xo yo a n c m q
theorem sc53 (H : AHeap) (a : Option Addr) (n c : Nat) (lo hi : Option Value) : aslice Tryz.prog H 53 (.slice a n c) lo hi none = (optB hi (some n) (capOf n c)).bind fun h => (optB lo (some 0) h).bind fun l => cut H 4 a c l h := aslice_sl un53 (by kernel_rfl) H a n c lo hi
theorem sz54 : szT Tryz.prog 54 = some 41 := by kernel_rfl
theorem ag54 : aggT Tryz.prog 54 = some true := by kernel_rfl
theorem ze54 : zeroT Tryz.prog 54 = some (.agg #[.int .i64 0, .int .i64 0, .int .i64 0, .int .u64 0, .int .u64 0, .int .u64 0, .int .i64 0, .int .u64 0, .int .i64 0, .int .i64 0, .slice none 0 0, .slice none 0 0, .int .i64 0, .int .i64 0, .int .i64 0, .int .i64 0, .slice none 0 0, .int .i64 0, .int .i64 0, .slice none 0 0, .int .i64 0, .slice none 0 0, .slice none 0 0, .int .i64 0, .int .i64 0, .int .i64 0, .int .i64 0, .int .i64 0, .int .i64 0, .int .i64 0, .int .i64 0, .int .i64 0, .bool false, .int .i64 0, .int .i64 0, .int .i64 0, .int .i64 0, .int .i64 0, .int .i64 0, .slice none 0 0, .slice none 0 0]) := by kernel_rfl
theorem pz54 : plainV 100 (.agg #[.int .i64 0, .int .i64 0, .int .i64 0, .int .u64 0, .int .u64 0, .int .u64 0, .int .i64 0, .int .u64 0, .int .i64 0, .int .i64 0, .slice none 0 0, .slice none 0 0, .int .i64 0, .int .i64 0, .int .i64 0, .int .i64 0, .slice none 0 0, .int .i64 0, .int .i64 0, .slice none 0 0, .int .i64 0, .slice none 0 0, .slice none 0 0, .int .i64 0, .int .i64 0, .int .i64 0, .int .i64 0, .int .i64 0, .int .i64 0, .int .i64 0, .int .i64 0, .int .i64 0, .bool false, .int .i64 0, .int .i64 0, .int .i64 0, .int .i64 0, .int .i64 0, .int .i64 0, .slice none 0 0, .slice none 0 0]) = true := by kernel_rfl
theorem inf54 : ∃ i, Tryz.prog.info? 54 = some i ∧ i.zero = some (.agg #[.int .i64 0, .int .i64 0, .int .i64 0, .int .u64 0, .int .u64 0, .int .u64 0, .int .i64 0, .int .u64 0, .int .i64 0, .int .i64 0, .slice none 0 0, .slice none 0 0, .int .i64 0, .int .i64 0, .int .i64 0, .int .i64 0, .slice none 0 0, .int .i64 0, .int .i64 0, .slice none 0 0, .int .i64 0, .slice none 0 0, .slice none 0 0, .int .i64 0, .int .i64 0, .int .i64 0, .int .i64 0, .int .i64 0, .int .i64 0, .int .i64 0, .int .i64 0, .int .i64 0, .bool false, .int .i64 0, .int .i64 0, .int .i64 0, .int .i64 0, .int .i64 0, .int .i64 0, .slice none 0 0, .slice none 0 0]) ∧ i.size = 41 ∧ i.bytes = 456 := by
  have h : (Tryz.prog.info? 54).map (fun i => (i.zero, i.size, i.bytes)) = some (some (.agg #[.int .i64 0, .int .i64 0, .int .i64 0, .int .u64 0, .int .u64 0, .int .u64 0, .int .i64 0, .int .u64 0, .int .i64 0, .int .i64 0, .slice none 0 0, .slice none 0 0, .int .i64 0, .int .i64 0, .int .i64 0, .int .i64 0, .slice none 0 0, .int .i64 0, .int .i64 0, .slice none 0 0, .int .i64 0, .slice none 0 0, .slice none 0 0, .int .i64 0, .int .i64 0, .int .i64 0, .int .i64 0, .int .i64 0, .int .i64 0, .int .i64 0, .int .i64 0, .int .i64 0, .bool false, .int .i64 0, .int .i64 0, .int .i64 0, .int .i64 0, .int .i64 0, .int .i64 0, .slice none 0 0, .slice none 0 0]), 41, 456) := by kernel_rfl
  obtain ⟨i, h1, h2⟩ := Option.map_eq_some_iff.1 h
  simp only [Prod.mk.injEq] at h2
  exact ⟨i, h1, h2.1, h2.2.1, h2.2.2⟩
theorem st54 (H : AHeap) (id off : Nat) (x : Value) : astoreT Tryz.prog H 54 (.pointer (some ⟨id, off, none⟩)) x = if x.cells.size = 41 ∧ x.cells.toList.all oneCell = true then ((H[id]?).bind (rowStore off x.cells.toList)).map fun o => H.set id o else none := astore_rule sz54 H id off x
theorem fa54_0 (id off : Nat) : afieldAddr Tryz.prog 54 (.pointer (some ⟨id, off, none⟩)) 0 = some (.pointer (some ⟨id, off + 0, none⟩)) := afieldAddr_at (n := 0) (f := (fieldT Tryz.prog 54 0).getD default) (by kernel_rfl) (by kernel_rfl) (by kernel_rfl) id off
theorem fl54_0 (cs : List Value) : afield Tryz.prog 54 (.agg cs.toArray) 0 = cs[0]? := afield_one (f := (fieldT Tryz.prog 54 0).getD default) (by kernel_rfl) (by kernel_rfl) (by kernel_rfl) cs
theorem fa54_1 (id off : Nat) : afieldAddr Tryz.prog 54 (.pointer (some ⟨id, off, none⟩)) 1 = some (.pointer (some ⟨id, off + 1, none⟩)) := afieldAddr_at (n := 0) (f := (fieldT Tryz.prog 54 1).getD default) (by kernel_rfl) (by kernel_rfl) (by kernel_rfl) id off
theorem fl54_1 (cs : List Value) : afield Tryz.prog 54 (.agg cs.toArray) 1 = cs[1]? := afield_one (f := (fieldT Tryz.prog 54 1).getD default) (by kernel_rfl) (by kernel_rfl) (by kernel_rfl) cs
theorem fa54_2 (id off : Nat) : afieldAddr Tryz.prog 54 (.pointer (some ⟨id, off, none⟩)) 2 = some (.pointer (some ⟨id, off + 2, none⟩)) := afieldAddr_at (n := 0) (f := (fieldT Tryz.prog 54 2).getD default) (by kernel_rfl) (by kernel_rfl) (by kernel_rfl) id off
theorem fl54_2 (cs : List Value) : afield Tryz.prog 54 (.agg cs.toArray) 2 = cs[2]? := afield_one (f := (fieldT Tryz.prog 54 2).getD default) (by kernel_rfl) (by kernel_rfl) (by kernel_rfl) cs
theorem fa54_3 (id off : Nat) : afieldAddr Tryz.prog 54 (.pointer (some ⟨id, off, none⟩)) 3 = some (.pointer (some ⟨id, off + 3, none⟩)) := afieldAddr_at (n := 0) (f := (fieldT Tryz.prog 54 3).getD default) (by kernel_rfl) (by kernel_rfl) (by kernel_rfl) id off
theorem fl54_3 (cs : List Value) : afield Tryz.prog 54 (.agg cs.toArray) 3 = cs[3]? := afield_one (f := (fieldT Tryz.prog 54 3).getD default) (by kernel_rfl) (by kernel_rfl) (by kernel_rfl) cs
theorem fa54_4 (id off : Nat) : afieldAddr Tryz.prog 54 (.pointer (some ⟨id, off, none⟩)) 4 = some (.pointer (some ⟨id, off + 4, none⟩)) := afieldAddr_at (n := 0) (f := (fieldT Tryz.prog 54 4).getD default) (by kernel_rfl) (by kernel_rfl) (by kernel_rfl) id off
theorem fl54_4 (cs : List Value) : afield Tryz.prog 54 (.agg cs.toArray) 4 = cs[4]? := afield_one (f := (fieldT Tryz.prog 54 4).getD default) (by kernel_rfl) (by kernel_rfl) (by kernel_rfl) cs
theorem fa54_5 (id off : Nat) : afieldAddr Tryz.prog 54 (.pointer (some ⟨id, off, none⟩)) 5 = some (.pointer (some ⟨id, off + 5, none⟩)) := afieldAddr_at (n := 0) (f := (fieldT Tryz.prog 54 5).getD default) (by kernel_rfl) (by kernel_rfl) (by kernel_rfl) id off
theorem fl54_5 (cs : List Value) : afield Tryz.prog 54 (.agg cs.toArray) 5 = cs[5]? := afield_one (f := (fieldT Tryz.prog 54 5).getD default) (by kernel_rfl) (by kernel_rfl) (by kernel_rfl) cs
theorem fa54_6 (id off : Nat) : afieldAddr Tryz.prog 54 (.pointer (some ⟨id, off, none⟩)) 6 = some (.pointer (some ⟨id, off + 6, none⟩)) := afieldAddr_at (n := 0) (f := (fieldT Tryz.prog 54 6).getD default) (by kernel_rfl) (by kernel_rfl) (by kernel_rfl) id off
theorem fl54_6 (cs : List Value) : afield Tryz.prog 54 (.agg cs.toArray) 6 = cs[6]? := afield_one (f := (fieldT Tryz.prog 54 6).getD default) (by kernel_rfl) (by kernel_rfl) (by kernel_rfl) cs
theorem fa54_7 (id off : Nat) : afieldAddr Tryz.prog 54 (.pointer (some ⟨id, off, none⟩)) 7 = some (.pointer (some ⟨id, off + 7, none⟩)) := afieldAddr_at (n := 0) (f := (fieldT Tryz.prog 54 7).getD default) (by kernel_rfl) (by kernel_rfl) (by kernel_rfl) id off
theorem fl54_7 (cs : List Value) : afield Tryz.prog 54 (.agg cs.toArray) 7 = cs[7]? := afield_one (f := (fieldT Tryz.prog 54 7).getD default) (by kernel_rfl) (by kernel_rfl) (by kernel_rfl) cs
theorem fa54_8 (id off : Nat) : afieldAddr Tryz.prog 54 (.pointer (some ⟨id, off, none⟩)) 8 = some (.pointer (some ⟨id, off + 8, none⟩)) := afieldAddr_at (n := 0) (f := (fieldT Tryz.prog 54 8).getD default) (by kernel_rfl) (by kernel_rfl) (by kernel_rfl) id off
theorem fl54_8 (cs : List Value) : afield Tryz.prog 54 (.agg cs.toArray) 8 = cs[8]? := afield_one (f := (fieldT Tryz.prog 54 8).getD default) (by kernel_rfl) (by kernel_rfl) (by kernel_rfl) cs
theorem fa54_9 (id off : Nat) : afieldAddr Tryz.prog 54 (.pointer (some ⟨id, off, none⟩)) 9 = some (.pointer (some ⟨id, off + 9, none⟩)) := afieldAddr_at (n := 2) (f := (fieldT Tryz.prog 54 9).getD default) (by kernel_rfl) (by kernel_rfl) (by kernel_rfl) id off
theorem fl54_9 (cs : List Value) : afield Tryz.prog 54 (.agg cs.toArray) 9 = some (.agg ((cs.drop 9).take 3).toArray) := afield_agg (f := (fieldT Tryz.prog 54 9).getD default) (by kernel_rfl) (by kernel_rfl) (by kernel_rfl) (by kernel_rfl) cs
theorem fa54_10 (id off : Nat) : afieldAddr Tryz.prog 54 (.pointer (some ⟨id, off, none⟩)) 10 = some (.pointer (some ⟨id, off + 12, none⟩)) := afieldAddr_at (n := 12) (f := (fieldT Tryz.prog 54 10).getD default) (by kernel_rfl) (by kernel_rfl) (by kernel_rfl) id off
theorem fl54_10 (cs : List Value) : afield Tryz.prog 54 (.agg cs.toArray) 10 = some (.agg ((cs.drop 12).take 13).toArray) := afield_agg (f := (fieldT Tryz.prog 54 10).getD default) (by kernel_rfl) (by kernel_rfl) (by kernel_rfl) (by kernel_rfl) cs
theorem fa54_11 (id off : Nat) : afieldAddr Tryz.prog 54 (.pointer (some ⟨id, off, none⟩)) 11 = some (.pointer (some ⟨id, off + 25, none⟩)) := afieldAddr_at (n := 6) (f := (fieldT Tryz.prog 54 11).getD default) (by kernel_rfl) (by kernel_rfl) (by kernel_rfl) id off
theorem fl54_11 (cs : List Value) : afield Tryz.prog 54 (.agg cs.toArray) 11 = some (.agg ((cs.drop 25).take 7).toArray) := afield_agg (f := (fieldT Tryz.prog 54 11).getD default) (by kernel_rfl) (by kernel_rfl) (by kernel_rfl) (by kernel_rfl) cs
theorem fa54_12 (id off : Nat) : afieldAddr Tryz.prog 54 (.pointer (some ⟨id, off, none⟩)) 12 = some (.pointer (some ⟨id, off + 32, none⟩)) := afieldAddr_at (n := 6) (f := (fieldT Tryz.prog 54 12).getD default) (by kernel_rfl) (by kernel_rfl) (by kernel_rfl) id off
theorem fl54_12 (cs : List Value) : afield Tryz.prog 54 (.agg cs.toArray) 12 = some (.agg ((cs.drop 32).take 7).toArray) := afield_agg (f := (fieldT Tryz.prog 54 12).getD default) (by kernel_rfl) (by kernel_rfl) (by kernel_rfl) (by kernel_rfl) cs
theorem fa54_13 (id off : Nat) : afieldAddr Tryz.prog 54 (.pointer (some ⟨id, off, none⟩)) 13 = some (.pointer (some ⟨id, off + 39, none⟩)) := afieldAddr_at (n := 0) (f := (fieldT Tryz.prog 54 13).getD default) (by kernel_rfl) (by kernel_rfl) (by kernel_rfl) id off
theorem fl54_13 (cs : List Value) : afield Tryz.prog 54 (.agg cs.toArray) 13 = cs[39]? := afield_one (f := (fieldT Tryz.prog 54 13).getD default) (by kernel_rfl) (by kernel_rfl) (by kernel_rfl) cs
theorem fa54_14 (id off : Nat) : afieldAddr Tryz.prog 54 (.pointer (some ⟨id, off, none⟩)) 14 = some (.pointer (some ⟨id, off + 40, none⟩)) := afieldAddr_at (n := 0) (f := (fieldT Tryz.prog 54 14).getD default) (by kernel_rfl) (by kernel_rfl) (by kernel_rfl) id off
theorem fl54_14 (cs : List Value) : afield Tryz.prog 54 (.agg cs.toArray) 14 = cs[40]? := afield_one (f := (fieldT Tryz.prog 54 14).getD default) (by kernel_rfl) (by kernel_rfl) (by kernel_rfl) cs
theorem sz55 : szT Tryz.prog 55 = some 41 := by kernel_rfl
theorem ag55 : aggT Tryz.prog 55 = some true := by kernel_rfl
theorem ze55 : zeroT Tryz.prog 55 = some (.agg #[.int .i64 0, .int .i64 0, .int .i64 0, .int .u64 0, .int .u64 0, .int .u64 0, .int .i64 0, .int .u64 0, .int .i64 0, .int .i64 0, .slice none 0 0, .slice none 0 0, .int .i64 0, .int .i64 0, .int .i64 0, .int .i64 0, .slice none 0 0, .int .i64 0, .int .i64 0, .slice none 0 0, .int .i64 0, .slice none 0 0, .slice none 0 0, .int .i64 0, .int .i64 0, .int .i64 0, .int .i64 0, .int .i64 0, .int .i64 0, .int .i64 0, .int .i64 0, .int .i64 0, .bool false, .int .i64 0, .int .i64 0, .int .i64 0, .int .i64 0, .int .i64 0, .int .i64 0, .slice none 0 0, .slice none 0 0]) := by kernel_rfl
theorem inf55 : ∃ i, Tryz.prog.info? 55 = some i ∧ i.zero = some (.agg #[.int .i64 0, .int .i64 0, .int .i64 0, .int .u64 0, .int .u64 0, .int .u64 0, .int .i64 0, .int .u64 0, .int .i64 0, .int .i64 0, .slice none 0 0, .slice none 0 0, .int .i64 0, .int .i64 0, .int .i64 0, .int .i64 0, .slice none 0 0, .int .i64 0, .int .i64 0, .slice none 0 0, .int .i64 0, .slice none 0 0, .slice none 0 0, .int .i64 0, .int .i64 0, .int .i64 0, .int .i64 0, .int .i64 0, .int .i64 0, .int .i64 0, .int .i64 0, .int .i64 0, .bool false, .int .i64 0, .int .i64 0, .int .i64 0, .int .i64 0, .int .i64 0, .int .i64 0, .slice none 0 0, .slice none 0 0]) ∧ i.size = 41 ∧ i.bytes = 456 := by
  have h : (Tryz.prog.info? 55).map (fun i => (i.zero, i.size, i.bytes)) = some (some (.agg #[.int .i64 0, .int .i64 0, .int .i64 0, .int .u64 0, .int .u64 0, .int .u64 0, .int .i64 0, .int .u64 0, .int .i64 0, .int .i64 0, .slice none 0 0, .slice none 0 0, .int .i64 0, .int .i64 0, .int .i64 0, .int .i64 0, .slice none 0 0, .int .i64 0, .int .i64 0, .slice none 0 0, .int .i64 0, .slice none 0 0, .slice none 0 0, .int .i64 0, .int .i64 0, .int .i64 0, .int .i64 0, .int .i64 0, .int .i64 0, .int .i64 0, .int .i64 0, .int .i64 0, .bool false, .int .i64 0, .int .i64 0, .int .i64 0, .int .i64 0, .int .i64 0, .int .i64 0, .slice none 0 0, .slice none 0 0]), 41, 456) := by kernel_rfl
  obtain ⟨i, h1, h2⟩ := Option.map_eq_some_iff.1 h
  simp only [Prod.mk.injEq] at h2
  exact ⟨i, h1, h2.1, h2.2.1, h2.2.2⟩
theorem st55 (H : AHeap) (id off : Nat) (x : Value) : astoreT Tryz.prog H 55 (.pointer (some ⟨id, off, none⟩)) x = if x.cells.size = 41 ∧ x.cells.toList.all oneCell = true then ((H[id]?).bind (rowStore off x.cells.toList)).map fun o => H.set id o else none := astore_rule sz55 H id off x
theorem fa55_0 (id off : Nat) : afieldAddr Tryz.prog 55 (.pointer (some ⟨id, off, none⟩)) 0 = some (.pointer (some ⟨id, off + 0, none⟩)) := afieldAddr_at (n := 0) (f := (fieldT Tryz.prog 55 0).getD default) (by kernel_rfl) (by kernel_rfl) (by kernel_rfl) id off
theorem fl55_0 (cs : List Value) : afield Tryz.prog 55 (.agg cs.toArray) 0 = cs[0]? := afield_one (f := (fieldT Tryz.prog 55 0).getD default) (by kernel_rfl) (by kernel_rfl) (by kernel_rfl) cs
theorem fa55_1 (id off : Nat) : afieldAddr Tryz.prog 55 (.pointer (some ⟨id, off, none⟩)) 1 = some (.pointer (some ⟨id, off + 1, none⟩)) := afieldAddr_at (n := 0) (f := (fieldT Tryz.prog 55 1).getD default) (by kernel_rfl) (by kernel_rfl) (by kernel_rfl) id off
theorem fl55_1 (cs : List Value) : afield Tryz.prog 55 (.agg cs.toArray) 1 = cs[1]? := afield_one (f := (fieldT Tryz.prog 55 1).getD default) (by kernel_rfl) (by kernel_rfl) (by kernel_rfl) cs
theorem fa55_2 (id off : Nat) : afieldAddr Tryz.prog 55 (.pointer (some ⟨id, off, none⟩)) 2 = some (.pointer (some ⟨id, off + 2, none⟩)) := afieldAddr_at (n := 0) (f := (fieldT Tryz.prog 55 2).getD default) (by kernel_rfl) (by kernel_rfl) (by kernel_rfl) id off
theorem fl55_2 (cs : List Value) : afield Tryz.prog 55 (.agg cs.toArray) 2 = cs[2]? := afield_one (f := (fieldT Tryz.prog 55 2).getD default) (by kernel_rfl) (by kernel_rfl) (by kernel_rfl) cs
theorem fa55_3 (id off : Nat) : afieldAddr Tryz.prog 55 (.pointer (some ⟨id, off, none⟩)) 3 = some (.pointer (some ⟨id, off + 3, none⟩)) := afieldAddr_at (n := 0) (f := (fieldT Tryz.prog 55 3).getD default) (by kernel_rfl) (by kernel_rfl) (by kernel_rfl) id off
theorem fl55_3 (cs : List Value) : afield Tryz.prog 55 (.agg cs.toArray) 3 = cs[3]? := afield_one (f := (fieldT Tryz.prog 55 3).getD default) (by kernel_rfl) (by kernel_rfl) (by kernel_rfl) cs
theorem fa55_4 (id off : Nat) : afieldAddr Tryz.prog 55 (.pointer (some ⟨id, off, none⟩)) 4 = some (.pointer (some ⟨id, off + 4, none⟩)) := afieldAddr_at (n := 0) (f := (fieldT Tryz.prog 55 4).getD default) (by kernel_rfl) (by kernel_rfl) (by kernel_rfl) id off
theorem fl55_4 (cs : List Value) : afield Tryz.prog 55 (.agg cs.toArray) 4 = cs[4]? := afield_one (f := (fieldT Tryz.prog 55 4).getD default) (by kernel_rfl) (by kernel_rfl) (by kernel_rfl) cs
theorem fa55_5 (id off : Nat) : afieldAddr Tryz.prog 55 (.pointer (some ⟨id, off, none⟩)) 5 = some (.pointer (some ⟨id, off + 5, none⟩)) := afieldAddr_at (n := 0) (f := (fieldT Tryz.prog 55 5).getD default) (by kernel_rfl) (by kernel_rfl) (by kernel_rfl) id off
theorem fl55_5 (cs : List Value) : afield Tryz.prog 55 (.agg cs.toArray) 5 = cs[5]? := afield_one (f := (fieldT Tryz.prog 55 5).getD default) (by kernel_rfl) (by kernel_rfl) (by kernel_rfl) cs
theorem fa55_6 (id off : Nat) : afieldAddr Tryz.prog 55 (.pointer (some ⟨id, off, none⟩)) 6 = some (.pointer (some ⟨id, off + 6, none⟩)) := afieldAddr_at (n := 0) (f := (fieldT Tryz.prog 55 6).getD default) (by kernel_rfl) (by kernel_rfl) (by kernel_rfl) id off
theorem fl55_6 (cs : List Value) : afield Tryz.prog 55 (.agg cs.toArray) 6 = cs[6]? := afield_one (f := (fieldT Tryz.prog 55 6).getD default) (by kernel_rfl) (by kernel_rfl) (by kernel_rfl) cs
theorem fa55_7 (id off : Nat) : afieldAddr Tryz.prog 55 (.pointer (some ⟨id, off, none⟩)) 7 = some (.pointer (some ⟨id, off + 7, none⟩)) := afieldAddr_at (n := 0) (f := (fieldT Tryz.prog 55 7).getD default) (by kernel_rfl) (by kernel_rfl) (by kernel_rfl) id off
theorem fl55_7 (cs : List Value) : afield Tryz.prog 55 (.agg cs.toArray) 7 = cs[7]? := afield_one (f := (fieldT Tryz.prog 55 7).getD default) (by kernel_rfl) (by kernel_rfl) (by kernel_rfl) cs
theorem fa55_8 (id off : Nat) : afieldAddr Tryz.prog 55 (.pointer (some ⟨id, off, none⟩)) 8 = some (.pointer (some ⟨id, off + 8, none⟩)) := afieldAddr_at (n := 0) (f := (fieldT Tryz.prog 55 8).getD default) (by kernel_rfl) (by kernel_rfl) (by kernel_rfl) id off
theorem fl55_8 (cs : List Value) : afield Tryz.prog 55 (.agg cs.toArray) 8 = cs[8]? := afield_one (f := (fieldT Tryz.prog 55 8).getD default) (by kernel_rfl) (by kernel_rfl) (by kernel_rfl) cs
theorem fa55_9 (id off : Nat) : afieldAddr Tryz.prog 55 (.pointer (some ⟨id, off, none⟩)) 9 = some (.pointer (some ⟨id, off + 9, none⟩)) := afieldAddr_at (n := 2) (f := (fieldT Tryz.prog 55 9).getD default) (by kernel_rfl) (by kernel_rfl) (by kernel_rfl) id off
theorem fl55_9 (cs : List Value) : afield Tryz.prog 55 (.agg cs.toArray) 9 = some (.agg ((cs.drop 9).take 3).toArray) := afield_agg (f := (fieldT Tryz.prog 55 9).getD default) (by kernel_rfl) (by kernel_rfl) (by kernel_rfl) (by kernel_rfl) cs
theorem fa55_10 (id off : Nat) : afieldAddr Tryz.prog 55 (.pointer (some ⟨id, off, none⟩)) 10 = some (.pointer (some ⟨id, off + 12, none⟩)) := afieldAddr_at (n := 12) (f := (fieldT Tryz.prog 55 10).getD default) (by kernel_rfl) (by kernel_rfl) (by kernel_rfl) id off
theorem fl55_10 (cs : List Value) : afield Tryz.prog 55 (.agg cs.toArray) 10 = some (.agg ((cs.drop 12).take 13).toArray) := afield_agg (f := (fieldT Tryz.prog 55 10).getD default) (by kernel_rfl) (by kernel_rfl) (by kernel_rfl) (by kernel_rfl) cs
theorem fa55_11 (id off : Nat) : afieldAddr Tryz.prog 55 (.pointer (some ⟨id, off, none⟩)) 11 = some (.pointer (some ⟨id, off + 25, none⟩)) := afieldAddr_at (n := 6) (f := (fieldT Tryz.prog 55 11).getD default) (by kernel_rfl) (by kernel_rfl) (by kernel_rfl) id off
theorem fl55_11 (cs : List Value) : afield Tryz.prog 55 (.agg cs.toArray) 11 = some (.agg ((cs.drop 25).take 7).toArray) := afield_agg (f := (fieldT Tryz.prog 55 11).getD default) (by kernel_rfl) (by kernel_rfl) (by kernel_rfl) (by kernel_rfl) cs
theorem fa55_12 (id off : Nat) : afieldAddr Tryz.prog 55 (.pointer (some ⟨id, off, none⟩)) 12 = some (.pointer (some ⟨id, off + 32, none⟩)) := afieldAddr_at (n := 6) (f := (fieldT Tryz.prog 55 12).getD default) (by kernel_rfl) (by kernel_rfl) (by kernel_rfl) id off
theorem fl55_12 (cs : List Value) : afield Tryz.prog 55 (.agg cs.toArray) 12 = some (.agg ((cs.drop 32).take 7).toArray) := afield_agg (f := (fieldT Tryz.prog 55 12).getD default) (by kernel_rfl) (by kernel_rfl) (by kernel_rfl) (by kernel_rfl) cs
theorem fa55_13 (id off : Nat) : afieldAddr Tryz.prog 55 (.pointer (some ⟨id, off, none⟩)) 13 = some (.pointer (some ⟨id, off + 39, none⟩)) := afieldAddr_at (n := 0) (f := (fieldT Tryz.prog 55 13).getD default) (by kernel_rfl) (by kernel_rfl) (by kernel_rfl) id off
theorem fl55_13 (cs : List Value) : afield Tryz.prog 55 (.agg cs.toArray) 13 = cs[39]? := afield_one (f := (fieldT Tryz.prog 55 13).getD default) (by kernel_rfl) (by kernel_rfl) (by kernel_rfl) cs
theorem fa55_14 (id off : Nat) : afieldAddr Tryz.prog 55 (.pointer (some ⟨id, off, none⟩)) 14 = some (.pointer (some ⟨id, off + 40, none⟩)) := afieldAddr_at (n := 0) (f := (fieldT Tryz.prog 55 14).getD default) (by kernel_rfl) (by kernel_rfl) (by kernel_rfl) id off
theorem fl55_14 (cs : List Value) : afield Tryz.prog 55 (.agg cs.toArray) 14 = cs[40]? := afield_one (f := (fieldT Tryz.prog 55 14).getD default) (by kernel_rfl) (by kernel_rfl) (by kernel_rfl) cs
theorem sz56 : szT Tryz.prog 56 = some 1 := by kernel_rfl
theorem ag56 : aggT Tryz.prog 56 = some false := by kernel_rfl
theorem ze56 : zeroT Tryz.prog 56 = some (.pointer none) := by kernel_rfl
theorem inf56 : ∃ i, Tryz.prog.info? 56 = some i ∧ i.zero = some (.pointer none) ∧ i.size = 1 ∧ i.bytes = 8 := by
  have h : (Tryz.prog.info? 56).map (fun i => (i.zero, i.size, i.bytes)) = some (some (.pointer none), 1, 8) := by kernel_rfl
  obtain ⟨i, h1, h2⟩ := Option.map_eq_some_iff.1 h
  simp only [Prod.mk.injEq] at h2
  exact ⟨i, h1, h2.1, h2.2.1, h2.2.2⟩
theorem st56 (H : AHeap) (id off : Nat) (x : Value) : astoreT Tryz.prog H 56 (.pointer (some ⟨id, off, none⟩)) x = if x.cells.size = 1 ∧ x.cells.toList.all oneCell = true then ((H[id]?).bind (rowStore off x.cells.toList)).map fun o => H.set id o else none := astore_rule sz56 H id off x
theorem en56 (H : AHeap) (xo yo : Operand) (a : Option Addr) : abin Tryz.prog H .eql 56 xo yo (.pointer a) (.pointer none) = some (.bool a.isNone) := abin_eq_ptrnil (e := 64) (by kernel_rfl) H xo yo a
theorem nn56 (H : AHeap) (xo yo : Operand) (a : Option Addr) : abin Tryz.prog H .neq 56 xo yo (.pointer a) (.pointer none) = some (.bool !a.isNone) := abin_ne_ptrnil (e := 64) (by kernel_rfl) H xo yo a
theorem sz57 : szT Tryz.prog 57 = some 1 := by kernel_rfl
theorem ag57 : aggT Tryz.prog 57 = some false := by kernel_rfl
theorem ze57 : zeroT Tryz.prog 57 = some (.slice none 0 0) := by kernel_rfl
theorem inf57 : ∃ i, Tryz.prog.info? 57 = some i ∧ i.zero = some (.slice none 0 0) ∧ i.size = 1 ∧ i.bytes = 24 := by
  have h : (Tryz.prog.info? 57).map (fun i => (i.zero, i.size, i.bytes)) = some (some (.slice none 0 0), 1, 24) := by kernel_rfl
  obtain ⟨i, h1, h2⟩ := Option.map_eq_some_iff.1 h
  simp only [Prod.mk.injEq] at h2
  exact ⟨i, h1, h2.1, h2.2.1, h2.2.2⟩
theorem st57 (H : AHeap) (id off : Nat) (x : Value) : astoreT Tryz.prog H 57 (.pointer (some ⟨id, off, none⟩)) x = if x.cells.size = 1 ∧ x.cells.toList.all oneCell = true then ((H[id]?).bind (rowStore off x.cells.toList)).map fun o => H.set id o else none := astore_rule sz57 H id off x
theorem un57 : Tryz.prog.underlying 57 = some (.slice 110) := by kernel_rfl
theorem el57 : elemT Tryz.prog 57 = some 110 := by kernel_rfl
theorem ln57 (H : AHeap) (a : Option Addr) (m c : Nat) : alen Tryz.prog H 57 (.slice a m c) = some (.int .i64 m) := alen_slice un57 H a m c
theorem cp57 (a : Addr) (m c : Nat) : acap Tryz.prog 57 (.slice (some a) m c) = if c = 0 then none else some (.int .i64 c) := acap_slice un57 a m c
theorem ix57 (id off m c : Nat) (ik : IntKind) (i : Int) : aindexAddr Tryz.prog 57 (.slice (some ⟨id, off, none⟩) m c) (.int ik i) = if 0 ≤ i ∧ i < m then some (.pointer (some ⟨id, off + i.toNat * 8, none⟩)) else none := aindexAddr_at un57 (by kernel_rfl) id off m c ik i
theorem en57 (H : AHeap) (xo yo : Operand) (a : Option Addr) (n c m q : Nat) : abin Tryz.prog H .eql 57 xo yo (.slice a n c) (.slice none m q) = some (.bool a.isNone) := abin_eq_slnil un57 H xo yo a n c m q
theorem nn57 (H : AHeap) (xo yo : Operand) (a : Option Addr) (n c m q : Nat) : abin Tryz.prog H .neq 57 xo yo (.slice a n c) (.slice none m q) = some (.bool !a.isNone) := abin_ne_slnil un57 H xo yo a n c m q
theorem sc57 (H : AHeap) (a : Option Addr) (n c : Nat) (lo hi : Option Value) : aslice Tryz.prog H 57 (.slice a n c) lo hi none = (optB hi (some n) (capOf n c)).bind fun h => (optB lo (some 0) h).bind fun l => cut H 8 a c l h := aslice_sl un57 (by kernel_rfl) H a n c lo hi
theorem sz58 : szT Tryz.prog 58 = some 1 := by kernel_rfl
theorem ag58 : aggT Tryz.prog 58 = some false := by kernel_rfl
theorem ze58 : zeroT Tryz.prog 58 = some (.slice none 0 0) := by kernel_rfl
theorem inf58 : ∃ i, Tryz.prog.info? 58 = some i ∧ i.zero = some (.slice none 0 0) ∧ i.size = 1 ∧ i.bytes = 24 := by
  have h : (Tryz.prog.info? 58).map (fun i => (i.zero, i.size, i.bytes)) = some (some (.slice none 0 0), 1, 24) := by kernel_rfl
  obtain ⟨i, h1, h2⟩ := Option.map_eq_some_iff.1 h
  simp only [Prod.mk.injEq] at h2
  exact ⟨i, h1, h2.1, h2.2.1, h2.2.2⟩
theorem st58 (H : AHeap) (id off : Nat) (x : Value) : astoreT Tryz.prog H 58 (.pointer (some ⟨id, off, none⟩)) x = if x.cells.size = 1 ∧ x.cells.toList.all oneCell = true then ((H[id]?).bind (rowStore off x.cells.toList)).map fun o => H.set id o else none := astore_rule sz58 H id off x
theorem un58 : Tryz.prog.underlying 58 = some (.slice 34) := by kernel_rfl
theorem el58 : elemT Tryz.prog 58 = some 34 := by kernel_rfl
theorem ln58 (H : AHeap) (a : Option Addr) (m c : Nat) : alen Tryz.prog H 58 (.slice a m c) = some (.int .i64 m) := alen_slice un58 H a m c
theorem cp58 (a : Addr) (m c : Nat) : acap Tryz.prog 58 (.slice (some a) m c) = if c = 0 then none else some (.int .i64 c) := acap_slice un58 a m c
theorem ix58 (id off m c : Nat) (ik : IntKind) (i : Int) : aindexAddr Tryz.prog 58 (.slice (some ⟨id, off, none⟩) m c) (.int ik i) = if 0 ≤ i ∧ i < m then some (.pointer (some ⟨id, off + i.toNat * 1, none⟩)) else none := aindexAddr_at un58 (by kernel_rfl) id off m c ik i
theorem en58 (H : AHeap) (xo yo : Operand) (a : Option Addr) (n c m q : Nat) : abin Tryz.prog H .eql 58 xo yo (.slice a n c) (.slice none m q) = some (.bool a.isNone) := abin_eq_slnil un58 H xo yo a n c m q
theorem nn58 (H : AHeap) (xo yo : Operand) (a : Option Addr) (n c m q : Nat) : abin Tryz.prog H .neq 58 xo yo (.slice a n c) (.slice none m q) = some (.bool !a.isNone) := abin_ne_slnil un58 H xo yo a n c m q
theorem sc58 (H : AHeap) (a : Option Addr) (n c : Nat) (lo hi : Option Value) : aslice Tryz.prog H 58 (.slice a n c) lo hi none = (optB hi (some n) (capOf n c)).bind fun h => (optB lo (some 0) h).bind fun l => cut H 1 a c l h := aslice_sl un58 (by kernel_rfl) H a n c lo hi
theorem sz59 : szT Tryz.prog 59 = some 5 := by kernel_rfl
theorem ag59 : aggT Tryz.prog 59 = some true := by kernel_rfl
theorem ze59 : zeroT Tryz.prog 59 = some (.agg #[.int .i64 0, .int .i64 0, .int .i64 0, .slice none 0 0, .slice none 0 0]) := by kernel_rfl
theorem pz59 : plainV 100 (.agg #[.int .i64 0, .int .i64 0, .int .i64 0, .slice none 0 0, .slice none 0 0]) = true := by kernel_rfl
theorem inf59 : ∃ i, Tryz.prog.info? 59 = some i ∧ i.zero = some (.agg #[.int .i64 0, .int .i64 0, .int .i64 0, .slice none 0 0, .slice none 0 0]) ∧ i.size = 5 ∧ i.bytes = 72 := by
  have h : (Tryz.prog.info? 59).map (fun i => (i.zero, i.size, i.bytes)) = some (some (.agg #[.int .i64 0, .int .i64 0, .int .i64 0, .slice none 0 0, .slice none 0 0]), 5, 72) := by kernel_rfl
  obtain ⟨i, h1, h2⟩ := Option.map_eq_some_iff.1 h
  simp only [Prod.mk.injEq] at h2
  exact ⟨i, h1, h2.1, h2.2.1, h2.2.2⟩
theorem st59 (H : AHeap) (id off : Nat) (x : Value) : astoreT Tryz.prog H 59 (.pointer (some ⟨id, off, none⟩)) x = if x.cells.size = 5 ∧ x.cells.toList.all oneCell = true then ((H[id]?).bind (rowStore off x.cells.toList)).map fun o => H.set id o else none := astore_rule sz59 H id off x
theorem fa59_0 (id off : Nat) : afieldAddr Tryz.prog 59 (.pointer (some ⟨id, off, none⟩)) 0 = some (.pointer (some ⟨id, off + 0, none⟩)) := afieldAddr_at (n := 0) (f := (fieldT Tryz.prog 59 0).getD default) (by kernel_rfl) (by kernel_rfl) (by kernel_rfl) id off
theorem fl59_0 (cs : List Value) : afield Tryz.prog 59 (.agg cs.toArray) 0 = cs[0]? := afield_one (f := (fieldT Tryz.prog 59 0).getD default) (by kernel_rfl) (by kernel_rfl) (by kernel_rfl) cs
theorem fa59_1 (id off : Nat) : afieldAddr Tryz.prog 59 (.pointer (some ⟨id, off, none⟩)) 1 = some (.pointer (some ⟨id, off + 1, none⟩)) := afieldAddr_at (n := 0) (f := (fieldT Tryz.prog 59 1).getD default) (by kernel_rfl) (by kernel_rfl) (by kernel_rfl) id off
theorem fl59_1 (cs : List Value) : afield Tryz.prog 59 (.agg cs.toArray) 1 = cs[1]? := afield_one (f := (fieldT Tryz.prog 59 1).getD default) (by kernel_rfl) (by kernel_rfl) (by kernel_rfl) cs
theorem fa59_2 (id off : Nat) : afieldAddr Tryz.prog 59 (.pointer (some ⟨id, off, none⟩)) 2 = some (.pointer (some ⟨id, off + 2, none⟩)) := afieldAddr_at (n := 0) (f := (fieldT Tryz.prog 59 2).getD default) (by kernel_rfl) (by kernel_rfl) (by kernel_rfl) id off
theorem fl59_2 (cs : List Value) : afield Tryz.prog 59 (.agg cs.toArray) 2 = cs[2]? := afield_one (f := (fieldT Tryz.prog 59 2).getD default) (by kernel_rfl) (by kernel_rfl) (by kernel_rfl) cs
theorem fa59_3 (id off : Nat) : afieldAddr Tryz.prog 59 (.pointer (some ⟨id, off, none⟩)) 3 = some (.pointer (some ⟨id, off + 3, none⟩)) := afieldAddr_at (n := 0) (f := (fieldT Tryz.prog 59 3).getD default) (by kernel_rfl) (by kernel_rfl) (by kernel_rfl) id off
theorem fl59_3 (cs : List Value) : afield Tryz.prog 59 (.agg cs.toArray) 3 = cs[3]? := afield_one (f := (fieldT Tryz.prog 59 3).getD default) (by kernel_rfl) (by kernel_rfl) (by kernel_rfl) cs
theorem fa59_4 (id off : Nat) : afieldAddr Tryz.prog 59 (.pointer (some ⟨id, off, none⟩)) 4 = some (.pointer (some ⟨id, off + 4, none⟩)) := afieldAddr_at (n := 0) (f := (fieldT Tryz.prog 59 4).getD default) (by kernel_rfl) (by kernel_rfl) (by kernel_rfl) id off
theorem fl59_4 (cs : List Value) : afield Tryz.prog 59 (.agg cs.toArray) 4 = cs[4]? := afield_one (f := (fieldT Tryz.prog 59 4).getD default) (by kernel_rfl) (by kernel_rfl) (by kernel_rfl) cs
theorem sz60 : szT Tryz.prog 60 = some 5 := by kernel_rfl
theorem ag60 : aggT Tryz.prog 60 = some true := by kernel_rfl
theorem ze60 : zeroT Tryz.prog 60 = some (.agg #[.int .i64 0, .int .i64 0, .int .i64 0, .slice none 0 0, .slice none 0 0]) := by kernel_rfl
theorem inf60 : ∃ i, Tryz.prog.info? 60 = some i ∧ i.zero = some (.agg #[.int .i64 0, .int .i64 0, .int .i64 0, .slice none 0 0, .slice none 0 0]) ∧ i.size = 5 ∧ i.bytes = 72 := by
  have h : (Tryz.prog.info? 60).map (fun i => (i.zero, i.size, i.bytes)) = some (some (.agg #[.int .i64 0, .int .i64 0, .int .i64 0, .slice none 0 0, .slice none 0 0]), 5, 72) := by kernel_rfl
  obtain ⟨i, h1, h2⟩ := Option.map_eq_some_iff.1 h
  simp only [Prod.mk.injEq] at h2
  exact ⟨i, h1, h2.1, h2.2.1, h2.2.2⟩
theorem st60 (H : AHeap) (id off : Nat) (x : Value) : astoreT Tryz.prog H 60 (.pointer (some ⟨id, off, none⟩)) x = if x.cells.size = 5 ∧ x.cells.toList.all oneCell = true then ((H[id]?).bind (rowStore off x.cells.toList)).map fun o => H.set id o else none := astore_rule sz60 H id off x
theorem fa60_0 (id off : Nat) : afieldAddr Tryz.prog 60 (.pointer (some ⟨id, off, none⟩)) 0 = some (.pointer (some ⟨id, off + 0, none⟩)) := afieldAddr_at (n := 0) (f := (fieldT Tryz.prog 60 0).getD default) (by kernel_rfl) (by kernel_rfl) (by kernel_rfl) id off
theorem fl60_0 (cs : List Value) : afield Tryz.prog 60 (.agg cs.toArray) 0 = cs[0]? := afield_one (f := (fieldT Tryz.prog 60 0).getD default) (by kernel_rfl) (by kernel_rfl) (by kernel_rfl) cs
theorem fa60_1 (id off : Nat) : afieldAddr Tryz.prog 60 (.pointer (some ⟨id, off, none⟩)) 1 = some (.pointer (some ⟨id, off + 1, none⟩)) := afieldAddr_at (n := 0) (f := (fieldT Tryz.prog 60 1).getD default) (by kernel_rfl) (by kernel_rfl) (by kernel_rfl) id off
theorem fl60_1 (cs : List Value) : afield Tryz.prog 60 (.agg cs.toArray) 1 = cs[1]? := afield_one (f := (fieldT Tryz.prog 60 1).getD default) (by kernel_rfl) (by kernel_rfl) (by kernel_rfl) cs
theorem fa60_2 (id off : Nat) : afieldAddr Tryz.prog 60 (.pointer (some ⟨id, off, none⟩)) 2 = some (.pointer (some ⟨id, off + 2, none⟩)) := afieldAddr_at (n := 0) (f := (fieldT Tryz.prog 60 2).getD default) (by kernel_rfl) (by kernel_rfl) (by kernel_rfl) id off
theorem fl60_2 (cs : List Value) : afield Tryz.prog 60 (.agg cs.toArray) 2 = cs[2]? := afield_one (f := (fieldT Tryz.prog 60 2).getD default) (by kernel_rfl) (by kernel_rfl) (by kernel_rfl) cs
theorem fa60_3 (id off : Nat) : afieldAddr Tryz.prog 60 (.pointer (some ⟨id, off, none⟩)) 3 = some (.pointer (some ⟨id, off + 3, none⟩)) := afieldAddr_at (n := 0) (f := (fieldT Tryz.prog 60 3).getD default) (by kernel_rfl) (by kernel_rfl) (by kernel_rfl) id off
theorem fl60_3 (cs : List Value) : afield Tryz.prog 60 (.agg cs.toArray) 3 = cs[3]? := afield_one (f := (fieldT Tryz.prog 60 3).getD default) (by kernel_rfl) (by kernel_rfl) (by kernel_rfl) cs
theorem fa60_4 (id off : Nat) : afieldAddr Tryz.prog 60 (.pointer (some ⟨id, off, none⟩)) 4 = some (.pointer (some ⟨id, off + 4, none⟩)) := afieldAddr_at (n := 0) (f := (fieldT Tryz.prog 60 4).getD default) (by kernel_rfl) (by kernel_rfl) (by kernel_rfl) id off
theorem fl60_4 (cs : List Value) : afield Tryz.prog 60 (.agg cs.toArray) 4 = cs[4]? := afield_one (f := (fieldT Tryz.prog 60 4).getD default) (by kernel_rfl) (by kernel_rfl) (by kernel_rfl) cs
theorem sz61 : szT Tryz.prog 61 = some 1 := by kernel_rfl
theorem ag61 : aggT Tryz.prog 61 = some false := by kernel_rfl
theorem ze61 : zeroT Tryz.prog 61 = some (.slice none 0 0) := by kernel_rfl
theorem inf61 : ∃ i, Tryz.prog.info? 61 = some i ∧ i.zero = some (.slice none 0 0) ∧ i.size = 1 ∧ i.bytes = 24 := by
  have h : (Tryz.prog.info? 61).map (fun i => (i.zero, i.size, i.bytes)) = some (some (.slice none 0 0), 1, 24) := by kernel_rfl
  obtain ⟨i, h1, h2⟩ := Option.map_eq_some_iff.1 h
  simp only [Prod.mk.injEq] at h2
  exact ⟨i, h1, h2.1, h2.2.1, h2.2.2⟩
theorem st61 (H : AHeap) (id off : Nat) (x : Value) : astoreT Tryz.prog H 61 (.pointer (some ⟨id, off, none⟩)) x = if x.cells.size = 1 ∧ x.cells.toList.all oneCell = true then ((H[id]?).bind (rowStore off x.cells.toList)).map fun o => H.set id o else none := astore_rule sz61 H id off x
theorem un61 : Tryz.prog.underlying 61 = some (.slice 3) := by kernel_rfl
theorem el61 : elemT Tryz.prog 61 = some 3 := by kernel_rfl
theorem ln61 (H : AHeap) (a : Option Addr) (m c : Nat) : alen Tryz.prog H 61 (.slice a m c) = some (.int .i64 m) := alen_slice un61 H a m c
theorem cp61 (a : Addr) (m c : Nat) : acap Tryz.prog 61 (.slice (some a) m c) = if c = 0 then none else some (.int .i64 c) := acap_slice un61 a m c
theorem ix61 (id off m c : Nat) (ik : IntKind) (i : Int) : aindexAddr Tryz.prog 61 (.slice (some ⟨id, off, none⟩) m c) (.int ik i) = if 0 ≤ i ∧ i < m then some (.pointer (some ⟨id, off + i.toNat * 1, none⟩)) else none := aindexAddr_at un61 (by kernel_rfl) id off m c ik i
theorem en61 (H : AHeap) (xo yo : Operand) (a : Option Addr) (n c m q : Nat) : abin Tryz.prog H .eql 61 xo yo (.slice a n c) (.slice none m q) = some (.bool a.isNone) := abin_eq_slnil un61 H xo yo a n c m q
theorem nn61 (H : AHeap) (xo yo : Operand) (a : Option Addr) (n c m q : Nat) : abin Tryz.prog H .neq 61 xo yo (.slice a n c) (.slice none m q) = some (.bool !a.isNone) := abin_ne_slnil un61 H xo yo a n c m q
theorem sc61 (H : AHeap) (a : Option Addr) (n c : Nat) (lo hi : Option Value) : aslice Tryz.prog H 61 (.slice a n c) lo hi none = (optB hi (some n) (capOf n c)).bind fun h => (optB lo (some 0) h).bind fun l => cut H 1 a c l h := aslice_sl un61 (by kernel_rfl) H a n c lo hi
theorem sz62 : szT Tryz.prog 62 = some 1 := by kernel_rfl
theorem ag62 : aggT Tryz.prog 62 = some false := by kernel_rfl
theorem ze62 : zeroT Tryz.prog 62 = some (.slice none 0 0) := by kernel_rfl
theorem inf62 : ∃ i, Tryz.prog.info? 62 = some i ∧ i.zero = some (.slice none 0 0) ∧ i.size = 1 ∧ i.bytes = 24 := by
  have h : (Tryz.prog.info? 62).map (fun i => (i.zero, i.size, i.bytes)) = some (some (.slice none 0 0), 1, 24) := by kernel_rfl
  obtain ⟨i, h1, h2⟩ := Option.map_eq_some_iff.1 h
  simp only [Prod.mk.injEq] at h2
  exact ⟨i, h1, h2.1, h2.2.1, h2.2.2⟩
theorem st62 (H : AHeap) (id off : Nat) (x : Value) : astoreT Tryz.prog H 62 (.pointer (some ⟨id, off, none⟩)) x = if x.cells.size = 1 ∧ x.cells.toList.all oneCell = true then ((H[id]?).bind (rowStore off x.cells.toList)).map fun o => H.set id o else none := astore_rule sz62 H id off x
theorem un62 : Tryz.prog.underlying 62 = some (.slice 418) := by kernel_rfl
theorem el62 : elemT Tryz.prog 62 = some 418 := by kernel_rfl
theorem ln62 (H : AHeap) (a : Option Addr) (m c : Nat) : alen Tryz.prog H 62 (.slice a m c) = some (.int .i64 m) := alen_slice un62 H a m c
theorem cp62 (a : Addr) (m c : Nat) : acap Tryz.prog 62 (.slice (some a) m c) = if c = 0 then none else some (.int .i64 c) := acap_slice un62 a m c
theorem ix62 (id off m c : Nat) (ik : IntKind) (i : Int) : aindexAddr Tryz.prog 62 (.slice (some ⟨id, off, none⟩) m c) (.int ik i) = if 0 ≤ i ∧ i < m then some (.pointer (some ⟨id, off + i.toNat * 4, none⟩)) else none := aindexAddr_at un62 (by kernel_rfl) id off m c ik i
theorem en62 (H : AHeap) (xo yo : Operand) (a : Option Addr) (n c m q : Nat) : abin Tryz.prog H .eql 62 xo yo (.slice a n c) (.slice none m q) = some (.bool a.isNone) := abin_eq_slnil un62 H xo yo a n c m q
theorem nn62 (H : AHeap) (xo yo : Operand) (a : Option Addr) (n c m q : Nat) : abin Tryz.prog H .neq 62 xo yo (.slice a n c) (.slice none m q) = some (.bool !a.isNone) := abin_ne_slnil un62 H xo yo a n c m q
theorem sc62 (H : AHeap) (a : Option Addr) (n c : Nat) (lo hi : Option Value) : aslice Tryz.prog H 62 (.slice a n c) lo hi none = (optB hi (some n) (capOf n c)).bind fun h => (optB lo (some 0) h).bind fun l => cut H 4 a c l h := aslice_sl un62 (by kernel_rfl) H a n c lo hi
theorem sz63 : szT Tryz.prog 63 = some 9 := by kernel_rfl
theorem ag63 : aggT Tryz.prog 63 = some true := by kernel_rfl
theorem ze63 : zeroT Tryz.prog 63 = some (.agg #[.int .i64 0, .int .i64 0, .int .i64 0, .slice none 0 0, .slice none 0 0, .bool false, .int .i64 0, .slice none 0 0, .slice none 0 0]) := by kernel_rfl
theorem pz63 : plainV 100 (.agg #[.int .i64 0, .int .i64 0, .int .i64 0, .slice none 0 0, .slice none 0 0, .bool false, .int .i64 0, .slice none 0 0, .slice none 0 0]) = true := by kernel_rfl
theorem inf63 : ∃ i, Tryz.prog.info? 63 = some i ∧ i.zero = some (.agg #[.int .i64 0, .int .i64 0, .int .i64 0, .slice none 0 0, .slice none 0 0, .bool false, .int .i64 0, .slice none 0 0, .slice none 0 0]) ∧ i.size = 9 ∧ i.bytes = 136 := by
  have h : (Tryz.prog.info? 63).map (fun i => (i.zero, i.size, i.bytes)) = some (some (.agg #[.int .i64 0, .int .i64 0, .int .i64 0, .slice none 0 0, .slice none 0 0, .bool false, .int .i64 0, .slice none 0 0, .slice none 0 0]), 9, 136) := by kernel_rfl
  obtain ⟨i, h1, h2⟩ := Option.map_eq_some_iff.1 h
  simp only [Prod.mk.injEq] at h2
  exact ⟨i, h1, h2.1, h2.2.1, h2.2.2⟩
theorem st63 (H : AHeap) (id off : Nat) (x : Value) : astoreT Tryz.prog H 63 (.pointer (some ⟨id, off, none⟩)) x = if x.cells.size = 9 ∧ x.cells.toList.all oneCell = true then ((H[id]?).bind (rowStore off x.cells.toList)).map fun o => H.set id o else none := astore_rule sz63 H id off x
theorem fa63_0 (id off : Nat) : afieldAddr Tryz.prog 63 (.pointer (some ⟨id, off, none⟩)) 0 = some (.pointer (some ⟨id, off + 0, none⟩)) := afieldAddr_at (n := 4) (f := (fieldT Tryz.prog 63 0).getD default) (by kernel_rfl) (by kernel_rfl) (by kernel_rfl) id off
theorem fl63_0 (cs : List Value) : afield Tryz.prog 63 (.agg cs.toArray) 0 = some (.agg ((cs.drop 0).take 5).toArray) := afield_agg (f := (fieldT Tryz.prog 63 0).getD default) (by kernel_rfl) (by kernel_rfl) (by kernel_rfl) (by kernel_rfl) cs
theorem fa63_1 (id off : Nat) : afieldAddr Tryz.prog 63 (.pointer (some ⟨id, off, none⟩)) 1 = some (.pointer (some ⟨id, off + 5, none⟩)) := afieldAddr_at (n := 0) (f := (fieldT Tryz.prog 63 1).getD default) (by kernel_rfl) (by kernel_rfl) (by kernel_rfl) id off
theorem fl63_1 (cs : List Value) : afield Tryz.prog 63 (.agg cs.toArray) 1 = cs[5]? := afield_one (f := (fieldT Tryz.prog 63 1).getD default) (by kernel_rfl) (by kernel_rfl) (by kernel_rfl) cs
theorem fa63_2 (id off : Nat) : afieldAddr Tryz.prog 63 (.pointer (some ⟨id, off, none⟩)) 2 = some (.pointer (some ⟨id, off + 6, none⟩)) := afieldAddr_at (n := 0) (f := (fieldT Tryz.prog 63 2).getD default) (by kernel_rfl) (by kernel_rfl) (by kernel_rfl) id off
theorem fl63_2 (cs : List Value) : afield Tryz.prog 63 (.agg cs.toArray) 2 = cs[6]? := afield_one (f := (fieldT Tryz.prog 63 2).getD default) (by kernel_rfl) (by kernel_rfl) (by kernel_rfl) cs
theorem fa63_3 (id off : Nat) : afieldAddr Tryz.prog 63 (.pointer (some ⟨id, off, none⟩)) 3 = some (.pointer (some ⟨id, off + 7, none⟩)) := afieldAddr_at (n := 0) (f := (fieldT Tryz.prog 63 3).getD default) (by kernel_rfl) (by kernel_rfl) (by kernel_rfl) id off
theorem fl63_3 (cs : List Value) : afield Tryz.prog 63 (.agg cs.toArray) 3 = cs[7]? := afield_one (f := (fieldT Tryz.prog 63 3).getD default) (by kernel_rfl) (by kernel_rfl) (by kernel_rfl) cs
theorem fa63_4 (id off : Nat) : afieldAddr Tryz.prog 63 (.pointer (some ⟨id, off, none⟩)) 4 = some (.pointer (some ⟨id, off + 8, none⟩)) := afieldAddr_at (n := 0) (f := (fieldT Tryz.prog 63 4).getD default) (by kernel_rfl) (by kernel_rfl) (by kernel_rfl) id off
theorem fl63_4 (cs : List Value) : afield Tryz.prog 63 (.agg cs.toArray) 4 = cs[8]? := afield_one (f := (fieldT Tryz.prog 63 4).getD default) (by kernel_rfl) (by kernel_rfl) (by kernel_rfl) cs
theorem sz64 : szT Tryz.prog 64 = some 9 := by kernel_rfl
theorem ag64 : aggT Tryz.prog 64 = some true := by kernel_rfl
theorem ze64 : zeroT Tryz.prog 64 = some (.agg #[.int .i64 0, .int .i64 0, .int .i64 0, .slice none 0 0, .slice none 0 0, .bool false, .int .i64 0, .slice none 0 0, .slice none 0 0]) := by kernel_rfl
theorem inf64 : ∃ i, Tryz.prog.info? 64 = some i ∧ i.zero = some (.agg #[.int .i64 0, .int .i64 0, .int .i64 0, .slice none 0 0, .slice none 0 0, .bool false, .int .i64 0, .slice none 0 0, .slice none 0 0]) ∧ i.size = 9 ∧ i.bytes = 136 := by
  have h : (Tryz.prog.info? 64).map (fun i => (i.zero, i.size, i.bytes)) = some (some (.agg #[.int .i64 0, .int .i64 0, .int .i64 0, .slice none 0 0, .slice none 0 0, .bool false, .int .i64 0, .slice none 0 0, .slice none 0 0]), 9, 136) := by kernel_rfl
  obtain ⟨i, h1, h2⟩ := Option.map_eq_some_iff.1 h
  simp only [Prod.mk.injEq] at h2
  exact ⟨i, h1, h2.1, h2.2.1, h2.2.2⟩
theorem st64 (H : AHeap) (id off : Nat) (x : Value) : astoreT Tryz.prog H 64 (.pointer (some ⟨id, off, none⟩)) x = if x.cells.size = 9 ∧ x.cells.toList.all oneCell = true then ((H[id]?).bind (rowStore off x.cells.toList)).map fun o => H.set id o else none := astore_rule sz64 H id off x
theorem fa64_0 (id off : Nat) : afieldAddr Tryz.prog 64 (.pointer (some ⟨id, off, none⟩)) 0 = some (.pointer (some ⟨id, off + 0, none⟩)) := afieldAddr_at (n := 4) (f := (fieldT Tryz.prog 64 0).getD default) (by kernel_rfl) (by kernel_rfl) (by kernel_rfl) id off
theorem fl64_0 (cs : List Value) : afield Tryz.prog 64 (.agg cs.toArray) 0 = some (.agg ((cs.drop 0).take 5).toArray) := afield_agg (f := (fieldT Tryz.prog 64 0).getD default) (by kernel_rfl) (by kernel_rfl) (by kernel_rfl) (by kernel_rfl) cs
theorem fa64_1 (id off : Nat) : afieldAddr Tryz.prog 64 (.pointer (some ⟨id, off, none⟩)) 1 = some (.pointer (some ⟨id, off + 5, none⟩)) := afieldAddr_at (n := 0) (f := (fieldT Tryz.prog 64 1).getD default) (by kernel_rfl) (by kernel_rfl) (by kernel_rfl) id off
theorem fl64_1 (cs : List Value) : afield Tryz.prog 64 (.agg cs.toArray) 1 = cs[5]? := afield_one (f := (fieldT Tryz.prog 64 1).getD default) (by kernel_rfl) (by kernel_rfl) (by kernel_rfl) cs
theorem fa64_2 (id off : Nat) : afieldAddr Tryz.prog 64 (.pointer (some ⟨id, off, none⟩)) 2 = some (.pointer (some ⟨id, off + 6, none⟩)) := afieldAddr_at (n := 0) (f := (fieldT Tryz.prog 64 2).getD default) (by kernel_rfl) (by kernel_rfl) (by kernel_rfl) id off
theorem fl64_2 (cs : List Value) : afield Tryz.prog 64 (.agg cs.toArray) 2 = cs[6]? := afield_one (f := (fieldT Tryz.prog 64 2).getD default) (by kernel_rfl) (by kernel_rfl) (by kernel_rfl) cs
theorem fa64_3 (id off : Nat) : afieldAddr Tryz.prog 64 (.pointer (some ⟨id, off, none⟩)) 3 = some (.pointer (some ⟨id, off + 7, none⟩)) := afieldAddr_at (n := 0) (f := (fieldT Tryz.prog 64 3).getD default) (by kernel_rfl) (by kernel_rfl) (by kernel_rfl) id off
theorem fl64_3 (cs : List Value) : afield Tryz.prog 64 (.agg cs.toArray) 3 = cs[7]? := afield_one (f := (fieldT Tryz.prog 64 3).getD default) (by kernel_rfl) (by kernel_rfl) (by kernel_rfl) cs
theorem fa64_4 (id off : Nat) : afieldAddr Tryz.prog 64 (.pointer (some ⟨id, off, none⟩)) 4 = some (.pointer (some ⟨id, off + 8, none⟩)) := afieldAddr_at (n := 0) (f := (fieldT Tryz.prog 64 4).getD default) (by kernel_rfl) (by kernel_rfl) (by kernel_rfl) id off
theorem fl64_4 (cs : List Value) : afield Tryz.prog 64 (.agg cs.toArray) 4 = cs[8]? := afield_one (f := (fieldT Tryz.prog 64 4).getD default) (by kernel_rfl) (by kernel_rfl) (by kernel_rfl) cs
theorem sz65 : szT Tryz.prog 65 = some 1 := by kernel_rfl
theorem ag65 : aggT Tryz.prog 65 = some false := by kernel_rfl
theorem ze65 : zeroT Tryz.prog 65 = some (.pointer none) := by kernel_rfl
theorem inf65 : ∃ i, Tryz.prog.info? 65 = some i ∧ i.zero = some (.pointer none) ∧ i.size = 1 ∧ i.bytes = 8 := by
  have h : (Tryz.prog.info? 65).map (fun i => (i.zero, i.size, i.bytes)) = some (some (.pointer none), 1, 8) := by kernel_rfl
  obtain ⟨i, h1, h2⟩ := Option.map_eq_some_iff.1 h
  simp only [Prod.mk.injEq] at h2
  exact ⟨i, h1, h2.1, h2.2.1, h2.2.2⟩
theorem st65 (H : AHeap) (id off : Nat) (x : Value) : astoreT Tryz.prog H 65 (.pointer (some ⟨id, off, none⟩)) x = if x.cells.size = 1 ∧ x.cells.toList.all oneCell = true then ((H[id]?).bind (rowStore off x.cells.toList)).map fun o => H.set id o else none := astore_rule sz65 H id off x
theorem en65 (H : AHeap) (xo yo : Operand) (a : Option Addr) : abin Tryz.prog H .eql 65 xo yo (.pointer a) (.pointer none) = some (.bool a.isNone) := abin_eq_ptrnil (e := 68) (by kernel_rfl) H xo yo a
theorem nn65 (H : AHeap) (xo yo : Operand) (a : Option Addr) : abin Tryz.prog H .neq 65 xo yo (.pointer a) (.pointer none) = some (.bool !a.isNone) := abin_ne_ptrnil (e := 68) (by kernel_rfl) H xo yo a
theorem sz66 : szT Tryz.prog 66 = some 1 := by kernel_rfl
theorem ag66 : aggT Tryz.prog 66 = some false := by kernel_rfl
theorem ze66 : zeroT Tryz.prog 66 = some (.slice none 0 0) := by kernel_rfl
theorem inf66 : ∃ i, Tryz.prog.info? 66 = some i ∧ i.zero = some (.slice none 0 0) ∧ i.size = 1 ∧ i.bytes = 24 := by
  have h : (Tryz.prog.info? 66).map (fun i => (i.zero, i.size, i.bytes)) = some (some (.slice none 0 0), 1, 24) := by kernel_rfl
  obtain ⟨i, h1, h2⟩ := Option.map_eq_some_iff.1 h
  simp only [Prod.mk.injEq] at h2
  exact ⟨i, h1, h2.1, h2.2.1, h2.2.2⟩
theorem st66 (H : AHeap) (id off : Nat) (x : Value) : astoreT Tryz.prog H 66 (.pointer (some ⟨id, off, none⟩)) x = if x.cells.size = 1 ∧ x.cells.toList.all oneCell = true then ((H[id]?).bind (rowStore off x.cells.toList)).map fun o => H.set id o else none := astore_rule sz66 H id off x
theorem un66 : Tryz.prog.underlying 66 = some (.slice 428) := by kernel_rfl
theorem el66 : elemT Tryz.prog 66 = some 428 := by kernel_rfl
theorem ln66 (H : AHeap) (a : Option Addr) (m c : Nat) : alen Tryz.prog H 66 (.slice a m c) = some (.int .i64 m) := alen_slice un66 H a m c
theorem cp66 (a : Addr) (m c : Nat) : acap Tryz.prog 66 (.slice (some a) m c) = if c = 0 then none else some (.int .i64 c) := acap_slice un66 a m c
theorem ix66 (id off m c : Nat) (ik : IntKind) (i : Int) : aindexAddr Tryz.prog 66 (.slice (some ⟨id, off, none⟩) m c) (.int ik i) = if 0 ≤ i ∧ i < m then some (.pointer (some ⟨id, off + i.toNat * 2, none⟩)) else none := aindexAddr_at un66 (by kernel_rfl) id off m c ik i
theorem en66 (H : AHeap) (xo yo : Operand) (a : Option Addr) (n c m q : Nat) : abin Tryz.prog H .eql 66 xo yo (.slice a n c) (.slice none m q) = some (.bool a.isNone) := abin_eq_slnil un66 H xo yo a n c m q
theorem nn66 (H : AHeap) (xo yo : Operand) (a : Option Addr) (n c m q : Nat) : abin Tryz.prog H .neq 66 xo yo (.slice a n c) (.slice none m q) = some (.bool !a.isNone) := abin_ne_slnil un66 H xo yo a n c m q
theorem sc66 (H : AHeap) (a : Option Addr) (n c : Nat) (lo hi : Option Value) : aslice Tryz.prog H 66 (.slice a n c) lo hi none = (optB hi (some n) (capOf n c)).bind fun h => (optB lo (some 0) h).bind fun l => cut H 2 a c l h := aslice_sl un66 (by kernel_rfl) H a n c lo hi
theorem sz67 : szT Tryz.prog 67 = some 4 := by kernel_rfl
theorem ag67 : aggT Tryz.prog 67 = some true := by kernel_rfl
theorem ze67 : zeroT Tryz.prog 67 = some (.agg #[.slice none 0 0, .bool false, .int .i64 0, .slice none 0 0]) := by kernel_rfl
theorem pz67 : plainV 100 (.agg #[.slice none 0 0, .bool false, .int .i64 0, .slice none 0 0]) = true := by kernel_rfl
theorem inf67 : ∃ i, Tryz.prog.info? 67 = some i ∧ i.zero = some (.agg #[.slice none 0 0, .bool false, .int .i64 0, .slice none 0 0]) ∧ i.size = 4 ∧ i.bytes = 64 := by
  have h : (Tryz.prog.info? 67).map (fun i => (i.zero, i.size, i.bytes)) = some (some (.agg #[.slice none 0 0, .bool false, .int .i64 0, .slice none 0 0]), 4, 64) := by kernel_rfl
  obtain ⟨i, h1, h2⟩ := Option.map_eq_some_iff.1 h
  simp only [Prod.mk.injEq] at h2
  exact ⟨i, h1, h2.1, h2.2.1, h2.2.2⟩
theorem st67 (H : AHeap) (id off : Nat) (x : Value) : astoreT Tryz.prog H 67 (.pointer (some ⟨id, off, none⟩)) x = if x.cells.size = 4 ∧ x.cells.toList.all oneCell = true then ((H[id]?).bind (rowStore off x.cells.toList)).map fun o => H.set id o else none := astore_rule sz67 H id off x
theorem fa67_0 (id off : Nat) : afieldAddr Tryz.prog 67 (.pointer (some ⟨id, off, none⟩)) 0 = some (.pointer (some ⟨id, off + 0, none⟩)) := afieldAddr_at (n := 0) (f := (fieldT Tryz.prog 67 0).getD default) (by kernel_rfl) (by kernel_rfl) (by kernel_rfl) id off
theorem fl67_0 (cs : List Value) : afield Tryz.prog 67 (.agg cs.toArray) 0 = cs[0]? := afield_one (f := (fieldT Tryz.prog 67 0).getD default) (by kernel_rfl) (by kernel_rfl) (by kernel_rfl) cs
theorem fa67_1 (id off : Nat) : afieldAddr Tryz.prog 67 (.pointer (some ⟨id, off, none⟩)) 1 = some (.pointer (some ⟨id, off + 1, none⟩)) := afieldAddr_at (n := 0) (f := (fieldT Tryz.prog 67 1).getD default) (by kernel_rfl) (by kernel_rfl) (by kernel_rfl) id off
theorem fl67_1 (cs : List Value) : afield Tryz.prog 67 (.agg cs.toArray) 1 = cs[1]? := afield_one (f := (fieldT Tryz.prog 67 1).getD default) (by kernel_rfl) (by kernel_rfl) (by kernel_rfl) cs
theorem fa67_2 (id off : Nat) : afieldAddr Tryz.prog 67 (.pointer (some ⟨id, off, none⟩)) 2 = some (.pointer (some ⟨id, off + 2, none⟩)) := afieldAddr_at (n := 0) (f := (fieldT Tryz.prog 67 2).getD default) (by kernel_rfl) (by kernel_rfl) (by kernel_rfl) id off
theorem fl67_2 (cs : List Value) : afield Tryz.prog 67 (.agg cs.toArray) 2 = cs[2]? := afield_one (f := (fieldT Tryz.prog 67 2).getD default) (by kernel_rfl) (by kernel_rfl) (by kernel_rfl) cs
theorem fa67_3 (id off : Nat) : afieldAddr Tryz.prog 67 (.pointer (some ⟨id, off, none⟩)) 3 = some (.pointer (some ⟨id, off + 3, none⟩)) := afieldAddr_at (n := 0) (f := (fieldT Tryz.prog 67 3).getD default) (by kernel_rfl) (by kernel_rfl) (by kernel_rfl) id off
theorem fl67_3 (cs : List Value) : afield Tryz.prog 67 (.agg cs.toArray) 3 = cs[3]? := afield_one (f := (fieldT Tryz.prog 67 3).getD default) (by kernel_rfl) (by kernel_rfl) (by kernel_rfl) cs
theorem sz68 : szT Tryz.prog 68 = some 4 := by kernel_rfl
theorem ag68 : aggT Tryz.prog 68 = some true := by kernel_rfl
theorem ze68 : zeroT Tryz.prog 68 = some (.agg #[.slice none 0 0, .bool false, .int .i64 0, .slice none 0 0]) := by kernel_rfl
theorem inf68 : ∃ i, Tryz.prog.info? 68 = some i ∧ i.zero = some (.agg #[.slice none 0 0, .bool false, .int .i64 0, .slice none 0 0]) ∧ i.size = 4 ∧ i.bytes = 64 := by
  have h : (Tryz.prog.info? 68).map (fun i => (i.zero, i.size, i.bytes)) = some (some (.agg #[.slice none 0 0, .bool false, .int .i64 0, .slice none 0 0]), 4, 64) := by kernel_rfl
  obtain ⟨i, h1, h2⟩ := Option.map_eq_some_iff.1 h
  simp only [Prod.mk.injEq] at h2
  exact ⟨i, h1, h2.1, h2.2.1, h2.2.2⟩
theorem st68 (H : AHeap) (id off : Nat) (x : Value) : astoreT Tryz.prog H 68 (.pointer (some ⟨id, off, none⟩)) x = if x.cells.size = 4 ∧ x.cells.toList.all oneCell = true then ((H[id]?).bind (rowStore off x.cells.toList)).map fun o => H.set id o else none := astore_rule sz68 H id off x
theorem fa68_0 (id off : Nat) : afieldAddr Tryz.prog 68 (.pointer (some ⟨id, off, none⟩)) 0 = some (.pointer (some ⟨id, off + 0, none⟩)) := afieldAddr_at (n := 0) (f := (fieldT Tryz.prog 68 0).getD default) (by kernel_rfl) (by kernel_rfl) (by kernel_rfl) id off
theorem fl68_0 (cs : List Value) : afield Tryz.prog 68 (.agg cs.toArray) 0 = cs[0]? := afield_one (f := (fieldT Tryz.prog 68 0).getD default) (by kernel_rfl) (by kernel_rfl) (by kernel_rfl) cs
theorem fa68_1 (id off : Nat) : afieldAddr Tryz.prog 68 (.pointer (some ⟨id, off, none⟩)) 1 = some (.pointer (some ⟨id, off + 1, none⟩)) := afieldAddr_at (n := 0) (f := (fieldT Tryz.prog 68 1).getD default) (by kernel_rfl) (by kernel_rfl) (by kernel_rfl) id off
theorem fl68_1 (cs : List Value) : afield Tryz.prog 68 (.agg cs.toArray) 1 = cs[1]? := afield_one (f := (fieldT Tryz.prog 68 1).getD default) (by kernel_rfl) (by kernel_rfl) (by kernel_rfl) cs
theorem fa68_2 (id off : Nat) : afieldAddr Tryz.prog 68 (.pointer (some ⟨id, off, none⟩)) 2 = some (.pointer (some ⟨id, off + 2, none⟩)) := afieldAddr_at (n := 0) (f := (fieldT Tryz.prog 68 2).getD default) (by kernel_rfl) (by kernel_rfl) (by kernel_rfl) id off
theorem fl68_2 (cs : List Value) : afield Tryz.prog 68 (.agg cs.toArray) 2 = cs[2]? := afield_one (f := (fieldT Tryz.prog 68 2).getD default) (by kernel_rfl) (by kernel_rfl) (by kernel_rfl) cs
theorem fa68_3 (id off : Nat) : afieldAddr Tryz.prog 68 (.pointer (some ⟨id, off, none⟩)) 3 = some (.pointer (some ⟨id, off + 3, none⟩)) := afieldAddr_at (n := 0) (f := (fieldT Tryz.prog 68 3).getD default) (by kernel_rfl) (by kernel_rfl) (by kernel_rfl) id off
theorem fl68_3 (cs : List Value) : afield Tryz.prog 68 (.agg cs.toArray) 3 = cs[3]? := afield_one (f := (fieldT Tryz.prog 68 3).getD default) (by kernel_rfl) (by kernel_rfl) (by kernel_rfl) cs
theorem sz72 : szT Tryz.prog 72 = some 1 := by kernel_rfl
theorem ag72 : aggT Tryz.prog 72 = some false := by kernel_rfl
theorem ze72 : zeroT Tryz.prog 72 = some (.slice none 0 0) := by kernel_rfl
theorem inf72 : ∃ i, Tryz.prog.info? 72 = some i ∧ i.zero = some (.slice none 0 0) ∧ i.size = 1 ∧ i.bytes = 24 := by
  have h : (Tryz.prog.info? 72).map (fun i => (i.zero, i.size, i.bytes)) = some (some (.slice none 0 0), 1, 24) := by kernel_rfl
  obtain ⟨i, h1, h2⟩ := Option.map_eq_some_iff.1 h
  simp only [Prod.mk.injEq] at h2
  exact ⟨i, h1, h2.1, h2.2.1, h2.2.2⟩
theorem st72 (H : AHeap) (id off : Nat) (x : Value) : astoreT Tryz.prog H 72 (.pointer (some ⟨id, off, none⟩)) x = if x.cells.size = 1 ∧ x.cells.toList.all oneCell = true then ((H[id]?).bind (rowStore off x.cells.toList)).map fun o => H.set id o else none := astore_rule sz72 H id off x
theorem un72 : Tryz.prog.underlying 72 = some (.slice 55) := by kernel_rfl
theorem el72 : elemT Tryz.prog 72 = some 55 := by kernel_rfl
theorem ln72 (H : AHeap) (a : Option Addr) (m c : Nat) : alen Tryz.prog H 72 (.slice a m c) = some (.int .i64 m) := alen_slice un72 H a m c
theorem cp72 (a : Addr) (m c : Nat) : acap Tryz.prog 72 (.slice (some a) m c) = if c = 0 then none else some (.int .i64 c) := acap_slice un72 a m c
theorem ix72 (id off m c : Nat) (ik : IntKind) (i : Int) : aindexAddr Tryz.prog 72 (.slice (some ⟨id, off, none⟩) m c) (.int ik i) = if 0 ≤ i ∧ i < m then some (.pointer (some ⟨id, off + i.toNat * 41, none⟩)) else none := aindexAddr_at un72 (by kernel_rfl) id off m c ik i
theorem en72 (H : AHeap) (xo yo : Operand) (a : Option Addr) (n c m q : Nat) : abin Tryz.prog H .eql 72 xo yo (.slice a n c) (.slice none m q) = some (.bool a.isNone) := abin_eq_slnil un72 H xo yo a n c m q
theorem nn72 (H : AHeap) (xo yo : Operand) (a : Option Addr) (n c m q : Nat) : abin Tryz.prog H .neq 72 xo yo (.slice a n c) (.slice none m q) = some (.bool !a.isNone) := abin_ne_slnil un72 H xo yo a n c m q
theorem sc72 (H : AHeap) (a : Option Addr) (n c : Nat) (lo hi : Option Value) : aslice Tryz.prog H 72 (.slice a n c) lo hi none = (optB hi (some n) (capOf n c)).bind fun h => (optB lo (some 0) h).bind fun l => cut H 41 a c l h := aslice_sl un72 (by kernel_rfl) H a n c lo hi
theorem sz78 : szT Tryz.prog 78 = some 1 := by kernel_rfl
theorem ag78 : aggT Tryz.prog 78 = some false := by kernel_rfl
theorem ze78 : zeroT Tryz.prog 78 = some (.map none) := by kernel_rfl
theorem pz78 : plainV 100 (.map none) = true := by kernel_rfl
theorem inf78 : ∃ i, Tryz.prog.info? 78 = some i ∧ i.zero = some (.map none) ∧ i.size = 1 ∧ i.bytes = 8 := by
  have h : (Tryz.prog.info? 78).map (fun i => (i.zero, i.size, i.bytes)) = some (some (.map none), 1, 8) := by kernel_rfl
  obtain ⟨i, h1, h2⟩ := Option.map_eq_some_iff.1 h
  simp only [Prod.mk.injEq] at h2
  exact ⟨i, h1, h2.1, h2.2.1, h2.2.2⟩
theorem st78 (H : AHeap) (id off : Nat) (x : Value) : astoreT Tryz.prog H 78 (.pointer (some ⟨id, off, none⟩)) x = if x.cells.size = 1 ∧ x.cells.toList.all oneCell = true then ((H[id]?).bind (rowStore off x.cells.toList)).map fun o => H.set id o else none := astore_rule sz78 H id off x
theorem en78 (H : AHeap) (xo yo : Operand) (a : Option Nat) : abin Tryz.prog H .eql 78 xo yo (.map a) (.map none) = some (.bool a.isNone) := abin_eq_mapnil (k := 3) (e := 84) (by kernel_rfl) H xo yo a
theorem nn78 (H : AHeap) (xo yo : Operand) (a : Option Nat) : abin Tryz.prog H .neq 78 xo yo (.map a) (.map none) = some (.bool !a.isNone) := abin_ne_mapnil (k := 3) (e := 84) (by kernel_rfl) H xo yo a
theorem un78 : Tryz.prog.underlying 78 = some (.map 3 84) := by kernel_rfl
theorem mt78 : mapT Tryz.prog 78 = some (3, 84) := by kernel_rfl
theorem sz79 : szT Tryz.prog 79 = some 1 := by kernel_rfl
theorem ag79 : aggT Tryz.prog 79 = some false := by kernel_rfl
theorem ze79 : zeroT Tryz.prog 79 = some (.map none) := by kernel_rfl
theorem inf79 : ∃ i, Tryz.prog.info? 79 = some i ∧ i.zero = some (.map none) ∧ i.size = 1 ∧ i.bytes = 8 := by
  have h : (Tryz.prog.info? 79).map (fun i => (i.zero, i.size, i.bytes)) = some (some (.map none), 1, 8) := by kernel_rfl
  obtain ⟨i, h1, h2⟩ := Option.map_eq_some_iff.1 h
  simp only [Prod.mk.injEq] at h2
  exact ⟨i, h1, h2.1, h2.2.1, h2.2.2⟩
theorem st79 (H : AHeap) (id off : Nat) (x : Value) : astoreT Tryz.prog H 79 (.pointer (some ⟨id, off, none⟩)) x = if x.cells.size = 1 ∧ x.cells.toList.all oneCell = true then ((H[id]?).bind (rowStore off x.cells.toList)).map fun o => H.set id o else none := astore_rule sz79 H id off x
theorem en79 (H : AHeap) (xo yo : Operand) (a : Option Nat) : abin Tryz.prog H .eql 79 xo yo (.map a) (.map none) = some (.bool a.isNone) := abin_eq_mapnil (k := 9) (e := 3) (by kernel_rfl) H xo yo a
theorem nn79 (H : AHeap) (xo yo : Operand) (a : Option Nat) : abin Tryz.prog H .neq 79 xo yo (.map a) (.map none) = some (.bool !a.isNone) := abin_ne_mapnil (k := 9) (e := 3) (by kernel_rfl) H xo yo a
theorem un79 : Tryz.prog.underlying 79 = some (.map 9 3) := by kernel_rfl
theorem mt79 : mapT Tryz.prog 79 = some (9, 3) := by kernel_rfl
theorem sz80 : szT Tryz.prog 80 = some 1 := by kernel_rfl
theorem ag80 : aggT Tryz.prog 80 = some false := by kernel_rfl
theorem ze80 : zeroT Tryz.prog 80 = some (.slice none 0 0) := by kernel_rfl
theorem inf80 : ∃ i, Tryz.prog.info? 80 = some i ∧ i.zero = some (.slice none 0 0) ∧ i.size = 1 ∧ i.bytes = 24 := by
  have h : (Tryz.prog.info? 80).map (fun i => (i.zero, i.size, i.bytes)) = some (some (.slice none 0 0), 1, 24) := by kernel_rfl
  obtain ⟨i, h1, h2⟩ := Option.map_eq_some_iff.1 h
  simp only [Prod.mk.injEq] at h2
  exact ⟨i, h1, h2.1, h2.2.1, h2.2.2⟩
theorem st80 (H : AHeap) (id off : Nat) (x : Value) : astoreT Tryz.prog H 80 (.pointer (some ⟨id, off, none⟩)) x = if x.cells.size = 1 ∧ x.cells.toList.all oneCell = true then ((H[id]?).bind (rowStore off x.cells.toList)).map fun o => H.set id o else none := astore_rule sz80 H id off x
theorem un80 : Tryz.prog.underlying 80 = some (.slice 183) := by kernel_rfl
theorem el80 : elemT Tryz.prog 80 = some 183 := by kernel_rfl
theorem ln80 (H : AHeap) (a : Option Addr) (m c : Nat) : alen Tryz.prog H 80 (.slice a m c) = some (.int .i64 m) := alen_slice un80 H a m c
theorem cp80 (a : Addr) (m c : Nat) : acap Tryz.prog 80 (.slice (some a) m c) = if c = 0 then none else some (.int .i64 c) := acap_slice un80 a m c
theorem ix80 (id off m c : Nat) (ik : IntKind) (i : Int) : aindexAddr Tryz.prog 80 (.slice (some ⟨id, off, none⟩) m c) (.int ik i) = if 0 ≤ i ∧ i < m then some (.pointer (some ⟨id, off + i.toNat * 8, none⟩)) else none := aindexAddr_at un80 (by kernel_rfl) id off m c ik i
theorem en80 (H : AHeap) (xo yo : Operand) (a : Option Addr) (n c m q : Nat) : abin Tryz.prog H .eql 80 xo yo (.slice a n c) (.slice none m q) = some (.bool a.isNone) := abin_eq_slnil un80 H xo yo a n c m q
theorem nn80 (H : AHeap) (xo yo : Operand) (a : Option Addr) (n c m q : Nat) : abin Tryz.prog H .neq 80 xo yo (.slice a n c) (.slice none m q) = some (.bool !a.isNone) := abin_ne_slnil un80 H xo yo a n c m q
theorem sc80 (H : AHeap) (a : Option Addr) (n c : Nat) (lo hi : Option Value) : aslice Tryz.prog H 80 (.slice a n c) lo hi none = (optB hi (some n) (capOf n c)).bind fun h => (optB lo (some 0) h).bind fun l => cut H 8 a c l h := aslice_sl un80 (by kernel_rfl) H a n c lo hi
theorem sz81 : szT Tryz.prog 81 = some 15 := by kernel_rfl
theorem ag81 : aggT Tryz.prog 81 = some true := by kernel_rfl
theorem ze81 : zeroT Tryz.prog 81 = some (.agg #[.int .i64 0, .int .i64 0, .int .i64 0, .int .i64 0, .int .i64 0, .int .i64 0, .int .i64 0, .int .i64 0, .int .i64 0, .int .i64 0, .int .i64 0, .int .i64 0, .map none, .map none, .slice none 0 0]) := by kernel_rfl
theorem pz81 : plainV 100 (.agg #[.int .i64 0, .int .i64 0, .int .i64 0, .int .i64 0, .int .i64 0, .int .i64 0, .int .i64 0, .int .i64 0, .int .i64 0, .int .i64 0, .int .i64 0, .int .i64 0, .map none, .map none, .slice none 0 0]) = true := by kernel_rfl
theorem inf81 : ∃ i, Tryz.prog.info? 81 = some i ∧ i.zero = some (.agg #[.int .i64 0, .int .i64 0, .int .i64 0, .int .i64 0, .int .i64 0, .int .i64 0, .int .i64 0, .int .i64 0, .int .i64 0, .int .i64 0, .int .i64 0, .int .i64 0, .map none, .map none, .slice none 0 0]) ∧ i.size = 15 ∧ i.bytes = 136 := by
  have h : (Tryz.prog.info? 81).map (fun i => (i.zero, i.size, i.bytes)) = some (some (.agg #[.int .i64 0, .int .i64 0, .int .i64 0, .int .i64 0, .int .i64 0, .int .i64 0, .int .i64 0, .int .i64 0, .int .i64 0, .int .i64 0, .int .i64 0, .int .i64 0, .map none, .map none, .slice none 0 0]), 15, 136) := by kernel_rfl
  obtain ⟨i, h1, h2⟩ := Option.map_eq_some_iff.1 h
  simp only [Prod.mk.injEq] at h2
  exact ⟨i, h1, h2.1, h2.2.1, h2.2.2⟩
theorem st81 (H : AHeap) (id off : Nat) (x : Value) : astoreT Tryz.prog H 81 (.pointer (some ⟨id, off, none⟩)) x = if x.cells.size = 15 ∧ x.cells.toList.all oneCell = true then ((H[id]?).bind (rowStore off x.cells.toList)).map fun o => H.set id o else none := astore_rule sz81 H id off x
theorem fa81_0 (id off : Nat) : afieldAddr Tryz.prog 81 (.pointer (some ⟨id, off, none⟩)) 0 = some (.pointer (some ⟨id, off + 0, none⟩)) := afieldAddr_at (n := 9) (f := (fieldT Tryz.prog 81 0).getD default) (by kernel_rfl) (by kernel_rfl) (by kernel_rfl) id off
theorem fl81_0 (cs : List Value) : afield Tryz.prog 81 (.agg cs.toArray) 0 = some (.agg ((cs.drop 0).take 10).toArray) := afield_agg (f := (fieldT Tryz.prog 81 0).getD default) (by kernel_rfl) (by kernel_rfl) (by kernel_rfl) (by kernel_rfl) cs
theorem fa81_1 (id off : Nat) : afieldAddr Tryz.prog 81 (.pointer (some ⟨id, off, none⟩)) 1 = some (.pointer (some ⟨id, off + 10, none⟩)) := afieldAddr_at (n := 0) (f := (fieldT Tryz.prog 81 1).getD default) (by kernel_rfl) (by kernel_rfl) (by kernel_rfl) id off
theorem fl81_1 (cs : List Value) : afield Tryz.prog 81 (.agg cs.toArray) 1 = cs[10]? := afield_one (f := (fieldT Tryz.prog 81 1).getD default) (by kernel_rfl) (by kernel_rfl) (by kernel_rfl) cs
theorem fa81_2 (id off : Nat) : afieldAddr Tryz.prog 81 (.pointer (some ⟨id, off, none⟩)) 2 = some (.pointer (some ⟨id, off + 11, none⟩)) := afieldAddr_at (n := 0) (f := (fieldT Tryz.prog 81 2).getD default) (by kernel_rfl) (by kernel_rfl) (by kernel_rfl) id off
theorem fl81_2 (cs : List Value) : afield Tryz.prog 81 (.agg cs.toArray) 2 = cs[11]? := afield_one (f := (fieldT Tryz.prog 81 2).getD default) (by kernel_rfl) (by kernel_rfl) (by kernel_rfl) cs
theorem fa81_3 (id off : Nat) : afieldAddr Tryz.prog 81 (.pointer (some ⟨id, off, none⟩)) 3 = some (.pointer (some ⟨id, off + 12, none⟩)) := afieldAddr_at (n := 0) (f := (fieldT Tryz.prog 81 3).getD default) (by kernel_rfl) (by kernel_rfl) (by kernel_rfl) id off
theorem fl81_3 (cs : List Value) : afield Tryz.prog 81 (.agg cs.toArray) 3 = cs[12]? := afield_one (f := (fieldT Tryz.prog 81 3).getD default) (by kernel_rfl) (by kernel_rfl) (by kernel_rfl) cs
theorem fa81_4 (id off : Nat) : afieldAddr Tryz.prog 81 (.pointer (some ⟨id, off, none⟩)) 4 = some (.pointer (some ⟨id, off + 13, none⟩)) := afieldAddr_at (n := 0) (f := (fieldT Tryz.prog 81 4).getD default) (by kernel_rfl) (by kernel_rfl) (by kernel_rfl) id off
theorem fl81_4 (cs : List Value) : afield Tryz.prog 81 (.agg cs.toArray) 4 = cs[13]? := afield_one (f := (fieldT Tryz.prog 81 4).getD default) (by kernel_rfl) (by kernel_rfl) (by kernel_rfl) cs
theorem fa81_5 (id off : Nat) : afieldAddr Tryz.prog 81 (.pointer (some ⟨id, off, none⟩)) 5 = some (.pointer (some ⟨id, off + 14, none⟩)) := afieldAddr_at (n := 0) (f := (fieldT Tryz.prog 81 5).getD default) (by kernel_rfl) (by kernel_rfl) (by kernel_rfl) id off
theorem fl81_5 (cs : List Value) : afield Tryz.prog 81 (.agg cs.toArray) 5 = cs[14]? := afield_one (f := (fieldT Tryz.prog 81 5).getD default) (by kernel_rfl) (by kernel_rfl) (by kernel_rfl) cs
theorem sz82 : szT Tryz.prog 82 = some 15 := by kernel_rfl
theorem ag82 : aggT Tryz.prog 82 = some true := by kernel_rfl
theorem ze82 : zeroT Tryz.prog 82 = some (.agg #[.int .i64 0, .int .i64 0, .int .i64 0, .int .i64 0, .int .i64 0, .int .i64 0, .int .i64 0, .int .i64 0, .int .i64 0, .int .i64 0, .int .i64 0, .int .i64 0, .map none, .map none, .slice none 0 0]) := by kernel_rfl
theorem inf82 : ∃ i, Tryz.prog.info? 82 = some i ∧ i.zero = some (.agg #[.int .i64 0, .int .i64 0, .int .i64 0, .int .i64 0, .int .i64 0, .int .i64 0, .int .i64 0, .int .i64 0, .int .i64 0, .int .i64 0, .int .i64 0, .int .i64 0, .map none, .map none, .slice none 0 0]) ∧ i.size = 15 ∧ i.bytes = 136 := by
  have h : (Tryz.prog.info? 82).map (fun i => (i.zero, i.size, i.bytes)) = some (some (.agg #[.int .i64 0, .int .i64 0, .int .i64 0, .int .i64 0, .int .i64 0, .int .i64 0, .int .i64 0, .int .i64 0, .int .i64 0, .int .i64 0, .int .i64 0, .int .i64 0, .map none, .map none, .slice none 0 0]), 15, 136) := by kernel_rfl
  obtain ⟨i, h1, h2⟩ := Option.map_eq_some_iff.1 h
  simp only [Prod.mk.injEq] at h2
  exact ⟨i, h1, h2.1, h2.2.1, h2.2.2⟩
theorem st82 (H : AHeap) (id off : Nat) (x : Value) : astoreT Tryz.prog H 82 (.pointer (some ⟨id, off, none⟩)) x = if x.cells.size = 15 ∧ x.cells.toList.all oneCell = true then ((H[id]?).bind (rowStore off x.cells.toList)).map fun o => H.set id o else none := astore_rule sz82 H id off x
theorem fa82_0 (id off : Nat) : afieldAddr Tryz.prog 82 (.pointer (some ⟨id, off, none⟩)) 0 = some (.pointer (some ⟨id, off + 0, none⟩)) := afieldAddr_at (n := 9) (f := (fieldT Tryz.prog 82 0).getD default) (by kernel_rfl) (by kernel_rfl) (by kernel_rfl) id off
theorem fl82_0 (cs : List Value) : afield Tryz.prog 82 (.agg cs.toArray) 0 = some (.agg ((cs.drop 0).take 10).toArray) := afield_agg (f := (fieldT Tryz.prog 82 0).getD default) (by kernel_rfl) (by kernel_rfl) (by kernel_rfl) (by kernel_rfl) cs
theorem fa82_1 (id off : Nat) : afieldAddr Tryz.prog 82 (.pointer (some ⟨id, off, none⟩)) 1 = some (.pointer (some ⟨id, off + 10, none⟩)) := afieldAddr_at (n := 0) (f := (fieldT Tryz.prog 82 1).getD default) (by kernel_rfl) (by kernel_rfl) (by kernel_rfl) id off
theorem fl82_1 (cs : List Value) : afield Tryz.prog 82 (.agg cs.toArray) 1 = cs[10]? := afield_one (f := (fieldT Tryz.prog 82 1).getD default) (by kernel_rfl) (by kernel_rfl) (by kernel_rfl) cs
theorem fa82_2 (id off : Nat) : afieldAddr Tryz.prog 82 (.pointer (some ⟨id, off, none⟩)) 2 = some (.pointer (some ⟨id, off + 11, none⟩)) := afieldAddr_at (n := 0) (f := (fieldT Tryz.prog 82 2).getD default) (by kernel_rfl) (by kernel_rfl) (by kernel_rfl) id off
theorem fl82_2 (cs : List Value) : afield Tryz.prog 82 (.agg cs.toArray) 2 = cs[11]? := afield_one (f := (fieldT Tryz.prog 82 2).getD default) (by kernel_rfl) (by kernel_rfl) (by kernel_rfl) cs
theorem fa82_3 (id off : Nat) : afieldAddr Tryz.prog 82 (.pointer (some ⟨id, off, none⟩)) 3 = some (.pointer (some ⟨id, off + 12, none⟩)) := afieldAddr_at (n := 0) (f := (fieldT Tryz.prog 82 3).getD default) (by kernel_rfl) (by kernel_rfl) (by kernel_rfl) id off
theorem fl82_3 (cs : List Value) : afield Tryz.prog 82 (.agg cs.toArray) 3 = cs[12]? := afield_one (f := (fieldT Tryz.prog 82 3).getD default) (by kernel_rfl) (by kernel_rfl) (by kernel_rfl) cs
theorem fa82_4 (id off : Nat) : afieldAddr Tryz.prog 82 (.pointer (some ⟨id, off, none⟩)) 4 = some (.pointer (some ⟨id, off + 13, none⟩)) := afieldAddr_at (n := 0) (f := (fieldT Tryz.prog 82 4).getD default) (by kernel_rfl) (by kernel_rfl) (by kernel_rfl) id off
theorem fl82_4 (cs : List Value) : afield Tryz.prog 82 (.agg cs.toArray) 4 = cs[13]? := afield_one (f := (fieldT Tryz.prog 82 4).getD default) (by kernel_rfl) (by kernel_rfl) (by kernel_rfl) cs
theorem fa82_5 (id off : Nat) : afieldAddr Tryz.prog 82 (.pointer (some ⟨id, off, none⟩)) 5 = some (.pointer (some ⟨id, off + 14, none⟩)) := afieldAddr_at (n := 0) (f := (fieldT Tryz.prog 82 5).getD default) (by kernel_rfl) (by kernel_rfl) (by kernel_rfl) id off
theorem fl82_5 (cs : List Value) : afield Tryz.prog 82 (.agg cs.toArray) 5 = cs[14]? := afield_one (f := (fieldT Tryz.prog 82 5).getD default) (by kernel_rfl) (by kernel_rfl) (by kernel_rfl) cs
theorem sz83 : szT Tryz.prog 83 = some 4 := by kernel_rfl
theorem ag83 : aggT Tryz.prog 83 = some true := by kernel_rfl
theorem ze83 : zeroT Tryz.prog 83 = some (.agg #[.int .u64 0, .slice none 0 0, .bool false, .int .i64 0]) := by kernel_rfl
theorem pz83 : plainV 100 (.agg #[.int .u64 0, .slice none 0 0, .bool false, .int .i64 0]) = true := by kernel_rfl
theorem inf83 : ∃ i, Tryz.prog.info? 83 = some i ∧ i.zero = some (.agg #[.int .u64 0, .slice none 0 0, .bool false, .int .i64 0]) ∧ i.size = 4 ∧ i.bytes = 48 := by
  have h : (Tryz.prog.info? 83).map (fun i => (i.zero, i.size, i.bytes)) = some (some (.agg #[.int .u64 0, .slice none 0 0, .bool false, .int .i64 0]), 4, 48) := by kernel_rfl
  obtain ⟨i, h1, h2⟩ := Option.map_eq_some_iff.1 h
  simp only [Prod.mk.injEq] at h2
  exact ⟨i, h1, h2.1, h2.2.1, h2.2.2⟩
theorem st83 (H : AHeap) (id off : Nat) (x : Value) : astoreT Tryz.prog H 83 (.pointer (some ⟨id, off, none⟩)) x = if x.cells.size = 4 ∧ x.cells.toList.all oneCell = true then ((H[id]?).bind (rowStore off x.cells.toList)).map fun o => H.set id o else none := astore_rule sz83 H id off x
theorem fa83_0 (id off : Nat) : afieldAddr Tryz.prog 83 (.pointer (some ⟨id, off, none⟩)) 0 = some (.pointer (some ⟨id, off + 0, none⟩)) := afieldAddr_at (n := 0) (f := (fieldT Tryz.prog 83 0).getD default) (by kernel_rfl) (by kernel_rfl) (by kernel_rfl) id off
theorem fl83_0 (cs : List Value) : afield Tryz.prog 83 (.agg cs.toArray) 0 = cs[0]? := afield_one (f := (fieldT Tryz.prog 83 0).getD default) (by kernel_rfl) (by kernel_rfl) (by kernel_rfl) cs
theorem fa83_1 (id off : Nat) : afieldAddr Tryz.prog 83 (.pointer (some ⟨id, off, none⟩)) 1 = some (.pointer (some ⟨id, off + 1, none⟩)) := afieldAddr_at (n := 0) (f := (fieldT Tryz.prog 83 1).getD default) (by kernel_rfl) (by kernel_rfl) (by kernel_rfl) id off
theorem fl83_1 (cs : List Value) : afield Tryz.prog 83 (.agg cs.toArray) 1 = cs[1]? := afield_one (f := (fieldT Tryz.prog 83 1).getD default) (by kernel_rfl) (by kernel_rfl) (by kernel_rfl) cs
theorem fa83_2 (id off : Nat) : afieldAddr Tryz.prog 83 (.pointer (some ⟨id, off, none⟩)) 2 = some (.pointer (some ⟨id, off + 2, none⟩)) := afieldAddr_at (n := 0) (f := (fieldT Tryz.prog 83 2).getD default) (by kernel_rfl) (by kernel_rfl) (by kernel_rfl) id off
theorem fl83_2 (cs : List Value) : afield Tryz.prog 83 (.agg cs.toArray) 2 = cs[2]? := afield_one (f := (fieldT Tryz.prog 83 2).getD default) (by kernel_rfl) (by kernel_rfl) (by kernel_rfl) cs
theorem fa83_3 (id off : Nat) : afieldAddr Tryz.prog 83 (.pointer (some ⟨id, off, none⟩)) 3 = some (.pointer (some ⟨id, off + 3, none⟩)) := afieldAddr_at (n := 0) (f := (fieldT Tryz.prog 83 3).getD default) (by kernel_rfl) (by kernel_rfl) (by kernel_rfl) id off
theorem fl83_3 (cs : List Value) : afield Tryz.prog 83 (.agg cs.toArray) 3 = cs[3]? := afield_one (f := (fieldT Tryz.prog 83 3).getD default) (by kernel_rfl) (by kernel_rfl) (by kernel_rfl) cs
theorem sz84 : szT Tryz.prog 84 = some 4 := by kernel_rfl
theorem ag84 : aggT Tryz.prog 84 = some true := by kernel_rfl
theorem ze84 : zeroT Tryz.prog 84 = some (.agg #[.int .u64 0, .slice none 0 0, .bool false, .int .i64 0]) := by kernel_rfl
theorem inf84 : ∃ i, Tryz.prog.info? 84 = some i ∧ i.zero = some (.agg #[.int .u64 0, .slice none 0 0, .bool false, .int .i64 0]) ∧ i.size = 4 ∧ i.bytes = 48 := by
  have h : (Tryz.prog.info? 84).map (fun i => (i.zero, i.size, i.bytes)) = some (some (.agg #[.int .u64 0, .slice none 0 0, .bool false, .int .i64 0]), 4, 48) := by kernel_rfl
  obtain ⟨i, h1, h2⟩ := Option.map_eq_some_iff.1 h
  simp only [Prod.mk.injEq] at h2
  exact ⟨i, h1, h2.1, h2.2.1, h2.2.2⟩
theorem st84 (H : AHeap) (id off : Nat) (x : Value) : astoreT Tryz.prog H 84 (.pointer (some ⟨id, off, none⟩)) x = if x.cells.size = 4 ∧ x.cells.toList.all oneCell = true then ((H[id]?).bind (rowStore off x.cells.toList)).map fun o => H.set id o else none := astore_rule sz84 H id off x
theorem fa84_0 (id off : Nat) : afieldAddr Tryz.prog 84 (.pointer (some ⟨id, off, none⟩)) 0 = some (.pointer (some ⟨id, off + 0, none⟩)) := afieldAddr_at (n := 0) (f := (fieldT Tryz.prog 84 0).getD default) (by kernel_rfl) (by kernel_rfl) (by kernel_rfl) id off
theorem fl84_0 (cs : List Value) : afield Tryz.prog 84 (.agg cs.toArray) 0 = cs[0]? := afield_one (f := (fieldT Tryz.prog 84 0).getD default) (by kernel_rfl) (by kernel_rfl) (by kernel_rfl) cs
theorem fa84_1 (id off : Nat) : afieldAddr Tryz.prog 84 (.pointer (some ⟨id, off, none⟩)) 1 = some (.pointer (some ⟨id, off + 1, none⟩)) := afieldAddr_at (n := 0) (f := (fieldT Tryz.prog 84 1).getD default) (by kernel_rfl) (by kernel_rfl) (by kernel_rfl) id off
theorem fl84_1 (cs : List Value) : afield Tryz.prog 84 (.agg cs.toArray) 1 = cs[1]? := afield_one (f := (fieldT Tryz.prog 84 1).getD default) (by kernel_rfl) (by kernel_rfl) (by kernel_rfl) cs
theorem fa84_2 (id off : Nat) : afieldAddr Tryz.prog 84 (.pointer (some ⟨id, off, none⟩)) 2 = some (.pointer (some ⟨id, off + 2, none⟩)) := afieldAddr_at (n := 0) (f := (fieldT Tryz.prog 84 2).getD default) (by kernel_rfl) (by kernel_rfl) (by kernel_rfl) id off
theorem fl84_2 (cs : List Value) : afield Tryz.prog 84 (.agg cs.toArray) 2 = cs[2]? := afield_one (f := (fieldT Tryz.prog 84 2).getD default) (by kernel_rfl) (by kernel_rfl) (by kernel_rfl) cs
theorem fa84_3 (id off : Nat) : afieldAddr Tryz.prog 84 (.pointer (some ⟨id, off, none⟩)) 3 = some (.pointer (some ⟨id, off + 3, none⟩)) := afieldAddr_at (n := 0) (f := (fieldT Tryz.prog 84 3).getD default) (by kernel_rfl) (by kernel_rfl) (by kernel_rfl) id off
theorem fl84_3 (cs : List Value) : afield Tryz.prog 84 (.agg cs.toArray) 3 = cs[3]? := afield_one (f := (fieldT Tryz.prog 84 3).getD default) (by kernel_rfl) (by kernel_rfl) (by kernel_rfl) cs
theorem sz87 : szT Tryz.prog 87 = some 1 := by kernel_rfl
theorem ag87 : aggT Tryz.prog 87 = some false := by kernel_rfl
theorem ze87 : zeroT Tryz.prog 87 = some (.nilIface) := by kernel_rfl
theorem pz87 : plainV 100 (.nilIface) = true := by kernel_rfl
theorem inf87 : ∃ i, Tryz.prog.info? 87 = some i ∧ i.zero = some (.nilIface) ∧ i.size = 1 ∧ i.bytes = 16 := by
  have h : (Tryz.prog.info? 87).map (fun i => (i.zero, i.size, i.bytes)) = some (some (.nilIface), 1, 16) := by kernel_rfl
  obtain ⟨i, h1, h2⟩ := Option.map_eq_some_iff.1 h
  simp only [Prod.mk.injEq] at h2
  exact ⟨i, h1, h2.1, h2.2.1, h2.2.2⟩
theorem st87 (H : AHeap) (id off : Nat) (x : Value) : astoreT Tryz.prog H 87 (.pointer (some ⟨id, off, none⟩)) x = if x.cells.size = 1 ∧ x.cells.toList.all oneCell = true then ((H[id]?).bind (rowStore off x.cells.toList)).map fun o => H.set id o else none := astore_rule sz87 H id off x
theorem enz87 (H : AHeap) (xo : Operand) (w : Value) : abin Tryz.prog H .eql 87 xo (.const w) .nilIface .nilIface = some (.bool true) := abin_eq_if0 (by kernel_rfl) H xo w
theorem eno87 (H : AHeap) (xo yo : Operand) (u : TypeId) (v : Value) : abin Tryz.prog H .eql 87 xo yo (.iface u v) .nilIface = some (.bool false) := abin_eq_if1 (by kernel_rfl) H xo yo u v
theorem nnz87 (H : AHeap) (xo : Operand) (w : Value) : abin Tryz.prog H .neq 87 xo (.const w) .nilIface .nilIface = some (.bool false) := abin_ne_if0 (by kernel_rfl) H xo w
theorem nno87 (H : AHeap) (xo yo : Operand) (u : TypeId) (v : Value) : abin Tryz.prog H .neq 87 xo yo (.iface u v) .nilIface = some (.bool true) := abin_ne_if1 (by kernel_rfl) H xo yo u v
theorem sz88 : szT Tryz.prog 88 = some 1 := by kernel_rfl
theorem ag88 : aggT Tryz.prog 88 = some false := by kernel_rfl
theorem ze88 : zeroT Tryz.prog 88 = some (.nilIface) := by kernel_rfl
theorem inf88 : ∃ i, Tryz.prog.info? 88 = some i ∧ i.zero = some (.nilIface) ∧ i.size = 1 ∧ i.bytes = 16 := by
  have h : (Tryz.prog.info? 88).map (fun i => (i.zero, i.size, i.bytes)) = some (some (.nilIface), 1, 16) := by kernel_rfl
  obtain ⟨i, h1, h2⟩ := Option.map_eq_some_iff.1 h
  simp only [Prod.mk.injEq] at h2
  exact ⟨i, h1, h2.1, h2.2.1, h2.2.2⟩
theorem st88 (H : AHeap) (id off : Nat) (x : Value) : astoreT Tryz.prog H 88 (.pointer (some ⟨id, off, none⟩)) x = if x.cells.size = 1 ∧ x.cells.toList.all oneCell = true then ((H[id]?).bind (rowStore off x.cells.toList)).map fun o => H.set id o else none := astore_rule sz88 H id off x
theorem enz88 (H : AHeap) (xo : Operand) (w : Value) : abin Tryz.prog H .eql 88 xo (.const w) .nilIface .nilIface = some (.bool true) := abin_eq_if0 (by kernel_rfl) H xo w
theorem eno88 (H : AHeap) (xo yo : Operand) (u : TypeId) (v : Value) : abin Tryz.prog H .eql 88 xo yo (.iface u v) .nilIface = some (.bool false) := abin_eq_if1 (by kernel_rfl) H xo yo u v
theorem nnz88 (H : AHeap) (xo : Operand) (w : Value) : abin Tryz.prog H .neq 88 xo (.const w) .nilIface .nilIface = some (.bool false) := abin_ne_if0 (by kernel_rfl) H xo w
theorem nno88 (H : AHeap) (xo yo : Operand) (u : TypeId) (v : Value) : abin Tryz.prog H .neq 88 xo yo (.iface u v) .nilIface = some (.bool true) := abin_ne_if1 (by kernel_rfl) H xo yo u v
theorem sz91 : szT Tryz.prog 91 = some 1 := by kernel_rfl
theorem ag91 : aggT Tryz.prog 91 = some false := by kernel_rfl
theorem ze91 : zeroT Tryz.prog 91 = some (.nilIface) := by kernel_rfl
theorem inf91 : ∃ i, Tryz.prog.info? 91 = some i ∧ i.zero = some (.nilIface) ∧ i.size = 1 ∧ i.bytes = 16 := by
  have h : (Tryz.prog.info? 91).map (fun i => (i.zero, i.size, i.bytes)) = some (some (.nilIface), 1, 16) := by kernel_rfl
  obtain ⟨i, h1, h2⟩ := Option.map_eq_some_iff.1 h
  simp only [Prod.mk.injEq] at h2
  exact ⟨i, h1, h2.1, h2.2.1, h2.2.2⟩
theorem st91 (H : AHeap) (id off : Nat) (x : Value) : astoreT Tryz.prog H 91 (.pointer (some ⟨id, off, none⟩)) x = if x.cells.size = 1 ∧ x.cells.toList.all oneCell = true then ((H[id]?).bind (rowStore off x.cells.toList)).map fun o => H.set id o else none := astore_rule sz91 H id off x
theorem enz91 (H : AHeap) (xo : Operand) (w : Value) : abin Tryz.prog H .eql 91 xo (.const w) .nilIface .nilIface = some (.bool true) := abin_eq_if0 (by kernel_rfl) H xo w
theorem eno91 (H : AHeap) (xo yo : Operand) (u : TypeId) (v : Value) : abin Tryz.prog H .eql 91 xo yo (.iface u v) .nilIface = some (.bool false) := abin_eq_if1 (by kernel_rfl) H xo yo u v
theorem nnz91 (H : AHeap) (xo : Operand) (w : Value) : abin Tryz.prog H .neq 91 xo (.const w) .nilIface .nilIface = some (.bool false) := abin_ne_if0 (by kernel_rfl) H xo w
theorem nno91 (H : AHeap) (xo yo : Operand) (u : TypeId) (v : Value) : abin Tryz.prog H .neq 91 xo yo (.iface u v) .nilIface = some (.bool true) := abin_ne_if1 (by kernel_rfl) H xo yo u v
theorem sz92 : szT Tryz.prog 92 = some 1 := by kernel_rfl
theorem ag92 : aggT Tryz.prog 92 = some false := by kernel_rfl
theorem ze92 : zeroT Tryz.prog 92 = some (.nilIface) := by kernel_rfl
theorem inf92 : ∃ i, Tryz.prog.info? 92 = some i ∧ i.zero = some (.nilIface) ∧ i.size = 1 ∧ i.bytes = 16 := by
  have h : (Tryz.prog.info? 92).map (fun i => (i.zero, i.size, i.bytes)) = some (some (.nilIface), 1, 16) := by kernel_rfl
  obtain ⟨i, h1, h2⟩ := Option.map_eq_some_iff.1 h
  simp only [Prod.mk.injEq] at h2
  exact ⟨i, h1, h2.1, h2.2.1, h2.2.2⟩
theorem st92 (H : AHeap) (id off : Nat) (x : Value) : astoreT Tryz.prog H 92 (.pointer (some ⟨id, off, none⟩)) x = if x.cells.size = 1 ∧ x.cells.toList.all oneCell = true then ((H[id]?).bind (rowStore off x.cells.toList)).map fun o => H.set id o else none := astore_rule sz92 H id off x
theorem enz92 (H : AHeap) (xo : Operand) (w : Value) : abin Tryz.prog H .eql 92 xo (.const w) .nilIface .nilIface = some (.bool true) := abin_eq_if0 (by kernel_rfl) H xo w
theorem eno92 (H : AHeap) (xo yo : Operand) (u : TypeId) (v : Value) : abin Tryz.prog H .eql 92 xo yo (.iface u v) .nilIface = some (.bool false) := abin_eq_if1 (by kernel_rfl) H xo yo u v
theorem nnz92 (H : AHeap) (xo : Operand) (w : Value) : abin Tryz.prog H .neq 92 xo (.const w) .nilIface .nilIface = some (.bool false) := abin_ne_if0 (by kernel_rfl) H xo w
theorem nno92 (H : AHeap) (xo yo : Operand) (u : TypeId) (v : Value) : abin Tryz.prog H .neq 92 xo yo (.iface u v) .nilIface = some (.bool true) := abin_ne_if1 (by kernel_rfl) H xo yo u v
theorem sz94 : szT Tryz.prog 94 = some 1 := by kernel_rfl
theorem ag94 : aggT Tryz.prog 94 = some false := by kernel_rfl
theorem ze94 : zeroT Tryz.prog 94 = some (.pointer none) := by kernel_rfl
theorem inf94 : ∃ i, Tryz.prog.info? 94 = some i ∧ i.zero = some (.pointer none) ∧ i.size = 1 ∧ i.bytes = 8 := by
  have h : (Tryz.prog.info? 94).map (fun i => (i.zero, i.size, i.bytes)) = some (some (.pointer none), 1, 8) := by kernel_rfl
  obtain ⟨i, h1, h2⟩ := Option.map_eq_some_iff.1 h
  simp only [Prod.mk.injEq] at h2
  exact ⟨i, h1, h2.1, h2.2.1, h2.2.2⟩
theorem st94 (H : AHeap) (id off : Nat) (x : Value) : astoreT Tryz.prog H 94 (.pointer (some ⟨id, off, none⟩)) x = if x.cells.size = 1 ∧ x.cells.toList.all oneCell = true then ((H[id]?).bind (rowStore off x.cells.toList)).map fun o => H.set id o else none := astore_rule sz94 H id off x
theorem en94 (H : AHeap) (xo yo : Operand) (a : Option Addr) : abin Tryz.prog H .eql 94 xo yo (.pointer a) (.pointer none) = some (.bool a.isNone) := abin_eq_ptrnil (e := 167) (by kernel_rfl) H xo yo a
theorem nn94 (H : AHeap) (xo yo : Operand) (a : Option Addr) : abin Tryz.prog H .neq 94 xo yo (.pointer a) (.pointer none) = some (.bool !a.isNone) := abin_ne_ptrnil (e := 167) (by kernel_rfl) H xo yo a
theorem sz96 : szT Tryz.prog 96 = some 1 := by kernel_rfl
theorem ag96 : aggT Tryz.prog 96 = some false := by kernel_rfl
theorem ze96 : zeroT Tryz.prog 96 = some (.slice none 0 0) := by kernel_rfl
theorem inf96 : ∃ i, Tryz.prog.info? 96 = some i ∧ i.zero = some (.slice none 0 0) ∧ i.size = 1 ∧ i.bytes = 24 := by
  have h : (Tryz.prog.info? 96).map (fun i => (i.zero, i.size, i.bytes)) = some (some (.slice none 0 0), 1, 24) := by kernel_rfl
  obtain ⟨i, h1, h2⟩ := Option.map_eq_some_iff.1 h
  simp only [Prod.mk.injEq] at h2
  exact ⟨i, h1, h2.1, h2.2.1, h2.2.2⟩
theorem st96 (H : AHeap) (id off : Nat) (x : Value) : astoreT Tryz.prog H 96 (.pointer (some ⟨id, off, none⟩)) x = if x.cells.size = 1 ∧ x.cells.toList.all oneCell = true then ((H[id]?).bind (rowStore off x.cells.toList)).map fun o => H.set id o else none := astore_rule sz96 H id off x
theorem un96 : Tryz.prog.underlying 96 = some (.slice 27) := by kernel_rfl
theorem el96 : elemT Tryz.prog 96 = some 27 := by kernel_rfl
theorem ln96 (H : AHeap) (a : Option Addr) (m c : Nat) : alen Tryz.prog H 96 (.slice a m c) = some (.int .i64 m) := alen_slice un96 H a m c
theorem cp96 (a : Addr) (m c : Nat) : acap Tryz.prog 96 (.slice (some a) m c) = if c = 0 then none else some (.int .i64 c) := acap_slice un96 a m c
theorem ix96 (id off m c : Nat) (ik : IntKind) (i : Int) : aindexAddr Tryz.prog 96 (.slice (some ⟨id, off, none⟩) m c) (.int ik i) = if 0 ≤ i ∧ i < m then some (.pointer (some ⟨id, off + i.toNat * 2, none⟩)) else none := aindexAddr_at un96 (by kernel_rfl) id off m c ik i
theorem en96 (H : AHeap) (xo yo : Operand) (a : Option Addr) (n c m q : Nat) : abin Tryz.prog H .eql 96 xo yo (.slice a n c) (.slice none m q) = some (.bool a.isNone) := abin_eq_slnil un96 H xo yo a n c m q
theorem nn96 (H : AHeap) (xo yo : Operand) (a : Option Addr) (n c m q : Nat) : abin Tryz.prog H .neq 96 xo yo (.slice a n c) (.slice none m q) = some (.bool !a.isNone) := abin_ne_slnil un96 H xo yo a n c m q
theorem sc96 (H : AHeap) (a : Option Addr) (n c : Nat) (lo hi : Option Value) : aslice Tryz.prog H 96 (.slice a n c) lo hi none = (optB hi (some n) (capOf n c)).bind fun h => (optB lo (some 0) h).bind fun l => cut H 2 a c l h := aslice_sl un96 (by kernel_rfl) H a n c lo hi
theorem sz102 : szT Tryz.prog 102 = some 1 := by kernel_rfl
theorem ag102 : aggT Tryz.prog 102 = some false := by kernel_rfl
theorem ze102 : zeroT Tryz.prog 102 = some (.slice none 0 0) := by kernel_rfl
theorem inf102 : ∃ i, Tryz.prog.info? 102 = some i ∧ i.zero = some (.slice none 0 0) ∧ i.size = 1 ∧ i.bytes = 24 := by
  have h : (Tryz.prog.info? 102).map (fun i => (i.zero, i.size, i.bytes)) = some (some (.slice none 0 0), 1, 24) := by kernel_rfl
  obtain ⟨i, h1, h2⟩ := Option.map_eq_some_iff.1 h
  simp only [Prod.mk.injEq] at h2
  exact ⟨i, h1, h2.1, h2.2.1, h2.2.2⟩
theorem st102 (H : AHeap) (id off : Nat) (x : Value) : astoreT Tryz.prog H 102 (.pointer (some ⟨id, off, none⟩)) x = if x.cells.size = 1 ∧ x.cells.toList.all oneCell = true then ((H[id]?).bind (rowStore off x.cells.toList)).map fun o => H.set id o else none := astore_rule sz102 H id off x
theorem un102 : Tryz.prog.underlying 102 = some (.slice 49) := by kernel_rfl
theorem el102 : elemT Tryz.prog 102 = some 49 := by kernel_rfl
theorem ln102 (H : AHeap) (a : Option Addr) (m c : Nat) : alen Tryz.prog H 102 (.slice a m c) = some (.int .i64 m) := alen_slice un102 H a m c
theorem cp102 (a : Addr) (m c : Nat) : acap Tryz.prog 102 (.slice (some a) m c) = if c = 0 then none else some (.int .i64 c) := acap_slice un102 a m c
theorem ix102 (id off m c : Nat) (ik : IntKind) (i : Int) : aindexAddr Tryz.prog 102 (.slice (some ⟨id, off, none⟩) m c) (.int ik i) = if 0 ≤ i ∧ i < m then some (.pointer (some ⟨id, off + i.toNat * 7, none⟩)) else none := aindexAddr_at un102 (by kernel_rfl) id off m c ik i
theorem en102 (H : AHeap) (xo yo : Operand) (a : Option Addr) (n c m q : Nat) : abin Tryz.prog H .eql 102 xo yo (.slice a n c) (.slice none m q) = some (.bool a.isNone) := abin_eq_slnil un102 H xo yo a n c m q
theorem nn102 (H : AHeap) (xo yo : Operand) (a : Option Addr) (n c m q : Nat) : abin Tryz.prog H .neq 102 xo yo (.slice a n c) (.slice none m q) = some (.bool !a.isNone) := abin_ne_slnil un102 H xo yo a n c m q
theorem sc102 (H : AHeap) (a : Option Addr) (n c : Nat) (lo hi : Option Value) : aslice Tryz.prog H 102 (.slice a n c) lo hi none = (optB hi (some n) (capOf n c)).bind fun h => (optB lo (some 0) h).bind fun l => cut H 7 a c l h := aslice_sl un102 (by kernel_rfl) H a n c lo hi
theorem sz105 : szT Tryz.prog 105 = some 1 := by kernel_rfl
theorem ag105 : aggT Tryz.prog 105 = some false := by kernel_rfl
theorem ze105 : zeroT Tryz.prog 105 = some (.slice none 0 0) := by kernel_rfl
theorem inf105 : ∃ i, Tryz.prog.info? 105 = some i ∧ i.zero = some (.slice none 0 0) ∧ i.size = 1 ∧ i.bytes = 24 := by
  have h : (Tryz.prog.info? 105).map (fun i => (i.zero, i.size, i.bytes)) = some (some (.slice none 0 0), 1, 24) := by kernel_rfl
  obtain ⟨i, h1, h2⟩ := Option.map_eq_some_iff.1 h
  simp only [Prod.mk.injEq] at h2
  exact ⟨i, h1, h2.1, h2.2.1, h2.2.2⟩
theorem st105 (H : AHeap) (id off : Nat) (x : Value) : astoreT Tryz.prog H 105 (.pointer (some ⟨id, off, none⟩)) x = if x.cells.size = 1 ∧ x.cells.toList.all oneCell = true then ((H[id]?).bind (rowStore off x.cells.toList)).map fun o => H.set id o else none := astore_rule sz105 H id off x
theorem un105 : Tryz.prog.underlying 105 = some (.slice 211) := by kernel_rfl
theorem el105 : elemT Tryz.prog 105 = some 211 := by kernel_rfl
theorem ln105 (H : AHeap) (a : Option Addr) (m c : Nat) : alen Tryz.prog H 105 (.slice a m c) = some (.int .i64 m) := alen_slice un105 H a m c
theorem cp105 (a : Addr) (m c : Nat) : acap Tryz.prog 105 (.slice (some a) m c) = if c = 0 then none else some (.int .i64 c) := acap_slice un105 a m c
theorem ix105 (id off m c : Nat) (ik : IntKind) (i : Int) : aindexAddr Tryz.prog 105 (.slice (some ⟨id, off, none⟩) m c) (.int ik i) = if 0 ≤ i ∧ i < m then some (.pointer (some ⟨id, off + i.toNat * 4, none⟩)) else none := aindexAddr_at un105 (by kernel_rfl) id off m c ik i
theorem en105 (H : AHeap) (xo yo : Operand) (a : Option Addr) (n c m q : Nat) : abin Tryz.prog H .eql 105 xo yo (.slice a n c) (.slice none m q) = some (.bool a.isNone) := abin_eq_slnil un105 H xo yo a n c m q
theorem nn105 (H : AHeap) (xo yo : Operand) (a : Option Addr) (n c m q : Nat) : abin Tryz.prog H .neq 105 xo yo (.slice a n c) (.slice none m q) = some (.bool !a.isNone) := abin_ne_slnil un105 H xo yo a n c m q
theorem sc105 (H : AHeap) (a : Option Addr) (n c : Nat) (lo hi : Option Value) : aslice Tryz.prog H 105 (.slice a n c) lo hi none = (optB hi (some n) (capOf n c)).bind fun h => (optB lo (some 0) h).bind fun l => cut H 4 a c l h := aslice_sl un105 (by kernel_rfl) H a n c lo hi
theorem sz108 : szT Tryz.prog 108 = some 1 := by kernel_rfl
theorem ag108 : aggT Tryz.prog 108 = some false := by kernel_rfl
theorem ze108 : zeroT Tryz.prog 108 = some (.int .u32 0) := by kernel_rfl
theorem pz108 : plainV 100 (.int .u32 0) = true := by kernel_rfl
theorem inf108 : ∃ i, Tryz.prog.info? 108 = some i ∧ i.zero = some (.int .u32 0) ∧ i.size = 1 ∧ i.bytes = 4 := by
  have h : (Tryz.prog.info? 108).map (fun i => (i.zero, i.size, i.bytes)) = some (some (.int .u32 0), 1, 4) := by kernel_rfl
  obtain ⟨i, h1, h2⟩ := Option.map_eq_some_iff.1 h
  simp only [Prod.mk.injEq] at h2
  exact ⟨i, h1, h2.1, h2.2.1, h2.2.2⟩
theorem st108 (H : AHeap) (id off : Nat) (x : Value) : astoreT Tryz.prog H 108 (.pointer (some ⟨id, off, none⟩)) x = if x.cells.size = 1 ∧ x.cells.toList.all oneCell = true then ((H[id]?).bind (rowStore off x.cells.toList)).map fun o => H.set id o else none := astore_rule sz108 H id off x
theorem kd108 : kindT Tryz.prog 108 = .int .u32 := by kernel_rfl
theorem sz109 : szT Tryz.prog 109 = some 8 := by kernel_rfl
theorem ag109 : aggT Tryz.prog 109 = some true := by kernel_rfl
theorem ze109 : zeroT Tryz.prog 109 = some (.agg #[.int .i64 0, .int .i64 0, .int .i64 0, .int .i64 0, .int .i64 0, .string ByteArray.empty, .int .u32 0, .int .i64 0]) := by kernel_rfl
theorem pz109 : plainV 100 (.agg #[.int .i64 0, .int .i64 0, .int .i64 0, .int .i64 0, .int .i64 0, .string ByteArray.empty, .int .u32 0, .int .i64 0]) = true := by kernel_rfl
theorem inf109 : ∃ i, Tryz.prog.info? 109 = some i ∧ i.zero = some (.agg #[.int .i64 0, .int .i64 0, .int .i64 0, .int .i64 0, .int .i64 0, .string ByteArray.empty, .int .u32 0, .int .i64 0]) ∧ i.size = 8 ∧ i.bytes = 72 := by
  have h : (Tryz.prog.info? 109).map (fun i => (i.zero, i.size, i.bytes)) = some (some (.agg #[.int .i64 0, .int .i64 0, .int .i64 0, .int .i64 0, .int .i64 0, .string ByteArray.empty, .int .u32 0, .int .i64 0]), 8, 72) := by kernel_rfl
  obtain ⟨i, h1, h2⟩ := Option.map_eq_some_iff.1 h
  simp only [Prod.mk.injEq] at h2
  exact ⟨i, h1, h2.1, h2.2.1, h2.2.2⟩
theorem st109 (H : AHeap) (id off : Nat) (x : Value) : astoreT Tryz.prog H 109 (.pointer (some ⟨id, off, none⟩)) x = if x.cells.size = 8 ∧ x.cells.toList.all oneCell = true then ((H[id]?).bind (rowStore off x.cells.toList)).map fun o => H.set id o else none := astore_rule sz109 H id off x
theorem fa109_0 (id off : Nat) : afieldAddr Tryz.prog 109 (.pointer (some ⟨id, off, none⟩)) 0 = some (.pointer (some ⟨id, off + 0, none⟩)) := afieldAddr_at (n := 4) (f := (fieldT Tryz.prog 109 0).getD default) (by kernel_rfl) (by kernel_rfl) (by kernel_rfl) id off
theorem fl109_0 (cs : List Value) : afield Tryz.prog 109 (.agg cs.toArray) 0 = some (.agg ((cs.drop 0).take 5).toArray) := afield_agg (f := (fieldT Tryz.prog 109 0).getD default) (by kernel_rfl) (by kernel_rfl) (by kernel_rfl) (by kernel_rfl) cs
theorem fa109_1 (id off : Nat) : afieldAddr Tryz.prog 109 (.pointer (some ⟨id, off, none⟩)) 1 = some (.pointer (some ⟨id, off + 5, none⟩)) := afieldAddr_at (n := 0) (f := (fieldT Tryz.prog 109 1).getD default) (by kernel_rfl) (by kernel_rfl) (by kernel_rfl) id off
theorem fl109_1 (cs : List Value) : afield Tryz.prog 109 (.agg cs.toArray) 1 = cs[5]? := afield_one (f := (fieldT Tryz.prog 109 1).getD default) (by kernel_rfl) (by kernel_rfl) (by kernel_rfl) cs
theorem fa109_2 (id off : Nat) : afieldAddr Tryz.prog 109 (.pointer (some ⟨id, off, none⟩)) 2 = some (.pointer (some ⟨id, off + 6, none⟩)) := afieldAddr_at (n := 0) (f := (fieldT Tryz.prog 109 2).getD default) (by kernel_rfl) (by kernel_rfl) (by kernel_rfl) id off
theorem fl109_2 (cs : List Value) : afield Tryz.prog 109 (.agg cs.toArray) 2 = cs[6]? := afield_one (f := (fieldT Tryz.prog 109 2).getD default) (by kernel_rfl) (by kernel_rfl) (by kernel_rfl) cs
theorem fa109_3 (id off : Nat) : afieldAddr Tryz.prog 109 (.pointer (some ⟨id, off, none⟩)) 3 = some (.pointer (some ⟨id, off + 7, none⟩)) := afieldAddr_at (n := 0) (f := (fieldT Tryz.prog 109 3).getD default) (by kernel_rfl) (by kernel_rfl) (by kernel_rfl) id off
theorem fl109_3 (cs : List Value) : afield Tryz.prog 109 (.agg cs.toArray) 3 = cs[7]? := afield_one (f := (fieldT Tryz.prog 109 3).getD default) (by kernel_rfl) (by kernel_rfl) (by kernel_rfl) cs
theorem sz110 : szT Tryz.prog 110 = some 8 := by kernel_rfl
theorem ag110 : aggT Tryz.prog 110 = some true := by kernel_rfl
theorem ze110 : zeroT Tryz.prog 110 = some (.agg #[.int .i64 0, .int .i64 0, .int .i64 0, .int .i64 0, .int .i64 0, .string ByteArray.empty, .int .u32 0, .int .i64 0]) := by kernel_rfl
theorem inf110 : ∃ i, Tryz.prog.info? 110 = some i ∧ i.zero = some (.agg #[.int .i64 0, .int .i64 0, .int .i64 0, .int .i64 0, .int .i64 0, .string ByteArray.empty, .int .u32 0, .int .i64 0]) ∧ i.size = 8 ∧ i.bytes = 72 := by
  have h : (Tryz.prog.info? 110).map (fun i => (i.zero, i.size, i.bytes)) = some (some (.agg #[.int .i64 0, .int .i64 0, .int .i64 0, .int .i64 0, .int .i64 0, .string ByteArray.empty, .int .u32 0, .int .i64 0]), 8, 72) := by kernel_rfl
  obtain ⟨i, h1, h2⟩ := Option.map_eq_some_iff.1 h
  simp only [Prod.mk.injEq] at h2
  exact ⟨i, h1, h2.1, h2.2.1, h2.2.2⟩
theorem st110 (H : AHeap) (id off : Nat) (x : Value) : astoreT Tryz.prog H 110 (.pointer (some ⟨id, off, none⟩)) x = if x.cells.size = 8 ∧ x.cells.toList.all oneCell = true then ((H[id]?).bind (rowStore off x.cells.toList)).map fun o => H.set id o else none := astore_rule sz110 H id off x
theorem fa110_0 (id off : Nat) : afieldAddr Tryz.prog 110 (.pointer (some ⟨id, off, none⟩)) 0 = some (.pointer (some ⟨id, off + 0, none⟩)) := afieldAddr_at (n := 4) (f := (fieldT Tryz.prog 110 0).getD default) (by kernel_rfl) (by kernel_rfl) (by kernel_rfl) id off
theorem fl110_0 (cs : List Value) : afield Tryz.prog 110 (.agg cs.toArray) 0 = some (.agg ((cs.drop 0).take 5).toArray) := afield_agg (f := (fieldT Tryz.prog 110 0).getD default) (by kernel_rfl) (by kernel_rfl) (by kernel_rfl) (by kernel_rfl) cs
theorem fa110_1 (id off : Nat) : afieldAddr Tryz.prog 110 (.pointer (some ⟨id, off, none⟩)) 1 = some (.pointer (some ⟨id, off + 5, none⟩)) := afieldAddr_at (n := 0) (f := (fieldT Tryz.prog 110 1).getD default) (by kernel_rfl) (by kernel_rfl) (by kernel_rfl) id off
theorem fl110_1 (cs : List Value) : afield Tryz.prog 110 (.agg cs.toArray) 1 = cs[5]? := afield_one (f := (fieldT Tryz.prog 110 1).getD default) (by kernel_rfl) (by kernel_rfl) (by kernel_rfl) cs
theorem fa110_2 (id off : Nat) : afieldAddr Tryz.prog 110 (.pointer (some ⟨id, off, none⟩)) 2 = some (.pointer (some ⟨id, off + 6, none⟩)) := afieldAddr_at (n := 0) (f := (fieldT Tryz.prog 110 2).getD default) (by kernel_rfl) (by kernel_rfl) (by kernel_rfl) id off
theorem fl110_2 (cs : List Value) : afield Tryz.prog 110 (.agg cs.toArray) 2 = cs[6]? := afield_one (f := (fieldT Tryz.prog 110 2).getD default) (by kernel_rfl) (by kernel_rfl) (by kernel_rfl) cs
theorem fa110_3 (id off : Nat) : afieldAddr Tryz.prog 110 (.pointer (some ⟨id, off, none⟩)) 3 = some (.pointer (some ⟨id, off + 7, none⟩)) := afieldAddr_at (n := 0) (f := (fieldT Tryz.prog 110 3).getD default) (by kernel_rfl) (by kernel_rfl) (by kernel_rfl) id off
theorem fl110_3 (cs : List Value) : afield Tryz.prog 110 (.agg cs.toArray) 3 = cs[7]? := afield_one (f := (fieldT Tryz.prog 110 3).getD default) (by kernel_rfl) (by kernel_rfl) (by kernel_rfl) cs
theorem sz114 : szT Tryz.prog 114 = some 1 := by kernel_rfl
theorem ag114 : aggT Tryz.prog 114 = some false := by kernel_rfl
theorem ze114 : zeroT Tryz.prog 114 = some (.slice none 0 0) := by kernel_rfl
theorem inf114 : ∃ i, Tryz.prog.info? 114 = some i ∧ i.zero = some (.slice none 0 0) ∧ i.size = 1 ∧ i.bytes = 24 := by
  have h : (Tryz.prog.info? 114).map (fun i => (i.zero, i.size, i.bytes)) = some (some (.slice none 0 0), 1, 24) := by kernel_rfl
  obtain ⟨i, h1, h2⟩ := Option.map_eq_some_iff.1 h
  simp only [Prod.mk.injEq] at h2
  exact ⟨i, h1, h2.1, h2.2.1, h2.2.2⟩
theorem st114 (H : AHeap) (id off : Nat) (x : Value) : astoreT Tryz.prog H 114 (.pointer (some ⟨id, off, none⟩)) x = if x.cells.size = 1 ∧ x.cells.toList.all oneCell = true then ((H[id]?).bind (rowStore off x.cells.toList)).map fun o => H.set id o else none := astore_rule sz114 H id off x
theorem un114 : Tryz.prog.underlying 114 = some (.slice 424) := by kernel_rfl
theorem el114 : elemT Tryz.prog 114 = some 424 := by kernel_rfl
theorem ln114 (H : AHeap) (a : Option Addr) (m c : Nat) : alen Tryz.prog H 114 (.slice a m c) = some (.int .i64 m) := alen_slice un114 H a m c
theorem cp114 (a : Addr) (m c : Nat) : acap Tryz.prog 114 (.slice (some a) m c) = if c = 0 then none else some (.int .i64 c) := acap_slice un114 a m c
theorem ix114 (id off m c : Nat) (ik : IntKind) (i : Int) : aindexAddr Tryz.prog 114 (.slice (some ⟨id, off, none⟩) m c) (.int ik i) = if 0 ≤ i ∧ i < m then some (.pointer (some ⟨id, off + i.toNat * 3, none⟩)) else none := aindexAddr_at un114 (by kernel_rfl) id off m c ik i
theorem en114 (H : AHeap) (xo yo : Operand) (a : Option Addr) (n c m q : Nat) : abin Tryz.prog H .eql 114 xo yo (.slice a n c) (.slice none m q) = some (.bool a.isNone) := abin_eq_slnil un114 H xo yo a n c m q
theorem nn114 (H : AHeap) (xo yo : Operand) (a : Option Addr) (n c m q : Nat) : abin Tryz.prog H .neq 114 xo yo (.slice a n c) (.slice none m q) = some (.bool !a.isNone) := abin_ne_slnil un114 H xo yo a n c m q
theorem sc114 (H : AHeap) (a : Option Addr) (n c : Nat) (lo hi : Option Value) : aslice Tryz.prog H 114 (.slice a n c) lo hi none = (optB hi (some n) (capOf n c)).bind fun h => (optB lo (some 0) h).bind fun l => cut H 3 a c l h := aslice_sl un114 (by kernel_rfl) H a n c lo hi
theorem sz115 : szT Tryz.prog 115 = some 7 := by kernel_rfl
theorem ag115 : aggT Tryz.prog 115 = some true := by kernel_rfl
theorem ze115 : zeroT Tryz.prog 115 = some (.agg #[.int .i64 0, .int .i64 0, .slice none 0 0, .slice none 0 0, .slice none 0 0, .int .i64 0, .int .i64 0]) := by kernel_rfl
theorem pz115 : plainV 100 (.agg #[.int .i64 0, .int .i64 0, .slice none 0 0, .slice none 0 0, .slice none 0 0, .int .i64 0, .int .i64 0]) = true := by kernel_rfl
theorem inf115 : ∃ i, Tryz.prog.info? 115 = some i ∧ i.zero = some (.agg #[.int .i64 0, .int .i64 0, .slice none 0 0, .slice none 0 0, .slice none 0 0, .int .i64 0, .int .i64 0]) ∧ i.size = 7 ∧ i.bytes = 104 := by
  have h : (Tryz.prog.info? 115).map (fun i => (i.zero, i.size, i.bytes)) = some (some (.agg #[.int .i64 0, .int .i64 0, .slice none 0 0, .slice none 0 0, .slice none 0 0, .int .i64 0, .int .i64 0]), 7, 104) := by kernel_rfl
  obtain ⟨i, h1, h2⟩ := Option.map_eq_some_iff.1 h
  simp only [Prod.mk.injEq] at h2
  exact ⟨i, h1, h2.1, h2.2.1, h2.2.2⟩
theorem st115 (H : AHeap) (id off : Nat) (x : Value) : astoreT Tryz.prog H 115 (.pointer (some ⟨id, off, none⟩)) x = if x.cells.size = 7 ∧ x.cells.toList.all oneCell = true then ((H[id]?).bind (rowStore off x.cells.toList)).map fun o => H.set id o else none := astore_rule sz115 H id off x
theorem fa115_0 (id off : Nat) : afieldAddr Tryz.prog 115 (.pointer (some ⟨id, off, none⟩)) 0 = some (.pointer (some ⟨id, off + 0, none⟩)) := afieldAddr_at (n := 0) (f := (fieldT Tryz.prog 115 0).getD default) (by kernel_rfl) (by kernel_rfl) (by kernel_rfl) id off
theorem fl115_0 (cs : List Value) : afield Tryz.prog 115 (.agg cs.toArray) 0 = cs[0]? := afield_one (f := (fieldT Tryz.prog 115 0).getD default) (by kernel_rfl) (by kernel_rfl) (by kernel_rfl) cs
theorem fa115_1 (id off : Nat) : afieldAddr Tryz.prog 115 (.pointer (some ⟨id, off, none⟩)) 1 = some (.pointer (some ⟨id, off + 1, none⟩)) := afieldAddr_at (n := 0) (f := (fieldT Tryz.prog 115 1).getD default) (by kernel_rfl) (by kernel_rfl) (by kernel_rfl) id off
theorem fl115_1 (cs : List Value) : afield Tryz.prog 115 (.agg cs.toArray) 1 = cs[1]? := afield_one (f := (fieldT Tryz.prog 115 1).getD default) (by kernel_rfl) (by kernel_rfl) (by kernel_rfl) cs
theorem fa115_2 (id off : Nat) : afieldAddr Tryz.prog 115 (.pointer (some ⟨id, off, none⟩)) 2 = some (.pointer (some ⟨id, off + 2, none⟩)) := afieldAddr_at (n := 0) (f := (fieldT Tryz.prog 115 2).getD default) (by kernel_rfl) (by kernel_rfl) (by kernel_rfl) id off
theorem fl115_2 (cs : List Value) : afield Tryz.prog 115 (.agg cs.toArray) 2 = cs[2]? := afield_one (f := (fieldT Tryz.prog 115 2).getD default) (by kernel_rfl) (by kernel_rfl) (by kernel_rfl) cs
theorem fa115_3 (id off : Nat) : afieldAddr Tryz.prog 115 (.pointer (some ⟨id, off, none⟩)) 3 = some (.pointer (some ⟨id, off + 3, none⟩)) := afieldAddr_at (n := 0) (f := (fieldT Tryz.prog 115 3).getD default) (by kernel_rfl) (by kernel_rfl) (by kernel_rfl) id off
theorem fl115_3 (cs : List Value) : afield Tryz.prog 115 (.agg cs.toArray) 3 = cs[3]? := afield_one (f := (fieldT Tryz.prog 115 3).getD default) (by kernel_rfl) (by kernel_rfl) (by kernel_rfl) cs
theorem fa115_4 (id off : Nat) : afieldAddr Tryz.prog 115 (.pointer (some ⟨id, off, none⟩)) 4 = some (.pointer (some ⟨id, off + 4, none⟩)) := afieldAddr_at (n := 0) (f := (fieldT Tryz.prog 115 4).getD default) (by kernel_rfl) (by kernel_rfl) (by kernel_rfl) id off
theorem fl115_4 (cs : List Value) : afield Tryz.prog 115 (.agg cs.toArray) 4 = cs[4]? := afield_one (f := (fieldT Tryz.prog 115 4).getD default) (by kernel_rfl) (by kernel_rfl) (by kernel_rfl) cs
theorem fa115_5 (id off : Nat) : afieldAddr Tryz.prog 115 (.pointer (some ⟨id, off, none⟩)) 5 = some (.pointer (some ⟨id, off + 5, none⟩)) := afieldAddr_at (n := 1) (f := (fieldT Tryz.prog 115 5).getD default) (by kernel_rfl) (by kernel_rfl) (by kernel_rfl) id off
theorem fl115_5 (cs : List Value) : afield Tryz.prog 115 (.agg cs.toArray) 5 = some (.agg ((cs.drop 5).take 2).toArray) := afield_agg (f := (fieldT Tryz.prog 115 5).getD default) (by kernel_rfl) (by kernel_rfl) (by kernel_rfl) (by kernel_rfl) cs
theorem sz116 : szT Tryz.prog 116 = some 7 := by kernel_rfl
theorem ag116 : aggT Tryz.prog 116 = some true := by kernel_rfl
theorem ze116 : zeroT Tryz.prog 116 = some (.agg #[.int .i64 0, .int .i64 0, .slice none 0 0, .slice none 0 0, .slice none 0 0, .int .i64 0, .int .i64 0]) := by kernel_rfl
theorem inf116 : ∃ i, Tryz.prog.info? 116 = some i ∧ i.zero = some (.agg #[.int .i64 0, .int .i64 0, .slice none 0 0, .slice none 0 0, .slice none 0 0, .int .i64 0, .int .i64 0]) ∧ i.size = 7 ∧ i.bytes = 104 := by
  have h : (Tryz.prog.info? 116).map (fun i => (i.zero, i.size, i.bytes)) = some (some (.agg #[.int .i64 0, .int .i64 0, .slice none 0 0, .slice none 0 0, .slice none 0 0, .int .i64 0, .int .i64 0]), 7, 104) := by kernel_rfl
  obtain ⟨i, h1, h2⟩ := Option.map_eq_some_iff.1 h
  simp only [Prod.mk.injEq] at h2
  exact ⟨i, h1, h2.1, h2.2.1, h2.2.2⟩
theorem st116 (H : AHeap) (id off : Nat) (x : Value) : astoreT Tryz.prog H 116 (.pointer (some ⟨id, off, none⟩)) x = if x.cells.size = 7 ∧ x.cells.toList.all oneCell = true then ((H[id]?).bind (rowStore off x.cells.toList)).map fun o => H.set id o else none := astore_rule sz116 H id off x
theorem fa116_0 (id off : Nat) : afieldAddr Tryz.prog 116 (.pointer (some ⟨id, off, none⟩)) 0 = some (.pointer (some ⟨id, off + 0, none⟩)) := afieldAddr_at (n := 0) (f := (fieldT Tryz.prog 116 0).getD default) (by kernel_rfl) (by kernel_rfl) (by kernel_rfl) id off
theorem fl116_0 (cs : List Value) : afield Tryz.prog 116 (.agg cs.toArray) 0 = cs[0]? := afield_one (f := (fieldT Tryz.prog 116 0).getD default) (by kernel_rfl) (by kernel_rfl) (by kernel_rfl) cs
theorem fa116_1 (id off : Nat) : afieldAddr Tryz.prog 116 (.pointer (some ⟨id, off, none⟩)) 1 = some (.pointer (some ⟨id, off + 1, none⟩)) := afieldAddr_at (n := 0) (f := (fieldT Tryz.prog 116 1).getD default) (by kernel_rfl) (by kernel_rfl) (by kernel_rfl) id off
theorem fl116_1 (cs : List Value) : afield Tryz.prog 116 (.agg cs.toArray) 1 = cs[1]? := afield_one (f := (fieldT Tryz.prog 116 1).getD default) (by kernel_rfl) (by kernel_rfl) (by kernel_rfl) cs
theorem fa116_2 (id off : Nat) : afieldAddr Tryz.prog 116 (.pointer (some ⟨id, off, none⟩)) 2 = some (.pointer (some ⟨id, off + 2, none⟩)) := afieldAddr_at (n := 0) (f := (fieldT Tryz.prog 116 2).getD default) (by kernel_rfl) (by kernel_rfl) (by kernel_rfl) id off
theorem fl116_2 (cs : List Value) : afield Tryz.prog 116 (.agg cs.toArray) 2 = cs[2]? := afield_one (f := (fieldT Tryz.prog 116 2).getD default) (by kernel_rfl) (by kernel_rfl) (by kernel_rfl) cs
theorem fa116_3 (id off : Nat) : afieldAddr Tryz.prog 116 (.pointer (some ⟨id, off, none⟩)) 3 = some (.pointer (some ⟨id, off + 3, none⟩)) := afieldAddr_at (n := 0) (f := (fieldT Tryz.prog 116 3).getD default) (by kernel_rfl) (by kernel_rfl) (by kernel_rfl) id off
theorem fl116_3 (cs : List Value) : afield Tryz.prog 116 (.agg cs.toArray) 3 = cs[3]? := afield_one (f := (fieldT Tryz.prog 116 3).getD default) (by kernel_rfl) (by kernel_rfl) (by kernel_rfl) cs
theorem fa116_4 (id off : Nat) : afieldAddr Tryz.prog 116 (.pointer (some ⟨id, off, none⟩)) 4 = some (.pointer (some ⟨id, off + 4, none⟩)) := afieldAddr_at (n := 0) (f := (fieldT Tryz.prog 116 4).getD default) (by kernel_rfl) (by kernel_rfl) (by kernel_rfl) id off
theorem fl116_4 (cs : List Value) : afield Tryz.prog 116 (.agg cs.toArray) 4 = cs[4]? := afield_one (f := (fieldT Tryz.prog 116 4).getD default) (by kernel_rfl) (by kernel_rfl) (by kernel_rfl) cs
theorem fa116_5 (id off : Nat) : afieldAddr Tryz.prog 116 (.pointer (some ⟨id, off, none⟩)) 5 = some (.pointer (some ⟨id, off + 5, none⟩)) := afieldAddr_at (n := 1) (f := (fieldT Tryz.prog 116 5).getD default) (by kernel_rfl) (by kernel_rfl) (by kernel_rfl) id off
theorem fl116_5 (cs : List Value) : afield Tryz.prog 116 (.agg cs.toArray) 5 = some (.agg ((cs.drop 5).take 2).toArray) := afield_agg (f := (fieldT Tryz.prog 116 5).getD default) (by kernel_rfl) (by kernel_rfl) (by kernel_rfl) (by kernel_rfl) cs
theorem sz135 : szT Tryz.prog 135 = some 1 := by kernel_rfl
theorem ag135 : aggT Tryz.prog 135 = some false := by kernel_rfl
theorem ze135 : zeroT Tryz.prog 135 = some (.slice none 0 0) := by kernel_rfl
theorem inf135 : ∃ i, Tryz.prog.info? 135 = some i ∧ i.zero = some (.slice none 0 0) ∧ i.size = 1 ∧ i.bytes = 24 := by
  have h : (Tryz.prog.info? 135).map (fun i => (i.zero, i.size, i.bytes)) = some (some (.slice none 0 0), 1, 24) := by kernel_rfl
  obtain ⟨i, h1, h2⟩ := Option.map_eq_some_iff.1 h
  simp only [Prod.mk.injEq] at h2
  exact ⟨i, h1, h2.1, h2.2.1, h2.2.2⟩
theorem st135 (H : AHeap) (id off : Nat) (x : Value) : astoreT Tryz.prog H 135 (.pointer (some ⟨id, off, none⟩)) x = if x.cells.size = 1 ∧ x.cells.toList.all oneCell = true then ((H[id]?).bind (rowStore off x.cells.toList)).map fun o => H.set id o else none := astore_rule sz135 H id off x
theorem un135 : Tryz.prog.underlying 135 = some (.slice 139) := by kernel_rfl
theorem el135 : elemT Tryz.prog 135 = some 139 := by kernel_rfl
theorem ln135 (H : AHeap) (a : Option Addr) (m c : Nat) : alen Tryz.prog H 135 (.slice a m c) = some (.int .i64 m) := alen_slice un135 H a m c
theorem cp135 (a : Addr) (m c : Nat) : acap Tryz.prog 135 (.slice (some a) m c) = if c = 0 then none else some (.int .i64 c) := acap_slice un135 a m c
theorem ix135 (id off m c : Nat) (ik : IntKind) (i : Int) : aindexAddr Tryz.prog 135 (.slice (some ⟨id, off, none⟩) m c) (.int ik i) = if 0 ≤ i ∧ i < m then some (.pointer (some ⟨id, off + i.toNat * 3, none⟩)) else none := aindexAddr_at un135 (by kernel_rfl) id off m c ik i
theorem en135 (H : AHeap) (xo yo : Operand) (a : Option Addr) (n c m q : Nat) : abin Tryz.prog H .eql 135 xo yo (.slice a n c) (.slice none m q) = some (.bool a.isNone) := abin_eq_slnil un135 H xo yo a n c m q
theorem nn135 (H : AHeap) (xo yo : Operand) (a : Option Addr) (n c m q : Nat) : abin Tryz.prog H .neq 135 xo yo (.slice a n c) (.slice none m q) = some (.bool !a.isNone) := abin_ne_slnil un135 H xo yo a n c m q
theorem sc135 (H : AHeap) (a : Option Addr) (n c : Nat) (lo hi : Option Value) : aslice Tryz.prog H 135 (.slice a n c) lo hi none = (optB hi (some n) (capOf n c)).bind fun h => (optB lo (some 0) h).bind fun l => cut H 3 a c l h := aslice_sl un135 (by kernel_rfl) H a n c lo hi
theorem sz137 : szT Tryz.prog 137 = some 1 := by kernel_rfl
theorem ag137 : aggT Tryz.prog 137 = some false := by kernel_rfl
theorem ze137 : zeroT Tryz.prog 137 = some (.pointer none) := by kernel_rfl
theorem inf137 : ∃ i, Tryz.prog.info? 137 = some i ∧ i.zero = some (.pointer none) ∧ i.size = 1 ∧ i.bytes = 8 := by
  have h : (Tryz.prog.info? 137).map (fun i => (i.zero, i.size, i.bytes)) = some (some (.pointer none), 1, 8) := by kernel_rfl
  obtain ⟨i, h1, h2⟩ := Option.map_eq_some_iff.1 h
  simp only [Prod.mk.injEq] at h2
  exact ⟨i, h1, h2.1, h2.2.1, h2.2.2⟩
theorem st137 (H : AHeap) (id off : Nat) (x : Value) : astoreT Tryz.prog H 137 (.pointer (some ⟨id, off, none⟩)) x = if x.cells.size = 1 ∧ x.cells.toList.all oneCell = true then ((H[id]?).bind (rowStore off x.cells.toList)).map fun o => H.set id o else none := astore_rule sz137 H id off x
theorem en137 (H : AHeap) (xo yo : Operand) (a : Option Addr) : abin Tryz.prog H .eql 137 xo yo (.pointer a) (.pointer none) = some (.bool a.isNone) := abin_eq_ptrnil (e := 143) (by kernel_rfl) H xo yo a
theorem nn137 (H : AHeap) (xo yo : Operand) (a : Option Addr) : abin Tryz.prog H .neq 137 xo yo (.pointer a) (.pointer none) = some (.bool !a.isNone) := abin_ne_ptrnil (e := 143) (by kernel_rfl) H xo yo a
theorem sz138 : szT Tryz.prog 138 = some 3 := by kernel_rfl
theorem ag138 : aggT Tryz.prog 138 = some true := by kernel_rfl
theorem ze138 : zeroT Tryz.prog 138 = some (.agg #[.pointer none, .int .i64 0, .int .i64 0]) := by kernel_rfl
theorem pz138 : plainV 100 (.agg #[.pointer none, .int .i64 0, .int .i64 0]) = true := by kernel_rfl
theorem inf138 : ∃ i, Tryz.prog.info? 138 = some i ∧ i.zero = some (.agg #[.pointer none, .int .i64 0, .int .i64 0]) ∧ i.size = 3 ∧ i.bytes = 24 := by
  have h : (Tryz.prog.info? 138).map (fun i => (i.zero, i.size, i.bytes)) = some (some (.agg #[.pointer none, .int .i64 0, .int .i64 0]), 3, 24) := by kernel_rfl
  obtain ⟨i, h1, h2⟩ := Option.map_eq_some_iff.1 h
  simp only [Prod.mk.injEq] at h2
  exact ⟨i, h1, h2.1, h2.2.1, h2.2.2⟩
theorem st138 (H : AHeap) (id off : Nat) (x : Value) : astoreT Tryz.prog H 138 (.pointer (some ⟨id, off, none⟩)) x = if x.cells.size = 3 ∧ x.cells.toList.all oneCell = true then ((H[id]?).bind (rowStore off x.cells.toList)).map fun o => H.set id o else none := astore_rule sz138 H id off x
theorem fa138_0 (id off : Nat) : afieldAddr Tryz.prog 138 (.pointer (some ⟨id, off, none⟩)) 0 = some (.pointer (some ⟨id, off + 0, none⟩)) := afieldAddr_at (n := 0) (f := (fieldT Tryz.prog 138 0).getD default) (by kernel_rfl) (by kernel_rfl) (by kernel_rfl) id off
theorem fl138_0 (cs : List Value) : afield Tryz.prog 138 (.agg cs.toArray) 0 = cs[0]? := afield_one (f := (fieldT Tryz.prog 138 0).getD default) (by kernel_rfl) (by kernel_rfl) (by kernel_rfl) cs
theorem fa138_1 (id off : Nat) : afieldAddr Tryz.prog 138 (.pointer (some ⟨id, off, none⟩)) 1 = some (.pointer (some ⟨id, off + 1, none⟩)) := afieldAddr_at (n := 1) (f := (fieldT Tryz.prog 138 1).getD default) (by kernel_rfl) (by kernel_rfl) (by kernel_rfl) id off
theorem fl138_1 (cs : List Value) : afield Tryz.prog 138 (.agg cs.toArray) 1 = some (.agg ((cs.drop 1).take 2).toArray) := afield_agg (f := (fieldT Tryz.prog 138 1).getD default) (by kernel_rfl) (by kernel_rfl) (by kernel_rfl) (by kernel_rfl) cs
theorem sz139 : szT Tryz.prog 139 = some 3 := by kernel_rfl
theorem ag139 : aggT Tryz.prog 139 = some true := by kernel_rfl
theorem ze139 : zeroT Tryz.prog 139 = some (.agg #[.pointer none, .int .i64 0, .int .i64 0]) := by kernel_rfl
theorem inf139 : ∃ i, Tryz.prog.info? 139 = some i ∧ i.zero = some (.agg #[.pointer none, .int .i64 0, .int .i64 0]) ∧ i.size = 3 ∧ i.bytes = 24 := by
  have h : (Tryz.prog.info? 139).map (fun i => (i.zero, i.size, i.bytes)) = some (some (.agg #[.pointer none, .int .i64 0, .int .i64 0]), 3, 24) := by kernel_rfl
  obtain ⟨i, h1, h2⟩ := Option.map_eq_some_iff.1 h
  simp only [Prod.mk.injEq] at h2
  exact ⟨i, h1, h2.1, h2.2.1, h2.2.2⟩
theorem st139 (H : AHeap) (id off : Nat) (x : Value) : astoreT Tryz.prog H 139 (.pointer (some ⟨id, off, none⟩)) x = if x.cells.size = 3 ∧ x.cells.toList.all oneCell = true then ((H[id]?).bind (rowStore off x.cells.toList)).map fun o => H.set id o else none := astore_rule sz139 H id off x
theorem fa139_0 (id off : Nat) : afieldAddr Tryz.prog 139 (.pointer (some ⟨id, off, none⟩)) 0 = some (.pointer (some ⟨id, off + 0, none⟩)) := afieldAddr_at (n := 0) (f := (fieldT Tryz.prog 139 0).getD default) (by kernel_rfl) (by kernel_rfl) (by kernel_rfl) id off
theorem fl139_0 (cs : List Value) : afield Tryz.prog 139 (.agg cs.toArray) 0 = cs[0]? := afield_one (f := (fieldT Tryz.prog 139 0).getD default) (by kernel_rfl) (by kernel_rfl) (by kernel_rfl) cs
theorem fa139_1 (id off : Nat) : afieldAddr Tryz.prog 139 (.pointer (some ⟨id, off, none⟩)) 1 = some (.pointer (some ⟨id, off + 1, none⟩)) := afieldAddr_at (n := 1) (f := (fieldT Tryz.prog 139 1).getD default) (by kernel_rfl) (by kernel_rfl) (by kernel_rfl) id off
theorem fl139_1 (cs : List Value) : afield Tryz.prog 139 (.agg cs.toArray) 1 = some (.agg ((cs.drop 1).take 2).toArray) := afield_agg (f := (fieldT Tryz.prog 139 1).getD default) (by kernel_rfl) (by kernel_rfl) (by kernel_rfl) (by kernel_rfl) cs
theorem sz140 : szT Tryz.prog 140 = some 3 := by kernel_rfl
theorem ag140 : aggT Tryz.prog 140 = some true := by kernel_rfl
theorem ze140 : zeroT Tryz.prog 140 = some (.agg #[.int .i64 0, .int .i64 0, .int .i64 0]) := by kernel_rfl
theorem pz140 : plainV 100 (.agg #[.int .i64 0, .int .i64 0, .int .i64 0]) = true := by kernel_rfl
theorem inf140 : ∃ i, Tryz.prog.info? 140 = some i ∧ i.zero = some (.agg #[.int .i64 0, .int .i64 0, .int .i64 0]) ∧ i.size = 3 ∧ i.bytes = 24 := by
  have h : (Tryz.prog.info? 140).map (fun i => (i.zero, i.size, i.bytes)) = some (some (.agg #[.int .i64 0, .int .i64 0, .int .i64 0]), 3, 24) := by kernel_rfl
  obtain ⟨i, h1, h2⟩ := Option.map_eq_some_iff.1 h
  simp only [Prod.mk.injEq] at h2
  exact ⟨i, h1, h2.1, h2.2.1, h2.2.2⟩
theorem st140 (H : AHeap) (id off : Nat) (x : Value) : astoreT Tryz.prog H 140 (.pointer (some ⟨id, off, none⟩)) x = if x.cells.size = 3 ∧ x.cells.toList.all oneCell = true then ((H[id]?).bind (rowStore off x.cells.toList)).map fun o => H.set id o else none := astore_rule sz140 H id off x
theorem fa140_0 (id off : Nat) : afieldAddr Tryz.prog 140 (.pointer (some ⟨id, off, none⟩)) 0 = some (.pointer (some ⟨id, off + 0, none⟩)) := afieldAddr_at (n := 1) (f := (fieldT Tryz.prog 140 0).getD default) (by kernel_rfl) (by kernel_rfl) (by kernel_rfl) id off
theorem fl140_0 (cs : List Value) : afield Tryz.prog 140 (.agg cs.toArray) 0 = some (.agg ((cs.drop 0).take 2).toArray) := afield_agg (f := (fieldT Tryz.prog 140 0).getD default) (by kernel_rfl) (by kernel_rfl) (by kernel_rfl) (by kernel_rfl) cs
theorem fa140_1 (id off : Nat) : afieldAddr Tryz.prog 140 (.pointer (some ⟨id, off, none⟩)) 1 = some (.pointer (some ⟨id, off + 2, none⟩)) := afieldAddr_at (n := 0) (f := (fieldT Tryz.prog 140 1).getD default) (by kernel_rfl) (by kernel_rfl) (by kernel_rfl) id off
theorem fl140_1 (cs : List Value) : afield Tryz.prog 140 (.agg cs.toArray) 1 = cs[2]? := afield_one (f := (fieldT Tryz.prog 140 1).getD default) (by kernel_rfl) (by kernel_rfl) (by kernel_rfl) cs
theorem sz141 : szT Tryz.prog 141 = some 3 := by kernel_rfl
theorem ag141 : aggT Tryz.prog 141 = some true := by kernel_rfl
theorem ze141 : zeroT Tryz.prog 141 = some (.agg #[.int .i64 0, .int .i64 0, .int .i64 0]) := by kernel_rfl
theorem inf141 : ∃ i, Tryz.prog.info? 141 = some i ∧ i.zero = some (.agg #[.int .i64 0, .int .i64 0, .int .i64 0]) ∧ i.size = 3 ∧ i.bytes = 24 := by
  have h : (Tryz.prog.info? 141).map (fun i => (i.zero, i.size, i.bytes)) = some (some (.agg #[.int .i64 0, .int .i64 0, .int .i64 0]), 3, 24) := by kernel_rfl
  obtain ⟨i, h1, h2⟩ := Option.map_eq_some_iff.1 h
  simp only [Prod.mk.injEq] at h2
  exact ⟨i, h1, h2.1, h2.2.1, h2.2.2⟩
theorem st141 (H : AHeap) (id off : Nat) (x : Value) : astoreT Tryz.prog H 141 (.pointer (some ⟨id, off, none⟩)) x = if x.cells.size = 3 ∧ x.cells.toList.all oneCell = true then ((H[id]?).bind (rowStore off x.cells.toList)).map fun o => H.set id o else none := astore_rule sz141 H id off x
theorem fa141_0 (id off : Nat) : afieldAddr Tryz.prog 141 (.pointer (some ⟨id, off, none⟩)) 0 = some (.pointer (some ⟨id, off + 0, none⟩)) := afieldAddr_at (n := 1) (f := (fieldT Tryz.prog 141 0).getD default) (by kernel_rfl) (by kernel_rfl) (by kernel_rfl) id off
theorem fl141_0 (cs : List Value) : afield Tryz.prog 141 (.agg cs.toArray) 0 = some (.agg ((cs.drop 0).take 2).toArray) := afield_agg (f := (fieldT Tryz.prog 141 0).getD default) (by kernel_rfl) (by kernel_rfl) (by kernel_rfl) (by kernel_rfl) cs
theorem fa141_1 (id off : Nat) : afieldAddr Tryz.prog 141 (.pointer (some ⟨id, off, none⟩)) 1 = some (.pointer (some ⟨id, off + 2, none⟩)) := afieldAddr_at (n := 0) (f := (fieldT Tryz.prog 141 1).getD default) (by kernel_rfl) (by kernel_rfl) (by kernel_rfl) id off
theorem fl141_1 (cs : List Value) : afield Tryz.prog 141 (.agg cs.toArray) 1 = cs[2]? := afield_one (f := (fieldT Tryz.prog 141 1).getD default) (by kernel_rfl) (by kernel_rfl) (by kernel_rfl) cs
theorem sz142 : szT Tryz.prog 142 = some 4 := by kernel_rfl
theorem ag142 : aggT Tryz.prog 142 = some true := by kernel_rfl
theorem ze142 : zeroT Tryz.prog 142 = some (.agg #[.int .i64 0, .int .i64 0, .int .i64 0, .slice none 0 0]) := by kernel_rfl
theorem pz142 : plainV 100 (.agg #[.int .i64 0, .int .i64 0, .int .i64 0, .slice none 0 0]) = true := by kernel_rfl
theorem inf142 : ∃ i, Tryz.prog.info? 142 = some i ∧ i.zero = some (.agg #[.int .i64 0, .int .i64 0, .int .i64 0, .slice none 0 0]) ∧ i.size = 4 ∧ i.bytes = 48 := by
  have h : (Tryz.prog.info? 142).map (fun i => (i.zero, i.size, i.bytes)) = some (some (.agg #[.int .i64 0, .int .i64 0, .int .i64 0, .slice none 0 0]), 4, 48) := by kernel_rfl
  obtain ⟨i, h1, h2⟩ := Option.map_eq_some_iff.1 h
  simp only [Prod.mk.injEq] at h2
  exact ⟨i, h1, h2.1, h2.2.1, h2.2.2⟩
theorem st142 (H : AHeap) (id off : Nat) (x : Value) : astoreT Tryz.prog H 142 (.pointer (some ⟨id, off, none⟩)) x = if x.cells.size = 4 ∧ x.cells.toList.all oneCell = true then ((H[id]?).bind (rowStore off x.cells.toList)).map fun o => H.set id o else none := astore_rule sz142 H id off x
theorem fa142_0 (id off : Nat) : afieldAddr Tryz.prog 142 (.pointer (some ⟨id, off, none⟩)) 0 = some (.pointer (some ⟨id, off + 0, none⟩)) := afieldAddr_at (n := 2) (f := (fieldT Tryz.prog 142 0).getD default) (by kernel_rfl) (by kernel_rfl) (by kernel_rfl) id off
theorem fl142_0 (cs : List Value) : afield Tryz.prog 142 (.agg cs.toArray) 0 = some (.agg ((cs.drop 0).take 3).toArray) := afield_agg (f := (fieldT Tryz.prog 142 0).getD default) (by kernel_rfl) (by kernel_rfl) (by kernel_rfl) (by kernel_rfl) cs
theorem fa142_1 (id off : Nat) : afieldAddr Tryz.prog 142 (.pointer (some ⟨id, off, none⟩)) 1 = some (.pointer (some ⟨id, off + 3, none⟩)) := afieldAddr_at (n := 0) (f := (fieldT Tryz.prog 142 1).getD default) (by kernel_rfl) (by kernel_rfl) (by kernel_rfl) id off
theorem fl142_1 (cs : List Value) : afield Tryz.prog 142 (.agg cs.toArray) 1 = cs[3]? := afield_one (f := (fieldT Tryz.prog 142 1).getD default) (by kernel_rfl) (by kernel_rfl) (by kernel_rfl) cs
theorem sz143 : szT Tryz.prog 143 = some 4 := by kernel_rfl
theorem ag143 : aggT Tryz.prog 143 = some true := by kernel_rfl
theorem ze143 : zeroT Tryz.prog 143 = some (.agg #[.int .i64 0, .int .i64 0, .int .i64 0, .slice none 0 0]) := by kernel_rfl
theorem inf143 : ∃ i, Tryz.prog.info? 143 = some i ∧ i.zero = some (.agg #[.int .i64 0, .int .i64 0, .int .i64 0, .slice none 0 0]) ∧ i.size = 4 ∧ i.bytes = 48 := by
  have h : (Tryz.prog.info? 143).map (fun i => (i.zero, i.size, i.bytes)) = some (some (.agg #[.int .i64 0, .int .i64 0, .int .i64 0, .slice none 0 0]), 4, 48) := by kernel_rfl
  obtain ⟨i, h1, h2⟩ := Option.map_eq_some_iff.1 h
  simp only [Prod.mk.injEq] at h2
  exact ⟨i, h1, h2.1, h2.2.1, h2.2.2⟩
theorem st143 (H : AHeap) (id off : Nat) (x : Value) : astoreT Tryz.prog H 143 (.pointer (some ⟨id, off, none⟩)) x = if x.cells.size = 4 ∧ x.cells.toList.all oneCell = true then ((H[id]?).bind (rowStore off x.cells.toList)).map fun o => H.set id o else none := astore_rule sz143 H id off x
theorem fa143_0 (id off : Nat) : afieldAddr Tryz.prog 143 (.pointer (some ⟨id, off, none⟩)) 0 = some (.pointer (some ⟨id, off + 0, none⟩)) := afieldAddr_at (n := 2) (f := (fieldT Tryz.prog 143 0).getD default) (by kernel_rfl) (by kernel_rfl) (by kernel_rfl) id off
theorem fl143_0 (cs : List Value) : afield Tryz.prog 143 (.agg cs.toArray) 0 = some (.agg ((cs.drop 0).take 3).toArray) := afield_agg (f := (fieldT Tryz.prog 143 0).getD default) (by kernel_rfl) (by kernel_rfl) (by kernel_rfl) (by kernel_rfl) cs
theorem fa143_1 (id off : Nat) : afieldAddr Tryz.prog 143 (.pointer (some ⟨id, off, none⟩)) 1 = some (.pointer (some ⟨id, off + 3, none⟩)) := afieldAddr_at (n := 0) (f := (fieldT Tryz.prog 143 1).getD default) (by kernel_rfl) (by kernel_rfl) (by kernel_rfl) id off
theorem fl143_1 (cs : List Value) : afield Tryz.prog 143 (.agg cs.toArray) 1 = cs[3]? := afield_one (f := (fieldT Tryz.prog 143 1).getD default) (by kernel_rfl) (by kernel_rfl) (by kernel_rfl) cs
theorem sz147 : szT Tryz.prog 147 = some 1 := by kernel_rfl
theorem ag147 : aggT Tryz.prog 147 = some false := by kernel_rfl
theorem ze147 : zeroT Tryz.prog 147 = some (.slice none 0 0) := by kernel_rfl
theorem inf147 : ∃ i, Tryz.prog.info? 147 = some i ∧ i.zero = some (.slice none 0 0) ∧ i.size = 1 ∧ i.bytes = 24 := by
  have h : (Tryz.prog.info? 147).map (fun i => (i.zero, i.size, i.bytes)) = some (some (.slice none 0 0), 1, 24) := by kernel_rfl
  obtain ⟨i, h1, h2⟩ := Option.map_eq_some_iff.1 h
  simp only [Prod.mk.injEq] at h2
  exact ⟨i, h1, h2.1, h2.2.1, h2.2.2⟩
theorem st147 (H : AHeap) (id off : Nat) (x : Value) : astoreT Tryz.prog H 147 (.pointer (some ⟨id, off, none⟩)) x = if x.cells.size = 1 ∧ x.cells.toList.all oneCell = true then ((H[id]?).bind (rowStore off x.cells.toList)).map fun o => H.set id o else none := astore_rule sz147 H id off x
theorem un147 : Tryz.prog.underlying 147 = some (.slice 5) := by kernel_rfl
theorem el147 : elemT Tryz.prog 147 = some 5 := by kernel_rfl
theorem ln147 (H : AHeap) (a : Option Addr) (m c : Nat) : alen Tryz.prog H 147 (.slice a m c) = some (.int .i64 m) := alen_slice un147 H a m c
theorem cp147 (a : Addr) (m c : Nat) : acap Tryz.prog 147 (.slice (some a) m c) = if c = 0 then none else some (.int .i64 c) := acap_slice un147 a m c
theorem ix147 (id off m c : Nat) (ik : IntKind) (i : Int) : aindexAddr Tryz.prog 147 (.slice (some ⟨id, off, none⟩) m c) (.int ik i) = if 0 ≤ i ∧ i < m then some (.pointer (some ⟨id, off + i.toNat * 1, none⟩)) else none := aindexAddr_at un147 (by kernel_rfl) id off m c ik i
theorem en147 (H : AHeap) (xo yo : Operand) (a : Option Addr) (n c m q : Nat) : abin Tryz.prog H .eql 147 xo yo (.slice a n c) (.slice none m q) = some (.bool a.isNone) := abin_eq_slnil un147 H xo yo a n c m q
theorem nn147 (H : AHeap) (xo yo : Operand) (a : Option Addr) (n c m q : Nat) : abin Tryz.prog H .neq 147 xo yo (.slice a n c) (.slice none m q) = some (.bool !a.isNone) := abin_ne_slnil un147 H xo yo a n c m q
theorem sc147 (H : AHeap) (a : Option Addr) (n c : Nat) (lo hi : Option Value) : aslice Tryz.prog H 147 (.slice a n c) lo hi none = (optB hi (some n) (capOf n c)).bind fun h => (optB lo (some 0) h).bind fun l => cut H 1 a c l h := aslice_sl un147 (by kernel_rfl) H a n c lo hi
theorem kd147 : kindT Tryz.prog 147 = .bytes := by kernel_rfl
theorem sz165 : szT Tryz.prog 165 = some 1 := by kernel_rfl
theorem ag165 : aggT Tryz.prog 165 = some false := by kernel_rfl
theorem ze165 : zeroT Tryz.prog 165 = some (.map none) := by kernel_rfl
theorem inf165 : ∃ i, Tryz.prog.info? 165 = some i ∧ i.zero = some (.map none) ∧ i.size = 1 ∧ i.bytes = 8 := by
  have h : (Tryz.prog.info? 165).map (fun i => (i.zero, i.size, i.bytes)) = some (some (.map none), 1, 8) := by kernel_rfl
  obtain ⟨i, h1, h2⟩ := Option.map_eq_some_iff.1 h
  simp only [Prod.mk.injEq] at h2
  exact ⟨i, h1, h2.1, h2.2.1, h2.2.2⟩
theorem st165 (H : AHeap) (id off : Nat) (x : Value) : astoreT Tryz.prog H 165 (.pointer (some ⟨id, off, none⟩)) x = if x.cells.size = 1 ∧ x.cells.toList.all oneCell = true then ((H[id]?).bind (rowStore off x.cells.toList)).map fun o => H.set id o else none := astore_rule sz165 H id off x
theorem en165 (H : AHeap) (xo yo : Operand) (a : Option Nat) : abin Tryz.prog H .eql 165 xo yo (.map a) (.map none) = some (.bool a.isNone) := abin_eq_mapnil (k := 141) (e := 137) (by kernel_rfl) H xo yo a
theorem nn165 (H : AHeap) (xo yo : Operand) (a : Option Nat) : abin Tryz.prog H .neq 165 xo yo (.map a) (.map none) = some (.bool !a.isNone) := abin_ne_mapnil (k := 141) (e := 137) (by kernel_rfl) H xo yo a
theorem un165 : Tryz.prog.underlying 165 = some (.map 141 137) := by kernel_rfl
theorem mt165 : mapT Tryz.prog 165 = some (141, 137) := by kernel_rfl
theorem sz166 : szT Tryz.prog 166 = some 1 := by kernel_rfl
theorem ag166 : aggT Tryz.prog 166 = some true := by kernel_rfl
theorem ze166 : zeroT Tryz.prog 166 = some (.agg #[.map none]) := by kernel_rfl
theorem pz166 : plainV 100 (.agg #[.map none]) = true := by kernel_rfl
theorem inf166 : ∃ i, Tryz.prog.info? 166 = some i ∧ i.zero = some (.agg #[.map none]) ∧ i.size = 1 ∧ i.bytes = 8 := by
  have h : (Tryz.prog.info? 166).map (fun i => (i.zero, i.size, i.bytes)) = some (some (.agg #[.map none]), 1, 8) := by kernel_rfl
  obtain ⟨i, h1, h2⟩ := Option.map_eq_some_iff.1 h
  simp only [Prod.mk.injEq] at h2
  exact ⟨i, h1, h2.1, h2.2.1, h2.2.2⟩
theorem st166 (H : AHeap) (id off : Nat) (x : Value) : astoreT Tryz.prog H 166 (.pointer (some ⟨id, off, none⟩)) x = if x.cells.size = 1 ∧ x.cells.toList.all oneCell = true then ((H[id]?).bind (rowStore off x.cells.toList)).map fun o => H.set id o else none := astore_rule sz166 H id off x
theorem fa166_0 (id off : Nat) : afieldAddr Tryz.prog 166 (.pointer (some ⟨id, off, none⟩)) 0 = some (.pointer (some ⟨id, off + 0, none⟩)) := afieldAddr_at (n := 0) (f := (fieldT Tryz.prog 166 0).getD default) (by kernel_rfl) (by kernel_rfl) (by kernel_rfl) id off
theorem fl166_0 (cs : List Value) : afield Tryz.prog 166 (.agg cs.toArray) 0 = cs[0]? := afield_one (f := (fieldT Tryz.prog 166 0).getD default) (by kernel_rfl) (by kernel_rfl) (by kernel_rfl) cs
theorem sz167 : szT Tryz.prog 167 = some 1 := by kernel_rfl
theorem ag167 : aggT Tryz.prog 167 = some true := by kernel_rfl
theorem ze167 : zeroT Tryz.prog 167 = some (.agg #[.map none]) := by kernel_rfl
theorem inf167 : ∃ i, Tryz.prog.info? 167 = some i ∧ i.zero = some (.agg #[.map none]) ∧ i.size = 1 ∧ i.bytes = 8 := by
  have h : (Tryz.prog.info? 167).map (fun i => (i.zero, i.size, i.bytes)) = some (some (.agg #[.map none]), 1, 8) := by kernel_rfl
  obtain ⟨i, h1, h2⟩ := Option.map_eq_some_iff.1 h
  simp only [Prod.mk.injEq] at h2
  exact ⟨i, h1, h2.1, h2.2.1, h2.2.2⟩
theorem st167 (H : AHeap) (id off : Nat) (x : Value) : astoreT Tryz.prog H 167 (.pointer (some ⟨id, off, none⟩)) x = if x.cells.size = 1 ∧ x.cells.toList.all oneCell = true then ((H[id]?).bind (rowStore off x.cells.toList)).map fun o => H.set id o else none := astore_rule sz167 H id off x
theorem fa167_0 (id off : Nat) : afieldAddr Tryz.prog 167 (.pointer (some ⟨id, off, none⟩)) 0 = some (.pointer (some ⟨id, off + 0, none⟩)) := afieldAddr_at (n := 0) (f := (fieldT Tryz.prog 167 0).getD default) (by kernel_rfl) (by kernel_rfl) (by kernel_rfl) id off
theorem fl167_0 (cs : List Value) : afield Tryz.prog 167 (.agg cs.toArray) 0 = cs[0]? := afield_one (f := (fieldT Tryz.prog 167 0).getD default) (by kernel_rfl) (by kernel_rfl) (by kernel_rfl) cs
theorem sz182 : szT Tryz.prog 182 = some 8 := by kernel_rfl
theorem ag182 : aggT Tryz.prog 182 = some true := by kernel_rfl
theorem ze182 : zeroT Tryz.prog 182 = some (.agg #[.bool false, .int .i64 0, .int .i64 0, .int .i64 0, .int .i64 0, .int .i64 0, .int .i64 0, .int .i64 0]) := by kernel_rfl
theorem pz182 : plainV 100 (.agg #[.bool false, .int .i64 0, .int .i64 0, .int .i64 0, .int .i64 0, .int .i64 0, .int .i64 0, .int .i64 0]) = true := by kernel_rfl
theorem inf182 : ∃ i, Tryz.prog.info? 182 = some i ∧ i.zero = some (.agg #[.bool false, .int .i64 0, .int .i64 0, .int .i64 0, .int .i64 0, .int .i64 0, .int .i64 0, .int .i64 0]) ∧ i.size = 8 ∧ i.bytes = 64 := by
  have h : (Tryz.prog.info? 182).map (fun i => (i.zero, i.size, i.bytes)) = some (some (.agg #[.bool false, .int .i64 0, .int .i64 0, .int .i64 0, .int .i64 0, .int .i64 0, .int .i64 0, .int .i64 0]), 8, 64) := by kernel_rfl
  obtain ⟨i, h1, h2⟩ := Option.map_eq_some_iff.1 h
  simp only [Prod.mk.injEq] at h2
  exact ⟨i, h1, h2.1, h2.2.1, h2.2.2⟩
theorem st182 (H : AHeap) (id off : Nat) (x : Value) : astoreT Tryz.prog H 182 (.pointer (some ⟨id, off, none⟩)) x = if x.cells.size = 8 ∧ x.cells.toList.all oneCell = true then ((H[id]?).bind (rowStore off x.cells.toList)).map fun o => H.set id o else none := astore_rule sz182 H id off x
theorem fa182_0 (id off : Nat) : afieldAddr Tryz.prog 182 (.pointer (some ⟨id, off, none⟩)) 0 = some (.pointer (some ⟨id, off + 0, none⟩)) := afieldAddr_at (n := 6) (f := (fieldT Tryz.prog 182 0).getD default) (by kernel_rfl) (by kernel_rfl) (by kernel_rfl) id off
theorem fl182_0 (cs : List Value) : afield Tryz.prog 182 (.agg cs.toArray) 0 = some (.agg ((cs.drop 0).take 7).toArray) := afield_agg (f := (fieldT Tryz.prog 182 0).getD default) (by kernel_rfl) (by kernel_rfl) (by kernel_rfl) (by kernel_rfl) cs
theorem fa182_1 (id off : Nat) : afieldAddr Tryz.prog 182 (.pointer (some ⟨id, off, none⟩)) 1 = some (.pointer (some ⟨id, off + 7, none⟩)) := afieldAddr_at (n := 0) (f := (fieldT Tryz.prog 182 1).getD default) (by kernel_rfl) (by kernel_rfl) (by kernel_rfl) id off
theorem fl182_1 (cs : List Value) : afield Tryz.prog 182 (.agg cs.toArray) 1 = cs[7]? := afield_one (f := (fieldT Tryz.prog 182 1).getD default) (by kernel_rfl) (by kernel_rfl) (by kernel_rfl) cs
theorem sz183 : szT Tryz.prog 183 = some 8 := by kernel_rfl
theorem ag183 : aggT Tryz.prog 183 = some true := by kernel_rfl
theorem ze183 : zeroT Tryz.prog 183 = some (.agg #[.bool false, .int .i64 0, .int .i64 0, .int .i64 0, .int .i64 0, .int .i64 0, .int .i64 0, .int .i64 0]) := by kernel_rfl
theorem inf183 : ∃ i, Tryz.prog.info? 183 = some i ∧ i.zero = some (.agg #[.bool false, .int .i64 0, .int .i64 0, .int .i64 0, .int .i64 0, .int .i64 0, .int .i64 0, .int .i64 0]) ∧ i.size = 8 ∧ i.bytes = 64 := by
  have h : (Tryz.prog.info? 183).map (fun i => (i.zero, i.size, i.bytes)) = some (some (.agg #[.bool false, .int .i64 0, .int .i64 0, .int .i64 0, .int .i64 0, .int .i64 0, .int .i64 0, .int .i64 0]), 8, 64) := by kernel_rfl
  obtain ⟨i, h1, h2⟩ := Option.map_eq_some_iff.1 h
  simp only [Prod.mk.injEq] at h2
  exact ⟨i, h1, h2.1, h2.2.1, h2.2.2⟩
theorem st183 (H : AHeap) (id off : Nat) (x : Value) : astoreT Tryz.prog H 183 (.pointer (some ⟨id, off, none⟩)) x = if x.cells.size = 8 ∧ x.cells.toList.all oneCell = true then ((H[id]?).bind (rowStore off x.cells.toList)).map fun o => H.set id o else none := astore_rule sz183 H id off x
theorem fa183_0 (id off : Nat) : afieldAddr Tryz.prog 183 (.pointer (some ⟨id, off, none⟩)) 0 = some (.pointer (some ⟨id, off + 0, none⟩)) := afieldAddr_at (n := 6) (f := (fieldT Tryz.prog 183 0).getD default) (by kernel_rfl) (by kernel_rfl) (by kernel_rfl) id off
theorem fl183_0 (cs : List Value) : afield Tryz.prog 183 (.agg cs.toArray) 0 = some (.agg ((cs.drop 0).take 7).toArray) := afield_agg (f := (fieldT Tryz.prog 183 0).getD default) (by kernel_rfl) (by kernel_rfl) (by kernel_rfl) (by kernel_rfl) cs
theorem fa183_1 (id off : Nat) : afieldAddr Tryz.prog 183 (.pointer (some ⟨id, off, none⟩)) 1 = some (.pointer (some ⟨id, off + 7, none⟩)) := afieldAddr_at (n := 0) (f := (fieldT Tryz.prog 183 1).getD default) (by kernel_rfl) (by kernel_rfl) (by kernel_rfl) id off
theorem fl183_1 (cs : List Value) : afield Tryz.prog 183 (.agg cs.toArray) 1 = cs[7]? := afield_one (f := (fieldT Tryz.prog 183 1).getD default) (by kernel_rfl) (by kernel_rfl) (by kernel_rfl) cs
theorem sz192 : szT Tryz.prog 192 = some 1 := by kernel_rfl
theorem ag192 : aggT Tryz.prog 192 = some false := by kernel_rfl
theorem ze192 : zeroT Tryz.prog 192 = some (.int .u64 0) := by kernel_rfl
theorem inf192 : ∃ i, Tryz.prog.info? 192 = some i ∧ i.zero = some (.int .u64 0) ∧ i.size = 1 ∧ i.bytes = 8 := by
  have h : (Tryz.prog.info? 192).map (fun i => (i.zero, i.size, i.bytes)) = some (some (.int .u64 0), 1, 8) := by kernel_rfl
  obtain ⟨i, h1, h2⟩ := Option.map_eq_some_iff.1 h
  simp only [Prod.mk.injEq] at h2
  exact ⟨i, h1, h2.1, h2.2.1, h2.2.2⟩
theorem st192 (H : AHeap) (id off : Nat) (x : Value) : astoreT Tryz.prog H 192 (.pointer (some ⟨id, off, none⟩)) x = if x.cells.size = 1 ∧ x.cells.toList.all oneCell = true then ((H[id]?).bind (rowStore off x.cells.toList)).map fun o => H.set id o else none := astore_rule sz192 H id off x
theorem kd192 : kindT Tryz.prog 192 = .int .u64 := by kernel_rfl
theorem sz194 : szT Tryz.prog 194 = some 1 := by kernel_rfl
theorem ag194 : aggT Tryz.prog 194 = some false := by kernel_rfl
theorem ze194 : zeroT Tryz.prog 194 = some (.slice none 0 0) := by kernel_rfl
theorem inf194 : ∃ i, Tryz.prog.info? 194 = some i ∧ i.zero = some (.slice none 0 0) ∧ i.size = 1 ∧ i.bytes = 24 := by
  have h : (Tryz.prog.info? 194).map (fun i => (i.zero, i.size, i.bytes)) = some (some (.slice none 0 0), 1, 24) := by kernel_rfl
  obtain ⟨i, h1, h2⟩ := Option.map_eq_some_iff.1 h
  simp only [Prod.mk.injEq] at h2
  exact ⟨i, h1, h2.1, h2.2.1, h2.2.2⟩
theorem st194 (H : AHeap) (id off : Nat) (x : Value) : astoreT Tryz.prog H 194 (.pointer (some ⟨id, off, none⟩)) x = if x.cells.size = 1 ∧ x.cells.toList.all oneCell = true then ((H[id]?).bind (rowStore off x.cells.toList)).map fun o => H.set id o else none := astore_rule sz194 H id off x
theorem un194 : Tryz.prog.underlying 194 = some (.slice 137) := by kernel_rfl
theorem el194 : elemT Tryz.prog 194 = some 137 := by kernel_rfl
theorem ln194 (H : AHeap) (a : Option Addr) (m c : Nat) : alen Tryz.prog H 194 (.slice a m c) = some (.int .i64 m) := alen_slice un194 H a m c
theorem cp194 (a : Addr) (m c : Nat) : acap Tryz.prog 194 (.slice (some a) m c) = if c = 0 then none else some (.int .i64 c) := acap_slice un194 a m c
theorem ix194 (id off m c : Nat) (ik : IntKind) (i : Int) : aindexAddr Tryz.prog 194 (.slice (some ⟨id, off, none⟩) m c) (.int ik i) = if 0 ≤ i ∧ i < m then some (.pointer (some ⟨id, off + i.toNat * 1, none⟩)) else none := aindexAddr_at un194 (by kernel_rfl) id off m c ik i
theorem en194 (H : AHeap) (xo yo : Operand) (a : Option Addr) (n c m q : Nat) : abin Tryz.prog H .eql 194 xo yo (.slice a n c) (.slice none m q) = some (.bool a.isNone) := abin_eq_slnil un194 H xo yo a n c m q
theorem nn194 (H : AHeap) (xo yo : Operand) (a : Option Addr) (n c m q : Nat) : abin Tryz.prog H .neq 194 xo yo (.slice a n c) (.slice none m q) = some (.bool !a.isNone) := abin_ne_slnil un194 H xo yo a n c m q
theorem sc194 (H : AHeap) (a : Option Addr) (n c : Nat) (lo hi : Option Value) : aslice Tryz.prog H 194 (.slice a n c) lo hi none = (optB hi (some n) (capOf n c)).bind fun h => (optB lo (some 0) h).bind fun l => cut H 1 a c l h := aslice_sl un194 (by kernel_rfl) H a n c lo hi
theorem sz210 : szT Tryz.prog 210 = some 4 := by kernel_rfl
theorem ag210 : aggT Tryz.prog 210 = some true := by kernel_rfl
theorem ze210 : zeroT Tryz.prog 210 = some (.agg #[.int .i64 0, .slice none 0 0, .slice none 0 0, .int .u64 0]) := by kernel_rfl
theorem pz210 : plainV 100 (.agg #[.int .i64 0, .slice none 0 0, .slice none 0 0, .int .u64 0]) = true := by kernel_rfl
theorem inf210 : ∃ i, Tryz.prog.info? 210 = some i ∧ i.zero = some (.agg #[.int .i64 0, .slice none 0 0, .slice none 0 0, .int .u64 0]) ∧ i.size = 4 ∧ i.bytes = 64 := by
  have h : (Tryz.prog.info? 210).map (fun i => (i.zero, i.size, i.bytes)) = some (some (.agg #[.int .i64 0, .slice none 0 0, .slice none 0 0, .int .u64 0]), 4, 64) := by kernel_rfl
  obtain ⟨i, h1, h2⟩ := Option.map_eq_some_iff.1 h
  simp only [Prod.mk.injEq] at h2
  exact ⟨i, h1, h2.1, h2.2.1, h2.2.2⟩
theorem st210 (H : AHeap) (id off : Nat) (x : Value) : astoreT Tryz.prog H 210 (.pointer (some ⟨id, off, none⟩)) x = if x.cells.size = 4 ∧ x.cells.toList.all oneCell = true then ((H[id]?).bind (rowStore off x.cells.toList)).map fun o => H.set id o else none := astore_rule sz210 H id off x
theorem fa210_0 (id off : Nat) : afieldAddr Tryz.prog 210 (.pointer (some ⟨id, off, none⟩)) 0 = some (.pointer (some ⟨id, off + 0, none⟩)) := afieldAddr_at (n := 2) (f := (fieldT Tryz.prog 210 0).getD default) (by kernel_rfl) (by kernel_rfl) (by kernel_rfl) id off
theorem fl210_0 (cs : List Value) : afield Tryz.prog 210 (.agg cs.toArray) 0 = some (.agg ((cs.drop 0).take 3).toArray) := afield_agg (f := (fieldT Tryz.prog 210 0).getD default) (by kernel_rfl) (by kernel_rfl) (by kernel_rfl) (by kernel_rfl) cs
theorem fa210_1 (id off : Nat) : afieldAddr Tryz.prog 210 (.pointer (some ⟨id, off, none⟩)) 1 = some (.pointer (some ⟨id, off + 3, none⟩)) := afieldAddr_at (n := 0) (f := (fieldT Tryz.prog 210 1).getD default) (by kernel_rfl) (by kernel_rfl) (by kernel_rfl) id off
theorem fl210_1 (cs : List Value) : afield Tryz.prog 210 (.agg cs.toArray) 1 = cs[3]? := afield_one (f := (fieldT Tryz.prog 210 1).getD default) (by kernel_rfl) (by kernel_rfl) (by kernel_rfl) cs
theorem sz211 : szT Tryz.prog 211 = some 4 := by kernel_rfl
theorem ag211 : aggT Tryz.prog 211 = some true := by kernel_rfl
theorem ze211 : zeroT Tryz.prog 211 = some (.agg #[.int .i64 0, .slice none 0 0, .slice none 0 0, .int .u64 0]) := by kernel_rfl
theorem inf211 : ∃ i, Tryz.prog.info? 211 = some i ∧ i.zero = some (.agg #[.int .i64 0, .slice none 0 0, .slice none 0 0, .int .u64 0]) ∧ i.size = 4 ∧ i.bytes = 64 := by
  have h : (Tryz.prog.info? 211).map (fun i => (i.zero, i.size, i.bytes)) = some (some (.agg #[.int .i64 0, .slice none 0 0, .slice none 0 0, .int .u64 0]), 4, 64) := by kernel_rfl
  obtain ⟨i, h1, h2⟩ := Option.map_eq_some_iff.1 h
  simp only [Prod.mk.injEq] at h2
  exact ⟨i, h1, h2.1, h2.2.1, h2.2.2⟩
theorem st211 (H : AHeap) (id off : Nat) (x : Value) : astoreT Tryz.prog H 211 (.pointer (some ⟨id, off, none⟩)) x = if x.cells.size = 4 ∧ x.cells.toList.all oneCell = true then ((H[id]?).bind (rowStore off x.cells.toList)).map fun o => H.set id o else none := astore_rule sz211 H id off x
theorem fa211_0 (id off : Nat) : afieldAddr Tryz.prog 211 (.pointer (some ⟨id, off, none⟩)) 0 = some (.pointer (some ⟨id, off + 0, none⟩)) := afieldAddr_at (n := 2) (f := (fieldT Tryz.prog 211 0).getD default) (by kernel_rfl) (by kernel_rfl) (by kernel_rfl) id off
theorem fl211_0 (cs : List Value) : afield Tryz.prog 211 (.agg cs.toArray) 0 = some (.agg ((cs.drop 0).take 3).toArray) := afield_agg (f := (fieldT Tryz.prog 211 0).getD default) (by kernel_rfl) (by kernel_rfl) (by kernel_rfl) (by kernel_rfl) cs
theorem fa211_1 (id off : Nat) : afieldAddr Tryz.prog 211 (.pointer (some ⟨id, off, none⟩)) 1 = some (.pointer (some ⟨id, off + 3, none⟩)) := afieldAddr_at (n := 0) (f := (fieldT Tryz.prog 211 1).getD default) (by kernel_rfl) (by kernel_rfl) (by kernel_rfl) id off
theorem fl211_1 (cs : List Value) : afield Tryz.prog 211 (.agg cs.toArray) 1 = cs[3]? := afield_one (f := (fieldT Tryz.prog 211 1).getD default) (by kernel_rfl) (by kernel_rfl) (by kernel_rfl) cs
theorem sz409 : szT Tryz.prog 409 = some 2 := by kernel_rfl
theorem ag409 : aggT Tryz.prog 409 = some true := by kernel_rfl
theorem ze409 : zeroT Tryz.prog 409 = some (.agg #[.int .i64 0, .int .i64 0]) := by kernel_rfl
theorem inf409 : ∃ i, Tryz.prog.info? 409 = some i ∧ i.zero = some (.agg #[.int .i64 0, .int .i64 0]) ∧ i.size = 2 ∧ i.bytes = 16 := by
  have h : (Tryz.prog.info? 409).map (fun i => (i.zero, i.size, i.bytes)) = some (some (.agg #[.int .i64 0, .int .i64 0]), 2, 16) := by kernel_rfl
  obtain ⟨i, h1, h2⟩ := Option.map_eq_some_iff.1 h
  simp only [Prod.mk.injEq] at h2
  exact ⟨i, h1, h2.1, h2.2.1, h2.2.2⟩
theorem st409 (H : AHeap) (id off : Nat) (x : Value) : astoreT Tryz.prog H 409 (.pointer (some ⟨id, off, none⟩)) x = if x.cells.size = 2 ∧ x.cells.toList.all oneCell = true then ((H[id]?).bind (rowStore off x.cells.toList)).map fun o => H.set id o else none := astore_rule sz409 H id off x
theorem fa409_0 (id off : Nat) : afieldAddr Tryz.prog 409 (.pointer (some ⟨id, off, none⟩)) 0 = some (.pointer (some ⟨id, off + 0, none⟩)) := afieldAddr_at (n := 0) (f := (fieldT Tryz.prog 409 0).getD default) (by kernel_rfl) (by kernel_rfl) (by kernel_rfl) id off
theorem fl409_0 (cs : List Value) : afield Tryz.prog 409 (.agg cs.toArray) 0 = cs[0]? := afield_one (f := (fieldT Tryz.prog 409 0).getD default) (by kernel_rfl) (by kernel_rfl) (by kernel_rfl) cs
theorem fa409_1 (id off : Nat) : afieldAddr Tryz.prog 409 (.pointer (some ⟨id, off, none⟩)) 1 = some (.pointer (some ⟨id, off + 1, none⟩)) := afieldAddr_at (n := 0) (f := (fieldT Tryz.prog 409 1).getD default) (by kernel_rfl) (by kernel_rfl) (by kernel_rfl) id off
theorem fl409_1 (cs : List Value) : afield Tryz.prog 409 (.agg cs.toArray) 1 = cs[1]? := afield_one (f := (fieldT Tryz.prog 409 1).getD default) (by kernel_rfl) (by kernel_rfl) (by kernel_rfl) cs
theorem sz410 : szT Tryz.prog 410 = some 2 := by kernel_rfl
theorem ag410 : aggT Tryz.prog 410 = some true := by kernel_rfl
theorem ze410 : zeroT Tryz.prog 410 = some (.agg #[.int .i64 0, .int .i64 0]) := by kernel_rfl
theorem inf410 : ∃ i, Tryz.prog.info? 410 = some i ∧ i.zero = some (.agg #[.int .i64 0, .int .i64 0]) ∧ i.size = 2 ∧ i.bytes = 16 := by
  have h : (Tryz.prog.info? 410).map (fun i => (i.zero, i.size, i.bytes)) = some (some (.agg #[.int .i64 0, .int .i64 0]), 2, 16) := by kernel_rfl
  obtain ⟨i, h1, h2⟩ := Option.map_eq_some_iff.1 h
  simp only [Prod.mk.injEq] at h2
  exact ⟨i, h1, h2.1, h2.2.1, h2.2.2⟩
theorem st410 (H : AHeap) (id off : Nat) (x : Value) : astoreT Tryz.prog H 410 (.pointer (some ⟨id, off, none⟩)) x = if x.cells.size = 2 ∧ x.cells.toList.all oneCell = true then ((H[id]?).bind (rowStore off x.cells.toList)).map fun o => H.set id o else none := astore_rule sz410 H id off x
theorem fa410_0 (id off : Nat) : afieldAddr Tryz.prog 410 (.pointer (some ⟨id, off, none⟩)) 0 = some (.pointer (some ⟨id, off + 0, none⟩)) := afieldAddr_at (n := 0) (f := (fieldT Tryz.prog 410 0).getD default) (by kernel_rfl) (by kernel_rfl) (by kernel_rfl) id off
theorem fl410_0 (cs : List Value) : afield Tryz.prog 410 (.agg cs.toArray) 0 = cs[0]? := afield_one (f := (fieldT Tryz.prog 410 0).getD default) (by kernel_rfl) (by kernel_rfl) (by kernel_rfl) cs
theorem fa410_1 (id off : Nat) : afieldAddr Tryz.prog 410 (.pointer (some ⟨id, off, none⟩)) 1 = some (.pointer (some ⟨id, off + 1, none⟩)) := afieldAddr_at (n := 0) (f := (fieldT Tryz.prog 410 1).getD default) (by kernel_rfl) (by kernel_rfl) (by kernel_rfl) id off
theorem fl410_1 (cs : List Value) : afield Tryz.prog 410 (.agg cs.toArray) 1 = cs[1]? := afield_one (f := (fieldT Tryz.prog 410 1).getD default) (by kernel_rfl) (by kernel_rfl) (by kernel_rfl) cs
theorem sz411 : szT Tryz.prog 411 = some 3 := by kernel_rfl
theorem ag411 : aggT Tryz.prog 411 = some true := by kernel_rfl
theorem ze411 : zeroT Tryz.prog 411 = some (.agg #[.int .i64 0, .int .i64 0, .slice none 0 0]) := by kernel_rfl
theorem pz411 : plainV 100 (.agg #[.int .i64 0, .int .i64 0, .slice none 0 0]) = true := by kernel_rfl
theorem inf411 : ∃ i, Tryz.prog.info? 411 = some i ∧ i.zero = some (.agg #[.int .i64 0, .int .i64 0, .slice none 0 0]) ∧ i.size = 3 ∧ i.bytes = 40 := by
  have h : (Tryz.prog.info? 411).map (fun i => (i.zero, i.size, i.bytes)) = some (some (.agg #[.int .i64 0, .int .i64 0, .slice none 0 0]), 3, 40) := by kernel_rfl
  obtain ⟨i, h1, h2⟩ := Option.map_eq_some_iff.1 h
  simp only [Prod.mk.injEq] at h2
  exact ⟨i, h1, h2.1, h2.2.1, h2.2.2⟩
theorem st411 (H : AHeap) (id off : Nat) (x : Value) : astoreT Tryz.prog H 411 (.pointer (some ⟨id, off, none⟩)) x = if x.cells.size = 3 ∧ x.cells.toList.all oneCell = true then ((H[id]?).bind (rowStore off x.cells.toList)).map fun o => H.set id o else none := astore_rule sz411 H id off x
theorem fa411_0 (id off : Nat) : afieldAddr Tryz.prog 411 (.pointer (some ⟨id, off, none⟩)) 0 = some (.pointer (some ⟨id, off + 0, none⟩)) := afieldAddr_at (n := 0) (f := (fieldT Tryz.prog 411 0).getD default) (by kernel_rfl) (by kernel_rfl) (by kernel_rfl) id off
theorem fl411_0 (cs : List Value) : afield Tryz.prog 411 (.agg cs.toArray) 0 = cs[0]? := afield_one (f := (fieldT Tryz.prog 411 0).getD default) (by kernel_rfl) (by kernel_rfl) (by kernel_rfl) cs
theorem fa411_1 (id off : Nat) : afieldAddr Tryz.prog 411 (.pointer (some ⟨id, off, none⟩)) 1 = some (.pointer (some ⟨id, off + 1, none⟩)) := afieldAddr_at (n := 0) (f := (fieldT Tryz.prog 411 1).getD default) (by kernel_rfl) (by kernel_rfl) (by kernel_rfl) id off
theorem fl411_1 (cs : List Value) : afield Tryz.prog 411 (.agg cs.toArray) 1 = cs[1]? := afield_one (f := (fieldT Tryz.prog 411 1).getD default) (by kernel_rfl) (by kernel_rfl) (by kernel_rfl) cs
theorem fa411_2 (id off : Nat) : afieldAddr Tryz.prog 411 (.pointer (some ⟨id, off, none⟩)) 2 = some (.pointer (some ⟨id, off + 2, none⟩)) := afieldAddr_at (n := 0) (f := (fieldT Tryz.prog 411 2).getD default) (by kernel_rfl) (by kernel_rfl) (by kernel_rfl) id off
theorem fl411_2 (cs : List Value) : afield Tryz.prog 411 (.agg cs.toArray) 2 = cs[2]? := afield_one (f := (fieldT Tryz.prog 411 2).getD default) (by kernel_rfl) (by kernel_rfl) (by kernel_rfl) cs
theorem sz412 : szT Tryz.prog 412 = some 3 := by kernel_rfl
theorem ag412 : aggT Tryz.prog 412 = some true := by kernel_rfl
theorem ze412 : zeroT Tryz.prog 412 = some (.agg #[.int .i64 0, .int .i64 0, .slice none 0 0]) := by kernel_rfl
theorem inf412 : ∃ i, Tryz.prog.info? 412 = some i ∧ i.zero = some (.agg #[.int .i64 0, .int .i64 0, .slice none 0 0]) ∧ i.size = 3 ∧ i.bytes = 40 := by
  have h : (Tryz.prog.info? 412).map (fun i => (i.zero, i.size, i.bytes)) = some (some (.agg #[.int .i64 0, .int .i64 0, .slice none 0 0]), 3, 40) := by kernel_rfl
  obtain ⟨i, h1, h2⟩ := Option.map_eq_some_iff.1 h
  simp only [Prod.mk.injEq] at h2
  exact ⟨i, h1, h2.1, h2.2.1, h2.2.2⟩
theorem st412 (H : AHeap) (id off : Nat) (x : Value) : astoreT Tryz.prog H 412 (.pointer (some ⟨id, off, none⟩)) x = if x.cells.size = 3 ∧ x.cells.toList.all oneCell = true then ((H[id]?).bind (rowStore off x.cells.toList)).map fun o => H.set id o else none := astore_rule sz412 H id off x
theorem fa412_0 (id off : Nat) : afieldAddr Tryz.prog 412 (.pointer (some ⟨id, off, none⟩)) 0 = some (.pointer (some ⟨id, off + 0, none⟩)) := afieldAddr_at (n := 0) (f := (fieldT Tryz.prog 412 0).getD default) (by kernel_rfl) (by kernel_rfl) (by kernel_rfl) id off
theorem fl412_0 (cs : List Value) : afield Tryz.prog 412 (.agg cs.toArray) 0 = cs[0]? := afield_one (f := (fieldT Tryz.prog 412 0).getD default) (by kernel_rfl) (by kernel_rfl) (by kernel_rfl) cs
theorem fa412_1 (id off : Nat) : afieldAddr Tryz.prog 412 (.pointer (some ⟨id, off, none⟩)) 1 = some (.pointer (some ⟨id, off + 1, none⟩)) := afieldAddr_at (n := 0) (f := (fieldT Tryz.prog 412 1).getD default) (by kernel_rfl) (by kernel_rfl) (by kernel_rfl) id off
theorem fl412_1 (cs : List Value) : afield Tryz.prog 412 (.agg cs.toArray) 1 = cs[1]? := afield_one (f := (fieldT Tryz.prog 412 1).getD default) (by kernel_rfl) (by kernel_rfl) (by kernel_rfl) cs
theorem fa412_2 (id off : Nat) : afieldAddr Tryz.prog 412 (.pointer (some ⟨id, off, none⟩)) 2 = some (.pointer (some ⟨id, off + 2, none⟩)) := afieldAddr_at (n := 0) (f := (fieldT Tryz.prog 412 2).getD default) (by kernel_rfl) (by kernel_rfl) (by kernel_rfl) id off
theorem fl412_2 (cs : List Value) : afield Tryz.prog 412 (.agg cs.toArray) 2 = cs[2]? := afield_one (f := (fieldT Tryz.prog 412 2).getD default) (by kernel_rfl) (by kernel_rfl) (by kernel_rfl) cs
theorem sz413 : szT Tryz.prog 413 = some 1 := by kernel_rfl
theorem ag413 : aggT Tryz.prog 413 = some false := by kernel_rfl
theorem ze413 : zeroT Tryz.prog 413 = some (.slice none 0 0) := by kernel_rfl
theorem inf413 : ∃ i, Tryz.prog.info? 413 = some i ∧ i.zero = some (.slice none 0 0) ∧ i.size = 1 ∧ i.bytes = 24 := by
  have h : (Tryz.prog.info? 413).map (fun i => (i.zero, i.size, i.bytes)) = some (some (.slice none 0 0), 1, 24) := by kernel_rfl
  obtain ⟨i, h1, h2⟩ := Option.map_eq_some_iff.1 h
  simp only [Prod.mk.injEq] at h2
  exact ⟨i, h1, h2.1, h2.2.1, h2.2.2⟩
theorem st413 (H : AHeap) (id off : Nat) (x : Value) : astoreT Tryz.prog H 413 (.pointer (some ⟨id, off, none⟩)) x = if x.cells.size = 1 ∧ x.cells.toList.all oneCell = true then ((H[id]?).bind (rowStore off x.cells.toList)).map fun o => H.set id o else none := astore_rule sz413 H id off x
theorem un413 : Tryz.prog.underlying 413 = some (.slice 432) := by kernel_rfl
theorem el413 : elemT Tryz.prog 413 = some 432 := by kernel_rfl
theorem ln413 (H : AHeap) (a : Option Addr) (m c : Nat) : alen Tryz.prog H 413 (.slice a m c) = some (.int .i64 m) := alen_slice un413 H a m c
theorem cp413 (a : Addr) (m c : Nat) : acap Tryz.prog 413 (.slice (some a) m c) = if c = 0 then none else some (.int .i64 c) := acap_slice un413 a m c
theorem ix413 (id off m c : Nat) (ik : IntKind) (i : Int) : aindexAddr Tryz.prog 413 (.slice (some ⟨id, off, none⟩) m c) (.int ik i) = if 0 ≤ i ∧ i < m then some (.pointer (some ⟨id, off + i.toNat * 3, none⟩)) else none := aindexAddr_at un413 (by kernel_rfl) id off m c ik i
theorem en413 (H : AHeap) (xo yo : Operand) (a : Option Addr) (n c m q : Nat) : abin Tryz.prog H .eql 413 xo yo (.slice a n c) (.slice none m q) = some (.bool a.isNone) := abin_eq_slnil un413 H xo yo a n c m q
theorem nn413 (H : AHeap) (xo yo : Operand) (a : Option Addr) (n c m q : Nat) : abin Tryz.prog H .neq 413 xo yo (.slice a n c) (.slice none m q) = some (.bool !a.isNone) := abin_ne_slnil un413 H xo yo a n c m q
theorem sc413 (H : AHeap) (a : Option Addr) (n c : Nat) (lo hi : Option Value) : aslice Tryz.prog H 413 (.slice a n c) lo hi none = (optB hi (some n) (capOf n c)).bind fun h => (optB lo (some 0) h).bind fun l => cut H 3 a c l h := aslice_sl un413 (by kernel_rfl) H a n c lo hi
theorem sz414 : szT Tryz.prog 414 = some 4 := by kernel_rfl
theorem ag414 : aggT Tryz.prog 414 = some true := by kernel_rfl
theorem ze414 : zeroT Tryz.prog 414 = some (.agg #[.int .i64 0, .int .i64 0, .slice none 0 0, .slice none 0 0]) := by kernel_rfl
theorem pz414 : plainV 100 (.agg #[.int .i64 0, .int .i64 0, .slice none 0 0, .slice none 0 0]) = true := by kernel_rfl
theorem inf414 : ∃ i, Tryz.prog.info? 414 = some i ∧ i.zero = some (.agg #[.int .i64 0, .int .i64 0, .slice none 0 0, .slice none 0 0]) ∧ i.size = 4 ∧ i.bytes = 64 := by
  have h : (Tryz.prog.info? 414).map (fun i => (i.zero, i.size, i.bytes)) = some (some (.agg #[.int .i64 0, .int .i64 0, .slice none 0 0, .slice none 0 0]), 4, 64) := by kernel_rfl
  obtain ⟨i, h1, h2⟩ := Option.map_eq_some_iff.1 h
  simp only [Prod.mk.injEq] at h2
  exact ⟨i, h1, h2.1, h2.2.1, h2.2.2⟩
theorem st414 (H : AHeap) (id off : Nat) (x : Value) : astoreT Tryz.prog H 414 (.pointer (some ⟨id, off, none⟩)) x = if x.cells.size = 4 ∧ x.cells.toList.all oneCell = true then ((H[id]?).bind (rowStore off x.cells.toList)).map fun o => H.set id o else none := astore_rule sz414 H id off x
theorem fa414_0 (id off : Nat) : afieldAddr Tryz.prog 414 (.pointer (some ⟨id, off, none⟩)) 0 = some (.pointer (some ⟨id, off + 0, none⟩)) := afieldAddr_at (n := 2) (f := (fieldT Tryz.prog 414 0).getD default) (by kernel_rfl) (by kernel_rfl) (by kernel_rfl) id off
theorem fl414_0 (cs : List Value) : afield Tryz.prog 414 (.agg cs.toArray) 0 = some (.agg ((cs.drop 0).take 3).toArray) := afield_agg (f := (fieldT Tryz.prog 414 0).getD default) (by kernel_rfl) (by kernel_rfl) (by kernel_rfl) (by kernel_rfl) cs
theorem fa414_1 (id off : Nat) : afieldAddr Tryz.prog 414 (.pointer (some ⟨id, off, none⟩)) 1 = some (.pointer (some ⟨id, off + 3, none⟩)) := afieldAddr_at (n := 0) (f := (fieldT Tryz.prog 414 1).getD default) (by kernel_rfl) (by kernel_rfl) (by kernel_rfl) id off
theorem fl414_1 (cs : List Value) : afield Tryz.prog 414 (.agg cs.toArray) 1 = cs[3]? := afield_one (f := (fieldT Tryz.prog 414 1).getD default) (by kernel_rfl) (by kernel_rfl) (by kernel_rfl) cs
theorem sz415 : szT Tryz.prog 415 = some 4 := by kernel_rfl
theorem ag415 : aggT Tryz.prog 415 = some true := by kernel_rfl
theorem ze415 : zeroT Tryz.prog 415 = some (.agg #[.int .i64 0, .int .i64 0, .slice none 0 0, .slice none 0 0]) := by kernel_rfl
theorem inf415 : ∃ i, Tryz.prog.info? 415 = some i ∧ i.zero = some (.agg #[.int .i64 0, .int .i64 0, .slice none 0 0, .slice none 0 0]) ∧ i.size = 4 ∧ i.bytes = 64 := by
  have h : (Tryz.prog.info? 415).map (fun i => (i.zero, i.size, i.bytes)) = some (some (.agg #[.int .i64 0, .int .i64 0, .slice none 0 0, .slice none 0 0]), 4, 64) := by kernel_rfl
  obtain ⟨i, h1, h2⟩ := Option.map_eq_some_iff.1 h
  simp only [Prod.mk.injEq] at h2
  exact ⟨i, h1, h2.1, h2.2.1, h2.2.2⟩
theorem st415 (H : AHeap) (id off : Nat) (x : Value) : astoreT Tryz.prog H 415 (.pointer (some ⟨id, off, none⟩)) x = if x.cells.size = 4 ∧ x.cells.toList.all oneCell = true then ((H[id]?).bind (rowStore off x.cells.toList)).map fun o => H.set id o else none := astore_rule sz415 H id off x
theorem fa415_0 (id off : Nat) : afieldAddr Tryz.prog 415 (.pointer (some ⟨id, off, none⟩)) 0 = some (.pointer (some ⟨id, off + 0, none⟩)) := afieldAddr_at (n := 2) (f := (fieldT Tryz.prog 415 0).getD default) (by kernel_rfl) (by kernel_rfl) (by kernel_rfl) id off
theorem fl415_0 (cs : List Value) : afield Tryz.prog 415 (.agg cs.toArray) 0 = some (.agg ((cs.drop 0).take 3).toArray) := afield_agg (f := (fieldT Tryz.prog 415 0).getD default) (by kernel_rfl) (by kernel_rfl) (by kernel_rfl) (by kernel_rfl) cs
theorem fa415_1 (id off : Nat) : afieldAddr Tryz.prog 415 (.pointer (some ⟨id, off, none⟩)) 1 = some (.pointer (some ⟨id, off + 3, none⟩)) := afieldAddr_at (n := 0) (f := (fieldT Tryz.prog 415 1).getD default) (by kernel_rfl) (by kernel_rfl) (by kernel_rfl) id off
theorem fl415_1 (cs : List Value) : afield Tryz.prog 415 (.agg cs.toArray) 1 = cs[3]? := afield_one (f := (fieldT Tryz.prog 415 1).getD default) (by kernel_rfl) (by kernel_rfl) (by kernel_rfl) cs
theorem sz417 : szT Tryz.prog 417 = some 4 := by kernel_rfl
theorem ag417 : aggT Tryz.prog 417 = some true := by kernel_rfl
theorem ze417 : zeroT Tryz.prog 417 = some (.agg #[.int .i64 0, .slice none 0 0, .int .i64 0, .int .i64 0]) := by kernel_rfl
theorem pz417 : plainV 100 (.agg #[.int .i64 0, .slice none 0 0, .int .i64 0, .int .i64 0]) = true := by kernel_rfl
theorem inf417 : ∃ i, Tryz.prog.info? 417 = some i ∧ i.zero = some (.agg #[.int .i64 0, .slice none 0 0, .int .i64 0, .int .i64 0]) ∧ i.size = 4 ∧ i.bytes = 48 := by
  have h : (Tryz.prog.info? 417).map (fun i => (i.zero, i.size, i.bytes)) = some (some (.agg #[.int .i64 0, .slice none 0 0, .int .i64 0, .int .i64 0]), 4, 48) := by kernel_rfl
  obtain ⟨i, h1, h2⟩ := Option.map_eq_some_iff.1 h
  simp only [Prod.mk.injEq] at h2
  exact ⟨i, h1, h2.1, h2.2.1, h2.2.2⟩
theorem st417 (H : AHeap) (id off : Nat) (x : Value) : astoreT Tryz.prog H 417 (.pointer (some ⟨id, off, none⟩)) x = if x.cells.size = 4 ∧ x.cells.toList.all oneCell = true then ((H[id]?).bind (rowStore off x.cells.toList)).map fun o => H.set id o else none := astore_rule sz417 H id off x
theorem fa417_0 (id off : Nat) : afieldAddr Tryz.prog 417 (.pointer (some ⟨id, off, none⟩)) 0 = some (.pointer (some ⟨id, off + 0, none⟩)) := afieldAddr_at (n := 0) (f := (fieldT Tryz.prog 417 0).getD default) (by kernel_rfl) (by kernel_rfl) (by kernel_rfl) id off
theorem fl417_0 (cs : List Value) : afield Tryz.prog 417 (.agg cs.toArray) 0 = cs[0]? := afield_one (f := (fieldT Tryz.prog 417 0).getD default) (by kernel_rfl) (by kernel_rfl) (by kernel_rfl) cs
theorem fa417_1 (id off : Nat) : afieldAddr Tryz.prog 417 (.pointer (some ⟨id, off, none⟩)) 1 = some (.pointer (some ⟨id, off + 1, none⟩)) := afieldAddr_at (n := 0) (f := (fieldT Tryz.prog 417 1).getD default) (by kernel_rfl) (by kernel_rfl) (by kernel_rfl) id off
theorem fl417_1 (cs : List Value) : afield Tryz.prog 417 (.agg cs.toArray) 1 = cs[1]? := afield_one (f := (fieldT Tryz.prog 417 1).getD default) (by kernel_rfl) (by kernel_rfl) (by kernel_rfl) cs
theorem fa417_2 (id off : Nat) : afieldAddr Tryz.prog 417 (.pointer (some ⟨id, off, none⟩)) 2 = some (.pointer (some ⟨id, off + 2, none⟩)) := afieldAddr_at (n := 1) (f := (fieldT Tryz.prog 417 2).getD default) (by kernel_rfl) (by kernel_rfl) (by kernel_rfl) id off
theorem fl417_2 (cs : List Value) : afield Tryz.prog 417 (.agg cs.toArray) 2 = some (.agg ((cs.drop 2).take 2).toArray) := afield_agg (f := (fieldT Tryz.prog 417 2).getD default) (by kernel_rfl) (by kernel_rfl) (by kernel_rfl) (by kernel_rfl) cs
theorem sz418 : szT Tryz.prog 418 = some 4 := by kernel_rfl
theorem ag418 : aggT Tryz.prog 418 = some true := by kernel_rfl
theorem ze418 : zeroT Tryz.prog 418 = some (.agg #[.int .i64 0, .slice none 0 0, .int .i64 0, .int .i64 0]) := by kernel_rfl
theorem inf418 : ∃ i, Tryz.prog.info? 418 = some i ∧ i.zero = some (.agg #[.int .i64 0, .slice none 0 0, .int .i64 0, .int .i64 0]) ∧ i.size = 4 ∧ i.bytes = 48 := by
  have h : (Tryz.prog.info? 418).map (fun i => (i.zero, i.size, i.bytes)) = some (some (.agg #[.int .i64 0, .slice none 0 0, .int .i64 0, .int .i64 0]), 4, 48) := by kernel_rfl
  obtain ⟨i, h1, h2⟩ := Option.map_eq_some_iff.1 h
  simp only [Prod.mk.injEq] at h2
  exact ⟨i, h1, h2.1, h2.2.1, h2.2.2⟩
theorem st418 (H : AHeap) (id off : Nat) (x : Value) : astoreT Tryz.prog H 418 (.pointer (some ⟨id, off, none⟩)) x = if x.cells.size = 4 ∧ x.cells.toList.all oneCell = true then ((H[id]?).bind (rowStore off x.cells.toList)).map fun o => H.set id o else none := astore_rule sz418 H id off x
theorem fa418_0 (id off : Nat) : afieldAddr Tryz.prog 418 (.pointer (some ⟨id, off, none⟩)) 0 = some (.pointer (some ⟨id, off + 0, none⟩)) := afieldAddr_at (n := 0) (f := (fieldT Tryz.prog 418 0).getD default) (by kernel_rfl) (by kernel_rfl) (by kernel_rfl) id off
theorem fl418_0 (cs : List Value) : afield Tryz.prog 418 (.agg cs.toArray) 0 = cs[0]? := afield_one (f := (fieldT Tryz.prog 418 0).getD default) (by kernel_rfl) (by kernel_rfl) (by kernel_rfl) cs
theorem fa418_1 (id off : Nat) : afieldAddr Tryz.prog 418 (.pointer (some ⟨id, off, none⟩)) 1 = some (.pointer (some ⟨id, off + 1, none⟩)) := afieldAddr_at (n := 0) (f := (fieldT Tryz.prog 418 1).getD default) (by kernel_rfl) (by kernel_rfl) (by kernel_rfl) id off
theorem fl418_1 (cs : List Value) : afield Tryz.prog 418 (.agg cs.toArray) 1 = cs[1]? := afield_one (f := (fieldT Tryz.prog 418 1).getD default) (by kernel_rfl) (by kernel_rfl) (by kernel_rfl) cs
theorem fa418_2 (id off : Nat) : afieldAddr Tryz.prog 418 (.pointer (some ⟨id, off, none⟩)) 2 = some (.pointer (some ⟨id, off + 2, none⟩)) := afieldAddr_at (n := 1) (f := (fieldT Tryz.prog 418 2).getD default) (by kernel_rfl) (by kernel_rfl) (by kernel_rfl) id off
theorem fl418_2 (cs : List Value) : afield Tryz.prog 418 (.agg cs.toArray) 2 = some (.agg ((cs.drop 2).take 2).toArray) := afield_agg (f := (fieldT Tryz.prog 418 2).getD default) (by kernel_rfl) (by kernel_rfl) (by kernel_rfl) (by kernel_rfl) cs
theorem sz423 : szT Tryz.prog 423 = some 3 := by kernel_rfl
theorem ag423 : aggT Tryz.prog 423 = some true := by kernel_rfl
theorem ze423 : zeroT Tryz.prog 423 = some (.agg #[.int .i64 0, .int .u64 0, .int .u64 0]) := by kernel_rfl
theorem pz423 : plainV 100 (.agg #[.int .i64 0, .int .u64 0, .int .u64 0]) = true := by kernel_rfl
theorem inf423 : ∃ i, Tryz.prog.info? 423 = some i ∧ i.zero = some (.agg #[.int .i64 0, .int .u64 0, .int .u64 0]) ∧ i.size = 3 ∧ i.bytes = 24 := by
  have h : (Tryz.prog.info? 423).map (fun i => (i.zero, i.size, i.bytes)) = some (some (.agg #[.int .i64 0, .int .u64 0, .int .u64 0]), 3, 24) := by kernel_rfl
  obtain ⟨i, h1, h2⟩ := Option.map_eq_some_iff.1 h
  simp only [Prod.mk.injEq] at h2
  exact ⟨i, h1, h2.1, h2.2.1, h2.2.2⟩
theorem st423 (H : AHeap) (id off : Nat) (x : Value) : astoreT Tryz.prog H 423 (.pointer (some ⟨id, off, none⟩)) x = if x.cells.size = 3 ∧ x.cells.toList.all oneCell = true then ((H[id]?).bind (rowStore off x.cells.toList)).map fun o => H.set id o else none := astore_rule sz423 H id off x
theorem fa423_0 (id off : Nat) : afieldAddr Tryz.prog 423 (.pointer (some ⟨id, off, none⟩)) 0 = some (.pointer (some ⟨id, off + 0, none⟩)) := afieldAddr_at (n := 0) (f := (fieldT Tryz.prog 423 0).getD default) (by kernel_rfl) (by kernel_rfl) (by kernel_rfl) id off
theorem fl423_0 (cs : List Value) : afield Tryz.prog 423 (.agg cs.toArray) 0 = cs[0]? := afield_one (f := (fieldT Tryz.prog 423 0).getD default) (by kernel_rfl) (by kernel_rfl) (by kernel_rfl) cs
theorem fa423_1 (id off : Nat) : afieldAddr Tryz.prog 423 (.pointer (some ⟨id, off, none⟩)) 1 = some (.pointer (some ⟨id, off + 1, none⟩)) := afieldAddr_at (n := 0) (f := (fieldT Tryz.prog 423 1).getD default) (by kernel_rfl) (by kernel_rfl) (by kernel_rfl) id off
theorem fl423_1 (cs : List Value) : afield Tryz.prog 423 (.agg cs.toArray) 1 = cs[1]? := afield_one (f := (fieldT Tryz.prog 423 1).getD default) (by kernel_rfl) (by kernel_rfl) (by kernel_rfl) cs
theorem fa423_2 (id off : Nat) : afieldAddr Tryz.prog 423 (.pointer (some ⟨id, off, none⟩)) 2 = some (.pointer (some ⟨id, off + 2, none⟩)) := afieldAddr_at (n := 0) (f := (fieldT Tryz.prog 423 2).getD default) (by kernel_rfl) (by kernel_rfl) (by kernel_rfl) id off
theorem fl423_2 (cs : List Value) : afield Tryz.prog 423 (.agg cs.toArray) 2 = cs[2]? := afield_one (f := (fieldT Tryz.prog 423 2).getD default) (by kernel_rfl) (by kernel_rfl) (by kernel_rfl) cs
theorem sz424 : szT Tryz.prog 424 = some 3 := by kernel_rfl
theorem ag424 : aggT Tryz.prog 424 = some true := by kernel_rfl
theorem ze424 : zeroT Tryz.prog 424 = some (.agg #[.int .i64 0, .int .u64 0, .int .u64 0]) := by kernel_rfl
theorem inf424 : ∃ i, Tryz.prog.info? 424 = some i ∧ i.zero = some (.agg #[.int .i64 0, .int .u64 0, .int .u64 0]) ∧ i.size = 3 ∧ i.bytes = 24 := by
  have h : (Tryz.prog.info? 424).map (fun i => (i.zero, i.size, i.bytes)) = some (some (.agg #[.int .i64 0, .int .u64 0, .int .u64 0]), 3, 24) := by kernel_rfl
  obtain ⟨i, h1, h2⟩ := Option.map_eq_some_iff.1 h
  simp only [Prod.mk.injEq] at h2
  exact ⟨i, h1, h2.1, h2.2.1, h2.2.2⟩
theorem st424 (H : AHeap) (id off : Nat) (x : Value) : astoreT Tryz.prog H 424 (.pointer (some ⟨id, off, none⟩)) x = if x.cells.size = 3 ∧ x.cells.toList.all oneCell = true then ((H[id]?).bind (rowStore off x.cells.toList)).map fun o => H.set id o else none := astore_rule sz424 H id off x
theorem fa424_0 (id off : Nat) : afieldAddr Tryz.prog 424 (.pointer (some ⟨id, off, none⟩)) 0 = some (.pointer (some ⟨id, off + 0, none⟩)) := afieldAddr_at (n := 0) (f := (fieldT Tryz.prog 424 0).getD default) (by kernel_rfl) (by kernel_rfl) (by kernel_rfl) id off
theorem fl424_0 (cs : List Value) : afield Tryz.prog 424 (.agg cs.toArray) 0 = cs[0]? := afield_one (f := (fieldT Tryz.prog 424 0).getD default) (by kernel_rfl) (by kernel_rfl) (by kernel_rfl) cs
theorem fa424_1 (id off : Nat) : afieldAddr Tryz.prog 424 (.pointer (some ⟨id, off, none⟩)) 1 = some (.pointer (some ⟨id, off + 1, none⟩)) := afieldAddr_at (n := 0) (f := (fieldT Tryz.prog 424 1).getD default) (by kernel_rfl) (by kernel_rfl) (by kernel_rfl) id off
theorem fl424_1 (cs : List Value) : afield Tryz.prog 424 (.agg cs.toArray) 1 = cs[1]? := afield_one (f := (fieldT Tryz.prog 424 1).getD default) (by kernel_rfl) (by kernel_rfl) (by kernel_rfl) cs
theorem fa424_2 (id off : Nat) : afieldAddr Tryz.prog 424 (.pointer (some ⟨id, off, none⟩)) 2 = some (.pointer (some ⟨id, off + 2, none⟩)) := afieldAddr_at (n := 0) (f := (fieldT Tryz.prog 424 2).getD default) (by kernel_rfl) (by kernel_rfl) (by kernel_rfl) id off
theorem fl424_2 (cs : List Value) : afield Tryz.prog 424 (.agg cs.toArray) 2 = cs[2]? := afield_one (f := (fieldT Tryz.prog 424 2).getD default) (by kernel_rfl) (by kernel_rfl) (by kernel_rfl) cs
theorem sz427 : szT Tryz.prog 427 = some 2 := by kernel_rfl
theorem ag427 : aggT Tryz.prog 427 = some true := by kernel_rfl
theorem ze427 : zeroT Tryz.prog 427 = some (.agg #[.string ByteArray.empty, .slice none 0 0]) := by kernel_rfl
theorem pz427 : plainV 100 (.agg #[.string ByteArray.empty, .slice none 0 0]) = true := by kernel_rfl
theorem inf427 : ∃ i, Tryz.prog.info? 427 = some i ∧ i.zero = some (.agg #[.string ByteArray.empty, .slice none 0 0]) ∧ i.size = 2 ∧ i.bytes = 40 := by
  have h : (Tryz.prog.info? 427).map (fun i => (i.zero, i.size, i.bytes)) = some (some (.agg #[.string ByteArray.empty, .slice none 0 0]), 2, 40) := by kernel_rfl
  obtain ⟨i, h1, h2⟩ := Option.map_eq_some_iff.1 h
  simp only [Prod.mk.injEq] at h2
  exact ⟨i, h1, h2.1, h2.2.1, h2.2.2⟩
theorem st427 (H : AHeap) (id off : Nat) (x : Value) : astoreT Tryz.prog H 427 (.pointer (some ⟨id, off, none⟩)) x = if x.cells.size = 2 ∧ x.cells.toList.all oneCell = true then ((H[id]?).bind (rowStore off x.cells.toList)).map fun o => H.set id o else none := astore_rule sz427 H id off x
theorem fa427_0 (id off : Nat) : afieldAddr Tryz.prog 427 (.pointer (some ⟨id, off, none⟩)) 0 = some (.pointer (some ⟨id, off + 0, none⟩)) := afieldAddr_at (n := 0) (f := (fieldT Tryz.prog 427 0).getD default) (by kernel_rfl) (by kernel_rfl) (by kernel_rfl) id off
theorem fl427_0 (cs : List Value) : afield Tryz.prog 427 (.agg cs.toArray) 0 = cs[0]? := afield_one (f := (fieldT Tryz.prog 427 0).getD default) (by kernel_rfl) (by kernel_rfl) (by kernel_rfl) cs
theorem fa427_1 (id off : Nat) : afieldAddr Tryz.prog 427 (.pointer (some ⟨id, off, none⟩)) 1 = some (.pointer (some ⟨id, off + 1, none⟩)) := afieldAddr_at (n := 0) (f := (fieldT Tryz.prog 427 1).getD default) (by kernel_rfl) (by kernel_rfl) (by kernel_rfl) id off
theorem fl427_1 (cs : List Value) : afield Tryz.prog 427 (.agg cs.toArray) 1 = cs[1]? := afield_one (f := (fieldT Tryz.prog 427 1).getD default) (by kernel_rfl) (by kernel_rfl) (by kernel_rfl) cs
theorem sz428 : szT Tryz.prog 428 = some 2 := by kernel_rfl
theorem ag428 : aggT Tryz.prog 428 = some true := by kernel_rfl
theorem ze428 : zeroT Tryz.prog 428 = some (.agg #[.string ByteArray.empty, .slice none 0 0]) := by kernel_rfl
theorem inf428 : ∃ i, Tryz.prog.info? 428 = some i ∧ i.zero = some (.agg #[.string ByteArray.empty, .slice none 0 0]) ∧ i.size = 2 ∧ i.bytes = 40 := by
  have h : (Tryz.prog.info? 428).map (fun i => (i.zero, i.size, i.bytes)) = some (some (.agg #[.string ByteArray.empty, .slice none 0 0]), 2, 40) := by kernel_rfl
  obtain ⟨i, h1, h2⟩ := Option.map_eq_some_iff.1 h
  simp only [Prod.mk.injEq] at h2
  exact ⟨i, h1, h2.1, h2.2.1, h2.2.2⟩
theorem st428 (H : AHeap) (id off : Nat) (x : Value) : astoreT Tryz.prog H 428 (.pointer (some ⟨id, off, none⟩)) x = if x.cells.size = 2 ∧ x.cells.toList.all oneCell = true then ((H[id]?).bind (rowStore off x.cells.toList)).map fun o => H.set id o else none := astore_rule sz428 H id off x
theorem fa428_0 (id off : Nat) : afieldAddr Tryz.prog 428 (.pointer (some ⟨id, off, none⟩)) 0 = some (.pointer (some ⟨id, off + 0, none⟩)) := afieldAddr_at (n := 0) (f := (fieldT Tryz.prog 428 0).getD default) (by kernel_rfl) (by kernel_rfl) (by kernel_rfl) id off
theorem fl428_0 (cs : List Value) : afield Tryz.prog 428 (.agg cs.toArray) 0 = cs[0]? := afield_one (f := (fieldT Tryz.prog 428 0).getD default) (by kernel_rfl) (by kernel_rfl) (by kernel_rfl) cs
theorem fa428_1 (id off : Nat) : afieldAddr Tryz.prog 428 (.pointer (some ⟨id, off, none⟩)) 1 = some (.pointer (some ⟨id, off + 1, none⟩)) := afieldAddr_at (n := 0) (f := (fieldT Tryz.prog 428 1).getD default) (by kernel_rfl) (by kernel_rfl) (by kernel_rfl) id off
theorem fl428_1 (cs : List Value) : afield Tryz.prog 428 (.agg cs.toArray) 1 = cs[1]? := afield_one (f := (fieldT Tryz.prog 428 1).getD default) (by kernel_rfl) (by kernel_rfl) (by kernel_rfl) cs
theorem sz431 : szT Tryz.prog 431 = some 3 := by kernel_rfl
theorem ag431 : aggT Tryz.prog 431 = some true := by kernel_rfl
theorem ze431 : zeroT Tryz.prog 431 = some (.agg #[.int .u64 0, .int .i64 0, .slice none 0 0]) := by kernel_rfl
theorem pz431 : plainV 100 (.agg #[.int .u64 0, .int .i64 0, .slice none 0 0]) = true := by kernel_rfl
theorem inf431 : ∃ i, Tryz.prog.info? 431 = some i ∧ i.zero = some (.agg #[.int .u64 0, .int .i64 0, .slice none 0 0]) ∧ i.size = 3 ∧ i.bytes = 40 := by
  have h : (Tryz.prog.info? 431).map (fun i => (i.zero, i.size, i.bytes)) = some (some (.agg #[.int .u64 0, .int .i64 0, .slice none 0 0]), 3, 40) := by kernel_rfl
  obtain ⟨i, h1, h2⟩ := Option.map_eq_some_iff.1 h
  simp only [Prod.mk.injEq] at h2
  exact ⟨i, h1, h2.1, h2.2.1, h2.2.2⟩
theorem st431 (H : AHeap) (id off : Nat) (x : Value) : astoreT Tryz.prog H 431 (.pointer (some ⟨id, off, none⟩)) x = if x.cells.size = 3 ∧ x.cells.toList.all oneCell = true then ((H[id]?).bind (rowStore off x.cells.toList)).map fun o => H.set id o else none := astore_rule sz431 H id off x
theorem fa431_0 (id off : Nat) : afieldAddr Tryz.prog 431 (.pointer (some ⟨id, off, none⟩)) 0 = some (.pointer (some ⟨id, off + 0, none⟩)) := afieldAddr_at (n := 0) (f := (fieldT Tryz.prog 431 0).getD default) (by kernel_rfl) (by kernel_rfl) (by kernel_rfl) id off
theorem fl431_0 (cs : List Value) : afield Tryz.prog 431 (.agg cs.toArray) 0 = cs[0]? := afield_one (f := (fieldT Tryz.prog 431 0).getD default) (by kernel_rfl) (by kernel_rfl) (by kernel_rfl) cs
theorem fa431_1 (id off : Nat) : afieldAddr Tryz.prog 431 (.pointer (some ⟨id, off, none⟩)) 1 = some (.pointer (some ⟨id, off + 1, none⟩)) := afieldAddr_at (n := 0) (f := (fieldT Tryz.prog 431 1).getD default) (by kernel_rfl) (by kernel_rfl) (by kernel_rfl) id off
theorem fl431_1 (cs : List Value) : afield Tryz.prog 431 (.agg cs.toArray) 1 = cs[1]? := afield_one (f := (fieldT Tryz.prog 431 1).getD default) (by kernel_rfl) (by kernel_rfl) (by kernel_rfl) cs
theorem fa431_2 (id off : Nat) : afieldAddr Tryz.prog 431 (.pointer (some ⟨id, off, none⟩)) 2 = some (.pointer (some ⟨id, off + 2, none⟩)) := afieldAddr_at (n := 0) (f := (fieldT Tryz.prog 431 2).getD default) (by kernel_rfl) (by kernel_rfl) (by kernel_rfl) id off
theorem fl431_2 (cs : List Value) : afield Tryz.prog 431 (.agg cs.toArray) 2 = cs[2]? := afield_one (f := (fieldT Tryz.prog 431 2).getD default) (by kernel_rfl) (by kernel_rfl) (by kernel_rfl) cs
theorem sz432 : szT Tryz.prog 432 = some 3 := by kernel_rfl
theorem ag432 : aggT Tryz.prog 432 = some true := by kernel_rfl
theorem ze432 : zeroT Tryz.prog 432 = some (.agg #[.int .u64 0, .int .i64 0, .slice none 0 0]) := by kernel_rfl
theorem inf432 : ∃ i, Tryz.prog.info? 432 = some i ∧ i.zero = some (.agg #[.int .u64 0, .int .i64 0, .slice none 0 0]) ∧ i.size = 3 ∧ i.bytes = 40 := by
  have h : (Tryz.prog.info? 432).map (fun i => (i.zero, i.size, i.bytes)) = some (some (.agg #[.int .u64 0, .int .i64 0, .slice none 0 0]), 3, 40) := by kernel_rfl
  obtain ⟨i, h1, h2⟩ := Option.map_eq_some_iff.1 h
  simp only [Prod.mk.injEq] at h2
  exact ⟨i, h1, h2.1, h2.2.1, h2.2.2⟩
theorem st432 (H : AHeap) (id off : Nat) (x : Value) : astoreT Tryz.prog H 432 (.pointer (some ⟨id, off, none⟩)) x = if x.cells.size = 3 ∧ x.cells.toList.all oneCell = true then ((H[id]?).bind (rowStore off x.cells.toList)).map fun o => H.set id o else none := astore_rule sz432 H id off x
theorem fa432_0 (id off : Nat) : afieldAddr Tryz.prog 432 (.pointer (some ⟨id, off, none⟩)) 0 = some (.pointer (some ⟨id, off + 0, none⟩)) := afieldAddr_at (n := 0) (f := (fieldT Tryz.prog 432 0).getD default) (by kernel_rfl) (by kernel_rfl) (by kernel_rfl) id off
theorem fl432_0 (cs : List Value) : afield Tryz.prog 432 (.agg cs.toArray) 0 = cs[0]? := afield_one (f := (fieldT Tryz.prog 432 0).getD default) (by kernel_rfl) (by kernel_rfl) (by kernel_rfl) cs
theorem fa432_1 (id off : Nat) : afieldAddr Tryz.prog 432 (.pointer (some ⟨id, off, none⟩)) 1 = some (.pointer (some ⟨id, off + 1, none⟩)) := afieldAddr_at (n := 0) (f := (fieldT Tryz.prog 432 1).getD default) (by kernel_rfl) (by kernel_rfl) (by kernel_rfl) id off
theorem fl432_1 (cs : List Value) : afield Tryz.prog 432 (.agg cs.toArray) 1 = cs[1]? := afield_one (f := (fieldT Tryz.prog 432 1).getD default) (by kernel_rfl) (by kernel_rfl) (by kernel_rfl) cs
theorem fa432_2 (id off : Nat) : afieldAddr Tryz.prog 432 (.pointer (some ⟨id, off, none⟩)) 2 = some (.pointer (some ⟨id, off + 2, none⟩)) := afieldAddr_at (n := 0) (f := (fieldT Tryz.prog 432 2).getD default) (by kernel_rfl) (by kernel_rfl) (by kernel_rfl) id off
theorem fl432_2 (cs : List Value) : afield Tryz.prog 432 (.agg cs.toArray) 2 = cs[2]? := afield_one (f := (fieldT Tryz.prog 432 2).getD default) (by kernel_rfl) (by kernel_rfl) (by kernel_rfl) cs
end Go.Proofs.YtcjeoljkbacdcaaGreatDoor
