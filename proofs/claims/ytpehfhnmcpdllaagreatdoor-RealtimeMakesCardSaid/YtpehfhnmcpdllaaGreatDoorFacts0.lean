/-
  The seat's types, as walks ask for them: written by program (gen/seat.py).
-/
import Derived.Test.YtpehfhnmcpdllaaGreatDoorAwMore
import Derived.Test.YtpehfhnmcpdllaaGreatDoorAwLoop
import Derived.Test.YtpehfhnmcpdllaaGreatDoorProg
set_option linter.unusedVariables false
set_option linter.unusedSimpArgs false
namespace Go.Proofs.YtpehfhnmcpdllaaGreatDoor
open Go Go.AW
set_option linter.unusedSimpArgs false
theorem mixed : Tryz.prog.follows .mixedOrders = true := by kernel_rfl
theorem sz2 : szT Tryz.prog 2 = some 1 := by kernel_rfl
theorem ag2 : aggT Tryz.prog 2 = some false := by kernel_rfl
theorem ze2 : zeroT Tryz.prog 2 = some (.int .i64 0) := by kernel_rfl
theorem pz2 : plainV 100 (.int .i64 0) = true := by kernel_rfl
theorem inf2 : ∃ i, Tryz.prog.info? 2 = some i ∧ i.zero = some (.int .i64 0) ∧ i.size = 1 ∧ i.bytes = 8 := by
  have h : (Tryz.prog.info? 2).map (fun i => (i.zero, i.size, i.bytes)) = some (some (.int .i64 0), 1, 8) := by kernel_rfl
  obtain ⟨i, h1, h2⟩ := Option.map_eq_some_iff.1 h
  simp only [Prod.mk.injEq] at h2
  exact ⟨i, h1, h2.1, h2.2.1, h2.2.2⟩
theorem st2 (H : AHeap) (id off : Nat) (x : Value) : astoreT Tryz.prog H 2 (.pointer (some ⟨id, off, none⟩)) x = if x.cells.size = 1 ∧ x.cells.toList.all oneCell = true then ((H[id]?).bind (rowStore off x.cells.toList)).map fun o => H.set id o else none := astore_rule sz2 H id off x
theorem kd2 : kindT Tryz.prog 2 = .int .i64 := by kernel_rfl
theorem sz3 : szT Tryz.prog 3 = some 1 := by kernel_rfl
theorem ag3 : aggT Tryz.prog 3 = some false := by kernel_rfl
theorem ze3 : zeroT Tryz.prog 3 = some (.int .i64 0) := by kernel_rfl
theorem inf3 : ∃ i, Tryz.prog.info? 3 = some i ∧ i.zero = some (.int .i64 0) ∧ i.size = 1 ∧ i.bytes = 8 := by
  have h : (Tryz.prog.info? 3).map (fun i => (i.zero, i.size, i.bytes)) = some (some (.int .i64 0), 1, 8) := by kernel_rfl
  obtain ⟨i, h1, h2⟩ := Option.map_eq_some_iff.1 h
  simp only [Prod.mk.injEq] at h2
  exact ⟨i, h1, h2.1, h2.2.1, h2.2.2⟩
theorem st3 (H : AHeap) (id off : Nat) (x : Value) : astoreT Tryz.prog H 3 (.pointer (some ⟨id, off, none⟩)) x = if x.cells.size = 1 ∧ x.cells.toList.all oneCell = true then ((H[id]?).bind (rowStore off x.cells.toList)).map fun o => H.set id o else none := astore_rule sz3 H id off x
theorem kd3 : kindT Tryz.prog 3 = .int .i64 := by kernel_rfl
theorem sz4 : szT Tryz.prog 4 = some 1 := by kernel_rfl
theorem ag4 : aggT Tryz.prog 4 = some false := by kernel_rfl
theorem ze4 : zeroT Tryz.prog 4 = some (.bool false) := by kernel_rfl
theorem pz4 : plainV 100 (.bool false) = true := by kernel_rfl
theorem inf4 : ∃ i, Tryz.prog.info? 4 = some i ∧ i.zero = some (.bool false) ∧ i.size = 1 ∧ i.bytes = 1 := by
  have h : (Tryz.prog.info? 4).map (fun i => (i.zero, i.size, i.bytes)) = some (some (.bool false), 1, 1) := by kernel_rfl
  obtain ⟨i, h1, h2⟩ := Option.map_eq_some_iff.1 h
  simp only [Prod.mk.injEq] at h2
  exact ⟨i, h1, h2.1, h2.2.1, h2.2.2⟩
theorem st4 (H : AHeap) (id off : Nat) (x : Value) : astoreT Tryz.prog H 4 (.pointer (some ⟨id, off, none⟩)) x = if x.cells.size = 1 ∧ x.cells.toList.all oneCell = true then ((H[id]?).bind (rowStore off x.cells.toList)).map fun o => H.set id o else none := astore_rule sz4 H id off x
theorem en4 (H : AHeap) (xo yo : Operand) (a b : Bool) : abin Tryz.prog H .eql 4 xo yo (.bool a) (.bool b) = some (.bool (a == b)) := abin_eq_bool (by kernel_rfl) H xo yo a b
theorem nn4 (H : AHeap) (xo yo : Operand) (a b : Bool) : abin Tryz.prog H .neq 4 xo yo (.bool a) (.bool b) = some (.bool !(a == b)) := abin_ne_bool (by kernel_rfl) H xo yo a b
theorem sz5 : szT Tryz.prog 5 = some 1 := by kernel_rfl
theorem ag5 : aggT Tryz.prog 5 = some false := by kernel_rfl
theorem ze5 : zeroT Tryz.prog 5 = some (.int .u8 0) := by kernel_rfl
theorem pz5 : plainV 100 (.int .u8 0) = true := by kernel_rfl
theorem inf5 : ∃ i, Tryz.prog.info? 5 = some i ∧ i.zero = some (.int .u8 0) ∧ i.size = 1 ∧ i.bytes = 1 := by
  have h : (Tryz.prog.info? 5).map (fun i => (i.zero, i.size, i.bytes)) = some (some (.int .u8 0), 1, 1) := by kernel_rfl
  obtain ⟨i, h1, h2⟩ := Option.map_eq_some_iff.1 h
  simp only [Prod.mk.injEq] at h2
  exact ⟨i, h1, h2.1, h2.2.1, h2.2.2⟩
theorem st5 (H : AHeap) (id off : Nat) (x : Value) : astoreT Tryz.prog H 5 (.pointer (some ⟨id, off, none⟩)) x = if x.cells.size = 1 ∧ x.cells.toList.all oneCell = true then ((H[id]?).bind (rowStore off x.cells.toList)).map fun o => H.set id o else none := astore_rule sz5 H id off x
theorem kd5 : kindT Tryz.prog 5 = .int .u8 := by kernel_rfl
theorem sz6 : szT Tryz.prog 6 = some 1 := by kernel_rfl
theorem ag6 : aggT Tryz.prog 6 = some false := by kernel_rfl
theorem ze6 : zeroT Tryz.prog 6 = some (.int .u8 0) := by kernel_rfl
theorem inf6 : ∃ i, Tryz.prog.info? 6 = some i ∧ i.zero = some (.int .u8 0) ∧ i.size = 1 ∧ i.bytes = 1 := by
  have h : (Tryz.prog.info? 6).map (fun i => (i.zero, i.size, i.bytes)) = some (some (.int .u8 0), 1, 1) := by kernel_rfl
  obtain ⟨i, h1, h2⟩ := Option.map_eq_some_iff.1 h
  simp only [Prod.mk.injEq] at h2
  exact ⟨i, h1, h2.1, h2.2.1, h2.2.2⟩
theorem st6 (H : AHeap) (id off : Nat) (x : Value) : astoreT Tryz.prog H 6 (.pointer (some ⟨id, off, none⟩)) x = if x.cells.size = 1 ∧ x.cells.toList.all oneCell = true then ((H[id]?).bind (rowStore off x.cells.toList)).map fun o => H.set id o else none := astore_rule sz6 H id off x
theorem kd6 : kindT Tryz.prog 6 = .int .u8 := by kernel_rfl
theorem sz7 : szT Tryz.prog 7 = some 4 := by kernel_rfl
theorem ag7 : aggT Tryz.prog 7 = some true := by kernel_rfl
theorem ze7 : zeroT Tryz.prog 7 = some (.agg #[.int .i64 0, .int .i64 0, .bool false, .int .u8 0]) := by kernel_rfl
theorem pz7 : plainV 100 (.agg #[.int .i64 0, .int .i64 0, .bool false, .int .u8 0]) = true := by kernel_rfl
theorem inf7 : ∃ i, Tryz.prog.info? 7 = some i ∧ i.zero = some (.agg #[.int .i64 0, .int .i64 0, .bool false, .int .u8 0]) ∧ i.size = 4 ∧ i.bytes = 24 := by
  have h : (Tryz.prog.info? 7).map (fun i => (i.zero, i.size, i.bytes)) = some (some (.agg #[.int .i64 0, .int .i64 0, .bool false, .int .u8 0]), 4, 24) := by kernel_rfl
  obtain ⟨i, h1, h2⟩ := Option.map_eq_some_iff.1 h
  simp only [Prod.mk.injEq] at h2
  exact ⟨i, h1, h2.1, h2.2.1, h2.2.2⟩
theorem st7 (H : AHeap) (id off : Nat) (x : Value) : astoreT Tryz.prog H 7 (.pointer (some ⟨id, off, none⟩)) x = if x.cells.size = 4 ∧ x.cells.toList.all oneCell = true then ((H[id]?).bind (rowStore off x.cells.toList)).map fun o => H.set id o else none := astore_rule sz7 H id off x
theorem fa7_0 (id off : Nat) : afieldAddr Tryz.prog 7 (.pointer (some ⟨id, off, none⟩)) 0 = some (.pointer (some ⟨id, off + 0, none⟩)) := afieldAddr_at (n := 0) (f := (fieldT Tryz.prog 7 0).getD default) (by kernel_rfl) (by kernel_rfl) (by kernel_rfl) id off
theorem fl7_0 (cs : List Value) : afield Tryz.prog 7 (.agg cs.toArray) 0 = cs[0]? := afield_one (f := (fieldT Tryz.prog 7 0).getD default) (by kernel_rfl) (by kernel_rfl) (by kernel_rfl) cs
theorem fa7_1 (id off : Nat) : afieldAddr Tryz.prog 7 (.pointer (some ⟨id, off, none⟩)) 1 = some (.pointer (some ⟨id, off + 1, none⟩)) := afieldAddr_at (n := 0) (f := (fieldT Tryz.prog 7 1).getD default) (by kernel_rfl) (by kernel_rfl) (by kernel_rfl) id off
theorem fl7_1 (cs : List Value) : afield Tryz.prog 7 (.agg cs.toArray) 1 = cs[1]? := afield_one (f := (fieldT Tryz.prog 7 1).getD default) (by kernel_rfl) (by kernel_rfl) (by kernel_rfl) cs
theorem fa7_2 (id off : Nat) : afieldAddr Tryz.prog 7 (.pointer (some ⟨id, off, none⟩)) 2 = some (.pointer (some ⟨id, off + 2, none⟩)) := afieldAddr_at (n := 0) (f := (fieldT Tryz.prog 7 2).getD default) (by kernel_rfl) (by kernel_rfl) (by kernel_rfl) id off
theorem fl7_2 (cs : List Value) : afield Tryz.prog 7 (.agg cs.toArray) 2 = cs[2]? := afield_one (f := (fieldT Tryz.prog 7 2).getD default) (by kernel_rfl) (by kernel_rfl) (by kernel_rfl) cs
theorem fa7_3 (id off : Nat) : afieldAddr Tryz.prog 7 (.pointer (some ⟨id, off, none⟩)) 3 = some (.pointer (some ⟨id, off + 3, none⟩)) := afieldAddr_at (n := 0) (f := (fieldT Tryz.prog 7 3).getD default) (by kernel_rfl) (by kernel_rfl) (by kernel_rfl) id off
theorem fl7_3 (cs : List Value) : afield Tryz.prog 7 (.agg cs.toArray) 3 = cs[3]? := afield_one (f := (fieldT Tryz.prog 7 3).getD default) (by kernel_rfl) (by kernel_rfl) (by kernel_rfl) cs
theorem sz8 : szT Tryz.prog 8 = some 4 := by kernel_rfl
theorem ag8 : aggT Tryz.prog 8 = some true := by kernel_rfl
theorem ze8 : zeroT Tryz.prog 8 = some (.agg #[.int .i64 0, .int .i64 0, .bool false, .int .u8 0]) := by kernel_rfl
theorem inf8 : ∃ i, Tryz.prog.info? 8 = some i ∧ i.zero = some (.agg #[.int .i64 0, .int .i64 0, .bool false, .int .u8 0]) ∧ i.size = 4 ∧ i.bytes = 24 := by
  have h : (Tryz.prog.info? 8).map (fun i => (i.zero, i.size, i.bytes)) = some (some (.agg #[.int .i64 0, .int .i64 0, .bool false, .int .u8 0]), 4, 24) := by kernel_rfl
  obtain ⟨i, h1, h2⟩ := Option.map_eq_some_iff.1 h
  simp only [Prod.mk.injEq] at h2
  exact ⟨i, h1, h2.1, h2.2.1, h2.2.2⟩
theorem st8 (H : AHeap) (id off : Nat) (x : Value) : astoreT Tryz.prog H 8 (.pointer (some ⟨id, off, none⟩)) x = if x.cells.size = 4 ∧ x.cells.toList.all oneCell = true then ((H[id]?).bind (rowStore off x.cells.toList)).map fun o => H.set id o else none := astore_rule sz8 H id off x
theorem fa8_0 (id off : Nat) : afieldAddr Tryz.prog 8 (.pointer (some ⟨id, off, none⟩)) 0 = some (.pointer (some ⟨id, off + 0, none⟩)) := afieldAddr_at (n := 0) (f := (fieldT Tryz.prog 8 0).getD default) (by kernel_rfl) (by kernel_rfl) (by kernel_rfl) id off
theorem fl8_0 (cs : List Value) : afield Tryz.prog 8 (.agg cs.toArray) 0 = cs[0]? := afield_one (f := (fieldT Tryz.prog 8 0).getD default) (by kernel_rfl) (by kernel_rfl) (by kernel_rfl) cs
theorem fa8_1 (id off : Nat) : afieldAddr Tryz.prog 8 (.pointer (some ⟨id, off, none⟩)) 1 = some (.pointer (some ⟨id, off + 1, none⟩)) := afieldAddr_at (n := 0) (f := (fieldT Tryz.prog 8 1).getD default) (by kernel_rfl) (by kernel_rfl) (by kernel_rfl) id off
theorem fl8_1 (cs : List Value) : afield Tryz.prog 8 (.agg cs.toArray) 1 = cs[1]? := afield_one (f := (fieldT Tryz.prog 8 1).getD default) (by kernel_rfl) (by kernel_rfl) (by kernel_rfl) cs
theorem fa8_2 (id off : Nat) : afieldAddr Tryz.prog 8 (.pointer (some ⟨id, off, none⟩)) 2 = some (.pointer (some ⟨id, off + 2, none⟩)) := afieldAddr_at (n := 0) (f := (fieldT Tryz.prog 8 2).getD default) (by kernel_rfl) (by kernel_rfl) (by kernel_rfl) id off
theorem fl8_2 (cs : List Value) : afield Tryz.prog 8 (.agg cs.toArray) 2 = cs[2]? := afield_one (f := (fieldT Tryz.prog 8 2).getD default) (by kernel_rfl) (by kernel_rfl) (by kernel_rfl) cs
theorem fa8_3 (id off : Nat) : afieldAddr Tryz.prog 8 (.pointer (some ⟨id, off, none⟩)) 3 = some (.pointer (some ⟨id, off + 3, none⟩)) := afieldAddr_at (n := 0) (f := (fieldT Tryz.prog 8 3).getD default) (by kernel_rfl) (by kernel_rfl) (by kernel_rfl) id off
theorem fl8_3 (cs : List Value) : afield Tryz.prog 8 (.agg cs.toArray) 3 = cs[3]? := afield_one (f := (fieldT Tryz.prog 8 3).getD default) (by kernel_rfl) (by kernel_rfl) (by kernel_rfl) cs
theorem sz9 : szT Tryz.prog 9 = some 1 := by kernel_rfl
theorem ag9 : aggT Tryz.prog 9 = some false := by kernel_rfl
theorem ze9 : zeroT Tryz.prog 9 = some (.string ByteArray.empty) := by kernel_rfl
theorem pz9 : plainV 100 (.string ByteArray.empty) = true := by kernel_rfl
theorem inf9 : ∃ i, Tryz.prog.info? 9 = some i ∧ i.zero = some (.string ByteArray.empty) ∧ i.size = 1 ∧ i.bytes = 16 := by
  have h : (Tryz.prog.info? 9).map (fun i => (i.zero, i.size, i.bytes)) = some (some (.string ByteArray.empty), 1, 16) := by kernel_rfl
  obtain ⟨i, h1, h2⟩ := Option.map_eq_some_iff.1 h
  simp only [Prod.mk.injEq] at h2
  exact ⟨i, h1, h2.1, h2.2.1, h2.2.2⟩
theorem st9 (H : AHeap) (id off : Nat) (x : Value) : astoreT Tryz.prog H 9 (.pointer (some ⟨id, off, none⟩)) x = if x.cells.size = 1 ∧ x.cells.toList.all oneCell = true then ((H[id]?).bind (rowStore off x.cells.toList)).map fun o => H.set id o else none := astore_rule sz9 H id off x
theorem kd9 : kindT Tryz.prog 9 = .str := by kernel_rfl
theorem sz12 : szT Tryz.prog 12 = some 1 := by kernel_rfl
theorem ag12 : aggT Tryz.prog 12 = some false := by kernel_rfl
theorem ze12 : zeroT Tryz.prog 12 = some (.int .u64 0) := by kernel_rfl
theorem pz12 : plainV 100 (.int .u64 0) = true := by kernel_rfl
theorem inf12 : ∃ i, Tryz.prog.info? 12 = some i ∧ i.zero = some (.int .u64 0) ∧ i.size = 1 ∧ i.bytes = 8 := by
  have h : (Tryz.prog.info? 12).map (fun i => (i.zero, i.size, i.bytes)) = some (some (.int .u64 0), 1, 8) := by kernel_rfl
  obtain ⟨i, h1, h2⟩ := Option.map_eq_some_iff.1 h
  simp only [Prod.mk.injEq] at h2
  exact ⟨i, h1, h2.1, h2.2.1, h2.2.2⟩
theorem st12 (H : AHeap) (id off : Nat) (x : Value) : astoreT Tryz.prog H 12 (.pointer (some ⟨id, off, none⟩)) x = if x.cells.size = 1 ∧ x.cells.toList.all oneCell = true then ((H[id]?).bind (rowStore off x.cells.toList)).map fun o => H.set id o else none := astore_rule sz12 H id off x
theorem kd12 : kindT Tryz.prog 12 = .int .u64 := by kernel_rfl
theorem sz13 : szT Tryz.prog 13 = some 2 := by kernel_rfl
theorem ag13 : aggT Tryz.prog 13 = some true := by kernel_rfl
theorem ze13 : zeroT Tryz.prog 13 = some (.agg #[.string ByteArray.empty, .int .u64 0]) := by kernel_rfl
theorem pz13 : plainV 100 (.agg #[.string ByteArray.empty, .int .u64 0]) = true := by kernel_rfl
theorem inf13 : ∃ i, Tryz.prog.info? 13 = some i ∧ i.zero = some (.agg #[.string ByteArray.empty, .int .u64 0]) ∧ i.size = 2 ∧ i.bytes = 24 := by
  have h : (Tryz.prog.info? 13).map (fun i => (i.zero, i.size, i.bytes)) = some (some (.agg #[.string ByteArray.empty, .int .u64 0]), 2, 24) := by kernel_rfl
  obtain ⟨i, h1, h2⟩ := Option.map_eq_some_iff.1 h
  simp only [Prod.mk.injEq] at h2
  exact ⟨i, h1, h2.1, h2.2.1, h2.2.2⟩
theorem st13 (H : AHeap) (id off : Nat) (x : Value) : astoreT Tryz.prog H 13 (.pointer (some ⟨id, off, none⟩)) x = if x.cells.size = 2 ∧ x.cells.toList.all oneCell = true then ((H[id]?).bind (rowStore off x.cells.toList)).map fun o => H.set id o else none := astore_rule sz13 H id off x
theorem fa13_0 (id off : Nat) : afieldAddr Tryz.prog 13 (.pointer (some ⟨id, off, none⟩)) 0 = some (.pointer (some ⟨id, off + 0, none⟩)) := afieldAddr_at (n := 0) (f := (fieldT Tryz.prog 13 0).getD default) (by kernel_rfl) (by kernel_rfl) (by kernel_rfl) id off
theorem fl13_0 (cs : List Value) : afield Tryz.prog 13 (.agg cs.toArray) 0 = cs[0]? := afield_one (f := (fieldT Tryz.prog 13 0).getD default) (by kernel_rfl) (by kernel_rfl) (by kernel_rfl) cs
theorem fa13_1 (id off : Nat) : afieldAddr Tryz.prog 13 (.pointer (some ⟨id, off, none⟩)) 1 = some (.pointer (some ⟨id, off + 1, none⟩)) := afieldAddr_at (n := 0) (f := (fieldT Tryz.prog 13 1).getD default) (by kernel_rfl) (by kernel_rfl) (by kernel_rfl) id off
theorem fl13_1 (cs : List Value) : afield Tryz.prog 13 (.agg cs.toArray) 1 = cs[1]? := afield_one (f := (fieldT Tryz.prog 13 1).getD default) (by kernel_rfl) (by kernel_rfl) (by kernel_rfl) cs
theorem sz22 : szT Tryz.prog 22 = some 2 := by kernel_rfl
theorem ag22 : aggT Tryz.prog 22 = some true := by kernel_rfl
theorem ze22 : zeroT Tryz.prog 22 = some (.agg #[.int .i64 0, .int .i64 0]) := by kernel_rfl
theorem pz22 : plainV 100 (.agg #[.int .i64 0, .int .i64 0]) = true := by kernel_rfl
theorem inf22 : ∃ i, Tryz.prog.info? 22 = some i ∧ i.zero = some (.agg #[.int .i64 0, .int .i64 0]) ∧ i.size = 2 ∧ i.bytes = 16 := by
  have h : (Tryz.prog.info? 22).map (fun i => (i.zero, i.size, i.bytes)) = some (some (.agg #[.int .i64 0, .int .i64 0]), 2, 16) := by kernel_rfl
  obtain ⟨i, h1, h2⟩ := Option.map_eq_some_iff.1 h
  simp only [Prod.mk.injEq] at h2
  exact ⟨i, h1, h2.1, h2.2.1, h2.2.2⟩
theorem st22 (H : AHeap) (id off : Nat) (x : Value) : astoreT Tryz.prog H 22 (.pointer (some ⟨id, off, none⟩)) x = if x.cells.size = 2 ∧ x.cells.toList.all oneCell = true then ((H[id]?).bind (rowStore off x.cells.toList)).map fun o => H.set id o else none := astore_rule sz22 H id off x
theorem fa22_0 (id off : Nat) : afieldAddr Tryz.prog 22 (.pointer (some ⟨id, off, none⟩)) 0 = some (.pointer (some ⟨id, off + 0, none⟩)) := afieldAddr_at (n := 0) (f := (fieldT Tryz.prog 22 0).getD default) (by kernel_rfl) (by kernel_rfl) (by kernel_rfl) id off
theorem fl22_0 (cs : List Value) : afield Tryz.prog 22 (.agg cs.toArray) 0 = cs[0]? := afield_one (f := (fieldT Tryz.prog 22 0).getD default) (by kernel_rfl) (by kernel_rfl) (by kernel_rfl) cs
theorem fa22_1 (id off : Nat) : afieldAddr Tryz.prog 22 (.pointer (some ⟨id, off, none⟩)) 1 = some (.pointer (some ⟨id, off + 1, none⟩)) := afieldAddr_at (n := 0) (f := (fieldT Tryz.prog 22 1).getD default) (by kernel_rfl) (by kernel_rfl) (by kernel_rfl) id off
theorem fl22_1 (cs : List Value) : afield Tryz.prog 22 (.agg cs.toArray) 1 = cs[1]? := afield_one (f := (fieldT Tryz.prog 22 1).getD default) (by kernel_rfl) (by kernel_rfl) (by kernel_rfl) cs
theorem sz23 : szT Tryz.prog 23 = some 2 := by kernel_rfl
theorem ag23 : aggT Tryz.prog 23 = some true := by kernel_rfl
theorem ze23 : zeroT Tryz.prog 23 = some (.agg #[.int .i64 0, .int .i64 0]) := by kernel_rfl
theorem inf23 : ∃ i, Tryz.prog.info? 23 = some i ∧ i.zero = some (.agg #[.int .i64 0, .int .i64 0]) ∧ i.size = 2 ∧ i.bytes = 16 := by
  have h : (Tryz.prog.info? 23).map (fun i => (i.zero, i.size, i.bytes)) = some (some (.agg #[.int .i64 0, .int .i64 0]), 2, 16) := by kernel_rfl
  obtain ⟨i, h1, h2⟩ := Option.map_eq_some_iff.1 h
  simp only [Prod.mk.injEq] at h2
  exact ⟨i, h1, h2.1, h2.2.1, h2.2.2⟩
theorem st23 (H : AHeap) (id off : Nat) (x : Value) : astoreT Tryz.prog H 23 (.pointer (some ⟨id, off, none⟩)) x = if x.cells.size = 2 ∧ x.cells.toList.all oneCell = true then ((H[id]?).bind (rowStore off x.cells.toList)).map fun o => H.set id o else none := astore_rule sz23 H id off x
theorem fa23_0 (id off : Nat) : afieldAddr Tryz.prog 23 (.pointer (some ⟨id, off, none⟩)) 0 = some (.pointer (some ⟨id, off + 0, none⟩)) := afieldAddr_at (n := 0) (f := (fieldT Tryz.prog 23 0).getD default) (by kernel_rfl) (by kernel_rfl) (by kernel_rfl) id off
theorem fl23_0 (cs : List Value) : afield Tryz.prog 23 (.agg cs.toArray) 0 = cs[0]? := afield_one (f := (fieldT Tryz.prog 23 0).getD default) (by kernel_rfl) (by kernel_rfl) (by kernel_rfl) cs
theorem fa23_1 (id off : Nat) : afieldAddr Tryz.prog 23 (.pointer (some ⟨id, off, none⟩)) 1 = some (.pointer (some ⟨id, off + 1, none⟩)) := afieldAddr_at (n := 0) (f := (fieldT Tryz.prog 23 1).getD default) (by kernel_rfl) (by kernel_rfl) (by kernel_rfl) id off
theorem fl23_1 (cs : List Value) : afield Tryz.prog 23 (.agg cs.toArray) 1 = cs[1]? := afield_one (f := (fieldT Tryz.prog 23 1).getD default) (by kernel_rfl) (by kernel_rfl) (by kernel_rfl) cs
theorem sz24 : szT Tryz.prog 24 = some 10 := by kernel_rfl
theorem ag24 : aggT Tryz.prog 24 = some true := by kernel_rfl
theorem ze24 : zeroT Tryz.prog 24 = some (.agg #[.int .i64 0, .int .i64 0, .int .i64 0, .int .i64 0, .int .i64 0, .int .i64 0, .int .i64 0, .int .i64 0, .int .i64 0, .int .i64 0]) := by kernel_rfl
theorem pz24 : plainV 100 (.agg #[.int .i64 0, .int .i64 0, .int .i64 0, .int .i64 0, .int .i64 0, .int .i64 0, .int .i64 0, .int .i64 0, .int .i64 0, .int .i64 0]) = true := by kernel_rfl
theorem inf24 : ∃ i, Tryz.prog.info? 24 = some i ∧ i.zero = some (.agg #[.int .i64 0, .int .i64 0, .int .i64 0, .int .i64 0, .int .i64 0, .int .i64 0, .int .i64 0, .int .i64 0, .int .i64 0, .int .i64 0]) ∧ i.size = 10 ∧ i.bytes = 80 := by
  have h : (Tryz.prog.info? 24).map (fun i => (i.zero, i.size, i.bytes)) = some (some (.agg #[.int .i64 0, .int .i64 0, .int .i64 0, .int .i64 0, .int .i64 0, .int .i64 0, .int .i64 0, .int .i64 0, .int .i64 0, .int .i64 0]), 10, 80) := by kernel_rfl
  obtain ⟨i, h1, h2⟩ := Option.map_eq_some_iff.1 h
  simp only [Prod.mk.injEq] at h2
  exact ⟨i, h1, h2.1, h2.2.1, h2.2.2⟩
theorem st24 (H : AHeap) (id off : Nat) (x : Value) : astoreT Tryz.prog H 24 (.pointer (some ⟨id, off, none⟩)) x = if x.cells.size = 10 ∧ x.cells.toList.all oneCell = true then ((H[id]?).bind (rowStore off x.cells.toList)).map fun o => H.set id o else none := astore_rule sz24 H id off x
theorem fa24_0 (id off : Nat) : afieldAddr Tryz.prog 24 (.pointer (some ⟨id, off, none⟩)) 0 = some (.pointer (some ⟨id, off + 0, none⟩)) := afieldAddr_at (n := 1) (f := (fieldT Tryz.prog 24 0).getD default) (by kernel_rfl) (by kernel_rfl) (by kernel_rfl) id off
theorem fl24_0 (cs : List Value) : afield Tryz.prog 24 (.agg cs.toArray) 0 = some (.agg ((cs.drop 0).take 2).toArray) := afield_agg (f := (fieldT Tryz.prog 24 0).getD default) (by kernel_rfl) (by kernel_rfl) (by kernel_rfl) (by kernel_rfl) cs
theorem fa24_1 (id off : Nat) : afieldAddr Tryz.prog 24 (.pointer (some ⟨id, off, none⟩)) 1 = some (.pointer (some ⟨id, off + 2, none⟩)) := afieldAddr_at (n := 0) (f := (fieldT Tryz.prog 24 1).getD default) (by kernel_rfl) (by kernel_rfl) (by kernel_rfl) id off
theorem fl24_1 (cs : List Value) : afield Tryz.prog 24 (.agg cs.toArray) 1 = cs[2]? := afield_one (f := (fieldT Tryz.prog 24 1).getD default) (by kernel_rfl) (by kernel_rfl) (by kernel_rfl) cs
theorem fa24_2 (id off : Nat) : afieldAddr Tryz.prog 24 (.pointer (some ⟨id, off, none⟩)) 2 = some (.pointer (some ⟨id, off + 3, none⟩)) := afieldAddr_at (n := 0) (f := (fieldT Tryz.prog 24 2).getD default) (by kernel_rfl) (by kernel_rfl) (by kernel_rfl) id off
theorem fl24_2 (cs : List Value) : afield Tryz.prog 24 (.agg cs.toArray) 2 = cs[3]? := afield_one (f := (fieldT Tryz.prog 24 2).getD default) (by kernel_rfl) (by kernel_rfl) (by kernel_rfl) cs
theorem fa24_3 (id off : Nat) : afieldAddr Tryz.prog 24 (.pointer (some ⟨id, off, none⟩)) 3 = some (.pointer (some ⟨id, off + 4, none⟩)) := afieldAddr_at (n := 0) (f := (fieldT Tryz.prog 24 3).getD default) (by kernel_rfl) (by kernel_rfl) (by kernel_rfl) id off
theorem fl24_3 (cs : List Value) : afield Tryz.prog 24 (.agg cs.toArray) 3 = cs[4]? := afield_one (f := (fieldT Tryz.prog 24 3).getD default) (by kernel_rfl) (by kernel_rfl) (by kernel_rfl) cs
theorem fa24_4 (id off : Nat) : afieldAddr Tryz.prog 24 (.pointer (some ⟨id, off, none⟩)) 4 = some (.pointer (some ⟨id, off + 5, none⟩)) := afieldAddr_at (n := 0) (f := (fieldT Tryz.prog 24 4).getD default) (by kernel_rfl) (by kernel_rfl) (by kernel_rfl) id off
theorem fl24_4 (cs : List Value) : afield Tryz.prog 24 (.agg cs.toArray) 4 = cs[5]? := afield_one (f := (fieldT Tryz.prog 24 4).getD default) (by kernel_rfl) (by kernel_rfl) (by kernel_rfl) cs
theorem fa24_5 (id off : Nat) : afieldAddr Tryz.prog 24 (.pointer (some ⟨id, off, none⟩)) 5 = some (.pointer (some ⟨id, off + 6, none⟩)) := afieldAddr_at (n := 0) (f := (fieldT Tryz.prog 24 5).getD default) (by kernel_rfl) (by kernel_rfl) (by kernel_rfl) id off
theorem fl24_5 (cs : List Value) : afield Tryz.prog 24 (.agg cs.toArray) 5 = cs[6]? := afield_one (f := (fieldT Tryz.prog 24 5).getD default) (by kernel_rfl) (by kernel_rfl) (by kernel_rfl) cs
theorem fa24_6 (id off : Nat) : afieldAddr Tryz.prog 24 (.pointer (some ⟨id, off, none⟩)) 6 = some (.pointer (some ⟨id, off + 7, none⟩)) := afieldAddr_at (n := 0) (f := (fieldT Tryz.prog 24 6).getD default) (by kernel_rfl) (by kernel_rfl) (by kernel_rfl) id off
theorem fl24_6 (cs : List Value) : afield Tryz.prog 24 (.agg cs.toArray) 6 = cs[7]? := afield_one (f := (fieldT Tryz.prog 24 6).getD default) (by kernel_rfl) (by kernel_rfl) (by kernel_rfl) cs
theorem fa24_7 (id off : Nat) : afieldAddr Tryz.prog 24 (.pointer (some ⟨id, off, none⟩)) 7 = some (.pointer (some ⟨id, off + 8, none⟩)) := afieldAddr_at (n := 0) (f := (fieldT Tryz.prog 24 7).getD default) (by kernel_rfl) (by kernel_rfl) (by kernel_rfl) id off
theorem fl24_7 (cs : List Value) : afield Tryz.prog 24 (.agg cs.toArray) 7 = cs[8]? := afield_one (f := (fieldT Tryz.prog 24 7).getD default) (by kernel_rfl) (by kernel_rfl) (by kernel_rfl) cs
theorem fa24_8 (id off : Nat) : afieldAddr Tryz.prog 24 (.pointer (some ⟨id, off, none⟩)) 8 = some (.pointer (some ⟨id, off + 9, none⟩)) := afieldAddr_at (n := 0) (f := (fieldT Tryz.prog 24 8).getD default) (by kernel_rfl) (by kernel_rfl) (by kernel_rfl) id off
theorem fl24_8 (cs : List Value) : afield Tryz.prog 24 (.agg cs.toArray) 8 = cs[9]? := afield_one (f := (fieldT Tryz.prog 24 8).getD default) (by kernel_rfl) (by kernel_rfl) (by kernel_rfl) cs
theorem sz25 : szT Tryz.prog 25 = some 10 := by kernel_rfl
theorem ag25 : aggT Tryz.prog 25 = some true := by kernel_rfl
theorem ze25 : zeroT Tryz.prog 25 = some (.agg #[.int .i64 0, .int .i64 0, .int .i64 0, .int .i64 0, .int .i64 0, .int .i64 0, .int .i64 0, .int .i64 0, .int .i64 0, .int .i64 0]) := by kernel_rfl
theorem inf25 : ∃ i, Tryz.prog.info? 25 = some i ∧ i.zero = some (.agg #[.int .i64 0, .int .i64 0, .int .i64 0, .int .i64 0, .int .i64 0, .int .i64 0, .int .i64 0, .int .i64 0, .int .i64 0, .int .i64 0]) ∧ i.size = 10 ∧ i.bytes = 80 := by
  have h : (Tryz.prog.info? 25).map (fun i => (i.zero, i.size, i.bytes)) = some (some (.agg #[.int .i64 0, .int .i64 0, .int .i64 0, .int .i64 0, .int .i64 0, .int .i64 0, .int .i64 0, .int .i64 0, .int .i64 0, .int .i64 0]), 10, 80) := by kernel_rfl
  obtain ⟨i, h1, h2⟩ := Option.map_eq_some_iff.1 h
  simp only [Prod.mk.injEq] at h2
  exact ⟨i, h1, h2.1, h2.2.1, h2.2.2⟩
theorem st25 (H : AHeap) (id off : Nat) (x : Value) : astoreT Tryz.prog H 25 (.pointer (some ⟨id, off, none⟩)) x = if x.cells.size = 10 ∧ x.cells.toList.all oneCell = true then ((H[id]?).bind (rowStore off x.cells.toList)).map fun o => H.set id o else none := astore_rule sz25 H id off x
theorem fa25_0 (id off : Nat) : afieldAddr Tryz.prog 25 (.pointer (some ⟨id, off, none⟩)) 0 = some (.pointer (some ⟨id, off + 0, none⟩)) := afieldAddr_at (n := 1) (f := (fieldT Tryz.prog 25 0).getD default) (by kernel_rfl) (by kernel_rfl) (by kernel_rfl) id off
theorem fl25_0 (cs : List Value) : afield Tryz.prog 25 (.agg cs.toArray) 0 = some (.agg ((cs.drop 0).take 2).toArray) := afield_agg (f := (fieldT Tryz.prog 25 0).getD default) (by kernel_rfl) (by kernel_rfl) (by kernel_rfl) (by kernel_rfl) cs
theorem fa25_1 (id off : Nat) : afieldAddr Tryz.prog 25 (.pointer (some ⟨id, off, none⟩)) 1 = some (.pointer (some ⟨id, off + 2, none⟩)) := afieldAddr_at (n := 0) (f := (fieldT Tryz.prog 25 1).getD default) (by kernel_rfl) (by kernel_rfl) (by kernel_rfl) id off
theorem fl25_1 (cs : List Value) : afield Tryz.prog 25 (.agg cs.toArray) 1 = cs[2]? := afield_one (f := (fieldT Tryz.prog 25 1).getD default) (by kernel_rfl) (by kernel_rfl) (by kernel_rfl) cs
theorem fa25_2 (id off : Nat) : afieldAddr Tryz.prog 25 (.pointer (some ⟨id, off, none⟩)) 2 = some (.pointer (some ⟨id, off + 3, none⟩)) := afieldAddr_at (n := 0) (f := (fieldT Tryz.prog 25 2).getD default) (by kernel_rfl) (by kernel_rfl) (by kernel_rfl) id off
theorem fl25_2 (cs : List Value) : afield Tryz.prog 25 (.agg cs.toArray) 2 = cs[3]? := afield_one (f := (fieldT Tryz.prog 25 2).getD default) (by kernel_rfl) (by kernel_rfl) (by kernel_rfl) cs
theorem fa25_3 (id off : Nat) : afieldAddr Tryz.prog 25 (.pointer (some ⟨id, off, none⟩)) 3 = some (.pointer (some ⟨id, off + 4, none⟩)) := afieldAddr_at (n := 0) (f := (fieldT Tryz.prog 25 3).getD default) (by kernel_rfl) (by kernel_rfl) (by kernel_rfl) id off
theorem fl25_3 (cs : List Value) : afield Tryz.prog 25 (.agg cs.toArray) 3 = cs[4]? := afield_one (f := (fieldT Tryz.prog 25 3).getD default) (by kernel_rfl) (by kernel_rfl) (by kernel_rfl) cs
theorem fa25_4 (id off : Nat) : afieldAddr Tryz.prog 25 (.pointer (some ⟨id, off, none⟩)) 4 = some (.pointer (some ⟨id, off + 5, none⟩)) := afieldAddr_at (n := 0) (f := (fieldT Tryz.prog 25 4).getD default) (by kernel_rfl) (by kernel_rfl) (by kernel_rfl) id off
theorem fl25_4 (cs : List Value) : afield Tryz.prog 25 (.agg cs.toArray) 4 = cs[5]? := afield_one (f := (fieldT Tryz.prog 25 4).getD default) (by kernel_rfl) (by kernel_rfl) (by kernel_rfl) cs
theorem fa25_5 (id off : Nat) : afieldAddr Tryz.prog 25 (.pointer (some ⟨id, off, none⟩)) 5 = some (.pointer (some ⟨id, off + 6, none⟩)) := afieldAddr_at (n := 0) (f := (fieldT Tryz.prog 25 5).getD default) (by kernel_rfl) (by kernel_rfl) (by kernel_rfl) id off
theorem fl25_5 (cs : List Value) : afield Tryz.prog 25 (.agg cs.toArray) 5 = cs[6]? := afield_one (f := (fieldT Tryz.prog 25 5).getD default) (by kernel_rfl) (by kernel_rfl) (by kernel_rfl) cs
theorem fa25_6 (id off : Nat) : afieldAddr Tryz.prog 25 (.pointer (some ⟨id, off, none⟩)) 6 = some (.pointer (some ⟨id, off + 7, none⟩)) := afieldAddr_at (n := 0) (f := (fieldT Tryz.prog 25 6).getD default) (by kernel_rfl) (by kernel_rfl) (by kernel_rfl) id off
theorem fl25_6 (cs : List Value) : afield Tryz.prog 25 (.agg cs.toArray) 6 = cs[7]? := afield_one (f := (fieldT Tryz.prog 25 6).getD default) (by kernel_rfl) (by kernel_rfl) (by kernel_rfl) cs
theorem fa25_7 (id off : Nat) : afieldAddr Tryz.prog 25 (.pointer (some ⟨id, off, none⟩)) 7 = some (.pointer (some ⟨id, off + 8, none⟩)) := afieldAddr_at (n := 0) (f := (fieldT Tryz.prog 25 7).getD default) (by kernel_rfl) (by kernel_rfl) (by kernel_rfl) id off
theorem fl25_7 (cs : List Value) : afield Tryz.prog 25 (.agg cs.toArray) 7 = cs[8]? := afield_one (f := (fieldT Tryz.prog 25 7).getD default) (by kernel_rfl) (by kernel_rfl) (by kernel_rfl) cs
theorem fa25_8 (id off : Nat) : afieldAddr Tryz.prog 25 (.pointer (some ⟨id, off, none⟩)) 8 = some (.pointer (some ⟨id, off + 9, none⟩)) := afieldAddr_at (n := 0) (f := (fieldT Tryz.prog 25 8).getD default) (by kernel_rfl) (by kernel_rfl) (by kernel_rfl) id off
theorem fl25_8 (cs : List Value) : afield Tryz.prog 25 (.agg cs.toArray) 8 = cs[9]? := afield_one (f := (fieldT Tryz.prog 25 8).getD default) (by kernel_rfl) (by kernel_rfl) (by kernel_rfl) cs
theorem sz26 : szT Tryz.prog 26 = some 1 := by kernel_rfl
theorem ag26 : aggT Tryz.prog 26 = some false := by kernel_rfl
theorem ze26 : zeroT Tryz.prog 26 = some (.slice none 0 0) := by kernel_rfl
theorem pz26 : plainV 100 (.slice none 0 0) = true := by kernel_rfl
theorem inf26 : ∃ i, Tryz.prog.info? 26 = some i ∧ i.zero = some (.slice none 0 0) ∧ i.size = 1 ∧ i.bytes = 24 := by
  have h : (Tryz.prog.info? 26).map (fun i => (i.zero, i.size, i.bytes)) = some (some (.slice none 0 0), 1, 24) := by kernel_rfl
  obtain ⟨i, h1, h2⟩ := Option.map_eq_some_iff.1 h
  simp only [Prod.mk.injEq] at h2
  exact ⟨i, h1, h2.1, h2.2.1, h2.2.2⟩
theorem st26 (H : AHeap) (id off : Nat) (x : Value) : astoreT Tryz.prog H 26 (.pointer (some ⟨id, off, none⟩)) x = if x.cells.size = 1 ∧ x.cells.toList.all oneCell = true then ((H[id]?).bind (rowStore off x.cells.toList)).map fun o => H.set id o else none := astore_rule sz26 H id off x
theorem un26 : Tryz.prog.underlying 26 = some (.slice 37) := by kernel_rfl
theorem el26 : elemT Tryz.prog 26 = some 37 := by kernel_rfl
theorem ln26 (H : AHeap) (a : Option Addr) (m c : Nat) : alen Tryz.prog H 26 (.slice a m c) = some (.int .i64 m) := alen_slice un26 H a m c
theorem cp26 (a : Addr) (m c : Nat) : acap Tryz.prog 26 (.slice (some a) m c) = if c = 0 then none else some (.int .i64 c) := acap_slice un26 a m c
theorem ix26 (id off m c : Nat) (ik : IntKind) (i : Int) : aindexAddr Tryz.prog 26 (.slice (some ⟨id, off, none⟩) m c) (.int ik i) = if 0 ≤ i ∧ i < m then some (.pointer (some ⟨id, off + i.toNat * 1, none⟩)) else none := aindexAddr_at un26 (by kernel_rfl) id off m c ik i
theorem en26 (H : AHeap) (xo yo : Operand) (a : Option Addr) (n c m q : Nat) : abin Tryz.prog H .eql 26 xo yo (.slice a n c) (.slice none m q) = some (.bool a.isNone) := abin_eq_slnil un26 H xo yo a n c m q
theorem nn26 (H : AHeap) (xo yo : Operand) (a : Option Addr) (n c m q : Nat) : abin Tryz.prog H .neq 26 xo yo (.slice a n c) (.slice none m q) = some (.bool !a.isNone) := abin_ne_slnil un26 H xo yo a n c m q
theorem sc26 (H : AHeap) (a : Option Addr) (n c : Nat) (lo hi : Option Value) : aslice Tryz.prog H 26 (.slice a n c) lo hi none = (optB hi (some n) (capOf n c)).bind fun h => (optB lo (some 0) h).bind fun l => cut H 1 a c l h := aslice_sl un26 (by kernel_rfl) H a n c lo hi
theorem sz28 : szT Tryz.prog 28 = some 1 := by kernel_rfl
theorem ag28 : aggT Tryz.prog 28 = some false := by kernel_rfl
theorem ze28 : zeroT Tryz.prog 28 = some (.pointer none) := by kernel_rfl
theorem pz28 : plainV 100 (.pointer none) = true := by kernel_rfl
theorem inf28 : ∃ i, Tryz.prog.info? 28 = some i ∧ i.zero = some (.pointer none) ∧ i.size = 1 ∧ i.bytes = 8 := by
  have h : (Tryz.prog.info? 28).map (fun i => (i.zero, i.size, i.bytes)) = some (some (.pointer none), 1, 8) := by kernel_rfl
  obtain ⟨i, h1, h2⟩ := Option.map_eq_some_iff.1 h
  simp only [Prod.mk.injEq] at h2
  exact ⟨i, h1, h2.1, h2.2.1, h2.2.2⟩
theorem st28 (H : AHeap) (id off : Nat) (x : Value) : astoreT Tryz.prog H 28 (.pointer (some ⟨id, off, none⟩)) x = if x.cells.size = 1 ∧ x.cells.toList.all oneCell = true then ((H[id]?).bind (rowStore off x.cells.toList)).map fun o => H.set id o else none := astore_rule sz28 H id off x
theorem en28 (H : AHeap) (xo yo : Operand) (a : Option Addr) : abin Tryz.prog H .eql 28 xo yo (.pointer a) (.pointer none) = some (.bool a.isNone) := abin_eq_ptrnil (e := 36) (by kernel_rfl) H xo yo a
theorem nn28 (H : AHeap) (xo yo : Operand) (a : Option Addr) : abin Tryz.prog H .neq 28 xo yo (.pointer a) (.pointer none) = some (.bool !a.isNone) := abin_ne_ptrnil (e := 36) (by kernel_rfl) H xo yo a
theorem sz30 : szT Tryz.prog 30 = some 1 := by kernel_rfl
theorem ag30 : aggT Tryz.prog 30 = some false := by kernel_rfl
theorem ze30 : zeroT Tryz.prog 30 = some (.slice none 0 0) := by kernel_rfl
theorem inf30 : ∃ i, Tryz.prog.info? 30 = some i ∧ i.zero = some (.slice none 0 0) ∧ i.size = 1 ∧ i.bytes = 24 := by
  have h : (Tryz.prog.info? 30).map (fun i => (i.zero, i.size, i.bytes)) = some (some (.slice none 0 0), 1, 24) := by kernel_rfl
  obtain ⟨i, h1, h2⟩ := Option.map_eq_some_iff.1 h
  simp only [Prod.mk.injEq] at h2
  exact ⟨i, h1, h2.1, h2.2.1, h2.2.2⟩
theorem st30 (H : AHeap) (id off : Nat) (x : Value) : astoreT Tryz.prog H 30 (.pointer (some ⟨id, off, none⟩)) x = if x.cells.size = 1 ∧ x.cells.toList.all oneCell = true then ((H[id]?).bind (rowStore off x.cells.toList)).map fun o => H.set id o else none := astore_rule sz30 H id off x
theorem un30 : Tryz.prog.underlying 30 = some (.slice 96) := by kernel_rfl
theorem el30 : elemT Tryz.prog 30 = some 96 := by kernel_rfl
theorem ln30 (H : AHeap) (a : Option Addr) (m c : Nat) : alen Tryz.prog H 30 (.slice a m c) = some (.int .i64 m) := alen_slice un30 H a m c
theorem cp30 (a : Addr) (m c : Nat) : acap Tryz.prog 30 (.slice (some a) m c) = if c = 0 then none else some (.int .i64 c) := acap_slice un30 a m c
theorem ix30 (id off m c : Nat) (ik : IntKind) (i : Int) : aindexAddr Tryz.prog 30 (.slice (some ⟨id, off, none⟩) m c) (.int ik i) = if 0 ≤ i ∧ i < m then some (.pointer (some ⟨id, off + i.toNat * 8, none⟩)) else none := aindexAddr_at un30 (by kernel_rfl) id off m c ik i
theorem en30 (H : AHeap) (xo yo : Operand) (a : Option Addr) (n c m q : Nat) : abin Tryz.prog H .eql 30 xo yo (.slice a n c) (.slice none m q) = some (.bool a.isNone) := abin_eq_slnil un30 H xo yo a n c m q
theorem nn30 (H : AHeap) (xo yo : Operand) (a : Option Addr) (n c m q : Nat) : abin Tryz.prog H .neq 30 xo yo (.slice a n c) (.slice none m q) = some (.bool !a.isNone) := abin_ne_slnil un30 H xo yo a n c m q
theorem sc30 (H : AHeap) (a : Option Addr) (n c : Nat) (lo hi : Option Value) : aslice Tryz.prog H 30 (.slice a n c) lo hi none = (optB hi (some n) (capOf n c)).bind fun h => (optB lo (some 0) h).bind fun l => cut H 8 a c l h := aslice_sl un30 (by kernel_rfl) H a n c lo hi
theorem sz31 : szT Tryz.prog 31 = some 5 := by kernel_rfl
theorem ag31 : aggT Tryz.prog 31 = some true := by kernel_rfl
theorem ze31 : zeroT Tryz.prog 31 = some (.agg #[.int .i64 0, .int .i64 0, .int .i64 0, .slice none 0 0, .slice none 0 0]) := by kernel_rfl
theorem pz31 : plainV 100 (.agg #[.int .i64 0, .int .i64 0, .int .i64 0, .slice none 0 0, .slice none 0 0]) = true := by kernel_rfl
theorem inf31 : ∃ i, Tryz.prog.info? 31 = some i ∧ i.zero = some (.agg #[.int .i64 0, .int .i64 0, .int .i64 0, .slice none 0 0, .slice none 0 0]) ∧ i.size = 5 ∧ i.bytes = 72 := by
  have h : (Tryz.prog.info? 31).map (fun i => (i.zero, i.size, i.bytes)) = some (some (.agg #[.int .i64 0, .int .i64 0, .int .i64 0, .slice none 0 0, .slice none 0 0]), 5, 72) := by kernel_rfl
  obtain ⟨i, h1, h2⟩ := Option.map_eq_some_iff.1 h
  simp only [Prod.mk.injEq] at h2
  exact ⟨i, h1, h2.1, h2.2.1, h2.2.2⟩
theorem st31 (H : AHeap) (id off : Nat) (x : Value) : astoreT Tryz.prog H 31 (.pointer (some ⟨id, off, none⟩)) x = if x.cells.size = 5 ∧ x.cells.toList.all oneCell = true then ((H[id]?).bind (rowStore off x.cells.toList)).map fun o => H.set id o else none := astore_rule sz31 H id off x
theorem fa31_0 (id off : Nat) : afieldAddr Tryz.prog 31 (.pointer (some ⟨id, off, none⟩)) 0 = some (.pointer (some ⟨id, off + 0, none⟩)) := afieldAddr_at (n := 0) (f := (fieldT Tryz.prog 31 0).getD default) (by kernel_rfl) (by kernel_rfl) (by kernel_rfl) id off
theorem fl31_0 (cs : List Value) : afield Tryz.prog 31 (.agg cs.toArray) 0 = cs[0]? := afield_one (f := (fieldT Tryz.prog 31 0).getD default) (by kernel_rfl) (by kernel_rfl) (by kernel_rfl) cs
theorem fa31_1 (id off : Nat) : afieldAddr Tryz.prog 31 (.pointer (some ⟨id, off, none⟩)) 1 = some (.pointer (some ⟨id, off + 1, none⟩)) := afieldAddr_at (n := 0) (f := (fieldT Tryz.prog 31 1).getD default) (by kernel_rfl) (by kernel_rfl) (by kernel_rfl) id off
theorem fl31_1 (cs : List Value) : afield Tryz.prog 31 (.agg cs.toArray) 1 = cs[1]? := afield_one (f := (fieldT Tryz.prog 31 1).getD default) (by kernel_rfl) (by kernel_rfl) (by kernel_rfl) cs
theorem fa31_2 (id off : Nat) : afieldAddr Tryz.prog 31 (.pointer (some ⟨id, off, none⟩)) 2 = some (.pointer (some ⟨id, off + 2, none⟩)) := afieldAddr_at (n := 0) (f := (fieldT Tryz.prog 31 2).getD default) (by kernel_rfl) (by kernel_rfl) (by kernel_rfl) id off
theorem fl31_2 (cs : List Value) : afield Tryz.prog 31 (.agg cs.toArray) 2 = cs[2]? := afield_one (f := (fieldT Tryz.prog 31 2).getD default) (by kernel_rfl) (by kernel_rfl) (by kernel_rfl) cs
theorem fa31_3 (id off : Nat) : afieldAddr Tryz.prog 31 (.pointer (some ⟨id, off, none⟩)) 3 = some (.pointer (some ⟨id, off + 3, none⟩)) := afieldAddr_at (n := 0) (f := (fieldT Tryz.prog 31 3).getD default) (by kernel_rfl) (by kernel_rfl) (by kernel_rfl) id off
theorem fl31_3 (cs : List Value) : afield Tryz.prog 31 (.agg cs.toArray) 3 = cs[3]? := afield_one (f := (fieldT Tryz.prog 31 3).getD default) (by kernel_rfl) (by kernel_rfl) (by kernel_rfl) cs
theorem fa31_4 (id off : Nat) : afieldAddr Tryz.prog 31 (.pointer (some ⟨id, off, none⟩)) 4 = some (.pointer (some ⟨id, off + 4, none⟩)) := afieldAddr_at (n := 0) (f := (fieldT Tryz.prog 31 4).getD default) (by kernel_rfl) (by kernel_rfl) (by kernel_rfl) id off
theorem fl31_4 (cs : List Value) : afield Tryz.prog 31 (.agg cs.toArray) 4 = cs[4]? := afield_one (f := (fieldT Tryz.prog 31 4).getD default) (by kernel_rfl) (by kernel_rfl) (by kernel_rfl) cs
theorem sz32 : szT Tryz.prog 32 = some 5 := by kernel_rfl
theorem ag32 : aggT Tryz.prog 32 = some true := by kernel_rfl
theorem ze32 : zeroT Tryz.prog 32 = some (.agg #[.int .i64 0, .int .i64 0, .int .i64 0, .slice none 0 0, .slice none 0 0]) := by kernel_rfl
theorem inf32 : ∃ i, Tryz.prog.info? 32 = some i ∧ i.zero = some (.agg #[.int .i64 0, .int .i64 0, .int .i64 0, .slice none 0 0, .slice none 0 0]) ∧ i.size = 5 ∧ i.bytes = 72 := by
  have h : (Tryz.prog.info? 32).map (fun i => (i.zero, i.size, i.bytes)) = some (some (.agg #[.int .i64 0, .int .i64 0, .int .i64 0, .slice none 0 0, .slice none 0 0]), 5, 72) := by kernel_rfl
  obtain ⟨i, h1, h2⟩ := Option.map_eq_some_iff.1 h
  simp only [Prod.mk.injEq] at h2
  exact ⟨i, h1, h2.1, h2.2.1, h2.2.2⟩
theorem st32 (H : AHeap) (id off : Nat) (x : Value) : astoreT Tryz.prog H 32 (.pointer (some ⟨id, off, none⟩)) x = if x.cells.size = 5 ∧ x.cells.toList.all oneCell = true then ((H[id]?).bind (rowStore off x.cells.toList)).map fun o => H.set id o else none := astore_rule sz32 H id off x
theorem fa32_0 (id off : Nat) : afieldAddr Tryz.prog 32 (.pointer (some ⟨id, off, none⟩)) 0 = some (.pointer (some ⟨id, off + 0, none⟩)) := afieldAddr_at (n := 0) (f := (fieldT Tryz.prog 32 0).getD default) (by kernel_rfl) (by kernel_rfl) (by kernel_rfl) id off
theorem fl32_0 (cs : List Value) : afield Tryz.prog 32 (.agg cs.toArray) 0 = cs[0]? := afield_one (f := (fieldT Tryz.prog 32 0).getD default) (by kernel_rfl) (by kernel_rfl) (by kernel_rfl) cs
theorem fa32_1 (id off : Nat) : afieldAddr Tryz.prog 32 (.pointer (some ⟨id, off, none⟩)) 1 = some (.pointer (some ⟨id, off + 1, none⟩)) := afieldAddr_at (n := 0) (f := (fieldT Tryz.prog 32 1).getD default) (by kernel_rfl) (by kernel_rfl) (by kernel_rfl) id off
theorem fl32_1 (cs : List Value) : afield Tryz.prog 32 (.agg cs.toArray) 1 = cs[1]? := afield_one (f := (fieldT Tryz.prog 32 1).getD default) (by kernel_rfl) (by kernel_rfl) (by kernel_rfl) cs
theorem fa32_2 (id off : Nat) : afieldAddr Tryz.prog 32 (.pointer (some ⟨id, off, none⟩)) 2 = some (.pointer (some ⟨id, off + 2, none⟩)) := afieldAddr_at (n := 0) (f := (fieldT Tryz.prog 32 2).getD default) (by kernel_rfl) (by kernel_rfl) (by kernel_rfl) id off
theorem fl32_2 (cs : List Value) : afield Tryz.prog 32 (.agg cs.toArray) 2 = cs[2]? := afield_one (f := (fieldT Tryz.prog 32 2).getD default) (by kernel_rfl) (by kernel_rfl) (by kernel_rfl) cs
theorem fa32_3 (id off : Nat) : afieldAddr Tryz.prog 32 (.pointer (some ⟨id, off, none⟩)) 3 = some (.pointer (some ⟨id, off + 3, none⟩)) := afieldAddr_at (n := 0) (f := (fieldT Tryz.prog 32 3).getD default) (by kernel_rfl) (by kernel_rfl) (by kernel_rfl) id off
theorem fl32_3 (cs : List Value) : afield Tryz.prog 32 (.agg cs.toArray) 3 = cs[3]? := afield_one (f := (fieldT Tryz.prog 32 3).getD default) (by kernel_rfl) (by kernel_rfl) (by kernel_rfl) cs
theorem fa32_4 (id off : Nat) : afieldAddr Tryz.prog 32 (.pointer (some ⟨id, off, none⟩)) 4 = some (.pointer (some ⟨id, off + 4, none⟩)) := afieldAddr_at (n := 0) (f := (fieldT Tryz.prog 32 4).getD default) (by kernel_rfl) (by kernel_rfl) (by kernel_rfl) id off
theorem fl32_4 (cs : List Value) : afield Tryz.prog 32 (.agg cs.toArray) 4 = cs[4]? := afield_one (f := (fieldT Tryz.prog 32 4).getD default) (by kernel_rfl) (by kernel_rfl) (by kernel_rfl) cs
theorem sz33 : szT Tryz.prog 33 = some 1 := by kernel_rfl
theorem ag33 : aggT Tryz.prog 33 = some false := by kernel_rfl
theorem ze33 : zeroT Tryz.prog 33 = some (.slice none 0 0) := by kernel_rfl
theorem inf33 : ∃ i, Tryz.prog.info? 33 = some i ∧ i.zero = some (.slice none 0 0) ∧ i.size = 1 ∧ i.bytes = 24 := by
  have h : (Tryz.prog.info? 33).map (fun i => (i.zero, i.size, i.bytes)) = some (some (.slice none 0 0), 1, 24) := by kernel_rfl
  obtain ⟨i, h1, h2⟩ := Option.map_eq_some_iff.1 h
  simp only [Prod.mk.injEq] at h2
  exact ⟨i, h1, h2.1, h2.2.1, h2.2.2⟩
theorem st33 (H : AHeap) (id off : Nat) (x : Value) : astoreT Tryz.prog H 33 (.pointer (some ⟨id, off, none⟩)) x = if x.cells.size = 1 ∧ x.cells.toList.all oneCell = true then ((H[id]?).bind (rowStore off x.cells.toList)).map fun o => H.set id o else none := astore_rule sz33 H id off x
theorem un33 : Tryz.prog.underlying 33 = some (.slice 3) := by kernel_rfl
theorem el33 : elemT Tryz.prog 33 = some 3 := by kernel_rfl
theorem ln33 (H : AHeap) (a : Option Addr) (m c : Nat) : alen Tryz.prog H 33 (.slice a m c) = some (.int .i64 m) := alen_slice un33 H a m c
theorem cp33 (a : Addr) (m c : Nat) : acap Tryz.prog 33 (.slice (some a) m c) = if c = 0 then none else some (.int .i64 c) := acap_slice un33 a m c
theorem ix33 (id off m c : Nat) (ik : IntKind) (i : Int) : aindexAddr Tryz.prog 33 (.slice (some ⟨id, off, none⟩) m c) (.int ik i) = if 0 ≤ i ∧ i < m then some (.pointer (some ⟨id, off + i.toNat * 1, none⟩)) else none := aindexAddr_at un33 (by kernel_rfl) id off m c ik i
theorem en33 (H : AHeap) (xo yo : Operand) (a : Option Addr) (n c m q : Nat) : abin Tryz.prog H .eql 33 xo yo (.slice a n c) (.slice none m q) = some (.bool a.isNone) := abin_eq_slnil un33 H xo yo a n c m q
theorem nn33 (H : AHeap) (xo yo : Operand) (a : Option Addr) (n c m q : Nat) : abin Tryz.prog H .neq 33 xo yo (.slice a n c) (.slice none m q) = some (.bool !a.isNone) := abin_ne_slnil un33 H xo yo a n c m q
theorem sc33 (H : AHeap) (a : Option Addr) (n c : Nat) (lo hi : Option Value) : aslice Tryz.prog H 33 (.slice a n c) lo hi none = (optB hi (some n) (capOf n c)).bind fun h => (optB lo (some 0) h).bind fun l => cut H 1 a c l h := aslice_sl un33 (by kernel_rfl) H a n c lo hi
theorem sz34 : szT Tryz.prog 34 = some 1 := by kernel_rfl
theorem ag34 : aggT Tryz.prog 34 = some false := by kernel_rfl
theorem ze34 : zeroT Tryz.prog 34 = some (.slice none 0 0) := by kernel_rfl
theorem inf34 : ∃ i, Tryz.prog.info? 34 = some i ∧ i.zero = some (.slice none 0 0) ∧ i.size = 1 ∧ i.bytes = 24 := by
  have h : (Tryz.prog.info? 34).map (fun i => (i.zero, i.size, i.bytes)) = some (some (.slice none 0 0), 1, 24) := by kernel_rfl
  obtain ⟨i, h1, h2⟩ := Option.map_eq_some_iff.1 h
  simp only [Prod.mk.injEq] at h2
  exact ⟨i, h1, h2.1, h2.2.1, h2.2.2⟩
theorem st34 (H : AHeap) (id off : Nat) (x : Value) : astoreT Tryz.prog H 34 (.pointer (some ⟨id, off, none⟩)) x = if x.cells.size = 1 ∧ x.cells.toList.all oneCell = true then ((H[id]?).bind (rowStore off x.cells.toList)).map fun o => H.set id o else none := astore_rule sz34 H id off x
theorem un34 : Tryz.prog.underlying 34 = some (.slice 470) := by kernel_rfl
theorem el34 : elemT Tryz.prog 34 = some 470 := by kernel_rfl
theorem ln34 (H : AHeap) (a : Option Addr) (m c : Nat) : alen Tryz.prog H 34 (.slice a m c) = some (.int .i64 m) := alen_slice un34 H a m c
theorem cp34 (a : Addr) (m c : Nat) : acap Tryz.prog 34 (.slice (some a) m c) = if c = 0 then none else some (.int .i64 c) := acap_slice un34 a m c
theorem ix34 (id off m c : Nat) (ik : IntKind) (i : Int) : aindexAddr Tryz.prog 34 (.slice (some ⟨id, off, none⟩) m c) (.int ik i) = if 0 ≤ i ∧ i < m then some (.pointer (some ⟨id, off + i.toNat * 4, none⟩)) else none := aindexAddr_at un34 (by kernel_rfl) id off m c ik i
theorem en34 (H : AHeap) (xo yo : Operand) (a : Option Addr) (n c m q : Nat) : abin Tryz.prog H .eql 34 xo yo (.slice a n c) (.slice none m q) = some (.bool a.isNone) := abin_eq_slnil un34 H xo yo a n c m q
theorem nn34 (H : AHeap) (xo yo : Operand) (a : Option Addr) (n c m q : Nat) : abin Tryz.prog H .neq 34 xo yo (.slice a n c) (.slice none m q) = some (.bool !a.isNone) := abin_ne_slnil un34 H xo yo a n c m q
theorem sc34 (H : AHeap) (a : Option Addr) (n c : Nat) (lo hi : Option Value) : aslice Tryz.prog H 34 (.slice a n c) lo hi none = (optB hi (some n) (capOf n c)).bind fun h => (optB lo (some 0) h).bind fun l => cut H 4 a c l h := aslice_sl un34 (by kernel_rfl) H a n c lo hi
theorem sz35 : szT Tryz.prog 35 = some 9 := by kernel_rfl
theorem ag35 : aggT Tryz.prog 35 = some true := by kernel_rfl
theorem ze35 : zeroT Tryz.prog 35 = some (.agg #[.int .i64 0, .int .i64 0, .int .i64 0, .slice none 0 0, .slice none 0 0, .bool false, .int .i64 0, .slice none 0 0, .slice none 0 0]) := by kernel_rfl
theorem pz35 : plainV 100 (.agg #[.int .i64 0, .int .i64 0, .int .i64 0, .slice none 0 0, .slice none 0 0, .bool false, .int .i64 0, .slice none 0 0, .slice none 0 0]) = true := by kernel_rfl
theorem inf35 : ∃ i, Tryz.prog.info? 35 = some i ∧ i.zero = some (.agg #[.int .i64 0, .int .i64 0, .int .i64 0, .slice none 0 0, .slice none 0 0, .bool false, .int .i64 0, .slice none 0 0, .slice none 0 0]) ∧ i.size = 9 ∧ i.bytes = 136 := by
  have h : (Tryz.prog.info? 35).map (fun i => (i.zero, i.size, i.bytes)) = some (some (.agg #[.int .i64 0, .int .i64 0, .int .i64 0, .slice none 0 0, .slice none 0 0, .bool false, .int .i64 0, .slice none 0 0, .slice none 0 0]), 9, 136) := by kernel_rfl
  obtain ⟨i, h1, h2⟩ := Option.map_eq_some_iff.1 h
  simp only [Prod.mk.injEq] at h2
  exact ⟨i, h1, h2.1, h2.2.1, h2.2.2⟩
theorem st35 (H : AHeap) (id off : Nat) (x : Value) : astoreT Tryz.prog H 35 (.pointer (some ⟨id, off, none⟩)) x = if x.cells.size = 9 ∧ x.cells.toList.all oneCell = true then ((H[id]?).bind (rowStore off x.cells.toList)).map fun o => H.set id o else none := astore_rule sz35 H id off x
theorem fa35_0 (id off : Nat) : afieldAddr Tryz.prog 35 (.pointer (some ⟨id, off, none⟩)) 0 = some (.pointer (some ⟨id, off + 0, none⟩)) := afieldAddr_at (n := 4) (f := (fieldT Tryz.prog 35 0).getD default) (by kernel_rfl) (by kernel_rfl) (by kernel_rfl) id off
theorem fl35_0 (cs : List Value) : afield Tryz.prog 35 (.agg cs.toArray) 0 = some (.agg ((cs.drop 0).take 5).toArray) := afield_agg (f := (fieldT Tryz.prog 35 0).getD default) (by kernel_rfl) (by kernel_rfl) (by kernel_rfl) (by kernel_rfl) cs
theorem fa35_1 (id off : Nat) : afieldAddr Tryz.prog 35 (.pointer (some ⟨id, off, none⟩)) 1 = some (.pointer (some ⟨id, off + 5, none⟩)) := afieldAddr_at (n := 0) (f := (fieldT Tryz.prog 35 1).getD default) (by kernel_rfl) (by kernel_rfl) (by kernel_rfl) id off
theorem fl35_1 (cs : List Value) : afield Tryz.prog 35 (.agg cs.toArray) 1 = cs[5]? := afield_one (f := (fieldT Tryz.prog 35 1).getD default) (by kernel_rfl) (by kernel_rfl) (by kernel_rfl) cs
theorem fa35_2 (id off : Nat) : afieldAddr Tryz.prog 35 (.pointer (some ⟨id, off, none⟩)) 2 = some (.pointer (some ⟨id, off + 6, none⟩)) := afieldAddr_at (n := 0) (f := (fieldT Tryz.prog 35 2).getD default) (by kernel_rfl) (by kernel_rfl) (by kernel_rfl) id off
theorem fl35_2 (cs : List Value) : afield Tryz.prog 35 (.agg cs.toArray) 2 = cs[6]? := afield_one (f := (fieldT Tryz.prog 35 2).getD default) (by kernel_rfl) (by kernel_rfl) (by kernel_rfl) cs
theorem fa35_3 (id off : Nat) : afieldAddr Tryz.prog 35 (.pointer (some ⟨id, off, none⟩)) 3 = some (.pointer (some ⟨id, off + 7, none⟩)) := afieldAddr_at (n := 0) (f := (fieldT Tryz.prog 35 3).getD default) (by kernel_rfl) (by kernel_rfl) (by kernel_rfl) id off
theorem fl35_3 (cs : List Value) : afield Tryz.prog 35 (.agg cs.toArray) 3 = cs[7]? := afield_one (f := (fieldT Tryz.prog 35 3).getD default) (by kernel_rfl) (by kernel_rfl) (by kernel_rfl) cs
theorem fa35_4 (id off : Nat) : afieldAddr Tryz.prog 35 (.pointer (some ⟨id, off, none⟩)) 4 = some (.pointer (some ⟨id, off + 8, none⟩)) := afieldAddr_at (n := 0) (f := (fieldT Tryz.prog 35 4).getD default) (by kernel_rfl) (by kernel_rfl) (by kernel_rfl) id off
theorem fl35_4 (cs : List Value) : afield Tryz.prog 35 (.agg cs.toArray) 4 = cs[8]? := afield_one (f := (fieldT Tryz.prog 35 4).getD default) (by kernel_rfl) (by kernel_rfl) (by kernel_rfl) cs
theorem sz36 : szT Tryz.prog 36 = some 9 := by kernel_rfl
theorem ag36 : aggT Tryz.prog 36 = some true := by kernel_rfl
theorem ze36 : zeroT Tryz.prog 36 = some (.agg #[.int .i64 0, .int .i64 0, .int .i64 0, .slice none 0 0, .slice none 0 0, .bool false, .int .i64 0, .slice none 0 0, .slice none 0 0]) := by kernel_rfl
theorem inf36 : ∃ i, Tryz.prog.info? 36 = some i ∧ i.zero = some (.agg #[.int .i64 0, .int .i64 0, .int .i64 0, .slice none 0 0, .slice none 0 0, .bool false, .int .i64 0, .slice none 0 0, .slice none 0 0]) ∧ i.size = 9 ∧ i.bytes = 136 := by
  have h : (Tryz.prog.info? 36).map (fun i => (i.zero, i.size, i.bytes)) = some (some (.agg #[.int .i64 0, .int .i64 0, .int .i64 0, .slice none 0 0, .slice none 0 0, .bool false, .int .i64 0, .slice none 0 0, .slice none 0 0]), 9, 136) := by kernel_rfl
  obtain ⟨i, h1, h2⟩ := Option.map_eq_some_iff.1 h
  simp only [Prod.mk.injEq] at h2
  exact ⟨i, h1, h2.1, h2.2.1, h2.2.2⟩
theorem st36 (H : AHeap) (id off : Nat) (x : Value) : astoreT Tryz.prog H 36 (.pointer (some ⟨id, off, none⟩)) x = if x.cells.size = 9 ∧ x.cells.toList.all oneCell = true then ((H[id]?).bind (rowStore off x.cells.toList)).map fun o => H.set id o else none := astore_rule sz36 H id off x
theorem fa36_0 (id off : Nat) : afieldAddr Tryz.prog 36 (.pointer (some ⟨id, off, none⟩)) 0 = some (.pointer (some ⟨id, off + 0, none⟩)) := afieldAddr_at (n := 4) (f := (fieldT Tryz.prog 36 0).getD default) (by kernel_rfl) (by kernel_rfl) (by kernel_rfl) id off
theorem fl36_0 (cs : List Value) : afield Tryz.prog 36 (.agg cs.toArray) 0 = some (.agg ((cs.drop 0).take 5).toArray) := afield_agg (f := (fieldT Tryz.prog 36 0).getD default) (by kernel_rfl) (by kernel_rfl) (by kernel_rfl) (by kernel_rfl) cs
theorem fa36_1 (id off : Nat) : afieldAddr Tryz.prog 36 (.pointer (some ⟨id, off, none⟩)) 1 = some (.pointer (some ⟨id, off + 5, none⟩)) := afieldAddr_at (n := 0) (f := (fieldT Tryz.prog 36 1).getD default) (by kernel_rfl) (by kernel_rfl) (by kernel_rfl) id off
theorem fl36_1 (cs : List Value) : afield Tryz.prog 36 (.agg cs.toArray) 1 = cs[5]? := afield_one (f := (fieldT Tryz.prog 36 1).getD default) (by kernel_rfl) (by kernel_rfl) (by kernel_rfl) cs
theorem fa36_2 (id off : Nat) : afieldAddr Tryz.prog 36 (.pointer (some ⟨id, off, none⟩)) 2 = some (.pointer (some ⟨id, off + 6, none⟩)) := afieldAddr_at (n := 0) (f := (fieldT Tryz.prog 36 2).getD default) (by kernel_rfl) (by kernel_rfl) (by kernel_rfl) id off
theorem fl36_2 (cs : List Value) : afield Tryz.prog 36 (.agg cs.toArray) 2 = cs[6]? := afield_one (f := (fieldT Tryz.prog 36 2).getD default) (by kernel_rfl) (by kernel_rfl) (by kernel_rfl) cs
theorem fa36_3 (id off : Nat) : afieldAddr Tryz.prog 36 (.pointer (some ⟨id, off, none⟩)) 3 = some (.pointer (some ⟨id, off + 7, none⟩)) := afieldAddr_at (n := 0) (f := (fieldT Tryz.prog 36 3).getD default) (by kernel_rfl) (by kernel_rfl) (by kernel_rfl) id off
theorem fl36_3 (cs : List Value) : afield Tryz.prog 36 (.agg cs.toArray) 3 = cs[7]? := afield_one (f := (fieldT Tryz.prog 36 3).getD default) (by kernel_rfl) (by kernel_rfl) (by kernel_rfl) cs
theorem fa36_4 (id off : Nat) : afieldAddr Tryz.prog 36 (.pointer (some ⟨id, off, none⟩)) 4 = some (.pointer (some ⟨id, off + 8, none⟩)) := afieldAddr_at (n := 0) (f := (fieldT Tryz.prog 36 4).getD default) (by kernel_rfl) (by kernel_rfl) (by kernel_rfl) id off
theorem fl36_4 (cs : List Value) : afield Tryz.prog 36 (.agg cs.toArray) 4 = cs[8]? := afield_one (f := (fieldT Tryz.prog 36 4).getD default) (by kernel_rfl) (by kernel_rfl) (by kernel_rfl) cs
theorem sz37 : szT Tryz.prog 37 = some 1 := by kernel_rfl
theorem ag37 : aggT Tryz.prog 37 = some false := by kernel_rfl
theorem ze37 : zeroT Tryz.prog 37 = some (.int .u64 0) := by kernel_rfl
theorem inf37 : ∃ i, Tryz.prog.info? 37 = some i ∧ i.zero = some (.int .u64 0) ∧ i.size = 1 ∧ i.bytes = 8 := by
  have h : (Tryz.prog.info? 37).map (fun i => (i.zero, i.size, i.bytes)) = some (some (.int .u64 0), 1, 8) := by kernel_rfl
  obtain ⟨i, h1, h2⟩ := Option.map_eq_some_iff.1 h
  simp only [Prod.mk.injEq] at h2
  exact ⟨i, h1, h2.1, h2.2.1, h2.2.2⟩
theorem st37 (H : AHeap) (id off : Nat) (x : Value) : astoreT Tryz.prog H 37 (.pointer (some ⟨id, off, none⟩)) x = if x.cells.size = 1 ∧ x.cells.toList.all oneCell = true then ((H[id]?).bind (rowStore off x.cells.toList)).map fun o => H.set id o else none := astore_rule sz37 H id off x
theorem kd37 : kindT Tryz.prog 37 = .int .u64 := by kernel_rfl
theorem sz39 : szT Tryz.prog 39 = some 1 := by kernel_rfl
theorem ag39 : aggT Tryz.prog 39 = some false := by kernel_rfl
theorem ze39 : zeroT Tryz.prog 39 = some (.pointer none) := by kernel_rfl
theorem inf39 : ∃ i, Tryz.prog.info? 39 = some i ∧ i.zero = some (.pointer none) ∧ i.size = 1 ∧ i.bytes = 8 := by
  have h : (Tryz.prog.info? 39).map (fun i => (i.zero, i.size, i.bytes)) = some (some (.pointer none), 1, 8) := by kernel_rfl
  obtain ⟨i, h1, h2⟩ := Option.map_eq_some_iff.1 h
  simp only [Prod.mk.injEq] at h2
  exact ⟨i, h1, h2.1, h2.2.1, h2.2.2⟩
theorem st39 (H : AHeap) (id off : Nat) (x : Value) : astoreT Tryz.prog H 39 (.pointer (some ⟨id, off, none⟩)) x = if x.cells.size = 1 ∧ x.cells.toList.all oneCell = true then ((H[id]?).bind (rowStore off x.cells.toList)).map fun o => H.set id o else none := astore_rule sz39 H id off x
theorem en39 (H : AHeap) (xo yo : Operand) (a : Option Addr) : abin Tryz.prog H .eql 39 xo yo (.pointer a) (.pointer none) = some (.bool a.isNone) := abin_eq_ptrnil (e := 90) (by kernel_rfl) H xo yo a
theorem nn39 (H : AHeap) (xo yo : Operand) (a : Option Addr) : abin Tryz.prog H .neq 39 xo yo (.pointer a) (.pointer none) = some (.bool !a.isNone) := abin_ne_ptrnil (e := 90) (by kernel_rfl) H xo yo a
theorem sz40 : szT Tryz.prog 40 = some 1 := by kernel_rfl
theorem ag40 : aggT Tryz.prog 40 = some false := by kernel_rfl
theorem ze40 : zeroT Tryz.prog 40 = some (.int .i64 0) := by kernel_rfl
theorem inf40 : ∃ i, Tryz.prog.info? 40 = some i ∧ i.zero = some (.int .i64 0) ∧ i.size = 1 ∧ i.bytes = 8 := by
  have h : (Tryz.prog.info? 40).map (fun i => (i.zero, i.size, i.bytes)) = some (some (.int .i64 0), 1, 8) := by kernel_rfl
  obtain ⟨i, h1, h2⟩ := Option.map_eq_some_iff.1 h
  simp only [Prod.mk.injEq] at h2
  exact ⟨i, h1, h2.1, h2.2.1, h2.2.2⟩
theorem st40 (H : AHeap) (id off : Nat) (x : Value) : astoreT Tryz.prog H 40 (.pointer (some ⟨id, off, none⟩)) x = if x.cells.size = 1 ∧ x.cells.toList.all oneCell = true then ((H[id]?).bind (rowStore off x.cells.toList)).map fun o => H.set id o else none := astore_rule sz40 H id off x
theorem kd40 : kindT Tryz.prog 40 = .int .i64 := by kernel_rfl
theorem sz44 : szT Tryz.prog 44 = some 1 := by kernel_rfl
theorem ag44 : aggT Tryz.prog 44 = some false := by kernel_rfl
theorem ze44 : zeroT Tryz.prog 44 = some (.slice none 0 0) := by kernel_rfl
theorem inf44 : ∃ i, Tryz.prog.info? 44 = some i ∧ i.zero = some (.slice none 0 0) ∧ i.size = 1 ∧ i.bytes = 24 := by
  have h : (Tryz.prog.info? 44).map (fun i => (i.zero, i.size, i.bytes)) = some (some (.slice none 0 0), 1, 24) := by kernel_rfl
  obtain ⟨i, h1, h2⟩ := Option.map_eq_some_iff.1 h
  simp only [Prod.mk.injEq] at h2
  exact ⟨i, h1, h2.1, h2.2.1, h2.2.2⟩
theorem st44 (H : AHeap) (id off : Nat) (x : Value) : astoreT Tryz.prog H 44 (.pointer (some ⟨id, off, none⟩)) x = if x.cells.size = 1 ∧ x.cells.toList.all oneCell = true then ((H[id]?).bind (rowStore off x.cells.toList)).map fun o => H.set id o else none := astore_rule sz44 H id off x
theorem un44 : Tryz.prog.underlying 44 = some (.slice 63) := by kernel_rfl
theorem el44 : elemT Tryz.prog 44 = some 63 := by kernel_rfl
theorem ln44 (H : AHeap) (a : Option Addr) (m c : Nat) : alen Tryz.prog H 44 (.slice a m c) = some (.int .i64 m) := alen_slice un44 H a m c
theorem cp44 (a : Addr) (m c : Nat) : acap Tryz.prog 44 (.slice (some a) m c) = if c = 0 then none else some (.int .i64 c) := acap_slice un44 a m c
theorem ix44 (id off m c : Nat) (ik : IntKind) (i : Int) : aindexAddr Tryz.prog 44 (.slice (some ⟨id, off, none⟩) m c) (.int ik i) = if 0 ≤ i ∧ i < m then some (.pointer (some ⟨id, off + i.toNat * 5, none⟩)) else none := aindexAddr_at un44 (by kernel_rfl) id off m c ik i
theorem en44 (H : AHeap) (xo yo : Operand) (a : Option Addr) (n c m q : Nat) : abin Tryz.prog H .eql 44 xo yo (.slice a n c) (.slice none m q) = some (.bool a.isNone) := abin_eq_slnil un44 H xo yo a n c m q
theorem nn44 (H : AHeap) (xo yo : Operand) (a : Option Addr) (n c m q : Nat) : abin Tryz.prog H .neq 44 xo yo (.slice a n c) (.slice none m q) = some (.bool !a.isNone) := abin_ne_slnil un44 H xo yo a n c m q
theorem sc44 (H : AHeap) (a : Option Addr) (n c : Nat) (lo hi : Option Value) : aslice Tryz.prog H 44 (.slice a n c) lo hi none = (optB hi (some n) (capOf n c)).bind fun h => (optB lo (some 0) h).bind fun l => cut H 5 a c l h := aslice_sl un44 (by kernel_rfl) H a n c lo hi
theorem sz47 : szT Tryz.prog 47 = some 1 := by kernel_rfl
theorem ag47 : aggT Tryz.prog 47 = some false := by kernel_rfl
theorem ze47 : zeroT Tryz.prog 47 = some (.slice none 0 0) := by kernel_rfl
theorem inf47 : ∃ i, Tryz.prog.info? 47 = some i ∧ i.zero = some (.slice none 0 0) ∧ i.size = 1 ∧ i.bytes = 24 := by
  have h : (Tryz.prog.info? 47).map (fun i => (i.zero, i.size, i.bytes)) = some (some (.slice none 0 0), 1, 24) := by kernel_rfl
  obtain ⟨i, h1, h2⟩ := Option.map_eq_some_iff.1 h
  simp only [Prod.mk.injEq] at h2
  exact ⟨i, h1, h2.1, h2.2.1, h2.2.2⟩
theorem st47 (H : AHeap) (id off : Nat) (x : Value) : astoreT Tryz.prog H 47 (.pointer (some ⟨id, off, none⟩)) x = if x.cells.size = 1 ∧ x.cells.toList.all oneCell = true then ((H[id]?).bind (rowStore off x.cells.toList)).map fun o => H.set id o else none := astore_rule sz47 H id off x
theorem un47 : Tryz.prog.underlying 47 = some (.slice 70) := by kernel_rfl
theorem el47 : elemT Tryz.prog 47 = some 70 := by kernel_rfl
theorem ln47 (H : AHeap) (a : Option Addr) (m c : Nat) : alen Tryz.prog H 47 (.slice a m c) = some (.int .i64 m) := alen_slice un47 H a m c
theorem cp47 (a : Addr) (m c : Nat) : acap Tryz.prog 47 (.slice (some a) m c) = if c = 0 then none else some (.int .i64 c) := acap_slice un47 a m c
theorem ix47 (id off m c : Nat) (ik : IntKind) (i : Int) : aindexAddr Tryz.prog 47 (.slice (some ⟨id, off, none⟩) m c) (.int ik i) = if 0 ≤ i ∧ i < m then some (.pointer (some ⟨id, off + i.toNat * 41, none⟩)) else none := aindexAddr_at un47 (by kernel_rfl) id off m c ik i
theorem en47 (H : AHeap) (xo yo : Operand) (a : Option Addr) (n c m q : Nat) : abin Tryz.prog H .eql 47 xo yo (.slice a n c) (.slice none m q) = some (.bool a.isNone) := abin_eq_slnil un47 H xo yo a n c m q
theorem nn47 (H : AHeap) (xo yo : Operand) (a : Option Addr) (n c m q : Nat) : abin Tryz.prog H .neq 47 xo yo (.slice a n c) (.slice none m q) = some (.bool !a.isNone) := abin_ne_slnil un47 H xo yo a n c m q
theorem sc47 (H : AHeap) (a : Option Addr) (n c : Nat) (lo hi : Option Value) : aslice Tryz.prog H 47 (.slice a n c) lo hi none = (optB hi (some n) (capOf n c)).bind fun h => (optB lo (some 0) h).bind fun l => cut H 41 a c l h := aslice_sl un47 (by kernel_rfl) H a n c lo hi
theorem sz49 : szT Tryz.prog 49 = some 1 := by kernel_rfl
theorem ag49 : aggT Tryz.prog 49 = some false := by kernel_rfl
theorem ze49 : zeroT Tryz.prog 49 = some (.slice none 0 0) := by kernel_rfl
theorem inf49 : ∃ i, Tryz.prog.info? 49 = some i ∧ i.zero = some (.slice none 0 0) ∧ i.size = 1 ∧ i.bytes = 24 := by
  have h : (Tryz.prog.info? 49).map (fun i => (i.zero, i.size, i.bytes)) = some (some (.slice none 0 0), 1, 24) := by kernel_rfl
  obtain ⟨i, h1, h2⟩ := Option.map_eq_some_iff.1 h
  simp only [Prod.mk.injEq] at h2
  exact ⟨i, h1, h2.1, h2.2.1, h2.2.2⟩
theorem st49 (H : AHeap) (id off : Nat) (x : Value) : astoreT Tryz.prog H 49 (.pointer (some ⟨id, off, none⟩)) x = if x.cells.size = 1 ∧ x.cells.toList.all oneCell = true then ((H[id]?).bind (rowStore off x.cells.toList)).map fun o => H.set id o else none := astore_rule sz49 H id off x
theorem un49 : Tryz.prog.underlying 49 = some (.slice 9) := by kernel_rfl
theorem el49 : elemT Tryz.prog 49 = some 9 := by kernel_rfl
theorem ln49 (H : AHeap) (a : Option Addr) (m c : Nat) : alen Tryz.prog H 49 (.slice a m c) = some (.int .i64 m) := alen_slice un49 H a m c
theorem cp49 (a : Addr) (m c : Nat) : acap Tryz.prog 49 (.slice (some a) m c) = if c = 0 then none else some (.int .i64 c) := acap_slice un49 a m c
theorem ix49 (id off m c : Nat) (ik : IntKind) (i : Int) : aindexAddr Tryz.prog 49 (.slice (some ⟨id, off, none⟩) m c) (.int ik i) = if 0 ≤ i ∧ i < m then some (.pointer (some ⟨id, off + i.toNat * 1, none⟩)) else none := aindexAddr_at un49 (by kernel_rfl) id off m c ik i
theorem en49 (H : AHeap) (xo yo : Operand) (a : Option Addr) (n c m q : Nat) : abin Tryz.prog H .eql 49 xo yo (.slice a n c) (.slice none m q) = some (.bool a.isNone) := abin_eq_slnil un49 H xo yo a n c m q
theorem nn49 (H : AHeap) (xo yo : Operand) (a : Option Addr) (n c m q : Nat) : abin Tryz.prog H .neq 49 xo yo (.slice a n c) (.slice none m q) = some (.bool !a.isNone) := abin_ne_slnil un49 H xo yo a n c m q
theorem sc49 (H : AHeap) (a : Option Addr) (n c : Nat) (lo hi : Option Value) : aslice Tryz.prog H 49 (.slice a n c) lo hi none = (optB hi (some n) (capOf n c)).bind fun h => (optB lo (some 0) h).bind fun l => cut H 1 a c l h := aslice_sl un49 (by kernel_rfl) H a n c lo hi
theorem sz50 : szT Tryz.prog 50 = some 1 := by kernel_rfl
theorem ag50 : aggT Tryz.prog 50 = some false := by kernel_rfl
theorem ze50 : zeroT Tryz.prog 50 = some (.slice none 0 0) := by kernel_rfl
theorem inf50 : ∃ i, Tryz.prog.info? 50 = some i ∧ i.zero = some (.slice none 0 0) ∧ i.size = 1 ∧ i.bytes = 24 := by
  have h : (Tryz.prog.info? 50).map (fun i => (i.zero, i.size, i.bytes)) = some (some (.slice none 0 0), 1, 24) := by kernel_rfl
  obtain ⟨i, h1, h2⟩ := Option.map_eq_some_iff.1 h
  simp only [Prod.mk.injEq] at h2
  exact ⟨i, h1, h2.1, h2.2.1, h2.2.2⟩
theorem st50 (H : AHeap) (id off : Nat) (x : Value) : astoreT Tryz.prog H 50 (.pointer (some ⟨id, off, none⟩)) x = if x.cells.size = 1 ∧ x.cells.toList.all oneCell = true then ((H[id]?).bind (rowStore off x.cells.toList)).map fun o => H.set id o else none := astore_rule sz50 H id off x
theorem un50 : Tryz.prog.underlying 50 = some (.slice 2) := by kernel_rfl
theorem el50 : elemT Tryz.prog 50 = some 2 := by kernel_rfl
theorem ln50 (H : AHeap) (a : Option Addr) (m c : Nat) : alen Tryz.prog H 50 (.slice a m c) = some (.int .i64 m) := alen_slice un50 H a m c
theorem cp50 (a : Addr) (m c : Nat) : acap Tryz.prog 50 (.slice (some a) m c) = if c = 0 then none else some (.int .i64 c) := acap_slice un50 a m c
theorem ix50 (id off m c : Nat) (ik : IntKind) (i : Int) : aindexAddr Tryz.prog 50 (.slice (some ⟨id, off, none⟩) m c) (.int ik i) = if 0 ≤ i ∧ i < m then some (.pointer (some ⟨id, off + i.toNat * 1, none⟩)) else none := aindexAddr_at un50 (by kernel_rfl) id off m c ik i
theorem en50 (H : AHeap) (xo yo : Operand) (a : Option Addr) (n c m q : Nat) : abin Tryz.prog H .eql 50 xo yo (.slice a n c) (.slice none m q) = some (.bool a.isNone) := abin_eq_slnil un50 H xo yo a n c m q
theorem nn50 (H : AHeap) (xo yo : Operand) (a : Option Addr) (n c m q : Nat) : abin Tryz.prog H .neq 50 xo yo (.slice a n c) (.slice none m q) = some (.bool !a.isNone) := abin_ne_slnil un50 H xo yo a n c m q
theorem sc50 (H : AHeap) (a : Option Addr) (n c : Nat) (lo hi : Option Value) : aslice Tryz.prog H 50 (.slice a n c) lo hi none = (optB hi (some n) (capOf n c)).bind fun h => (optB lo (some 0) h).bind fun l => cut H 1 a c l h := aslice_sl un50 (by kernel_rfl) H a n c lo hi
theorem sz51 : szT Tryz.prog 51 = some 3 := by kernel_rfl
theorem ag51 : aggT Tryz.prog 51 = some true := by kernel_rfl
theorem ze51 : zeroT Tryz.prog 51 = some (.agg #[.int .i64 0, .slice none 0 0, .slice none 0 0]) := by kernel_rfl
theorem pz51 : plainV 100 (.agg #[.int .i64 0, .slice none 0 0, .slice none 0 0]) = true := by kernel_rfl
theorem inf51 : ∃ i, Tryz.prog.info? 51 = some i ∧ i.zero = some (.agg #[.int .i64 0, .slice none 0 0, .slice none 0 0]) ∧ i.size = 3 ∧ i.bytes = 56 := by
  have h : (Tryz.prog.info? 51).map (fun i => (i.zero, i.size, i.bytes)) = some (some (.agg #[.int .i64 0, .slice none 0 0, .slice none 0 0]), 3, 56) := by kernel_rfl
  obtain ⟨i, h1, h2⟩ := Option.map_eq_some_iff.1 h
  simp only [Prod.mk.injEq] at h2
  exact ⟨i, h1, h2.1, h2.2.1, h2.2.2⟩
theorem st51 (H : AHeap) (id off : Nat) (x : Value) : astoreT Tryz.prog H 51 (.pointer (some ⟨id, off, none⟩)) x = if x.cells.size = 3 ∧ x.cells.toList.all oneCell = true then ((H[id]?).bind (rowStore off x.cells.toList)).map fun o => H.set id o else none := astore_rule sz51 H id off x
theorem fa51_0 (id off : Nat) : afieldAddr Tryz.prog 51 (.pointer (some ⟨id, off, none⟩)) 0 = some (.pointer (some ⟨id, off + 0, none⟩)) := afieldAddr_at (n := 0) (f := (fieldT Tryz.prog 51 0).getD default) (by kernel_rfl) (by kernel_rfl) (by kernel_rfl) id off
theorem fl51_0 (cs : List Value) : afield Tryz.prog 51 (.agg cs.toArray) 0 = cs[0]? := afield_one (f := (fieldT Tryz.prog 51 0).getD default) (by kernel_rfl) (by kernel_rfl) (by kernel_rfl) cs
theorem fa51_1 (id off : Nat) : afieldAddr Tryz.prog 51 (.pointer (some ⟨id, off, none⟩)) 1 = some (.pointer (some ⟨id, off + 1, none⟩)) := afieldAddr_at (n := 0) (f := (fieldT Tryz.prog 51 1).getD default) (by kernel_rfl) (by kernel_rfl) (by kernel_rfl) id off
theorem fl51_1 (cs : List Value) : afield Tryz.prog 51 (.agg cs.toArray) 1 = cs[1]? := afield_one (f := (fieldT Tryz.prog 51 1).getD default) (by kernel_rfl) (by kernel_rfl) (by kernel_rfl) cs
theorem fa51_2 (id off : Nat) : afieldAddr Tryz.prog 51 (.pointer (some ⟨id, off, none⟩)) 2 = some (.pointer (some ⟨id, off + 2, none⟩)) := afieldAddr_at (n := 0) (f := (fieldT Tryz.prog 51 2).getD default) (by kernel_rfl) (by kernel_rfl) (by kernel_rfl) id off
theorem fl51_2 (cs : List Value) : afield Tryz.prog 51 (.agg cs.toArray) 2 = cs[2]? := afield_one (f := (fieldT Tryz.prog 51 2).getD default) (by kernel_rfl) (by kernel_rfl) (by kernel_rfl) cs
theorem sz52 : szT Tryz.prog 52 = some 3 := by kernel_rfl
theorem ag52 : aggT Tryz.prog 52 = some true := by kernel_rfl
theorem ze52 : zeroT Tryz.prog 52 = some (.agg #[.int .i64 0, .slice none 0 0, .slice none 0 0]) := by kernel_rfl
theorem inf52 : ∃ i, Tryz.prog.info? 52 = some i ∧ i.zero = some (.agg #[.int .i64 0, .slice none 0 0, .slice none 0 0]) ∧ i.size = 3 ∧ i.bytes = 56 := by
  have h : (Tryz.prog.info? 52).map (fun i => (i.zero, i.size, i.bytes)) = some (some (.agg #[.int .i64 0, .slice none 0 0, .slice none 0 0]), 3, 56) := by kernel_rfl
  obtain ⟨i, h1, h2⟩ := Option.map_eq_some_iff.1 h
  simp only [Prod.mk.injEq] at h2
  exact ⟨i, h1, h2.1, h2.2.1, h2.2.2⟩
theorem st52 (H : AHeap) (id off : Nat) (x : Value) : astoreT Tryz.prog H 52 (.pointer (some ⟨id, off, none⟩)) x = if x.cells.size = 3 ∧ x.cells.toList.all oneCell = true then ((H[id]?).bind (rowStore off x.cells.toList)).map fun o => H.set id o else none := astore_rule sz52 H id off x
theorem fa52_0 (id off : Nat) : afieldAddr Tryz.prog 52 (.pointer (some ⟨id, off, none⟩)) 0 = some (.pointer (some ⟨id, off + 0, none⟩)) := afieldAddr_at (n := 0) (f := (fieldT Tryz.prog 52 0).getD default) (by kernel_rfl) (by kernel_rfl) (by kernel_rfl) id off
theorem fl52_0 (cs : List Value) : afield Tryz.prog 52 (.agg cs.toArray) 0 = cs[0]? := afield_one (f := (fieldT Tryz.prog 52 0).getD default) (by kernel_rfl) (by kernel_rfl) (by kernel_rfl) cs
theorem fa52_1 (id off : Nat) : afieldAddr Tryz.prog 52 (.pointer (some ⟨id, off, none⟩)) 1 = some (.pointer (some ⟨id, off + 1, none⟩)) := afieldAddr_at (n := 0) (f := (fieldT Tryz.prog 52 1).getD default) (by kernel_rfl) (by kernel_rfl) (by kernel_rfl) id off
theorem fl52_1 (cs : List Value) : afield Tryz.prog 52 (.agg cs.toArray) 1 = cs[1]? := afield_one (f := (fieldT Tryz.prog 52 1).getD default) (by kernel_rfl) (by kernel_rfl) (by kernel_rfl) cs
theorem fa52_2 (id off : Nat) : afieldAddr Tryz.prog 52 (.pointer (some ⟨id, off, none⟩)) 2 = some (.pointer (some ⟨id, off + 2, none⟩)) := afieldAddr_at (n := 0) (f := (fieldT Tryz.prog 52 2).getD default) (by kernel_rfl) (by kernel_rfl) (by kernel_rfl) id off
theorem fl52_2 (cs : List Value) : afield Tryz.prog 52 (.agg cs.toArray) 2 = cs[2]? := afield_one (f := (fieldT Tryz.prog 52 2).getD default) (by kernel_rfl) (by kernel_rfl) (by kernel_rfl) cs
theorem sz53 : szT Tryz.prog 53 = some 2 := by kernel_rfl
theorem ag53 : aggT Tryz.prog 53 = some true := by kernel_rfl
theorem ze53 : zeroT Tryz.prog 53 = some (.agg #[.int .i64 0, .int .i64 0]) := by kernel_rfl
theorem inf53 : ∃ i, Tryz.prog.info? 53 = some i ∧ i.zero = some (.agg #[.int .i64 0, .int .i64 0]) ∧ i.size = 2 ∧ i.bytes = 16 := by
  have h : (Tryz.prog.info? 53).map (fun i => (i.zero, i.size, i.bytes)) = some (some (.agg #[.int .i64 0, .int .i64 0]), 2, 16) := by kernel_rfl
  obtain ⟨i, h1, h2⟩ := Option.map_eq_some_iff.1 h
  simp only [Prod.mk.injEq] at h2
  exact ⟨i, h1, h2.1, h2.2.1, h2.2.2⟩
theorem st53 (H : AHeap) (id off : Nat) (x : Value) : astoreT Tryz.prog H 53 (.pointer (some ⟨id, off, none⟩)) x = if x.cells.size = 2 ∧ x.cells.toList.all oneCell = true then ((H[id]?).bind (rowStore off x.cells.toList)).map fun o => H.set id o else none := astore_rule sz53 H id off x
theorem fa53_0 (id off : Nat) : afieldAddr Tryz.prog 53 (.pointer (some ⟨id, off, none⟩)) 0 = some (.pointer (some ⟨id, off + 0, none⟩)) := afieldAddr_at (n := 0) (f := (fieldT Tryz.prog 53 0).getD default) (by kernel_rfl) (by kernel_rfl) (by kernel_rfl) id off
theorem fl53_0 (cs : List Value) : afield Tryz.prog 53 (.agg cs.toArray) 0 = cs[0]? := afield_one (f := (fieldT Tryz.prog 53 0).getD default) (by kernel_rfl) (by kernel_rfl) (by kernel_rfl) cs
theorem fa53_1 (id off : Nat) : afieldAddr Tryz.prog 53 (.pointer (some ⟨id, off, none⟩)) 1 = some (.pointer (some ⟨id, off + 1, none⟩)) := afieldAddr_at (n := 0) (f := (fieldT Tryz.prog 53 1).getD default) (by kernel_rfl) (by kernel_rfl) (by kernel_rfl) id off
theorem fl53_1 (cs : List Value) : afield Tryz.prog 53 (.agg cs.toArray) 1 = cs[1]? := afield_one (f := (fieldT Tryz.prog 53 1).getD default) (by kernel_rfl) (by kernel_rfl) (by kernel_rfl) cs
theorem sz54 : szT Tryz.prog 54 = some 2 := by kernel_rfl
theorem ag54 : aggT Tryz.prog 54 = some true := by kernel_rfl
theorem ze54 : zeroT Tryz.prog 54 = some (.agg #[.int .i64 0, .int .i64 0]) := by kernel_rfl
theorem inf54 : ∃ i, Tryz.prog.info? 54 = some i ∧ i.zero = some (.agg #[.int .i64 0, .int .i64 0]) ∧ i.size = 2 ∧ i.bytes = 16 := by
  have h : (Tryz.prog.info? 54).map (fun i => (i.zero, i.size, i.bytes)) = some (some (.agg #[.int .i64 0, .int .i64 0]), 2, 16) := by kernel_rfl
  obtain ⟨i, h1, h2⟩ := Option.map_eq_some_iff.1 h
  simp only [Prod.mk.injEq] at h2
  exact ⟨i, h1, h2.1, h2.2.1, h2.2.2⟩
theorem st54 (H : AHeap) (id off : Nat) (x : Value) : astoreT Tryz.prog H 54 (.pointer (some ⟨id, off, none⟩)) x = if x.cells.size = 2 ∧ x.cells.toList.all oneCell = true then ((H[id]?).bind (rowStore off x.cells.toList)).map fun o => H.set id o else none := astore_rule sz54 H id off x
theorem fa54_0 (id off : Nat) : afieldAddr Tryz.prog 54 (.pointer (some ⟨id, off, none⟩)) 0 = some (.pointer (some ⟨id, off + 0, none⟩)) := afieldAddr_at (n := 0) (f := (fieldT Tryz.prog 54 0).getD default) (by kernel_rfl) (by kernel_rfl) (by kernel_rfl) id off
theorem fl54_0 (cs : List Value) : afield Tryz.prog 54 (.agg cs.toArray) 0 = cs[0]? := afield_one (f := (fieldT Tryz.prog 54 0).getD default) (by kernel_rfl) (by kernel_rfl) (by kernel_rfl) cs
theorem fa54_1 (id off : Nat) : afieldAddr Tryz.prog 54 (.pointer (some ⟨id, off, none⟩)) 1 = some (.pointer (some ⟨id, off + 1, none⟩)) := afieldAddr_at (n := 0) (f := (fieldT Tryz.prog 54 1).getD default) (by kernel_rfl) (by kernel_rfl) (by kernel_rfl) id off
theorem fl54_1 (cs : List Value) : afield Tryz.prog 54 (.agg cs.toArray) 1 = cs[1]? := afield_one (f := (fieldT Tryz.prog 54 1).getD default) (by kernel_rfl) (by kernel_rfl) (by kernel_rfl) cs
theorem sz55 : szT Tryz.prog 55 = some 1 := by kernel_rfl
theorem ag55 : aggT Tryz.prog 55 = some false := by kernel_rfl
theorem ze55 : zeroT Tryz.prog 55 = some (.slice none 0 0) := by kernel_rfl
theorem inf55 : ∃ i, Tryz.prog.info? 55 = some i ∧ i.zero = some (.slice none 0 0) ∧ i.size = 1 ∧ i.bytes = 24 := by
  have h : (Tryz.prog.info? 55).map (fun i => (i.zero, i.size, i.bytes)) = some (some (.slice none 0 0), 1, 24) := by kernel_rfl
  obtain ⟨i, h1, h2⟩ := Option.map_eq_some_iff.1 h
  simp only [Prod.mk.injEq] at h2
  exact ⟨i, h1, h2.1, h2.2.1, h2.2.2⟩
theorem st55 (H : AHeap) (id off : Nat) (x : Value) : astoreT Tryz.prog H 55 (.pointer (some ⟨id, off, none⟩)) x = if x.cells.size = 1 ∧ x.cells.toList.all oneCell = true then ((H[id]?).bind (rowStore off x.cells.toList)).map fun o => H.set id o else none := astore_rule sz55 H id off x
theorem un55 : Tryz.prog.underlying 55 = some (.slice 57) := by kernel_rfl
theorem el55 : elemT Tryz.prog 55 = some 57 := by kernel_rfl
theorem ln55 (H : AHeap) (a : Option Addr) (m c : Nat) : alen Tryz.prog H 55 (.slice a m c) = some (.int .i64 m) := alen_slice un55 H a m c
theorem cp55 (a : Addr) (m c : Nat) : acap Tryz.prog 55 (.slice (some a) m c) = if c = 0 then none else some (.int .i64 c) := acap_slice un55 a m c
theorem ix55 (id off m c : Nat) (ik : IntKind) (i : Int) : aindexAddr Tryz.prog 55 (.slice (some ⟨id, off, none⟩) m c) (.int ik i) = if 0 ≤ i ∧ i < m then some (.pointer (some ⟨id, off + i.toNat * 6, none⟩)) else none := aindexAddr_at un55 (by kernel_rfl) id off m c ik i
theorem en55 (H : AHeap) (xo yo : Operand) (a : Option Addr) (n c m q : Nat) : abin Tryz.prog H .eql 55 xo yo (.slice a n c) (.slice none m q) = some (.bool a.isNone) := abin_eq_slnil un55 H xo yo a n c m q
theorem nn55 (H : AHeap) (xo yo : Operand) (a : Option Addr) (n c m q : Nat) : abin Tryz.prog H .neq 55 xo yo (.slice a n c) (.slice none m q) = some (.bool !a.isNone) := abin_ne_slnil un55 H xo yo a n c m q
theorem sc55 (H : AHeap) (a : Option Addr) (n c : Nat) (lo hi : Option Value) : aslice Tryz.prog H 55 (.slice a n c) lo hi none = (optB hi (some n) (capOf n c)).bind fun h => (optB lo (some 0) h).bind fun l => cut H 6 a c l h := aslice_sl un55 (by kernel_rfl) H a n c lo hi
theorem sz56 : szT Tryz.prog 56 = some 6 := by kernel_rfl
theorem ag56 : aggT Tryz.prog 56 = some true := by kernel_rfl
theorem ze56 : zeroT Tryz.prog 56 = some (.agg #[.int .i64 0, .int .i64 0, .slice none 0 0, .int .i64 0, .int .i64 0, .slice none 0 0]) := by kernel_rfl
theorem pz56 : plainV 100 (.agg #[.int .i64 0, .int .i64 0, .slice none 0 0, .int .i64 0, .int .i64 0, .slice none 0 0]) = true := by kernel_rfl
theorem inf56 : ∃ i, Tryz.prog.info? 56 = some i ∧ i.zero = some (.agg #[.int .i64 0, .int .i64 0, .slice none 0 0, .int .i64 0, .int .i64 0, .slice none 0 0]) ∧ i.size = 6 ∧ i.bytes = 80 := by
  have h : (Tryz.prog.info? 56).map (fun i => (i.zero, i.size, i.bytes)) = some (some (.agg #[.int .i64 0, .int .i64 0, .slice none 0 0, .int .i64 0, .int .i64 0, .slice none 0 0]), 6, 80) := by kernel_rfl
  obtain ⟨i, h1, h2⟩ := Option.map_eq_some_iff.1 h
  simp only [Prod.mk.injEq] at h2
  exact ⟨i, h1, h2.1, h2.2.1, h2.2.2⟩
theorem st56 (H : AHeap) (id off : Nat) (x : Value) : astoreT Tryz.prog H 56 (.pointer (some ⟨id, off, none⟩)) x = if x.cells.size = 6 ∧ x.cells.toList.all oneCell = true then ((H[id]?).bind (rowStore off x.cells.toList)).map fun o => H.set id o else none := astore_rule sz56 H id off x
theorem fa56_0 (id off : Nat) : afieldAddr Tryz.prog 56 (.pointer (some ⟨id, off, none⟩)) 0 = some (.pointer (some ⟨id, off + 0, none⟩)) := afieldAddr_at (n := 0) (f := (fieldT Tryz.prog 56 0).getD default) (by kernel_rfl) (by kernel_rfl) (by kernel_rfl) id off
theorem fl56_0 (cs : List Value) : afield Tryz.prog 56 (.agg cs.toArray) 0 = cs[0]? := afield_one (f := (fieldT Tryz.prog 56 0).getD default) (by kernel_rfl) (by kernel_rfl) (by kernel_rfl) cs
theorem fa56_1 (id off : Nat) : afieldAddr Tryz.prog 56 (.pointer (some ⟨id, off, none⟩)) 1 = some (.pointer (some ⟨id, off + 1, none⟩)) := afieldAddr_at (n := 0) (f := (fieldT Tryz.prog 56 1).getD default) (by kernel_rfl) (by kernel_rfl) (by kernel_rfl) id off
theorem fl56_1 (cs : List Value) : afield Tryz.prog 56 (.agg cs.toArray) 1 = cs[1]? := afield_one (f := (fieldT Tryz.prog 56 1).getD default) (by kernel_rfl) (by kernel_rfl) (by kernel_rfl) cs
theorem fa56_2 (id off : Nat) : afieldAddr Tryz.prog 56 (.pointer (some ⟨id, off, none⟩)) 2 = some (.pointer (some ⟨id, off + 2, none⟩)) := afieldAddr_at (n := 0) (f := (fieldT Tryz.prog 56 2).getD default) (by kernel_rfl) (by kernel_rfl) (by kernel_rfl) id off
theorem fl56_2 (cs : List Value) : afield Tryz.prog 56 (.agg cs.toArray) 2 = cs[2]? := afield_one (f := (fieldT Tryz.prog 56 2).getD default) (by kernel_rfl) (by kernel_rfl) (by kernel_rfl) cs
theorem fa56_3 (id off : Nat) : afieldAddr Tryz.prog 56 (.pointer (some ⟨id, off, none⟩)) 3 = some (.pointer (some ⟨id, off + 3, none⟩)) := afieldAddr_at (n := 0) (f := (fieldT Tryz.prog 56 3).getD default) (by kernel_rfl) (by kernel_rfl) (by kernel_rfl) id off
theorem fl56_3 (cs : List Value) : afield Tryz.prog 56 (.agg cs.toArray) 3 = cs[3]? := afield_one (f := (fieldT Tryz.prog 56 3).getD default) (by kernel_rfl) (by kernel_rfl) (by kernel_rfl) cs
theorem fa56_4 (id off : Nat) : afieldAddr Tryz.prog 56 (.pointer (some ⟨id, off, none⟩)) 4 = some (.pointer (some ⟨id, off + 4, none⟩)) := afieldAddr_at (n := 0) (f := (fieldT Tryz.prog 56 4).getD default) (by kernel_rfl) (by kernel_rfl) (by kernel_rfl) id off
theorem fl56_4 (cs : List Value) : afield Tryz.prog 56 (.agg cs.toArray) 4 = cs[4]? := afield_one (f := (fieldT Tryz.prog 56 4).getD default) (by kernel_rfl) (by kernel_rfl) (by kernel_rfl) cs
theorem fa56_5 (id off : Nat) : afieldAddr Tryz.prog 56 (.pointer (some ⟨id, off, none⟩)) 5 = some (.pointer (some ⟨id, off + 5, none⟩)) := afieldAddr_at (n := 0) (f := (fieldT Tryz.prog 56 5).getD default) (by kernel_rfl) (by kernel_rfl) (by kernel_rfl) id off
theorem fl56_5 (cs : List Value) : afield Tryz.prog 56 (.agg cs.toArray) 5 = cs[5]? := afield_one (f := (fieldT Tryz.prog 56 5).getD default) (by kernel_rfl) (by kernel_rfl) (by kernel_rfl) cs
theorem sz57 : szT Tryz.prog 57 = some 6 := by kernel_rfl
theorem ag57 : aggT Tryz.prog 57 = some true := by kernel_rfl
theorem ze57 : zeroT Tryz.prog 57 = some (.agg #[.int .i64 0, .int .i64 0, .slice none 0 0, .int .i64 0, .int .i64 0, .slice none 0 0]) := by kernel_rfl
theorem inf57 : ∃ i, Tryz.prog.info? 57 = some i ∧ i.zero = some (.agg #[.int .i64 0, .int .i64 0, .slice none 0 0, .int .i64 0, .int .i64 0, .slice none 0 0]) ∧ i.size = 6 ∧ i.bytes = 80 := by
  have h : (Tryz.prog.info? 57).map (fun i => (i.zero, i.size, i.bytes)) = some (some (.agg #[.int .i64 0, .int .i64 0, .slice none 0 0, .int .i64 0, .int .i64 0, .slice none 0 0]), 6, 80) := by kernel_rfl
  obtain ⟨i, h1, h2⟩ := Option.map_eq_some_iff.1 h
  simp only [Prod.mk.injEq] at h2
  exact ⟨i, h1, h2.1, h2.2.1, h2.2.2⟩
theorem st57 (H : AHeap) (id off : Nat) (x : Value) : astoreT Tryz.prog H 57 (.pointer (some ⟨id, off, none⟩)) x = if x.cells.size = 6 ∧ x.cells.toList.all oneCell = true then ((H[id]?).bind (rowStore off x.cells.toList)).map fun o => H.set id o else none := astore_rule sz57 H id off x
theorem fa57_0 (id off : Nat) : afieldAddr Tryz.prog 57 (.pointer (some ⟨id, off, none⟩)) 0 = some (.pointer (some ⟨id, off + 0, none⟩)) := afieldAddr_at (n := 0) (f := (fieldT Tryz.prog 57 0).getD default) (by kernel_rfl) (by kernel_rfl) (by kernel_rfl) id off
theorem fl57_0 (cs : List Value) : afield Tryz.prog 57 (.agg cs.toArray) 0 = cs[0]? := afield_one (f := (fieldT Tryz.prog 57 0).getD default) (by kernel_rfl) (by kernel_rfl) (by kernel_rfl) cs
theorem fa57_1 (id off : Nat) : afieldAddr Tryz.prog 57 (.pointer (some ⟨id, off, none⟩)) 1 = some (.pointer (some ⟨id, off + 1, none⟩)) := afieldAddr_at (n := 0) (f := (fieldT Tryz.prog 57 1).getD default) (by kernel_rfl) (by kernel_rfl) (by kernel_rfl) id off
theorem fl57_1 (cs : List Value) : afield Tryz.prog 57 (.agg cs.toArray) 1 = cs[1]? := afield_one (f := (fieldT Tryz.prog 57 1).getD default) (by kernel_rfl) (by kernel_rfl) (by kernel_rfl) cs
theorem fa57_2 (id off : Nat) : afieldAddr Tryz.prog 57 (.pointer (some ⟨id, off, none⟩)) 2 = some (.pointer (some ⟨id, off + 2, none⟩)) := afieldAddr_at (n := 0) (f := (fieldT Tryz.prog 57 2).getD default) (by kernel_rfl) (by kernel_rfl) (by kernel_rfl) id off
theorem fl57_2 (cs : List Value) : afield Tryz.prog 57 (.agg cs.toArray) 2 = cs[2]? := afield_one (f := (fieldT Tryz.prog 57 2).getD default) (by kernel_rfl) (by kernel_rfl) (by kernel_rfl) cs
theorem fa57_3 (id off : Nat) : afieldAddr Tryz.prog 57 (.pointer (some ⟨id, off, none⟩)) 3 = some (.pointer (some ⟨id, off + 3, none⟩)) := afieldAddr_at (n := 0) (f := (fieldT Tryz.prog 57 3).getD default) (by kernel_rfl) (by kernel_rfl) (by kernel_rfl) id off
theorem fl57_3 (cs : List Value) : afield Tryz.prog 57 (.agg cs.toArray) 3 = cs[3]? := afield_one (f := (fieldT Tryz.prog 57 3).getD default) (by kernel_rfl) (by kernel_rfl) (by kernel_rfl) cs
theorem fa57_4 (id off : Nat) : afieldAddr Tryz.prog 57 (.pointer (some ⟨id, off, none⟩)) 4 = some (.pointer (some ⟨id, off + 4, none⟩)) := afieldAddr_at (n := 0) (f := (fieldT Tryz.prog 57 4).getD default) (by kernel_rfl) (by kernel_rfl) (by kernel_rfl) id off
theorem fl57_4 (cs : List Value) : afield Tryz.prog 57 (.agg cs.toArray) 4 = cs[4]? := afield_one (f := (fieldT Tryz.prog 57 4).getD default) (by kernel_rfl) (by kernel_rfl) (by kernel_rfl) cs
theorem fa57_5 (id off : Nat) : afieldAddr Tryz.prog 57 (.pointer (some ⟨id, off, none⟩)) 5 = some (.pointer (some ⟨id, off + 5, none⟩)) := afieldAddr_at (n := 0) (f := (fieldT Tryz.prog 57 5).getD default) (by kernel_rfl) (by kernel_rfl) (by kernel_rfl) id off
theorem fl57_5 (cs : List Value) : afield Tryz.prog 57 (.agg cs.toArray) 5 = cs[5]? := afield_one (f := (fieldT Tryz.prog 57 5).getD default) (by kernel_rfl) (by kernel_rfl) (by kernel_rfl) cs
theorem sz58 : szT Tryz.prog 58 = some 1 := by kernel_rfl
theorem ag58 : aggT Tryz.prog 58 = some false := by kernel_rfl
theorem ze58 : zeroT Tryz.prog 58 = some (.slice none 0 0) := by kernel_rfl
theorem inf58 : ∃ i, Tryz.prog.info? 58 = some i ∧ i.zero = some (.slice none 0 0) ∧ i.size = 1 ∧ i.bytes = 24 := by
  have h : (Tryz.prog.info? 58).map (fun i => (i.zero, i.size, i.bytes)) = some (some (.slice none 0 0), 1, 24) := by kernel_rfl
  obtain ⟨i, h1, h2⟩ := Option.map_eq_some_iff.1 h
  simp only [Prod.mk.injEq] at h2
  exact ⟨i, h1, h2.1, h2.2.1, h2.2.2⟩
theorem st58 (H : AHeap) (id off : Nat) (x : Value) : astoreT Tryz.prog H 58 (.pointer (some ⟨id, off, none⟩)) x = if x.cells.size = 1 ∧ x.cells.toList.all oneCell = true then ((H[id]?).bind (rowStore off x.cells.toList)).map fun o => H.set id o else none := astore_rule sz58 H id off x
theorem un58 : Tryz.prog.underlying 58 = some (.slice 33) := by kernel_rfl
theorem el58 : elemT Tryz.prog 58 = some 33 := by kernel_rfl
theorem ln58 (H : AHeap) (a : Option Addr) (m c : Nat) : alen Tryz.prog H 58 (.slice a m c) = some (.int .i64 m) := alen_slice un58 H a m c
theorem cp58 (a : Addr) (m c : Nat) : acap Tryz.prog 58 (.slice (some a) m c) = if c = 0 then none else some (.int .i64 c) := acap_slice un58 a m c
theorem ix58 (id off m c : Nat) (ik : IntKind) (i : Int) : aindexAddr Tryz.prog 58 (.slice (some ⟨id, off, none⟩) m c) (.int ik i) = if 0 ≤ i ∧ i < m then some (.pointer (some ⟨id, off + i.toNat * 1, none⟩)) else none := aindexAddr_at un58 (by kernel_rfl) id off m c ik i
theorem en58 (H : AHeap) (xo yo : Operand) (a : Option Addr) (n c m q : Nat) : abin Tryz.prog H .eql 58 xo yo (.slice a n c) (.slice none m q) = some (.bool a.isNone) := abin_eq_slnil un58 H xo yo a n c m q
theorem nn58 (H : AHeap) (xo yo : Operand) (a : Option Addr) (n c m q : Nat) : abin Tryz.prog H .neq 58 xo yo (.slice a n c) (.slice none m q) = some (.bool !a.isNone) := abin_ne_slnil un58 H xo yo a n c m q
theorem sc58 (H : AHeap) (a : Option Addr) (n c : Nat) (lo hi : Option Value) : aslice Tryz.prog H 58 (.slice a n c) lo hi none = (optB hi (some n) (capOf n c)).bind fun h => (optB lo (some 0) h).bind fun l => cut H 1 a c l h := aslice_sl un58 (by kernel_rfl) H a n c lo hi
theorem sz59 : szT Tryz.prog 59 = some 1 := by kernel_rfl
theorem ag59 : aggT Tryz.prog 59 = some false := by kernel_rfl
theorem ze59 : zeroT Tryz.prog 59 = some (.slice none 0 0) := by kernel_rfl
theorem inf59 : ∃ i, Tryz.prog.info? 59 = some i ∧ i.zero = some (.slice none 0 0) ∧ i.size = 1 ∧ i.bytes = 24 := by
  have h : (Tryz.prog.info? 59).map (fun i => (i.zero, i.size, i.bytes)) = some (some (.slice none 0 0), 1, 24) := by kernel_rfl
  obtain ⟨i, h1, h2⟩ := Option.map_eq_some_iff.1 h
  simp only [Prod.mk.injEq] at h2
  exact ⟨i, h1, h2.1, h2.2.1, h2.2.2⟩
theorem st59 (H : AHeap) (id off : Nat) (x : Value) : astoreT Tryz.prog H 59 (.pointer (some ⟨id, off, none⟩)) x = if x.cells.size = 1 ∧ x.cells.toList.all oneCell = true then ((H[id]?).bind (rowStore off x.cells.toList)).map fun o => H.set id o else none := astore_rule sz59 H id off x
theorem un59 : Tryz.prog.underlying 59 = some (.slice 184) := by kernel_rfl
theorem el59 : elemT Tryz.prog 59 = some 184 := by kernel_rfl
theorem ln59 (H : AHeap) (a : Option Addr) (m c : Nat) : alen Tryz.prog H 59 (.slice a m c) = some (.int .i64 m) := alen_slice un59 H a m c
theorem cp59 (a : Addr) (m c : Nat) : acap Tryz.prog 59 (.slice (some a) m c) = if c = 0 then none else some (.int .i64 c) := acap_slice un59 a m c
theorem ix59 (id off m c : Nat) (ik : IntKind) (i : Int) : aindexAddr Tryz.prog 59 (.slice (some ⟨id, off, none⟩) m c) (.int ik i) = if 0 ≤ i ∧ i < m then some (.pointer (some ⟨id, off + i.toNat * 2, none⟩)) else none := aindexAddr_at un59 (by kernel_rfl) id off m c ik i
theorem en59 (H : AHeap) (xo yo : Operand) (a : Option Addr) (n c m q : Nat) : abin Tryz.prog H .eql 59 xo yo (.slice a n c) (.slice none m q) = some (.bool a.isNone) := abin_eq_slnil un59 H xo yo a n c m q
theorem nn59 (H : AHeap) (xo yo : Operand) (a : Option Addr) (n c m q : Nat) : abin Tryz.prog H .neq 59 xo yo (.slice a n c) (.slice none m q) = some (.bool !a.isNone) := abin_ne_slnil un59 H xo yo a n c m q
theorem sc59 (H : AHeap) (a : Option Addr) (n c : Nat) (lo hi : Option Value) : aslice Tryz.prog H 59 (.slice a n c) lo hi none = (optB hi (some n) (capOf n c)).bind fun h => (optB lo (some 0) h).bind fun l => cut H 2 a c l h := aslice_sl un59 (by kernel_rfl) H a n c lo hi
theorem sz60 : szT Tryz.prog 60 = some 13 := by kernel_rfl
theorem ag60 : aggT Tryz.prog 60 = some true := by kernel_rfl
theorem ze60 : zeroT Tryz.prog 60 = some (.agg #[.int .i64 0, .int .i64 0, .int .i64 0, .int .i64 0, .slice none 0 0, .int .i64 0, .int .i64 0, .slice none 0 0, .int .i64 0, .slice none 0 0, .slice none 0 0, .int .i64 0, .int .i64 0]) := by kernel_rfl
theorem pz60 : plainV 100 (.agg #[.int .i64 0, .int .i64 0, .int .i64 0, .int .i64 0, .slice none 0 0, .int .i64 0, .int .i64 0, .slice none 0 0, .int .i64 0, .slice none 0 0, .slice none 0 0, .int .i64 0, .int .i64 0]) = true := by kernel_rfl
theorem inf60 : ∃ i, Tryz.prog.info? 60 = some i ∧ i.zero = some (.agg #[.int .i64 0, .int .i64 0, .int .i64 0, .int .i64 0, .slice none 0 0, .int .i64 0, .int .i64 0, .slice none 0 0, .int .i64 0, .slice none 0 0, .slice none 0 0, .int .i64 0, .int .i64 0]) ∧ i.size = 13 ∧ i.bytes = 168 := by
  have h : (Tryz.prog.info? 60).map (fun i => (i.zero, i.size, i.bytes)) = some (some (.agg #[.int .i64 0, .int .i64 0, .int .i64 0, .int .i64 0, .slice none 0 0, .int .i64 0, .int .i64 0, .slice none 0 0, .int .i64 0, .slice none 0 0, .slice none 0 0, .int .i64 0, .int .i64 0]), 13, 168) := by kernel_rfl
  obtain ⟨i, h1, h2⟩ := Option.map_eq_some_iff.1 h
  simp only [Prod.mk.injEq] at h2
  exact ⟨i, h1, h2.1, h2.2.1, h2.2.2⟩
theorem st60 (H : AHeap) (id off : Nat) (x : Value) : astoreT Tryz.prog H 60 (.pointer (some ⟨id, off, none⟩)) x = if x.cells.size = 13 ∧ x.cells.toList.all oneCell = true then ((H[id]?).bind (rowStore off x.cells.toList)).map fun o => H.set id o else none := astore_rule sz60 H id off x
theorem fa60_0 (id off : Nat) : afieldAddr Tryz.prog 60 (.pointer (some ⟨id, off, none⟩)) 0 = some (.pointer (some ⟨id, off + 0, none⟩)) := afieldAddr_at (n := 1) (f := (fieldT Tryz.prog 60 0).getD default) (by kernel_rfl) (by kernel_rfl) (by kernel_rfl) id off
theorem fl60_0 (cs : List Value) : afield Tryz.prog 60 (.agg cs.toArray) 0 = some (.agg ((cs.drop 0).take 2).toArray) := afield_agg (f := (fieldT Tryz.prog 60 0).getD default) (by kernel_rfl) (by kernel_rfl) (by kernel_rfl) (by kernel_rfl) cs
theorem fa60_1 (id off : Nat) : afieldAddr Tryz.prog 60 (.pointer (some ⟨id, off, none⟩)) 1 = some (.pointer (some ⟨id, off + 2, none⟩)) := afieldAddr_at (n := 5) (f := (fieldT Tryz.prog 60 1).getD default) (by kernel_rfl) (by kernel_rfl) (by kernel_rfl) id off
theorem fl60_1 (cs : List Value) : afield Tryz.prog 60 (.agg cs.toArray) 1 = some (.agg ((cs.drop 2).take 6).toArray) := afield_agg (f := (fieldT Tryz.prog 60 1).getD default) (by kernel_rfl) (by kernel_rfl) (by kernel_rfl) (by kernel_rfl) cs
theorem fa60_2 (id off : Nat) : afieldAddr Tryz.prog 60 (.pointer (some ⟨id, off, none⟩)) 2 = some (.pointer (some ⟨id, off + 8, none⟩)) := afieldAddr_at (n := 0) (f := (fieldT Tryz.prog 60 2).getD default) (by kernel_rfl) (by kernel_rfl) (by kernel_rfl) id off
theorem fl60_2 (cs : List Value) : afield Tryz.prog 60 (.agg cs.toArray) 2 = cs[8]? := afield_one (f := (fieldT Tryz.prog 60 2).getD default) (by kernel_rfl) (by kernel_rfl) (by kernel_rfl) cs
theorem fa60_3 (id off : Nat) : afieldAddr Tryz.prog 60 (.pointer (some ⟨id, off, none⟩)) 3 = some (.pointer (some ⟨id, off + 9, none⟩)) := afieldAddr_at (n := 0) (f := (fieldT Tryz.prog 60 3).getD default) (by kernel_rfl) (by kernel_rfl) (by kernel_rfl) id off
theorem fl60_3 (cs : List Value) : afield Tryz.prog 60 (.agg cs.toArray) 3 = cs[9]? := afield_one (f := (fieldT Tryz.prog 60 3).getD default) (by kernel_rfl) (by kernel_rfl) (by kernel_rfl) cs
theorem fa60_4 (id off : Nat) : afieldAddr Tryz.prog 60 (.pointer (some ⟨id, off, none⟩)) 4 = some (.pointer (some ⟨id, off + 10, none⟩)) := afieldAddr_at (n := 0) (f := (fieldT Tryz.prog 60 4).getD default) (by kernel_rfl) (by kernel_rfl) (by kernel_rfl) id off
theorem fl60_4 (cs : List Value) : afield Tryz.prog 60 (.agg cs.toArray) 4 = cs[10]? := afield_one (f := (fieldT Tryz.prog 60 4).getD default) (by kernel_rfl) (by kernel_rfl) (by kernel_rfl) cs
theorem fa60_5 (id off : Nat) : afieldAddr Tryz.prog 60 (.pointer (some ⟨id, off, none⟩)) 5 = some (.pointer (some ⟨id, off + 11, none⟩)) := afieldAddr_at (n := 0) (f := (fieldT Tryz.prog 60 5).getD default) (by kernel_rfl) (by kernel_rfl) (by kernel_rfl) id off
theorem fl60_5 (cs : List Value) : afield Tryz.prog 60 (.agg cs.toArray) 5 = cs[11]? := afield_one (f := (fieldT Tryz.prog 60 5).getD default) (by kernel_rfl) (by kernel_rfl) (by kernel_rfl) cs
theorem fa60_6 (id off : Nat) : afieldAddr Tryz.prog 60 (.pointer (some ⟨id, off, none⟩)) 6 = some (.pointer (some ⟨id, off + 12, none⟩)) := afieldAddr_at (n := 0) (f := (fieldT Tryz.prog 60 6).getD default) (by kernel_rfl) (by kernel_rfl) (by kernel_rfl) id off
theorem fl60_6 (cs : List Value) : afield Tryz.prog 60 (.agg cs.toArray) 6 = cs[12]? := afield_one (f := (fieldT Tryz.prog 60 6).getD default) (by kernel_rfl) (by kernel_rfl) (by kernel_rfl) cs
theorem sz61 : szT Tryz.prog 61 = some 13 := by kernel_rfl
theorem ag61 : aggT Tryz.prog 61 = some true := by kernel_rfl
theorem ze61 : zeroT Tryz.prog 61 = some (.agg #[.int .i64 0, .int .i64 0, .int .i64 0, .int .i64 0, .slice none 0 0, .int .i64 0, .int .i64 0, .slice none 0 0, .int .i64 0, .slice none 0 0, .slice none 0 0, .int .i64 0, .int .i64 0]) := by kernel_rfl
theorem inf61 : ∃ i, Tryz.prog.info? 61 = some i ∧ i.zero = some (.agg #[.int .i64 0, .int .i64 0, .int .i64 0, .int .i64 0, .slice none 0 0, .int .i64 0, .int .i64 0, .slice none 0 0, .int .i64 0, .slice none 0 0, .slice none 0 0, .int .i64 0, .int .i64 0]) ∧ i.size = 13 ∧ i.bytes = 168 := by
  have h : (Tryz.prog.info? 61).map (fun i => (i.zero, i.size, i.bytes)) = some (some (.agg #[.int .i64 0, .int .i64 0, .int .i64 0, .int .i64 0, .slice none 0 0, .int .i64 0, .int .i64 0, .slice none 0 0, .int .i64 0, .slice none 0 0, .slice none 0 0, .int .i64 0, .int .i64 0]), 13, 168) := by kernel_rfl
  obtain ⟨i, h1, h2⟩ := Option.map_eq_some_iff.1 h
  simp only [Prod.mk.injEq] at h2
  exact ⟨i, h1, h2.1, h2.2.1, h2.2.2⟩
theorem st61 (H : AHeap) (id off : Nat) (x : Value) : astoreT Tryz.prog H 61 (.pointer (some ⟨id, off, none⟩)) x = if x.cells.size = 13 ∧ x.cells.toList.all oneCell = true then ((H[id]?).bind (rowStore off x.cells.toList)).map fun o => H.set id o else none := astore_rule sz61 H id off x
theorem fa61_0 (id off : Nat) : afieldAddr Tryz.prog 61 (.pointer (some ⟨id, off, none⟩)) 0 = some (.pointer (some ⟨id, off + 0, none⟩)) := afieldAddr_at (n := 1) (f := (fieldT Tryz.prog 61 0).getD default) (by kernel_rfl) (by kernel_rfl) (by kernel_rfl) id off
theorem fl61_0 (cs : List Value) : afield Tryz.prog 61 (.agg cs.toArray) 0 = some (.agg ((cs.drop 0).take 2).toArray) := afield_agg (f := (fieldT Tryz.prog 61 0).getD default) (by kernel_rfl) (by kernel_rfl) (by kernel_rfl) (by kernel_rfl) cs
theorem fa61_1 (id off : Nat) : afieldAddr Tryz.prog 61 (.pointer (some ⟨id, off, none⟩)) 1 = some (.pointer (some ⟨id, off + 2, none⟩)) := afieldAddr_at (n := 5) (f := (fieldT Tryz.prog 61 1).getD default) (by kernel_rfl) (by kernel_rfl) (by kernel_rfl) id off
theorem fl61_1 (cs : List Value) : afield Tryz.prog 61 (.agg cs.toArray) 1 = some (.agg ((cs.drop 2).take 6).toArray) := afield_agg (f := (fieldT Tryz.prog 61 1).getD default) (by kernel_rfl) (by kernel_rfl) (by kernel_rfl) (by kernel_rfl) cs
theorem fa61_2 (id off : Nat) : afieldAddr Tryz.prog 61 (.pointer (some ⟨id, off, none⟩)) 2 = some (.pointer (some ⟨id, off + 8, none⟩)) := afieldAddr_at (n := 0) (f := (fieldT Tryz.prog 61 2).getD default) (by kernel_rfl) (by kernel_rfl) (by kernel_rfl) id off
theorem fl61_2 (cs : List Value) : afield Tryz.prog 61 (.agg cs.toArray) 2 = cs[8]? := afield_one (f := (fieldT Tryz.prog 61 2).getD default) (by kernel_rfl) (by kernel_rfl) (by kernel_rfl) cs
theorem fa61_3 (id off : Nat) : afieldAddr Tryz.prog 61 (.pointer (some ⟨id, off, none⟩)) 3 = some (.pointer (some ⟨id, off + 9, none⟩)) := afieldAddr_at (n := 0) (f := (fieldT Tryz.prog 61 3).getD default) (by kernel_rfl) (by kernel_rfl) (by kernel_rfl) id off
theorem fl61_3 (cs : List Value) : afield Tryz.prog 61 (.agg cs.toArray) 3 = cs[9]? := afield_one (f := (fieldT Tryz.prog 61 3).getD default) (by kernel_rfl) (by kernel_rfl) (by kernel_rfl) cs
theorem fa61_4 (id off : Nat) : afieldAddr Tryz.prog 61 (.pointer (some ⟨id, off, none⟩)) 4 = some (.pointer (some ⟨id, off + 10, none⟩)) := afieldAddr_at (n := 0) (f := (fieldT Tryz.prog 61 4).getD default) (by kernel_rfl) (by kernel_rfl) (by kernel_rfl) id off
theorem fl61_4 (cs : List Value) : afield Tryz.prog 61 (.agg cs.toArray) 4 = cs[10]? := afield_one (f := (fieldT Tryz.prog 61 4).getD default) (by kernel_rfl) (by kernel_rfl) (by kernel_rfl) cs
theorem fa61_5 (id off : Nat) : afieldAddr Tryz.prog 61 (.pointer (some ⟨id, off, none⟩)) 5 = some (.pointer (some ⟨id, off + 11, none⟩)) := afieldAddr_at (n := 0) (f := (fieldT Tryz.prog 61 5).getD default) (by kernel_rfl) (by kernel_rfl) (by kernel_rfl) id off
theorem fl61_5 (cs : List Value) : afield Tryz.prog 61 (.agg cs.toArray) 5 = cs[11]? := afield_one (f := (fieldT Tryz.prog 61 5).getD default) (by kernel_rfl) (by kernel_rfl) (by kernel_rfl) cs
theorem fa61_6 (id off : Nat) : afieldAddr Tryz.prog 61 (.pointer (some ⟨id, off, none⟩)) 6 = some (.pointer (some ⟨id, off + 12, none⟩)) := afieldAddr_at (n := 0) (f := (fieldT Tryz.prog 61 6).getD default) (by kernel_rfl) (by kernel_rfl) (by kernel_rfl) id off
theorem fl61_6 (cs : List Value) : afield Tryz.prog 61 (.agg cs.toArray) 6 = cs[12]? := afield_one (f := (fieldT Tryz.prog 61 6).getD default) (by kernel_rfl) (by kernel_rfl) (by kernel_rfl) cs
theorem sz62 : szT Tryz.prog 62 = some 5 := by kernel_rfl
theorem ag62 : aggT Tryz.prog 62 = some true := by kernel_rfl
theorem ze62 : zeroT Tryz.prog 62 = some (.agg #[.int .i64 0, .int .i64 0, .int .i64 0, .int .i64 0, .int .i64 0]) := by kernel_rfl
theorem pz62 : plainV 100 (.agg #[.int .i64 0, .int .i64 0, .int .i64 0, .int .i64 0, .int .i64 0]) = true := by kernel_rfl
theorem inf62 : ∃ i, Tryz.prog.info? 62 = some i ∧ i.zero = some (.agg #[.int .i64 0, .int .i64 0, .int .i64 0, .int .i64 0, .int .i64 0]) ∧ i.size = 5 ∧ i.bytes = 40 := by
  have h : (Tryz.prog.info? 62).map (fun i => (i.zero, i.size, i.bytes)) = some (some (.agg #[.int .i64 0, .int .i64 0, .int .i64 0, .int .i64 0, .int .i64 0]), 5, 40) := by kernel_rfl
  obtain ⟨i, h1, h2⟩ := Option.map_eq_some_iff.1 h
  simp only [Prod.mk.injEq] at h2
  exact ⟨i, h1, h2.1, h2.2.1, h2.2.2⟩
theorem st62 (H : AHeap) (id off : Nat) (x : Value) : astoreT Tryz.prog H 62 (.pointer (some ⟨id, off, none⟩)) x = if x.cells.size = 5 ∧ x.cells.toList.all oneCell = true then ((H[id]?).bind (rowStore off x.cells.toList)).map fun o => H.set id o else none := astore_rule sz62 H id off x
theorem fa62_0 (id off : Nat) : afieldAddr Tryz.prog 62 (.pointer (some ⟨id, off, none⟩)) 0 = some (.pointer (some ⟨id, off + 0, none⟩)) := afieldAddr_at (n := 1) (f := (fieldT Tryz.prog 62 0).getD default) (by kernel_rfl) (by kernel_rfl) (by kernel_rfl) id off
theorem fl62_0 (cs : List Value) : afield Tryz.prog 62 (.agg cs.toArray) 0 = some (.agg ((cs.drop 0).take 2).toArray) := afield_agg (f := (fieldT Tryz.prog 62 0).getD default) (by kernel_rfl) (by kernel_rfl) (by kernel_rfl) (by kernel_rfl) cs
theorem fa62_1 (id off : Nat) : afieldAddr Tryz.prog 62 (.pointer (some ⟨id, off, none⟩)) 1 = some (.pointer (some ⟨id, off + 2, none⟩)) := afieldAddr_at (n := 0) (f := (fieldT Tryz.prog 62 1).getD default) (by kernel_rfl) (by kernel_rfl) (by kernel_rfl) id off
theorem fl62_1 (cs : List Value) : afield Tryz.prog 62 (.agg cs.toArray) 1 = cs[2]? := afield_one (f := (fieldT Tryz.prog 62 1).getD default) (by kernel_rfl) (by kernel_rfl) (by kernel_rfl) cs
theorem fa62_2 (id off : Nat) : afieldAddr Tryz.prog 62 (.pointer (some ⟨id, off, none⟩)) 2 = some (.pointer (some ⟨id, off + 3, none⟩)) := afieldAddr_at (n := 0) (f := (fieldT Tryz.prog 62 2).getD default) (by kernel_rfl) (by kernel_rfl) (by kernel_rfl) id off
theorem fl62_2 (cs : List Value) : afield Tryz.prog 62 (.agg cs.toArray) 2 = cs[3]? := afield_one (f := (fieldT Tryz.prog 62 2).getD default) (by kernel_rfl) (by kernel_rfl) (by kernel_rfl) cs
theorem fa62_3 (id off : Nat) : afieldAddr Tryz.prog 62 (.pointer (some ⟨id, off, none⟩)) 3 = some (.pointer (some ⟨id, off + 4, none⟩)) := afieldAddr_at (n := 0) (f := (fieldT Tryz.prog 62 3).getD default) (by kernel_rfl) (by kernel_rfl) (by kernel_rfl) id off
theorem fl62_3 (cs : List Value) : afield Tryz.prog 62 (.agg cs.toArray) 3 = cs[4]? := afield_one (f := (fieldT Tryz.prog 62 3).getD default) (by kernel_rfl) (by kernel_rfl) (by kernel_rfl) cs
theorem sz63 : szT Tryz.prog 63 = some 5 := by kernel_rfl
theorem ag63 : aggT Tryz.prog 63 = some true := by kernel_rfl
theorem ze63 : zeroT Tryz.prog 63 = some (.agg #[.int .i64 0, .int .i64 0, .int .i64 0, .int .i64 0, .int .i64 0]) := by kernel_rfl
theorem inf63 : ∃ i, Tryz.prog.info? 63 = some i ∧ i.zero = some (.agg #[.int .i64 0, .int .i64 0, .int .i64 0, .int .i64 0, .int .i64 0]) ∧ i.size = 5 ∧ i.bytes = 40 := by
  have h : (Tryz.prog.info? 63).map (fun i => (i.zero, i.size, i.bytes)) = some (some (.agg #[.int .i64 0, .int .i64 0, .int .i64 0, .int .i64 0, .int .i64 0]), 5, 40) := by kernel_rfl
  obtain ⟨i, h1, h2⟩ := Option.map_eq_some_iff.1 h
  simp only [Prod.mk.injEq] at h2
  exact ⟨i, h1, h2.1, h2.2.1, h2.2.2⟩
theorem st63 (H : AHeap) (id off : Nat) (x : Value) : astoreT Tryz.prog H 63 (.pointer (some ⟨id, off, none⟩)) x = if x.cells.size = 5 ∧ x.cells.toList.all oneCell = true then ((H[id]?).bind (rowStore off x.cells.toList)).map fun o => H.set id o else none := astore_rule sz63 H id off x
theorem fa63_0 (id off : Nat) : afieldAddr Tryz.prog 63 (.pointer (some ⟨id, off, none⟩)) 0 = some (.pointer (some ⟨id, off + 0, none⟩)) := afieldAddr_at (n := 1) (f := (fieldT Tryz.prog 63 0).getD default) (by kernel_rfl) (by kernel_rfl) (by kernel_rfl) id off
theorem fl63_0 (cs : List Value) : afield Tryz.prog 63 (.agg cs.toArray) 0 = some (.agg ((cs.drop 0).take 2).toArray) := afield_agg (f := (fieldT Tryz.prog 63 0).getD default) (by kernel_rfl) (by kernel_rfl) (by kernel_rfl) (by kernel_rfl) cs
theorem fa63_1 (id off : Nat) : afieldAddr Tryz.prog 63 (.pointer (some ⟨id, off, none⟩)) 1 = some (.pointer (some ⟨id, off + 2, none⟩)) := afieldAddr_at (n := 0) (f := (fieldT Tryz.prog 63 1).getD default) (by kernel_rfl) (by kernel_rfl) (by kernel_rfl) id off
theorem fl63_1 (cs : List Value) : afield Tryz.prog 63 (.agg cs.toArray) 1 = cs[2]? := afield_one (f := (fieldT Tryz.prog 63 1).getD default) (by kernel_rfl) (by kernel_rfl) (by kernel_rfl) cs
theorem fa63_2 (id off : Nat) : afieldAddr Tryz.prog 63 (.pointer (some ⟨id, off, none⟩)) 2 = some (.pointer (some ⟨id, off + 3, none⟩)) := afieldAddr_at (n := 0) (f := (fieldT Tryz.prog 63 2).getD default) (by kernel_rfl) (by kernel_rfl) (by kernel_rfl) id off
theorem fl63_2 (cs : List Value) : afield Tryz.prog 63 (.agg cs.toArray) 2 = cs[3]? := afield_one (f := (fieldT Tryz.prog 63 2).getD default) (by kernel_rfl) (by kernel_rfl) (by kernel_rfl) cs
theorem fa63_3 (id off : Nat) : afieldAddr Tryz.prog 63 (.pointer (some ⟨id, off, none⟩)) 3 = some (.pointer (some ⟨id, off + 4, none⟩)) := afieldAddr_at (n := 0) (f := (fieldT Tryz.prog 63 3).getD default) (by kernel_rfl) (by kernel_rfl) (by kernel_rfl) id off
theorem fl63_3 (cs : List Value) : afield Tryz.prog 63 (.agg cs.toArray) 3 = cs[4]? := afield_one (f := (fieldT Tryz.prog 63 3).getD default) (by kernel_rfl) (by kernel_rfl) (by kernel_rfl) cs
theorem sz64 : szT Tryz.prog 64 = some 7 := by kernel_rfl
theorem ag64 : aggT Tryz.prog 64 = some true := by kernel_rfl
theorem ze64 : zeroT Tryz.prog 64 = some (.agg #[.int .i64 0, .int .i64 0, .int .i64 0, .int .i64 0, .int .i64 0, .int .i64 0, .int .i64 0]) := by kernel_rfl
theorem pz64 : plainV 100 (.agg #[.int .i64 0, .int .i64 0, .int .i64 0, .int .i64 0, .int .i64 0, .int .i64 0, .int .i64 0]) = true := by kernel_rfl
theorem inf64 : ∃ i, Tryz.prog.info? 64 = some i ∧ i.zero = some (.agg #[.int .i64 0, .int .i64 0, .int .i64 0, .int .i64 0, .int .i64 0, .int .i64 0, .int .i64 0]) ∧ i.size = 7 ∧ i.bytes = 56 := by
  have h : (Tryz.prog.info? 64).map (fun i => (i.zero, i.size, i.bytes)) = some (some (.agg #[.int .i64 0, .int .i64 0, .int .i64 0, .int .i64 0, .int .i64 0, .int .i64 0, .int .i64 0]), 7, 56) := by kernel_rfl
  obtain ⟨i, h1, h2⟩ := Option.map_eq_some_iff.1 h
  simp only [Prod.mk.injEq] at h2
  exact ⟨i, h1, h2.1, h2.2.1, h2.2.2⟩
theorem st64 (H : AHeap) (id off : Nat) (x : Value) : astoreT Tryz.prog H 64 (.pointer (some ⟨id, off, none⟩)) x = if x.cells.size = 7 ∧ x.cells.toList.all oneCell = true then ((H[id]?).bind (rowStore off x.cells.toList)).map fun o => H.set id o else none := astore_rule sz64 H id off x
theorem fa64_0 (id off : Nat) : afieldAddr Tryz.prog 64 (.pointer (some ⟨id, off, none⟩)) 0 = some (.pointer (some ⟨id, off + 0, none⟩)) := afieldAddr_at (n := 4) (f := (fieldT Tryz.prog 64 0).getD default) (by kernel_rfl) (by kernel_rfl) (by kernel_rfl) id off
theorem fl64_0 (cs : List Value) : afield Tryz.prog 64 (.agg cs.toArray) 0 = some (.agg ((cs.drop 0).take 5).toArray) := afield_agg (f := (fieldT Tryz.prog 64 0).getD default) (by kernel_rfl) (by kernel_rfl) (by kernel_rfl) (by kernel_rfl) cs
theorem fa64_1 (id off : Nat) : afieldAddr Tryz.prog 64 (.pointer (some ⟨id, off, none⟩)) 1 = some (.pointer (some ⟨id, off + 5, none⟩)) := afieldAddr_at (n := 1) (f := (fieldT Tryz.prog 64 1).getD default) (by kernel_rfl) (by kernel_rfl) (by kernel_rfl) id off
theorem fl64_1 (cs : List Value) : afield Tryz.prog 64 (.agg cs.toArray) 1 = some (.agg ((cs.drop 5).take 2).toArray) := afield_agg (f := (fieldT Tryz.prog 64 1).getD default) (by kernel_rfl) (by kernel_rfl) (by kernel_rfl) (by kernel_rfl) cs
theorem sz65 : szT Tryz.prog 65 = some 7 := by kernel_rfl
theorem ag65 : aggT Tryz.prog 65 = some true := by kernel_rfl
theorem ze65 : zeroT Tryz.prog 65 = some (.agg #[.int .i64 0, .int .i64 0, .int .i64 0, .int .i64 0, .int .i64 0, .int .i64 0, .int .i64 0]) := by kernel_rfl
theorem inf65 : ∃ i, Tryz.prog.info? 65 = some i ∧ i.zero = some (.agg #[.int .i64 0, .int .i64 0, .int .i64 0, .int .i64 0, .int .i64 0, .int .i64 0, .int .i64 0]) ∧ i.size = 7 ∧ i.bytes = 56 := by
  have h : (Tryz.prog.info? 65).map (fun i => (i.zero, i.size, i.bytes)) = some (some (.agg #[.int .i64 0, .int .i64 0, .int .i64 0, .int .i64 0, .int .i64 0, .int .i64 0, .int .i64 0]), 7, 56) := by kernel_rfl
  obtain ⟨i, h1, h2⟩ := Option.map_eq_some_iff.1 h
  simp only [Prod.mk.injEq] at h2
  exact ⟨i, h1, h2.1, h2.2.1, h2.2.2⟩
theorem st65 (H : AHeap) (id off : Nat) (x : Value) : astoreT Tryz.prog H 65 (.pointer (some ⟨id, off, none⟩)) x = if x.cells.size = 7 ∧ x.cells.toList.all oneCell = true then ((H[id]?).bind (rowStore off x.cells.toList)).map fun o => H.set id o else none := astore_rule sz65 H id off x
theorem fa65_0 (id off : Nat) : afieldAddr Tryz.prog 65 (.pointer (some ⟨id, off, none⟩)) 0 = some (.pointer (some ⟨id, off + 0, none⟩)) := afieldAddr_at (n := 4) (f := (fieldT Tryz.prog 65 0).getD default) (by kernel_rfl) (by kernel_rfl) (by kernel_rfl) id off
theorem fl65_0 (cs : List Value) : afield Tryz.prog 65 (.agg cs.toArray) 0 = some (.agg ((cs.drop 0).take 5).toArray) := afield_agg (f := (fieldT Tryz.prog 65 0).getD default) (by kernel_rfl) (by kernel_rfl) (by kernel_rfl) (by kernel_rfl) cs
theorem fa65_1 (id off : Nat) : afieldAddr Tryz.prog 65 (.pointer (some ⟨id, off, none⟩)) 1 = some (.pointer (some ⟨id, off + 5, none⟩)) := afieldAddr_at (n := 1) (f := (fieldT Tryz.prog 65 1).getD default) (by kernel_rfl) (by kernel_rfl) (by kernel_rfl) id off
theorem fl65_1 (cs : List Value) : afield Tryz.prog 65 (.agg cs.toArray) 1 = some (.agg ((cs.drop 5).take 2).toArray) := afield_agg (f := (fieldT Tryz.prog 65 1).getD default) (by kernel_rfl) (by kernel_rfl) (by kernel_rfl) (by kernel_rfl) cs
theorem sz66 : szT Tryz.prog 66 = some 7 := by kernel_rfl
theorem ag66 : aggT Tryz.prog 66 = some true := by kernel_rfl
theorem ze66 : zeroT Tryz.prog 66 = some (.agg #[.bool false, .int .i64 0, .int .i64 0, .int .i64 0, .int .i64 0, .int .i64 0, .int .i64 0]) := by kernel_rfl
theorem pz66 : plainV 100 (.agg #[.bool false, .int .i64 0, .int .i64 0, .int .i64 0, .int .i64 0, .int .i64 0, .int .i64 0]) = true := by kernel_rfl
theorem inf66 : ∃ i, Tryz.prog.info? 66 = some i ∧ i.zero = some (.agg #[.bool false, .int .i64 0, .int .i64 0, .int .i64 0, .int .i64 0, .int .i64 0, .int .i64 0]) ∧ i.size = 7 ∧ i.bytes = 56 := by
  have h : (Tryz.prog.info? 66).map (fun i => (i.zero, i.size, i.bytes)) = some (some (.agg #[.bool false, .int .i64 0, .int .i64 0, .int .i64 0, .int .i64 0, .int .i64 0, .int .i64 0]), 7, 56) := by kernel_rfl
  obtain ⟨i, h1, h2⟩ := Option.map_eq_some_iff.1 h
  simp only [Prod.mk.injEq] at h2
  exact ⟨i, h1, h2.1, h2.2.1, h2.2.2⟩
theorem st66 (H : AHeap) (id off : Nat) (x : Value) : astoreT Tryz.prog H 66 (.pointer (some ⟨id, off, none⟩)) x = if x.cells.size = 7 ∧ x.cells.toList.all oneCell = true then ((H[id]?).bind (rowStore off x.cells.toList)).map fun o => H.set id o else none := astore_rule sz66 H id off x
theorem fa66_0 (id off : Nat) : afieldAddr Tryz.prog 66 (.pointer (some ⟨id, off, none⟩)) 0 = some (.pointer (some ⟨id, off + 0, none⟩)) := afieldAddr_at (n := 0) (f := (fieldT Tryz.prog 66 0).getD default) (by kernel_rfl) (by kernel_rfl) (by kernel_rfl) id off
theorem fl66_0 (cs : List Value) : afield Tryz.prog 66 (.agg cs.toArray) 0 = cs[0]? := afield_one (f := (fieldT Tryz.prog 66 0).getD default) (by kernel_rfl) (by kernel_rfl) (by kernel_rfl) cs
theorem fa66_1 (id off : Nat) : afieldAddr Tryz.prog 66 (.pointer (some ⟨id, off, none⟩)) 1 = some (.pointer (some ⟨id, off + 1, none⟩)) := afieldAddr_at (n := 4) (f := (fieldT Tryz.prog 66 1).getD default) (by kernel_rfl) (by kernel_rfl) (by kernel_rfl) id off
theorem fl66_1 (cs : List Value) : afield Tryz.prog 66 (.agg cs.toArray) 1 = some (.agg ((cs.drop 1).take 5).toArray) := afield_agg (f := (fieldT Tryz.prog 66 1).getD default) (by kernel_rfl) (by kernel_rfl) (by kernel_rfl) (by kernel_rfl) cs
theorem fa66_2 (id off : Nat) : afieldAddr Tryz.prog 66 (.pointer (some ⟨id, off, none⟩)) 2 = some (.pointer (some ⟨id, off + 6, none⟩)) := afieldAddr_at (n := 0) (f := (fieldT Tryz.prog 66 2).getD default) (by kernel_rfl) (by kernel_rfl) (by kernel_rfl) id off
theorem fl66_2 (cs : List Value) : afield Tryz.prog 66 (.agg cs.toArray) 2 = cs[6]? := afield_one (f := (fieldT Tryz.prog 66 2).getD default) (by kernel_rfl) (by kernel_rfl) (by kernel_rfl) cs
theorem sz67 : szT Tryz.prog 67 = some 7 := by kernel_rfl
theorem ag67 : aggT Tryz.prog 67 = some true := by kernel_rfl
theorem ze67 : zeroT Tryz.prog 67 = some (.agg #[.bool false, .int .i64 0, .int .i64 0, .int .i64 0, .int .i64 0, .int .i64 0, .int .i64 0]) := by kernel_rfl
theorem inf67 : ∃ i, Tryz.prog.info? 67 = some i ∧ i.zero = some (.agg #[.bool false, .int .i64 0, .int .i64 0, .int .i64 0, .int .i64 0, .int .i64 0, .int .i64 0]) ∧ i.size = 7 ∧ i.bytes = 56 := by
  have h : (Tryz.prog.info? 67).map (fun i => (i.zero, i.size, i.bytes)) = some (some (.agg #[.bool false, .int .i64 0, .int .i64 0, .int .i64 0, .int .i64 0, .int .i64 0, .int .i64 0]), 7, 56) := by kernel_rfl
  obtain ⟨i, h1, h2⟩ := Option.map_eq_some_iff.1 h
  simp only [Prod.mk.injEq] at h2
  exact ⟨i, h1, h2.1, h2.2.1, h2.2.2⟩
theorem st67 (H : AHeap) (id off : Nat) (x : Value) : astoreT Tryz.prog H 67 (.pointer (some ⟨id, off, none⟩)) x = if x.cells.size = 7 ∧ x.cells.toList.all oneCell = true then ((H[id]?).bind (rowStore off x.cells.toList)).map fun o => H.set id o else none := astore_rule sz67 H id off x
theorem fa67_0 (id off : Nat) : afieldAddr Tryz.prog 67 (.pointer (some ⟨id, off, none⟩)) 0 = some (.pointer (some ⟨id, off + 0, none⟩)) := afieldAddr_at (n := 0) (f := (fieldT Tryz.prog 67 0).getD default) (by kernel_rfl) (by kernel_rfl) (by kernel_rfl) id off
theorem fl67_0 (cs : List Value) : afield Tryz.prog 67 (.agg cs.toArray) 0 = cs[0]? := afield_one (f := (fieldT Tryz.prog 67 0).getD default) (by kernel_rfl) (by kernel_rfl) (by kernel_rfl) cs
theorem fa67_1 (id off : Nat) : afieldAddr Tryz.prog 67 (.pointer (some ⟨id, off, none⟩)) 1 = some (.pointer (some ⟨id, off + 1, none⟩)) := afieldAddr_at (n := 4) (f := (fieldT Tryz.prog 67 1).getD default) (by kernel_rfl) (by kernel_rfl) (by kernel_rfl) id off
theorem fl67_1 (cs : List Value) : afield Tryz.prog 67 (.agg cs.toArray) 1 = some (.agg ((cs.drop 1).take 5).toArray) := afield_agg (f := (fieldT Tryz.prog 67 1).getD default) (by kernel_rfl) (by kernel_rfl) (by kernel_rfl) (by kernel_rfl) cs
theorem fa67_2 (id off : Nat) : afieldAddr Tryz.prog 67 (.pointer (some ⟨id, off, none⟩)) 2 = some (.pointer (some ⟨id, off + 6, none⟩)) := afieldAddr_at (n := 0) (f := (fieldT Tryz.prog 67 2).getD default) (by kernel_rfl) (by kernel_rfl) (by kernel_rfl) id off
theorem fl67_2 (cs : List Value) : afield Tryz.prog 67 (.agg cs.toArray) 2 = cs[6]? := afield_one (f := (fieldT Tryz.prog 67 2).getD default) (by kernel_rfl) (by kernel_rfl) (by kernel_rfl) cs
theorem sz68 : szT Tryz.prog 68 = some 1 := by kernel_rfl
theorem ag68 : aggT Tryz.prog 68 = some false := by kernel_rfl
theorem ze68 : zeroT Tryz.prog 68 = some (.slice none 0 0) := by kernel_rfl
theorem inf68 : ∃ i, Tryz.prog.info? 68 = some i ∧ i.zero = some (.slice none 0 0) ∧ i.size = 1 ∧ i.bytes = 24 := by
  have h : (Tryz.prog.info? 68).map (fun i => (i.zero, i.size, i.bytes)) = some (some (.slice none 0 0), 1, 24) := by kernel_rfl
  obtain ⟨i, h1, h2⟩ := Option.map_eq_some_iff.1 h
  simp only [Prod.mk.injEq] at h2
  exact ⟨i, h1, h2.1, h2.2.1, h2.2.2⟩
theorem st68 (H : AHeap) (id off : Nat) (x : Value) : astoreT Tryz.prog H 68 (.pointer (some ⟨id, off, none⟩)) x = if x.cells.size = 1 ∧ x.cells.toList.all oneCell = true then ((H[id]?).bind (rowStore off x.cells.toList)).map fun o => H.set id o else none := astore_rule sz68 H id off x
theorem un68 : Tryz.prog.underlying 68 = some (.slice 286) := by kernel_rfl
theorem el68 : elemT Tryz.prog 68 = some 286 := by kernel_rfl
theorem ln68 (H : AHeap) (a : Option Addr) (m c : Nat) : alen Tryz.prog H 68 (.slice a m c) = some (.int .i64 m) := alen_slice un68 H a m c
theorem cp68 (a : Addr) (m c : Nat) : acap Tryz.prog 68 (.slice (some a) m c) = if c = 0 then none else some (.int .i64 c) := acap_slice un68 a m c
theorem ix68 (id off m c : Nat) (ik : IntKind) (i : Int) : aindexAddr Tryz.prog 68 (.slice (some ⟨id, off, none⟩) m c) (.int ik i) = if 0 ≤ i ∧ i < m then some (.pointer (some ⟨id, off + i.toNat * 4, none⟩)) else none := aindexAddr_at un68 (by kernel_rfl) id off m c ik i
theorem en68 (H : AHeap) (xo yo : Operand) (a : Option Addr) (n c m q : Nat) : abin Tryz.prog H .eql 68 xo yo (.slice a n c) (.slice none m q) = some (.bool a.isNone) := abin_eq_slnil un68 H xo yo a n c m q
theorem nn68 (H : AHeap) (xo yo : Operand) (a : Option Addr) (n c m q : Nat) : abin Tryz.prog H .neq 68 xo yo (.slice a n c) (.slice none m q) = some (.bool !a.isNone) := abin_ne_slnil un68 H xo yo a n c m q
theorem sc68 (H : AHeap) (a : Option Addr) (n c : Nat) (lo hi : Option Value) : aslice Tryz.prog H 68 (.slice a n c) lo hi none = (optB hi (some n) (capOf n c)).bind fun h => (optB lo (some 0) h).bind fun l => cut H 4 a c l h := aslice_sl un68 (by kernel_rfl) H a n c lo hi
theorem sz69 : szT Tryz.prog 69 = some 41 := by kernel_rfl
theorem ag69 : aggT Tryz.prog 69 = some true := by kernel_rfl
theorem ze69 : zeroT Tryz.prog 69 = some (.agg #[.int .i64 0, .int .i64 0, .int .i64 0, .int .u64 0, .int .u64 0, .int .u64 0, .int .i64 0, .int .u64 0, .int .i64 0, .int .i64 0, .slice none 0 0, .slice none 0 0, .int .i64 0, .int .i64 0, .int .i64 0, .int .i64 0, .slice none 0 0, .int .i64 0, .int .i64 0, .slice none 0 0, .int .i64 0, .slice none 0 0, .slice none 0 0, .int .i64 0, .int .i64 0, .int .i64 0, .int .i64 0, .int .i64 0, .int .i64 0, .int .i64 0, .int .i64 0, .int .i64 0, .bool false, .int .i64 0, .int .i64 0, .int .i64 0, .int .i64 0, .int .i64 0, .int .i64 0, .slice none 0 0, .slice none 0 0]) := by kernel_rfl
theorem pz69 : plainV 100 (.agg #[.int .i64 0, .int .i64 0, .int .i64 0, .int .u64 0, .int .u64 0, .int .u64 0, .int .i64 0, .int .u64 0, .int .i64 0, .int .i64 0, .slice none 0 0, .slice none 0 0, .int .i64 0, .int .i64 0, .int .i64 0, .int .i64 0, .slice none 0 0, .int .i64 0, .int .i64 0, .slice none 0 0, .int .i64 0, .slice none 0 0, .slice none 0 0, .int .i64 0, .int .i64 0, .int .i64 0, .int .i64 0, .int .i64 0, .int .i64 0, .int .i64 0, .int .i64 0, .int .i64 0, .bool false, .int .i64 0, .int .i64 0, .int .i64 0, .int .i64 0, .int .i64 0, .int .i64 0, .slice none 0 0, .slice none 0 0]) = true := by kernel_rfl
theorem inf69 : ∃ i, Tryz.prog.info? 69 = some i ∧ i.zero = some (.agg #[.int .i64 0, .int .i64 0, .int .i64 0, .int .u64 0, .int .u64 0, .int .u64 0, .int .i64 0, .int .u64 0, .int .i64 0, .int .i64 0, .slice none 0 0, .slice none 0 0, .int .i64 0, .int .i64 0, .int .i64 0, .int .i64 0, .slice none 0 0, .int .i64 0, .int .i64 0, .slice none 0 0, .int .i64 0, .slice none 0 0, .slice none 0 0, .int .i64 0, .int .i64 0, .int .i64 0, .int .i64 0, .int .i64 0, .int .i64 0, .int .i64 0, .int .i64 0, .int .i64 0, .bool false, .int .i64 0, .int .i64 0, .int .i64 0, .int .i64 0, .int .i64 0, .int .i64 0, .slice none 0 0, .slice none 0 0]) ∧ i.size = 41 ∧ i.bytes = 456 := by
  have h : (Tryz.prog.info? 69).map (fun i => (i.zero, i.size, i.bytes)) = some (some (.agg #[.int .i64 0, .int .i64 0, .int .i64 0, .int .u64 0, .int .u64 0, .int .u64 0, .int .i64 0, .int .u64 0, .int .i64 0, .int .i64 0, .slice none 0 0, .slice none 0 0, .int .i64 0, .int .i64 0, .int .i64 0, .int .i64 0, .slice none 0 0, .int .i64 0, .int .i64 0, .slice none 0 0, .int .i64 0, .slice none 0 0, .slice none 0 0, .int .i64 0, .int .i64 0, .int .i64 0, .int .i64 0, .int .i64 0, .int .i64 0, .int .i64 0, .int .i64 0, .int .i64 0, .bool false, .int .i64 0, .int .i64 0, .int .i64 0, .int .i64 0, .int .i64 0, .int .i64 0, .slice none 0 0, .slice none 0 0]), 41, 456) := by kernel_rfl
  obtain ⟨i, h1, h2⟩ := Option.map_eq_some_iff.1 h
  simp only [Prod.mk.injEq] at h2
  exact ⟨i, h1, h2.1, h2.2.1, h2.2.2⟩
theorem st69 (H : AHeap) (id off : Nat) (x : Value) : astoreT Tryz.prog H 69 (.pointer (some ⟨id, off, none⟩)) x = if x.cells.size = 41 ∧ x.cells.toList.all oneCell = true then ((H[id]?).bind (rowStore off x.cells.toList)).map fun o => H.set id o else none := astore_rule sz69 H id off x
theorem fa69_0 (id off : Nat) : afieldAddr Tryz.prog 69 (.pointer (some ⟨id, off, none⟩)) 0 = some (.pointer (some ⟨id, off + 0, none⟩)) := afieldAddr_at (n := 0) (f := (fieldT Tryz.prog 69 0).getD default) (by kernel_rfl) (by kernel_rfl) (by kernel_rfl) id off
theorem fl69_0 (cs : List Value) : afield Tryz.prog 69 (.agg cs.toArray) 0 = cs[0]? := afield_one (f := (fieldT Tryz.prog 69 0).getD default) (by kernel_rfl) (by kernel_rfl) (by kernel_rfl) cs
theorem fa69_1 (id off : Nat) : afieldAddr Tryz.prog 69 (.pointer (some ⟨id, off, none⟩)) 1 = some (.pointer (some ⟨id, off + 1, none⟩)) := afieldAddr_at (n := 0) (f := (fieldT Tryz.prog 69 1).getD default) (by kernel_rfl) (by kernel_rfl) (by kernel_rfl) id off
theorem fl69_1 (cs : List Value) : afield Tryz.prog 69 (.agg cs.toArray) 1 = cs[1]? := afield_one (f := (fieldT Tryz.prog 69 1).getD default) (by kernel_rfl) (by kernel_rfl) (by kernel_rfl) cs
theorem fa69_2 (id off : Nat) : afieldAddr Tryz.prog 69 (.pointer (some ⟨id, off, none⟩)) 2 = some (.pointer (some ⟨id, off + 2, none⟩)) := afieldAddr_at (n := 0) (f := (fieldT Tryz.prog 69 2).getD default) (by kernel_rfl) (by kernel_rfl) (by kernel_rfl) id off
theorem fl69_2 (cs : List Value) : afield Tryz.prog 69 (.agg cs.toArray) 2 = cs[2]? := afield_one (f := (fieldT Tryz.prog 69 2).getD default) (by kernel_rfl) (by kernel_rfl) (by kernel_rfl) cs
theorem fa69_3 (id off : Nat) : afieldAddr Tryz.prog 69 (.pointer (some ⟨id, off, none⟩)) 3 = some (.pointer (some ⟨id, off + 3, none⟩)) := afieldAddr_at (n := 0) (f := (fieldT Tryz.prog 69 3).getD default) (by kernel_rfl) (by kernel_rfl) (by kernel_rfl) id off
theorem fl69_3 (cs : List Value) : afield Tryz.prog 69 (.agg cs.toArray) 3 = cs[3]? := afield_one (f := (fieldT Tryz.prog 69 3).getD default) (by kernel_rfl) (by kernel_rfl) (by kernel_rfl) cs
theorem fa69_4 (id off : Nat) : afieldAddr Tryz.prog 69 (.pointer (some ⟨id, off, none⟩)) 4 = some (.pointer (some ⟨id, off + 4, none⟩)) := afieldAddr_at (n := 0) (f := (fieldT Tryz.prog 69 4).getD default) (by kernel_rfl) (by kernel_rfl) (by kernel_rfl) id off
theorem fl69_4 (cs : List Value) : afield Tryz.prog 69 (.agg cs.toArray) 4 = cs[4]? := afield_one (f := (fieldT Tryz.prog 69 4).getD default) (by kernel_rfl) (by kernel_rfl) (by kernel_rfl) cs
theorem fa69_5 (id off : Nat) : afieldAddr Tryz.prog 69 (.pointer (some ⟨id, off, none⟩)) 5 = some (.pointer (some ⟨id, off + 5, none⟩)) := afieldAddr_at (n := 0) (f := (fieldT Tryz.prog 69 5).getD default) (by kernel_rfl) (by kernel_rfl) (by kernel_rfl) id off
theorem fl69_5 (cs : List Value) : afield Tryz.prog 69 (.agg cs.toArray) 5 = cs[5]? := afield_one (f := (fieldT Tryz.prog 69 5).getD default) (by kernel_rfl) (by kernel_rfl) (by kernel_rfl) cs
theorem fa69_6 (id off : Nat) : afieldAddr Tryz.prog 69 (.pointer (some ⟨id, off, none⟩)) 6 = some (.pointer (some ⟨id, off + 6, none⟩)) := afieldAddr_at (n := 0) (f := (fieldT Tryz.prog 69 6).getD default) (by kernel_rfl) (by kernel_rfl) (by kernel_rfl) id off
theorem fl69_6 (cs : List Value) : afield Tryz.prog 69 (.agg cs.toArray) 6 = cs[6]? := afield_one (f := (fieldT Tryz.prog 69 6).getD default) (by kernel_rfl) (by kernel_rfl) (by kernel_rfl) cs
theorem fa69_7 (id off : Nat) : afieldAddr Tryz.prog 69 (.pointer (some ⟨id, off, none⟩)) 7 = some (.pointer (some ⟨id, off + 7, none⟩)) := afieldAddr_at (n := 0) (f := (fieldT Tryz.prog 69 7).getD default) (by kernel_rfl) (by kernel_rfl) (by kernel_rfl) id off
theorem fl69_7 (cs : List Value) : afield Tryz.prog 69 (.agg cs.toArray) 7 = cs[7]? := afield_one (f := (fieldT Tryz.prog 69 7).getD default) (by kernel_rfl) (by kernel_rfl) (by kernel_rfl) cs
theorem fa69_8 (id off : Nat) : afieldAddr Tryz.prog 69 (.pointer (some ⟨id, off, none⟩)) 8 = some (.pointer (some ⟨id, off + 8, none⟩)) := afieldAddr_at (n := 0) (f := (fieldT Tryz.prog 69 8).getD default) (by kernel_rfl) (by kernel_rfl) (by kernel_rfl) id off
theorem fl69_8 (cs : List Value) : afield Tryz.prog 69 (.agg cs.toArray) 8 = cs[8]? := afield_one (f := (fieldT Tryz.prog 69 8).getD default) (by kernel_rfl) (by kernel_rfl) (by kernel_rfl) cs
theorem fa69_9 (id off : Nat) : afieldAddr Tryz.prog 69 (.pointer (some ⟨id, off, none⟩)) 9 = some (.pointer (some ⟨id, off + 9, none⟩)) := afieldAddr_at (n := 2) (f := (fieldT Tryz.prog 69 9).getD default) (by kernel_rfl) (by kernel_rfl) (by kernel_rfl) id off
theorem fl69_9 (cs : List Value) : afield Tryz.prog 69 (.agg cs.toArray) 9 = some (.agg ((cs.drop 9).take 3).toArray) := afield_agg (f := (fieldT Tryz.prog 69 9).getD default) (by kernel_rfl) (by kernel_rfl) (by kernel_rfl) (by kernel_rfl) cs
theorem fa69_10 (id off : Nat) : afieldAddr Tryz.prog 69 (.pointer (some ⟨id, off, none⟩)) 10 = some (.pointer (some ⟨id, off + 12, none⟩)) := afieldAddr_at (n := 12) (f := (fieldT Tryz.prog 69 10).getD default) (by kernel_rfl) (by kernel_rfl) (by kernel_rfl) id off
theorem fl69_10 (cs : List Value) : afield Tryz.prog 69 (.agg cs.toArray) 10 = some (.agg ((cs.drop 12).take 13).toArray) := afield_agg (f := (fieldT Tryz.prog 69 10).getD default) (by kernel_rfl) (by kernel_rfl) (by kernel_rfl) (by kernel_rfl) cs
theorem fa69_11 (id off : Nat) : afieldAddr Tryz.prog 69 (.pointer (some ⟨id, off, none⟩)) 11 = some (.pointer (some ⟨id, off + 25, none⟩)) := afieldAddr_at (n := 6) (f := (fieldT Tryz.prog 69 11).getD default) (by kernel_rfl) (by kernel_rfl) (by kernel_rfl) id off
theorem fl69_11 (cs : List Value) : afield Tryz.prog 69 (.agg cs.toArray) 11 = some (.agg ((cs.drop 25).take 7).toArray) := afield_agg (f := (fieldT Tryz.prog 69 11).getD default) (by kernel_rfl) (by kernel_rfl) (by kernel_rfl) (by kernel_rfl) cs
theorem fa69_12 (id off : Nat) : afieldAddr Tryz.prog 69 (.pointer (some ⟨id, off, none⟩)) 12 = some (.pointer (some ⟨id, off + 32, none⟩)) := afieldAddr_at (n := 6) (f := (fieldT Tryz.prog 69 12).getD default) (by kernel_rfl) (by kernel_rfl) (by kernel_rfl) id off
theorem fl69_12 (cs : List Value) : afield Tryz.prog 69 (.agg cs.toArray) 12 = some (.agg ((cs.drop 32).take 7).toArray) := afield_agg (f := (fieldT Tryz.prog 69 12).getD default) (by kernel_rfl) (by kernel_rfl) (by kernel_rfl) (by kernel_rfl) cs
theorem fa69_13 (id off : Nat) : afieldAddr Tryz.prog 69 (.pointer (some ⟨id, off, none⟩)) 13 = some (.pointer (some ⟨id, off + 39, none⟩)) := afieldAddr_at (n := 0) (f := (fieldT Tryz.prog 69 13).getD default) (by kernel_rfl) (by kernel_rfl) (by kernel_rfl) id off
theorem fl69_13 (cs : List Value) : afield Tryz.prog 69 (.agg cs.toArray) 13 = cs[39]? := afield_one (f := (fieldT Tryz.prog 69 13).getD default) (by kernel_rfl) (by kernel_rfl) (by kernel_rfl) cs
theorem fa69_14 (id off : Nat) : afieldAddr Tryz.prog 69 (.pointer (some ⟨id, off, none⟩)) 14 = some (.pointer (some ⟨id, off + 40, none⟩)) := afieldAddr_at (n := 0) (f := (fieldT Tryz.prog 69 14).getD default) (by kernel_rfl) (by kernel_rfl) (by kernel_rfl) id off
theorem fl69_14 (cs : List Value) : afield Tryz.prog 69 (.agg cs.toArray) 14 = cs[40]? := afield_one (f := (fieldT Tryz.prog 69 14).getD default) (by kernel_rfl) (by kernel_rfl) (by kernel_rfl) cs
theorem sz70 : szT Tryz.prog 70 = some 41 := by kernel_rfl
theorem ag70 : aggT Tryz.prog 70 = some true := by kernel_rfl
theorem ze70 : zeroT Tryz.prog 70 = some (.agg #[.int .i64 0, .int .i64 0, .int .i64 0, .int .u64 0, .int .u64 0, .int .u64 0, .int .i64 0, .int .u64 0, .int .i64 0, .int .i64 0, .slice none 0 0, .slice none 0 0, .int .i64 0, .int .i64 0, .int .i64 0, .int .i64 0, .slice none 0 0, .int .i64 0, .int .i64 0, .slice none 0 0, .int .i64 0, .slice none 0 0, .slice none 0 0, .int .i64 0, .int .i64 0, .int .i64 0, .int .i64 0, .int .i64 0, .int .i64 0, .int .i64 0, .int .i64 0, .int .i64 0, .bool false, .int .i64 0, .int .i64 0, .int .i64 0, .int .i64 0, .int .i64 0, .int .i64 0, .slice none 0 0, .slice none 0 0]) := by kernel_rfl
theorem inf70 : ∃ i, Tryz.prog.info? 70 = some i ∧ i.zero = some (.agg #[.int .i64 0, .int .i64 0, .int .i64 0, .int .u64 0, .int .u64 0, .int .u64 0, .int .i64 0, .int .u64 0, .int .i64 0, .int .i64 0, .slice none 0 0, .slice none 0 0, .int .i64 0, .int .i64 0, .int .i64 0, .int .i64 0, .slice none 0 0, .int .i64 0, .int .i64 0, .slice none 0 0, .int .i64 0, .slice none 0 0, .slice none 0 0, .int .i64 0, .int .i64 0, .int .i64 0, .int .i64 0, .int .i64 0, .int .i64 0, .int .i64 0, .int .i64 0, .int .i64 0, .bool false, .int .i64 0, .int .i64 0, .int .i64 0, .int .i64 0, .int .i64 0, .int .i64 0, .slice none 0 0, .slice none 0 0]) ∧ i.size = 41 ∧ i.bytes = 456 := by
  have h : (Tryz.prog.info? 70).map (fun i => (i.zero, i.size, i.bytes)) = some (some (.agg #[.int .i64 0, .int .i64 0, .int .i64 0, .int .u64 0, .int .u64 0, .int .u64 0, .int .i64 0, .int .u64 0, .int .i64 0, .int .i64 0, .slice none 0 0, .slice none 0 0, .int .i64 0, .int .i64 0, .int .i64 0, .int .i64 0, .slice none 0 0, .int .i64 0, .int .i64 0, .slice none 0 0, .int .i64 0, .slice none 0 0, .slice none 0 0, .int .i64 0, .int .i64 0, .int .i64 0, .int .i64 0, .int .i64 0, .int .i64 0, .int .i64 0, .int .i64 0, .int .i64 0, .bool false, .int .i64 0, .int .i64 0, .int .i64 0, .int .i64 0, .int .i64 0, .int .i64 0, .slice none 0 0, .slice none 0 0]), 41, 456) := by kernel_rfl
  obtain ⟨i, h1, h2⟩ := Option.map_eq_some_iff.1 h
  simp only [Prod.mk.injEq] at h2
  exact ⟨i, h1, h2.1, h2.2.1, h2.2.2⟩
theorem st70 (H : AHeap) (id off : Nat) (x : Value) : astoreT Tryz.prog H 70 (.pointer (some ⟨id, off, none⟩)) x = if x.cells.size = 41 ∧ x.cells.toList.all oneCell = true then ((H[id]?).bind (rowStore off x.cells.toList)).map fun o => H.set id o else none := astore_rule sz70 H id off x
theorem fa70_0 (id off : Nat) : afieldAddr Tryz.prog 70 (.pointer (some ⟨id, off, none⟩)) 0 = some (.pointer (some ⟨id, off + 0, none⟩)) := afieldAddr_at (n := 0) (f := (fieldT Tryz.prog 70 0).getD default) (by kernel_rfl) (by kernel_rfl) (by kernel_rfl) id off
theorem fl70_0 (cs : List Value) : afield Tryz.prog 70 (.agg cs.toArray) 0 = cs[0]? := afield_one (f := (fieldT Tryz.prog 70 0).getD default) (by kernel_rfl) (by kernel_rfl) (by kernel_rfl) cs
theorem fa70_1 (id off : Nat) : afieldAddr Tryz.prog 70 (.pointer (some ⟨id, off, none⟩)) 1 = some (.pointer (some ⟨id, off + 1, none⟩)) := afieldAddr_at (n := 0) (f := (fieldT Tryz.prog 70 1).getD default) (by kernel_rfl) (by kernel_rfl) (by kernel_rfl) id off
theorem fl70_1 (cs : List Value) : afield Tryz.prog 70 (.agg cs.toArray) 1 = cs[1]? := afield_one (f := (fieldT Tryz.prog 70 1).getD default) (by kernel_rfl) (by kernel_rfl) (by kernel_rfl) cs
theorem fa70_2 (id off : Nat) : afieldAddr Tryz.prog 70 (.pointer (some ⟨id, off, none⟩)) 2 = some (.pointer (some ⟨id, off + 2, none⟩)) := afieldAddr_at (n := 0) (f := (fieldT Tryz.prog 70 2).getD default) (by kernel_rfl) (by kernel_rfl) (by kernel_rfl) id off
theorem fl70_2 (cs : List Value) : afield Tryz.prog 70 (.agg cs.toArray) 2 = cs[2]? := afield_one (f := (fieldT Tryz.prog 70 2).getD default) (by kernel_rfl) (by kernel_rfl) (by kernel_rfl) cs
theorem fa70_3 (id off : Nat) : afieldAddr Tryz.prog 70 (.pointer (some ⟨id, off, none⟩)) 3 = some (.pointer (some ⟨id, off + 3, none⟩)) := afieldAddr_at (n := 0) (f := (fieldT Tryz.prog 70 3).getD default) (by kernel_rfl) (by kernel_rfl) (by kernel_rfl) id off
theorem fl70_3 (cs : List Value) : afield Tryz.prog 70 (.agg cs.toArray) 3 = cs[3]? := afield_one (f := (fieldT Tryz.prog 70 3).getD default) (by kernel_rfl) (by kernel_rfl) (by kernel_rfl) cs
theorem fa70_4 (id off : Nat) : afieldAddr Tryz.prog 70 (.pointer (some ⟨id, off, none⟩)) 4 = some (.pointer (some ⟨id, off + 4, none⟩)) := afieldAddr_at (n := 0) (f := (fieldT Tryz.prog 70 4).getD default) (by kernel_rfl) (by kernel_rfl) (by kernel_rfl) id off
theorem fl70_4 (cs : List Value) : afield Tryz.prog 70 (.agg cs.toArray) 4 = cs[4]? := afield_one (f := (fieldT Tryz.prog 70 4).getD default) (by kernel_rfl) (by kernel_rfl) (by kernel_rfl) cs
theorem fa70_5 (id off : Nat) : afieldAddr Tryz.prog 70 (.pointer (some ⟨id, off, none⟩)) 5 = some (.pointer (some ⟨id, off + 5, none⟩)) := afieldAddr_at (n := 0) (f := (fieldT Tryz.prog 70 5).getD default) (by kernel_rfl) (by kernel_rfl) (by kernel_rfl) id off
theorem fl70_5 (cs : List Value) : afield Tryz.prog 70 (.agg cs.toArray) 5 = cs[5]? := afield_one (f := (fieldT Tryz.prog 70 5).getD default) (by kernel_rfl) (by kernel_rfl) (by kernel_rfl) cs
theorem fa70_6 (id off : Nat) : afieldAddr Tryz.prog 70 (.pointer (some ⟨id, off, none⟩)) 6 = some (.pointer (some ⟨id, off + 6, none⟩)) := afieldAddr_at (n := 0) (f := (fieldT Tryz.prog 70 6).getD default) (by kernel_rfl) (by kernel_rfl) (by kernel_rfl) id off
theorem fl70_6 (cs : List Value) : afield Tryz.prog 70 (.agg cs.toArray) 6 = cs[6]? := afield_one (f := (fieldT Tryz.prog 70 6).getD default) (by kernel_rfl) (by kernel_rfl) (by kernel_rfl) cs
theorem fa70_7 (id off : Nat) : afieldAddr Tryz.prog 70 (.pointer (some ⟨id, off, none⟩)) 7 = some (.pointer (some ⟨id, off + 7, none⟩)) := afieldAddr_at (n := 0) (f := (fieldT Tryz.prog 70 7).getD default) (by kernel_rfl) (by kernel_rfl) (by kernel_rfl) id off
theorem fl70_7 (cs : List Value) : afield Tryz.prog 70 (.agg cs.toArray) 7 = cs[7]? := afield_one (f := (fieldT Tryz.prog 70 7).getD default) (by kernel_rfl) (by kernel_rfl) (by kernel_rfl) cs
theorem fa70_8 (id off : Nat) : afieldAddr Tryz.prog 70 (.pointer (some ⟨id, off, none⟩)) 8 = some (.pointer (some ⟨id, off + 8, none⟩)) := afieldAddr_at (n := 0) (f := (fieldT Tryz.prog 70 8).getD default) (by kernel_rfl) (by kernel_rfl) (by kernel_rfl) id off
theorem fl70_8 (cs : List Value) : afield Tryz.prog 70 (.agg cs.toArray) 8 = cs[8]? := afield_one (f := (fieldT Tryz.prog 70 8).getD default) (by kernel_rfl) (by kernel_rfl) (by kernel_rfl) cs
theorem fa70_9 (id off : Nat) : afieldAddr Tryz.prog 70 (.pointer (some ⟨id, off, none⟩)) 9 = some (.pointer (some ⟨id, off + 9, none⟩)) := afieldAddr_at (n := 2) (f := (fieldT Tryz.prog 70 9).getD default) (by kernel_rfl) (by kernel_rfl) (by kernel_rfl) id off
theorem fl70_9 (cs : List Value) : afield Tryz.prog 70 (.agg cs.toArray) 9 = some (.agg ((cs.drop 9).take 3).toArray) := afield_agg (f := (fieldT Tryz.prog 70 9).getD default) (by kernel_rfl) (by kernel_rfl) (by kernel_rfl) (by kernel_rfl) cs
theorem fa70_10 (id off : Nat) : afieldAddr Tryz.prog 70 (.pointer (some ⟨id, off, none⟩)) 10 = some (.pointer (some ⟨id, off + 12, none⟩)) := afieldAddr_at (n := 12) (f := (fieldT Tryz.prog 70 10).getD default) (by kernel_rfl) (by kernel_rfl) (by kernel_rfl) id off
theorem fl70_10 (cs : List Value) : afield Tryz.prog 70 (.agg cs.toArray) 10 = some (.agg ((cs.drop 12).take 13).toArray) := afield_agg (f := (fieldT Tryz.prog 70 10).getD default) (by kernel_rfl) (by kernel_rfl) (by kernel_rfl) (by kernel_rfl) cs
theorem fa70_11 (id off : Nat) : afieldAddr Tryz.prog 70 (.pointer (some ⟨id, off, none⟩)) 11 = some (.pointer (some ⟨id, off + 25, none⟩)) := afieldAddr_at (n := 6) (f := (fieldT Tryz.prog 70 11).getD default) (by kernel_rfl) (by kernel_rfl) (by kernel_rfl) id off
theorem fl70_11 (cs : List Value) : afield Tryz.prog 70 (.agg cs.toArray) 11 = some (.agg ((cs.drop 25).take 7).toArray) := afield_agg (f := (fieldT Tryz.prog 70 11).getD default) (by kernel_rfl) (by kernel_rfl) (by kernel_rfl) (by kernel_rfl) cs
theorem fa70_12 (id off : Nat) : afieldAddr Tryz.prog 70 (.pointer (some ⟨id, off, none⟩)) 12 = some (.pointer (some ⟨id, off + 32, none⟩)) := afieldAddr_at (n := 6) (f := (fieldT Tryz.prog 70 12).getD default) (by kernel_rfl) (by kernel_rfl) (by kernel_rfl) id off
theorem fl70_12 (cs : List Value) : afield Tryz.prog 70 (.agg cs.toArray) 12 = some (.agg ((cs.drop 32).take 7).toArray) := afield_agg (f := (fieldT Tryz.prog 70 12).getD default) (by kernel_rfl) (by kernel_rfl) (by kernel_rfl) (by kernel_rfl) cs
theorem fa70_13 (id off : Nat) : afieldAddr Tryz.prog 70 (.pointer (some ⟨id, off, none⟩)) 13 = some (.pointer (some ⟨id, off + 39, none⟩)) := afieldAddr_at (n := 0) (f := (fieldT Tryz.prog 70 13).getD default) (by kernel_rfl) (by kernel_rfl) (by kernel_rfl) id off
theorem fl70_13 (cs : List Value) : afield Tryz.prog 70 (.agg cs.toArray) 13 = cs[39]? := afield_one (f := (fieldT Tryz.prog 70 13).getD default) (by kernel_rfl) (by kernel_rfl) (by kernel_rfl) cs
theorem fa70_14 (id off : Nat) : afieldAddr Tryz.prog 70 (.pointer (some ⟨id, off, none⟩)) 14 = some (.pointer (some ⟨id, off + 40, none⟩)) := afieldAddr_at (n := 0) (f := (fieldT Tryz.prog 70 14).getD default) (by kernel_rfl) (by kernel_rfl) (by kernel_rfl) id off
theorem fl70_14 (cs : List Value) : afield Tryz.prog 70 (.agg cs.toArray) 14 = cs[40]? := afield_one (f := (fieldT Tryz.prog 70 14).getD default) (by kernel_rfl) (by kernel_rfl) (by kernel_rfl) cs
theorem sz72 : szT Tryz.prog 72 = some 1 := by kernel_rfl
theorem ag72 : aggT Tryz.prog 72 = some false := by kernel_rfl
theorem ze72 : zeroT Tryz.prog 72 = some (.pointer none) := by kernel_rfl
theorem inf72 : ∃ i, Tryz.prog.info? 72 = some i ∧ i.zero = some (.pointer none) ∧ i.size = 1 ∧ i.bytes = 8 := by
  have h : (Tryz.prog.info? 72).map (fun i => (i.zero, i.size, i.bytes)) = some (some (.pointer none), 1, 8) := by kernel_rfl
  obtain ⟨i, h1, h2⟩ := Option.map_eq_some_iff.1 h
  simp only [Prod.mk.injEq] at h2
  exact ⟨i, h1, h2.1, h2.2.1, h2.2.2⟩
theorem st72 (H : AHeap) (id off : Nat) (x : Value) : astoreT Tryz.prog H 72 (.pointer (some ⟨id, off, none⟩)) x = if x.cells.size = 1 ∧ x.cells.toList.all oneCell = true then ((H[id]?).bind (rowStore off x.cells.toList)).map fun o => H.set id o else none := astore_rule sz72 H id off x
theorem en72 (H : AHeap) (xo yo : Operand) (a : Option Addr) : abin Tryz.prog H .eql 72 xo yo (.pointer a) (.pointer none) = some (.bool a.isNone) := abin_eq_ptrnil (e := 75) (by kernel_rfl) H xo yo a
theorem nn72 (H : AHeap) (xo yo : Operand) (a : Option Addr) : abin Tryz.prog H .neq 72 xo yo (.pointer a) (.pointer none) = some (.bool !a.isNone) := abin_ne_ptrnil (e := 75) (by kernel_rfl) H xo yo a
theorem sz73 : szT Tryz.prog 73 = some 1 := by kernel_rfl
theorem ag73 : aggT Tryz.prog 73 = some false := by kernel_rfl
theorem ze73 : zeroT Tryz.prog 73 = some (.slice none 0 0) := by kernel_rfl
theorem inf73 : ∃ i, Tryz.prog.info? 73 = some i ∧ i.zero = some (.slice none 0 0) ∧ i.size = 1 ∧ i.bytes = 24 := by
  have h : (Tryz.prog.info? 73).map (fun i => (i.zero, i.size, i.bytes)) = some (some (.slice none 0 0), 1, 24) := by kernel_rfl
  obtain ⟨i, h1, h2⟩ := Option.map_eq_some_iff.1 h
  simp only [Prod.mk.injEq] at h2
  exact ⟨i, h1, h2.1, h2.2.1, h2.2.2⟩
theorem st73 (H : AHeap) (id off : Nat) (x : Value) : astoreT Tryz.prog H 73 (.pointer (some ⟨id, off, none⟩)) x = if x.cells.size = 1 ∧ x.cells.toList.all oneCell = true then ((H[id]?).bind (rowStore off x.cells.toList)).map fun o => H.set id o else none := astore_rule sz73 H id off x
theorem un73 : Tryz.prog.underlying 73 = some (.slice 477) := by kernel_rfl
theorem el73 : elemT Tryz.prog 73 = some 477 := by kernel_rfl
theorem ln73 (H : AHeap) (a : Option Addr) (m c : Nat) : alen Tryz.prog H 73 (.slice a m c) = some (.int .i64 m) := alen_slice un73 H a m c
theorem cp73 (a : Addr) (m c : Nat) : acap Tryz.prog 73 (.slice (some a) m c) = if c = 0 then none else some (.int .i64 c) := acap_slice un73 a m c
theorem ix73 (id off m c : Nat) (ik : IntKind) (i : Int) : aindexAddr Tryz.prog 73 (.slice (some ⟨id, off, none⟩) m c) (.int ik i) = if 0 ≤ i ∧ i < m then some (.pointer (some ⟨id, off + i.toNat * 2, none⟩)) else none := aindexAddr_at un73 (by kernel_rfl) id off m c ik i
theorem en73 (H : AHeap) (xo yo : Operand) (a : Option Addr) (n c m q : Nat) : abin Tryz.prog H .eql 73 xo yo (.slice a n c) (.slice none m q) = some (.bool a.isNone) := abin_eq_slnil un73 H xo yo a n c m q
theorem nn73 (H : AHeap) (xo yo : Operand) (a : Option Addr) (n c m q : Nat) : abin Tryz.prog H .neq 73 xo yo (.slice a n c) (.slice none m q) = some (.bool !a.isNone) := abin_ne_slnil un73 H xo yo a n c m q
theorem sc73 (H : AHeap) (a : Option Addr) (n c : Nat) (lo hi : Option Value) : aslice Tryz.prog H 73 (.slice a n c) lo hi none = (optB hi (some n) (capOf n c)).bind fun h => (optB lo (some 0) h).bind fun l => cut H 2 a c l h := aslice_sl un73 (by kernel_rfl) H a n c lo hi
theorem sz74 : szT Tryz.prog 74 = some 4 := by kernel_rfl
theorem ag74 : aggT Tryz.prog 74 = some true := by kernel_rfl
theorem ze74 : zeroT Tryz.prog 74 = some (.agg #[.slice none 0 0, .bool false, .int .i64 0, .slice none 0 0]) := by kernel_rfl
theorem pz74 : plainV 100 (.agg #[.slice none 0 0, .bool false, .int .i64 0, .slice none 0 0]) = true := by kernel_rfl
theorem inf74 : ∃ i, Tryz.prog.info? 74 = some i ∧ i.zero = some (.agg #[.slice none 0 0, .bool false, .int .i64 0, .slice none 0 0]) ∧ i.size = 4 ∧ i.bytes = 64 := by
  have h : (Tryz.prog.info? 74).map (fun i => (i.zero, i.size, i.bytes)) = some (some (.agg #[.slice none 0 0, .bool false, .int .i64 0, .slice none 0 0]), 4, 64) := by kernel_rfl
  obtain ⟨i, h1, h2⟩ := Option.map_eq_some_iff.1 h
  simp only [Prod.mk.injEq] at h2
  exact ⟨i, h1, h2.1, h2.2.1, h2.2.2⟩
theorem st74 (H : AHeap) (id off : Nat) (x : Value) : astoreT Tryz.prog H 74 (.pointer (some ⟨id, off, none⟩)) x = if x.cells.size = 4 ∧ x.cells.toList.all oneCell = true then ((H[id]?).bind (rowStore off x.cells.toList)).map fun o => H.set id o else none := astore_rule sz74 H id off x
theorem fa74_0 (id off : Nat) : afieldAddr Tryz.prog 74 (.pointer (some ⟨id, off, none⟩)) 0 = some (.pointer (some ⟨id, off + 0, none⟩)) := afieldAddr_at (n := 0) (f := (fieldT Tryz.prog 74 0).getD default) (by kernel_rfl) (by kernel_rfl) (by kernel_rfl) id off
theorem fl74_0 (cs : List Value) : afield Tryz.prog 74 (.agg cs.toArray) 0 = cs[0]? := afield_one (f := (fieldT Tryz.prog 74 0).getD default) (by kernel_rfl) (by kernel_rfl) (by kernel_rfl) cs
theorem fa74_1 (id off : Nat) : afieldAddr Tryz.prog 74 (.pointer (some ⟨id, off, none⟩)) 1 = some (.pointer (some ⟨id, off + 1, none⟩)) := afieldAddr_at (n := 0) (f := (fieldT Tryz.prog 74 1).getD default) (by kernel_rfl) (by kernel_rfl) (by kernel_rfl) id off
theorem fl74_1 (cs : List Value) : afield Tryz.prog 74 (.agg cs.toArray) 1 = cs[1]? := afield_one (f := (fieldT Tryz.prog 74 1).getD default) (by kernel_rfl) (by kernel_rfl) (by kernel_rfl) cs
theorem fa74_2 (id off : Nat) : afieldAddr Tryz.prog 74 (.pointer (some ⟨id, off, none⟩)) 2 = some (.pointer (some ⟨id, off + 2, none⟩)) := afieldAddr_at (n := 0) (f := (fieldT Tryz.prog 74 2).getD default) (by kernel_rfl) (by kernel_rfl) (by kernel_rfl) id off
theorem fl74_2 (cs : List Value) : afield Tryz.prog 74 (.agg cs.toArray) 2 = cs[2]? := afield_one (f := (fieldT Tryz.prog 74 2).getD default) (by kernel_rfl) (by kernel_rfl) (by kernel_rfl) cs
theorem fa74_3 (id off : Nat) : afieldAddr Tryz.prog 74 (.pointer (some ⟨id, off, none⟩)) 3 = some (.pointer (some ⟨id, off + 3, none⟩)) := afieldAddr_at (n := 0) (f := (fieldT Tryz.prog 74 3).getD default) (by kernel_rfl) (by kernel_rfl) (by kernel_rfl) id off
theorem fl74_3 (cs : List Value) : afield Tryz.prog 74 (.agg cs.toArray) 3 = cs[3]? := afield_one (f := (fieldT Tryz.prog 74 3).getD default) (by kernel_rfl) (by kernel_rfl) (by kernel_rfl) cs
theorem sz75 : szT Tryz.prog 75 = some 4 := by kernel_rfl
theorem ag75 : aggT Tryz.prog 75 = some true := by kernel_rfl
theorem ze75 : zeroT Tryz.prog 75 = some (.agg #[.slice none 0 0, .bool false, .int .i64 0, .slice none 0 0]) := by kernel_rfl
theorem inf75 : ∃ i, Tryz.prog.info? 75 = some i ∧ i.zero = some (.agg #[.slice none 0 0, .bool false, .int .i64 0, .slice none 0 0]) ∧ i.size = 4 ∧ i.bytes = 64 := by
  have h : (Tryz.prog.info? 75).map (fun i => (i.zero, i.size, i.bytes)) = some (some (.agg #[.slice none 0 0, .bool false, .int .i64 0, .slice none 0 0]), 4, 64) := by kernel_rfl
  obtain ⟨i, h1, h2⟩ := Option.map_eq_some_iff.1 h
  simp only [Prod.mk.injEq] at h2
  exact ⟨i, h1, h2.1, h2.2.1, h2.2.2⟩
theorem st75 (H : AHeap) (id off : Nat) (x : Value) : astoreT Tryz.prog H 75 (.pointer (some ⟨id, off, none⟩)) x = if x.cells.size = 4 ∧ x.cells.toList.all oneCell = true then ((H[id]?).bind (rowStore off x.cells.toList)).map fun o => H.set id o else none := astore_rule sz75 H id off x
theorem fa75_0 (id off : Nat) : afieldAddr Tryz.prog 75 (.pointer (some ⟨id, off, none⟩)) 0 = some (.pointer (some ⟨id, off + 0, none⟩)) := afieldAddr_at (n := 0) (f := (fieldT Tryz.prog 75 0).getD default) (by kernel_rfl) (by kernel_rfl) (by kernel_rfl) id off
theorem fl75_0 (cs : List Value) : afield Tryz.prog 75 (.agg cs.toArray) 0 = cs[0]? := afield_one (f := (fieldT Tryz.prog 75 0).getD default) (by kernel_rfl) (by kernel_rfl) (by kernel_rfl) cs
theorem fa75_1 (id off : Nat) : afieldAddr Tryz.prog 75 (.pointer (some ⟨id, off, none⟩)) 1 = some (.pointer (some ⟨id, off + 1, none⟩)) := afieldAddr_at (n := 0) (f := (fieldT Tryz.prog 75 1).getD default) (by kernel_rfl) (by kernel_rfl) (by kernel_rfl) id off
theorem fl75_1 (cs : List Value) : afield Tryz.prog 75 (.agg cs.toArray) 1 = cs[1]? := afield_one (f := (fieldT Tryz.prog 75 1).getD default) (by kernel_rfl) (by kernel_rfl) (by kernel_rfl) cs
theorem fa75_2 (id off : Nat) : afieldAddr Tryz.prog 75 (.pointer (some ⟨id, off, none⟩)) 2 = some (.pointer (some ⟨id, off + 2, none⟩)) := afieldAddr_at (n := 0) (f := (fieldT Tryz.prog 75 2).getD default) (by kernel_rfl) (by kernel_rfl) (by kernel_rfl) id off
theorem fl75_2 (cs : List Value) : afield Tryz.prog 75 (.agg cs.toArray) 2 = cs[2]? := afield_one (f := (fieldT Tryz.prog 75 2).getD default) (by kernel_rfl) (by kernel_rfl) (by kernel_rfl) cs
theorem fa75_3 (id off : Nat) : afieldAddr Tryz.prog 75 (.pointer (some ⟨id, off, none⟩)) 3 = some (.pointer (some ⟨id, off + 3, none⟩)) := afieldAddr_at (n := 0) (f := (fieldT Tryz.prog 75 3).getD default) (by kernel_rfl) (by kernel_rfl) (by kernel_rfl) id off
theorem fl75_3 (cs : List Value) : afield Tryz.prog 75 (.agg cs.toArray) 3 = cs[3]? := afield_one (f := (fieldT Tryz.prog 75 3).getD default) (by kernel_rfl) (by kernel_rfl) (by kernel_rfl) cs
theorem sz81 : szT Tryz.prog 81 = some 1 := by kernel_rfl
theorem ag81 : aggT Tryz.prog 81 = some false := by kernel_rfl
theorem ze81 : zeroT Tryz.prog 81 = some (.nilIface) := by kernel_rfl
theorem pz81 : plainV 100 (.nilIface) = true := by kernel_rfl
theorem inf81 : ∃ i, Tryz.prog.info? 81 = some i ∧ i.zero = some (.nilIface) ∧ i.size = 1 ∧ i.bytes = 16 := by
  have h : (Tryz.prog.info? 81).map (fun i => (i.zero, i.size, i.bytes)) = some (some (.nilIface), 1, 16) := by kernel_rfl
  obtain ⟨i, h1, h2⟩ := Option.map_eq_some_iff.1 h
  simp only [Prod.mk.injEq] at h2
  exact ⟨i, h1, h2.1, h2.2.1, h2.2.2⟩
theorem st81 (H : AHeap) (id off : Nat) (x : Value) : astoreT Tryz.prog H 81 (.pointer (some ⟨id, off, none⟩)) x = if x.cells.size = 1 ∧ x.cells.toList.all oneCell = true then ((H[id]?).bind (rowStore off x.cells.toList)).map fun o => H.set id o else none := astore_rule sz81 H id off x
theorem enz81 (H : AHeap) (xo : Operand) (w : Value) : abin Tryz.prog H .eql 81 xo (.const w) .nilIface .nilIface = some (.bool true) := abin_eq_if0 (by kernel_rfl) H xo w
theorem eno81 (H : AHeap) (xo yo : Operand) (u : TypeId) (v : Value) : abin Tryz.prog H .eql 81 xo yo (.iface u v) .nilIface = some (.bool false) := abin_eq_if1 (by kernel_rfl) H xo yo u v
theorem nnz81 (H : AHeap) (xo : Operand) (w : Value) : abin Tryz.prog H .neq 81 xo (.const w) .nilIface .nilIface = some (.bool false) := abin_ne_if0 (by kernel_rfl) H xo w
theorem nno81 (H : AHeap) (xo yo : Operand) (u : TypeId) (v : Value) : abin Tryz.prog H .neq 81 xo yo (.iface u v) .nilIface = some (.bool true) := abin_ne_if1 (by kernel_rfl) H xo yo u v
theorem sz82 : szT Tryz.prog 82 = some 1 := by kernel_rfl
theorem ag82 : aggT Tryz.prog 82 = some false := by kernel_rfl
theorem ze82 : zeroT Tryz.prog 82 = some (.nilIface) := by kernel_rfl
theorem inf82 : ∃ i, Tryz.prog.info? 82 = some i ∧ i.zero = some (.nilIface) ∧ i.size = 1 ∧ i.bytes = 16 := by
  have h : (Tryz.prog.info? 82).map (fun i => (i.zero, i.size, i.bytes)) = some (some (.nilIface), 1, 16) := by kernel_rfl
  obtain ⟨i, h1, h2⟩ := Option.map_eq_some_iff.1 h
  simp only [Prod.mk.injEq] at h2
  exact ⟨i, h1, h2.1, h2.2.1, h2.2.2⟩
theorem st82 (H : AHeap) (id off : Nat) (x : Value) : astoreT Tryz.prog H 82 (.pointer (some ⟨id, off, none⟩)) x = if x.cells.size = 1 ∧ x.cells.toList.all oneCell = true then ((H[id]?).bind (rowStore off x.cells.toList)).map fun o => H.set id o else none := astore_rule sz82 H id off x
theorem enz82 (H : AHeap) (xo : Operand) (w : Value) : abin Tryz.prog H .eql 82 xo (.const w) .nilIface .nilIface = some (.bool true) := abin_eq_if0 (by kernel_rfl) H xo w
theorem eno82 (H : AHeap) (xo yo : Operand) (u : TypeId) (v : Value) : abin Tryz.prog H .eql 82 xo yo (.iface u v) .nilIface = some (.bool false) := abin_eq_if1 (by kernel_rfl) H xo yo u v
theorem nnz82 (H : AHeap) (xo : Operand) (w : Value) : abin Tryz.prog H .neq 82 xo (.const w) .nilIface .nilIface = some (.bool false) := abin_ne_if0 (by kernel_rfl) H xo w
theorem nno82 (H : AHeap) (xo yo : Operand) (u : TypeId) (v : Value) : abin Tryz.prog H .neq 82 xo yo (.iface u v) .nilIface = some (.bool true) := abin_ne_if1 (by kernel_rfl) H xo yo u v
theorem sz85 : szT Tryz.prog 85 = some 1 := by kernel_rfl
theorem ag85 : aggT Tryz.prog 85 = some false := by kernel_rfl
theorem ze85 : zeroT Tryz.prog 85 = some (.pointer none) := by kernel_rfl
theorem inf85 : ∃ i, Tryz.prog.info? 85 = some i ∧ i.zero = some (.pointer none) ∧ i.size = 1 ∧ i.bytes = 8 := by
  have h : (Tryz.prog.info? 85).map (fun i => (i.zero, i.size, i.bytes)) = some (some (.pointer none), 1, 8) := by kernel_rfl
  obtain ⟨i, h1, h2⟩ := Option.map_eq_some_iff.1 h
  simp only [Prod.mk.injEq] at h2
  exact ⟨i, h1, h2.1, h2.2.1, h2.2.2⟩
theorem st85 (H : AHeap) (id off : Nat) (x : Value) : astoreT Tryz.prog H 85 (.pointer (some ⟨id, off, none⟩)) x = if x.cells.size = 1 ∧ x.cells.toList.all oneCell = true then ((H[id]?).bind (rowStore off x.cells.toList)).map fun o => H.set id o else none := astore_rule sz85 H id off x
theorem en85 (H : AHeap) (xo yo : Operand) (a : Option Addr) : abin Tryz.prog H .eql 85 xo yo (.pointer a) (.pointer none) = some (.bool a.isNone) := abin_eq_ptrnil (e := 117) (by kernel_rfl) H xo yo a
theorem nn85 (H : AHeap) (xo yo : Operand) (a : Option Addr) : abin Tryz.prog H .neq 85 xo yo (.pointer a) (.pointer none) = some (.bool !a.isNone) := abin_ne_ptrnil (e := 117) (by kernel_rfl) H xo yo a
theorem sz88 : szT Tryz.prog 88 = some 1 := by kernel_rfl
theorem ag88 : aggT Tryz.prog 88 = some false := by kernel_rfl
theorem ze88 : zeroT Tryz.prog 88 = some (.slice none 0 0) := by kernel_rfl
theorem inf88 : ∃ i, Tryz.prog.info? 88 = some i ∧ i.zero = some (.slice none 0 0) ∧ i.size = 1 ∧ i.bytes = 24 := by
  have h : (Tryz.prog.info? 88).map (fun i => (i.zero, i.size, i.bytes)) = some (some (.slice none 0 0), 1, 24) := by kernel_rfl
  obtain ⟨i, h1, h2⟩ := Option.map_eq_some_iff.1 h
  simp only [Prod.mk.injEq] at h2
  exact ⟨i, h1, h2.1, h2.2.1, h2.2.2⟩
theorem st88 (H : AHeap) (id off : Nat) (x : Value) : astoreT Tryz.prog H 88 (.pointer (some ⟨id, off, none⟩)) x = if x.cells.size = 1 ∧ x.cells.toList.all oneCell = true then ((H[id]?).bind (rowStore off x.cells.toList)).map fun o => H.set id o else none := astore_rule sz88 H id off x
theorem un88 : Tryz.prog.underlying 88 = some (.slice 109) := by kernel_rfl
theorem el88 : elemT Tryz.prog 88 = some 109 := by kernel_rfl
theorem ln88 (H : AHeap) (a : Option Addr) (m c : Nat) : alen Tryz.prog H 88 (.slice a m c) = some (.int .i64 m) := alen_slice un88 H a m c
theorem cp88 (a : Addr) (m c : Nat) : acap Tryz.prog 88 (.slice (some a) m c) = if c = 0 then none else some (.int .i64 c) := acap_slice un88 a m c
theorem ix88 (id off m c : Nat) (ik : IntKind) (i : Int) : aindexAddr Tryz.prog 88 (.slice (some ⟨id, off, none⟩) m c) (.int ik i) = if 0 ≤ i ∧ i < m then some (.pointer (some ⟨id, off + i.toNat * 1, none⟩)) else none := aindexAddr_at un88 (by kernel_rfl) id off m c ik i
theorem en88 (H : AHeap) (xo yo : Operand) (a : Option Addr) (n c m q : Nat) : abin Tryz.prog H .eql 88 xo yo (.slice a n c) (.slice none m q) = some (.bool a.isNone) := abin_eq_slnil un88 H xo yo a n c m q
theorem nn88 (H : AHeap) (xo yo : Operand) (a : Option Addr) (n c m q : Nat) : abin Tryz.prog H .neq 88 xo yo (.slice a n c) (.slice none m q) = some (.bool !a.isNone) := abin_ne_slnil un88 H xo yo a n c m q
theorem sc88 (H : AHeap) (a : Option Addr) (n c : Nat) (lo hi : Option Value) : aslice Tryz.prog H 88 (.slice a n c) lo hi none = (optB hi (some n) (capOf n c)).bind fun h => (optB lo (some 0) h).bind fun l => cut H 1 a c l h := aslice_sl un88 (by kernel_rfl) H a n c lo hi
theorem sz89 : szT Tryz.prog 89 = some 18 := by kernel_rfl
theorem ag89 : aggT Tryz.prog 89 = some true := by kernel_rfl
theorem ze89 : zeroT Tryz.prog 89 = some (.agg #[.int .i64 0, .int .i64 0, .int .i64 0, .int .i64 0, .int .i64 0, .int .i64 0, .int .i64 0, .int .i64 0, .int .i64 0, .int .i64 0, .int .i64 0, .int .i64 0, .pointer none, .int .u64 0, .bool false, .slice none 0 0, .int .i64 0, .bool false]) := by kernel_rfl
theorem pz89 : plainV 100 (.agg #[.int .i64 0, .int .i64 0, .int .i64 0, .int .i64 0, .int .i64 0, .int .i64 0, .int .i64 0, .int .i64 0, .int .i64 0, .int .i64 0, .int .i64 0, .int .i64 0, .pointer none, .int .u64 0, .bool false, .slice none 0 0, .int .i64 0, .bool false]) = true := by kernel_rfl
theorem inf89 : ∃ i, Tryz.prog.info? 89 = some i ∧ i.zero = some (.agg #[.int .i64 0, .int .i64 0, .int .i64 0, .int .i64 0, .int .i64 0, .int .i64 0, .int .i64 0, .int .i64 0, .int .i64 0, .int .i64 0, .int .i64 0, .int .i64 0, .pointer none, .int .u64 0, .bool false, .slice none 0 0, .int .i64 0, .bool false]) ∧ i.size = 18 ∧ i.bytes = 160 := by
  have h : (Tryz.prog.info? 89).map (fun i => (i.zero, i.size, i.bytes)) = some (some (.agg #[.int .i64 0, .int .i64 0, .int .i64 0, .int .i64 0, .int .i64 0, .int .i64 0, .int .i64 0, .int .i64 0, .int .i64 0, .int .i64 0, .int .i64 0, .int .i64 0, .pointer none, .int .u64 0, .bool false, .slice none 0 0, .int .i64 0, .bool false]), 18, 160) := by kernel_rfl
  obtain ⟨i, h1, h2⟩ := Option.map_eq_some_iff.1 h
  simp only [Prod.mk.injEq] at h2
  exact ⟨i, h1, h2.1, h2.2.1, h2.2.2⟩
theorem st89 (H : AHeap) (id off : Nat) (x : Value) : astoreT Tryz.prog H 89 (.pointer (some ⟨id, off, none⟩)) x = if x.cells.size = 18 ∧ x.cells.toList.all oneCell = true then ((H[id]?).bind (rowStore off x.cells.toList)).map fun o => H.set id o else none := astore_rule sz89 H id off x
theorem fa89_0 (id off : Nat) : afieldAddr Tryz.prog 89 (.pointer (some ⟨id, off, none⟩)) 0 = some (.pointer (some ⟨id, off + 0, none⟩)) := afieldAddr_at (n := 9) (f := (fieldT Tryz.prog 89 0).getD default) (by kernel_rfl) (by kernel_rfl) (by kernel_rfl) id off
theorem fl89_0 (cs : List Value) : afield Tryz.prog 89 (.agg cs.toArray) 0 = some (.agg ((cs.drop 0).take 10).toArray) := afield_agg (f := (fieldT Tryz.prog 89 0).getD default) (by kernel_rfl) (by kernel_rfl) (by kernel_rfl) (by kernel_rfl) cs
theorem fa89_1 (id off : Nat) : afieldAddr Tryz.prog 89 (.pointer (some ⟨id, off, none⟩)) 1 = some (.pointer (some ⟨id, off + 10, none⟩)) := afieldAddr_at (n := 0) (f := (fieldT Tryz.prog 89 1).getD default) (by kernel_rfl) (by kernel_rfl) (by kernel_rfl) id off
theorem fl89_1 (cs : List Value) : afield Tryz.prog 89 (.agg cs.toArray) 1 = cs[10]? := afield_one (f := (fieldT Tryz.prog 89 1).getD default) (by kernel_rfl) (by kernel_rfl) (by kernel_rfl) cs
theorem fa89_2 (id off : Nat) : afieldAddr Tryz.prog 89 (.pointer (some ⟨id, off, none⟩)) 2 = some (.pointer (some ⟨id, off + 11, none⟩)) := afieldAddr_at (n := 0) (f := (fieldT Tryz.prog 89 2).getD default) (by kernel_rfl) (by kernel_rfl) (by kernel_rfl) id off
theorem fl89_2 (cs : List Value) : afield Tryz.prog 89 (.agg cs.toArray) 2 = cs[11]? := afield_one (f := (fieldT Tryz.prog 89 2).getD default) (by kernel_rfl) (by kernel_rfl) (by kernel_rfl) cs
theorem fa89_3 (id off : Nat) : afieldAddr Tryz.prog 89 (.pointer (some ⟨id, off, none⟩)) 3 = some (.pointer (some ⟨id, off + 12, none⟩)) := afieldAddr_at (n := 0) (f := (fieldT Tryz.prog 89 3).getD default) (by kernel_rfl) (by kernel_rfl) (by kernel_rfl) id off
theorem fl89_3 (cs : List Value) : afield Tryz.prog 89 (.agg cs.toArray) 3 = cs[12]? := afield_one (f := (fieldT Tryz.prog 89 3).getD default) (by kernel_rfl) (by kernel_rfl) (by kernel_rfl) cs
theorem fa89_4 (id off : Nat) : afieldAddr Tryz.prog 89 (.pointer (some ⟨id, off, none⟩)) 4 = some (.pointer (some ⟨id, off + 13, none⟩)) := afieldAddr_at (n := 0) (f := (fieldT Tryz.prog 89 4).getD default) (by kernel_rfl) (by kernel_rfl) (by kernel_rfl) id off
theorem fl89_4 (cs : List Value) : afield Tryz.prog 89 (.agg cs.toArray) 4 = cs[13]? := afield_one (f := (fieldT Tryz.prog 89 4).getD default) (by kernel_rfl) (by kernel_rfl) (by kernel_rfl) cs
theorem fa89_5 (id off : Nat) : afieldAddr Tryz.prog 89 (.pointer (some ⟨id, off, none⟩)) 5 = some (.pointer (some ⟨id, off + 14, none⟩)) := afieldAddr_at (n := 0) (f := (fieldT Tryz.prog 89 5).getD default) (by kernel_rfl) (by kernel_rfl) (by kernel_rfl) id off
theorem fl89_5 (cs : List Value) : afield Tryz.prog 89 (.agg cs.toArray) 5 = cs[14]? := afield_one (f := (fieldT Tryz.prog 89 5).getD default) (by kernel_rfl) (by kernel_rfl) (by kernel_rfl) cs
theorem fa89_6 (id off : Nat) : afieldAddr Tryz.prog 89 (.pointer (some ⟨id, off, none⟩)) 6 = some (.pointer (some ⟨id, off + 15, none⟩)) := afieldAddr_at (n := 0) (f := (fieldT Tryz.prog 89 6).getD default) (by kernel_rfl) (by kernel_rfl) (by kernel_rfl) id off
theorem fl89_6 (cs : List Value) : afield Tryz.prog 89 (.agg cs.toArray) 6 = cs[15]? := afield_one (f := (fieldT Tryz.prog 89 6).getD default) (by kernel_rfl) (by kernel_rfl) (by kernel_rfl) cs
theorem fa89_7 (id off : Nat) : afieldAddr Tryz.prog 89 (.pointer (some ⟨id, off, none⟩)) 7 = some (.pointer (some ⟨id, off + 16, none⟩)) := afieldAddr_at (n := 0) (f := (fieldT Tryz.prog 89 7).getD default) (by kernel_rfl) (by kernel_rfl) (by kernel_rfl) id off
theorem fl89_7 (cs : List Value) : afield Tryz.prog 89 (.agg cs.toArray) 7 = cs[16]? := afield_one (f := (fieldT Tryz.prog 89 7).getD default) (by kernel_rfl) (by kernel_rfl) (by kernel_rfl) cs
theorem fa89_8 (id off : Nat) : afieldAddr Tryz.prog 89 (.pointer (some ⟨id, off, none⟩)) 8 = some (.pointer (some ⟨id, off + 17, none⟩)) := afieldAddr_at (n := 0) (f := (fieldT Tryz.prog 89 8).getD default) (by kernel_rfl) (by kernel_rfl) (by kernel_rfl) id off
theorem fl89_8 (cs : List Value) : afield Tryz.prog 89 (.agg cs.toArray) 8 = cs[17]? := afield_one (f := (fieldT Tryz.prog 89 8).getD default) (by kernel_rfl) (by kernel_rfl) (by kernel_rfl) cs
theorem sz90 : szT Tryz.prog 90 = some 18 := by kernel_rfl
theorem ag90 : aggT Tryz.prog 90 = some true := by kernel_rfl
theorem ze90 : zeroT Tryz.prog 90 = some (.agg #[.int .i64 0, .int .i64 0, .int .i64 0, .int .i64 0, .int .i64 0, .int .i64 0, .int .i64 0, .int .i64 0, .int .i64 0, .int .i64 0, .int .i64 0, .int .i64 0, .pointer none, .int .u64 0, .bool false, .slice none 0 0, .int .i64 0, .bool false]) := by kernel_rfl
theorem inf90 : ∃ i, Tryz.prog.info? 90 = some i ∧ i.zero = some (.agg #[.int .i64 0, .int .i64 0, .int .i64 0, .int .i64 0, .int .i64 0, .int .i64 0, .int .i64 0, .int .i64 0, .int .i64 0, .int .i64 0, .int .i64 0, .int .i64 0, .pointer none, .int .u64 0, .bool false, .slice none 0 0, .int .i64 0, .bool false]) ∧ i.size = 18 ∧ i.bytes = 160 := by
  have h : (Tryz.prog.info? 90).map (fun i => (i.zero, i.size, i.bytes)) = some (some (.agg #[.int .i64 0, .int .i64 0, .int .i64 0, .int .i64 0, .int .i64 0, .int .i64 0, .int .i64 0, .int .i64 0, .int .i64 0, .int .i64 0, .int .i64 0, .int .i64 0, .pointer none, .int .u64 0, .bool false, .slice none 0 0, .int .i64 0, .bool false]), 18, 160) := by kernel_rfl
  obtain ⟨i, h1, h2⟩ := Option.map_eq_some_iff.1 h
  simp only [Prod.mk.injEq] at h2
  exact ⟨i, h1, h2.1, h2.2.1, h2.2.2⟩
theorem st90 (H : AHeap) (id off : Nat) (x : Value) : astoreT Tryz.prog H 90 (.pointer (some ⟨id, off, none⟩)) x = if x.cells.size = 18 ∧ x.cells.toList.all oneCell = true then ((H[id]?).bind (rowStore off x.cells.toList)).map fun o => H.set id o else none := astore_rule sz90 H id off x
theorem fa90_0 (id off : Nat) : afieldAddr Tryz.prog 90 (.pointer (some ⟨id, off, none⟩)) 0 = some (.pointer (some ⟨id, off + 0, none⟩)) := afieldAddr_at (n := 9) (f := (fieldT Tryz.prog 90 0).getD default) (by kernel_rfl) (by kernel_rfl) (by kernel_rfl) id off
theorem fl90_0 (cs : List Value) : afield Tryz.prog 90 (.agg cs.toArray) 0 = some (.agg ((cs.drop 0).take 10).toArray) := afield_agg (f := (fieldT Tryz.prog 90 0).getD default) (by kernel_rfl) (by kernel_rfl) (by kernel_rfl) (by kernel_rfl) cs
theorem fa90_1 (id off : Nat) : afieldAddr Tryz.prog 90 (.pointer (some ⟨id, off, none⟩)) 1 = some (.pointer (some ⟨id, off + 10, none⟩)) := afieldAddr_at (n := 0) (f := (fieldT Tryz.prog 90 1).getD default) (by kernel_rfl) (by kernel_rfl) (by kernel_rfl) id off
theorem fl90_1 (cs : List Value) : afield Tryz.prog 90 (.agg cs.toArray) 1 = cs[10]? := afield_one (f := (fieldT Tryz.prog 90 1).getD default) (by kernel_rfl) (by kernel_rfl) (by kernel_rfl) cs
theorem fa90_2 (id off : Nat) : afieldAddr Tryz.prog 90 (.pointer (some ⟨id, off, none⟩)) 2 = some (.pointer (some ⟨id, off + 11, none⟩)) := afieldAddr_at (n := 0) (f := (fieldT Tryz.prog 90 2).getD default) (by kernel_rfl) (by kernel_rfl) (by kernel_rfl) id off
theorem fl90_2 (cs : List Value) : afield Tryz.prog 90 (.agg cs.toArray) 2 = cs[11]? := afield_one (f := (fieldT Tryz.prog 90 2).getD default) (by kernel_rfl) (by kernel_rfl) (by kernel_rfl) cs
theorem fa90_3 (id off : Nat) : afieldAddr Tryz.prog 90 (.pointer (some ⟨id, off, none⟩)) 3 = some (.pointer (some ⟨id, off + 12, none⟩)) := afieldAddr_at (n := 0) (f := (fieldT Tryz.prog 90 3).getD default) (by kernel_rfl) (by kernel_rfl) (by kernel_rfl) id off
theorem fl90_3 (cs : List Value) : afield Tryz.prog 90 (.agg cs.toArray) 3 = cs[12]? := afield_one (f := (fieldT Tryz.prog 90 3).getD default) (by kernel_rfl) (by kernel_rfl) (by kernel_rfl) cs
theorem fa90_4 (id off : Nat) : afieldAddr Tryz.prog 90 (.pointer (some ⟨id, off, none⟩)) 4 = some (.pointer (some ⟨id, off + 13, none⟩)) := afieldAddr_at (n := 0) (f := (fieldT Tryz.prog 90 4).getD default) (by kernel_rfl) (by kernel_rfl) (by kernel_rfl) id off
theorem fl90_4 (cs : List Value) : afield Tryz.prog 90 (.agg cs.toArray) 4 = cs[13]? := afield_one (f := (fieldT Tryz.prog 90 4).getD default) (by kernel_rfl) (by kernel_rfl) (by kernel_rfl) cs
theorem fa90_5 (id off : Nat) : afieldAddr Tryz.prog 90 (.pointer (some ⟨id, off, none⟩)) 5 = some (.pointer (some ⟨id, off + 14, none⟩)) := afieldAddr_at (n := 0) (f := (fieldT Tryz.prog 90 5).getD default) (by kernel_rfl) (by kernel_rfl) (by kernel_rfl) id off
theorem fl90_5 (cs : List Value) : afield Tryz.prog 90 (.agg cs.toArray) 5 = cs[14]? := afield_one (f := (fieldT Tryz.prog 90 5).getD default) (by kernel_rfl) (by kernel_rfl) (by kernel_rfl) cs
theorem fa90_6 (id off : Nat) : afieldAddr Tryz.prog 90 (.pointer (some ⟨id, off, none⟩)) 6 = some (.pointer (some ⟨id, off + 15, none⟩)) := afieldAddr_at (n := 0) (f := (fieldT Tryz.prog 90 6).getD default) (by kernel_rfl) (by kernel_rfl) (by kernel_rfl) id off
theorem fl90_6 (cs : List Value) : afield Tryz.prog 90 (.agg cs.toArray) 6 = cs[15]? := afield_one (f := (fieldT Tryz.prog 90 6).getD default) (by kernel_rfl) (by kernel_rfl) (by kernel_rfl) cs
theorem fa90_7 (id off : Nat) : afieldAddr Tryz.prog 90 (.pointer (some ⟨id, off, none⟩)) 7 = some (.pointer (some ⟨id, off + 16, none⟩)) := afieldAddr_at (n := 0) (f := (fieldT Tryz.prog 90 7).getD default) (by kernel_rfl) (by kernel_rfl) (by kernel_rfl) id off
theorem fl90_7 (cs : List Value) : afield Tryz.prog 90 (.agg cs.toArray) 7 = cs[16]? := afield_one (f := (fieldT Tryz.prog 90 7).getD default) (by kernel_rfl) (by kernel_rfl) (by kernel_rfl) cs
theorem fa90_8 (id off : Nat) : afieldAddr Tryz.prog 90 (.pointer (some ⟨id, off, none⟩)) 8 = some (.pointer (some ⟨id, off + 17, none⟩)) := afieldAddr_at (n := 0) (f := (fieldT Tryz.prog 90 8).getD default) (by kernel_rfl) (by kernel_rfl) (by kernel_rfl) id off
theorem fl90_8 (cs : List Value) : afield Tryz.prog 90 (.agg cs.toArray) 8 = cs[17]? := afield_one (f := (fieldT Tryz.prog 90 8).getD default) (by kernel_rfl) (by kernel_rfl) (by kernel_rfl) cs
theorem sz91 : szT Tryz.prog 91 = some 1 := by kernel_rfl
theorem ag91 : aggT Tryz.prog 91 = some false := by kernel_rfl
theorem ze91 : zeroT Tryz.prog 91 = some (.slice none 0 0) := by kernel_rfl
theorem inf91 : ∃ i, Tryz.prog.info? 91 = some i ∧ i.zero = some (.slice none 0 0) ∧ i.size = 1 ∧ i.bytes = 24 := by
  have h : (Tryz.prog.info? 91).map (fun i => (i.zero, i.size, i.bytes)) = some (some (.slice none 0 0), 1, 24) := by kernel_rfl
  obtain ⟨i, h1, h2⟩ := Option.map_eq_some_iff.1 h
  simp only [Prod.mk.injEq] at h2
  exact ⟨i, h1, h2.1, h2.2.1, h2.2.2⟩
theorem st91 (H : AHeap) (id off : Nat) (x : Value) : astoreT Tryz.prog H 91 (.pointer (some ⟨id, off, none⟩)) x = if x.cells.size = 1 ∧ x.cells.toList.all oneCell = true then ((H[id]?).bind (rowStore off x.cells.toList)).map fun o => H.set id o else none := astore_rule sz91 H id off x
theorem un91 : Tryz.prog.underlying 91 = some (.slice 93) := by kernel_rfl
theorem el91 : elemT Tryz.prog 91 = some 93 := by kernel_rfl
theorem ln91 (H : AHeap) (a : Option Addr) (m c : Nat) : alen Tryz.prog H 91 (.slice a m c) = some (.int .i64 m) := alen_slice un91 H a m c
theorem cp91 (a : Addr) (m c : Nat) : acap Tryz.prog 91 (.slice (some a) m c) = if c = 0 then none else some (.int .i64 c) := acap_slice un91 a m c
theorem ix91 (id off m c : Nat) (ik : IntKind) (i : Int) : aindexAddr Tryz.prog 91 (.slice (some ⟨id, off, none⟩) m c) (.int ik i) = if 0 ≤ i ∧ i < m then some (.pointer (some ⟨id, off + i.toNat * 1, none⟩)) else none := aindexAddr_at un91 (by kernel_rfl) id off m c ik i
theorem en91 (H : AHeap) (xo yo : Operand) (a : Option Addr) (n c m q : Nat) : abin Tryz.prog H .eql 91 xo yo (.slice a n c) (.slice none m q) = some (.bool a.isNone) := abin_eq_slnil un91 H xo yo a n c m q
theorem nn91 (H : AHeap) (xo yo : Operand) (a : Option Addr) (n c m q : Nat) : abin Tryz.prog H .neq 91 xo yo (.slice a n c) (.slice none m q) = some (.bool !a.isNone) := abin_ne_slnil un91 H xo yo a n c m q
theorem sc91 (H : AHeap) (a : Option Addr) (n c : Nat) (lo hi : Option Value) : aslice Tryz.prog H 91 (.slice a n c) lo hi none = (optB hi (some n) (capOf n c)).bind fun h => (optB lo (some 0) h).bind fun l => cut H 1 a c l h := aslice_sl un91 (by kernel_rfl) H a n c lo hi
theorem sz93 : szT Tryz.prog 93 = some 1 := by kernel_rfl
theorem ag93 : aggT Tryz.prog 93 = some false := by kernel_rfl
theorem ze93 : zeroT Tryz.prog 93 = some (.pointer none) := by kernel_rfl
theorem inf93 : ∃ i, Tryz.prog.info? 93 = some i ∧ i.zero = some (.pointer none) ∧ i.size = 1 ∧ i.bytes = 8 := by
  have h : (Tryz.prog.info? 93).map (fun i => (i.zero, i.size, i.bytes)) = some (some (.pointer none), 1, 8) := by kernel_rfl
  obtain ⟨i, h1, h2⟩ := Option.map_eq_some_iff.1 h
  simp only [Prod.mk.injEq] at h2
  exact ⟨i, h1, h2.1, h2.2.1, h2.2.2⟩
theorem st93 (H : AHeap) (id off : Nat) (x : Value) : astoreT Tryz.prog H 93 (.pointer (some ⟨id, off, none⟩)) x = if x.cells.size = 1 ∧ x.cells.toList.all oneCell = true then ((H[id]?).bind (rowStore off x.cells.toList)).map fun o => H.set id o else none := astore_rule sz93 H id off x
theorem en93 (H : AHeap) (xo yo : Operand) (a : Option Addr) : abin Tryz.prog H .eql 93 xo yo (.pointer a) (.pointer none) = some (.bool a.isNone) := abin_eq_ptrnil (e := 100) (by kernel_rfl) H xo yo a
theorem nn93 (H : AHeap) (xo yo : Operand) (a : Option Addr) : abin Tryz.prog H .neq 93 xo yo (.pointer a) (.pointer none) = some (.bool !a.isNone) := abin_ne_ptrnil (e := 100) (by kernel_rfl) H xo yo a
theorem sz94 : szT Tryz.prog 94 = some 1 := by kernel_rfl
theorem ag94 : aggT Tryz.prog 94 = some false := by kernel_rfl
theorem ze94 : zeroT Tryz.prog 94 = some (.int .u32 0) := by kernel_rfl
theorem pz94 : plainV 100 (.int .u32 0) = true := by kernel_rfl
theorem inf94 : ∃ i, Tryz.prog.info? 94 = some i ∧ i.zero = some (.int .u32 0) ∧ i.size = 1 ∧ i.bytes = 4 := by
  have h : (Tryz.prog.info? 94).map (fun i => (i.zero, i.size, i.bytes)) = some (some (.int .u32 0), 1, 4) := by kernel_rfl
  obtain ⟨i, h1, h2⟩ := Option.map_eq_some_iff.1 h
  simp only [Prod.mk.injEq] at h2
  exact ⟨i, h1, h2.1, h2.2.1, h2.2.2⟩
theorem st94 (H : AHeap) (id off : Nat) (x : Value) : astoreT Tryz.prog H 94 (.pointer (some ⟨id, off, none⟩)) x = if x.cells.size = 1 ∧ x.cells.toList.all oneCell = true then ((H[id]?).bind (rowStore off x.cells.toList)).map fun o => H.set id o else none := astore_rule sz94 H id off x
theorem kd94 : kindT Tryz.prog 94 = .int .u32 := by kernel_rfl
theorem sz95 : szT Tryz.prog 95 = some 8 := by kernel_rfl
theorem ag95 : aggT Tryz.prog 95 = some true := by kernel_rfl
theorem ze95 : zeroT Tryz.prog 95 = some (.agg #[.int .i64 0, .int .i64 0, .int .i64 0, .int .i64 0, .int .i64 0, .string ByteArray.empty, .int .u32 0, .int .i64 0]) := by kernel_rfl
theorem pz95 : plainV 100 (.agg #[.int .i64 0, .int .i64 0, .int .i64 0, .int .i64 0, .int .i64 0, .string ByteArray.empty, .int .u32 0, .int .i64 0]) = true := by kernel_rfl
theorem inf95 : ∃ i, Tryz.prog.info? 95 = some i ∧ i.zero = some (.agg #[.int .i64 0, .int .i64 0, .int .i64 0, .int .i64 0, .int .i64 0, .string ByteArray.empty, .int .u32 0, .int .i64 0]) ∧ i.size = 8 ∧ i.bytes = 72 := by
  have h : (Tryz.prog.info? 95).map (fun i => (i.zero, i.size, i.bytes)) = some (some (.agg #[.int .i64 0, .int .i64 0, .int .i64 0, .int .i64 0, .int .i64 0, .string ByteArray.empty, .int .u32 0, .int .i64 0]), 8, 72) := by kernel_rfl
  obtain ⟨i, h1, h2⟩ := Option.map_eq_some_iff.1 h
  simp only [Prod.mk.injEq] at h2
  exact ⟨i, h1, h2.1, h2.2.1, h2.2.2⟩
theorem st95 (H : AHeap) (id off : Nat) (x : Value) : astoreT Tryz.prog H 95 (.pointer (some ⟨id, off, none⟩)) x = if x.cells.size = 8 ∧ x.cells.toList.all oneCell = true then ((H[id]?).bind (rowStore off x.cells.toList)).map fun o => H.set id o else none := astore_rule sz95 H id off x
theorem fa95_0 (id off : Nat) : afieldAddr Tryz.prog 95 (.pointer (some ⟨id, off, none⟩)) 0 = some (.pointer (some ⟨id, off + 0, none⟩)) := afieldAddr_at (n := 4) (f := (fieldT Tryz.prog 95 0).getD default) (by kernel_rfl) (by kernel_rfl) (by kernel_rfl) id off
theorem fl95_0 (cs : List Value) : afield Tryz.prog 95 (.agg cs.toArray) 0 = some (.agg ((cs.drop 0).take 5).toArray) := afield_agg (f := (fieldT Tryz.prog 95 0).getD default) (by kernel_rfl) (by kernel_rfl) (by kernel_rfl) (by kernel_rfl) cs
theorem fa95_1 (id off : Nat) : afieldAddr Tryz.prog 95 (.pointer (some ⟨id, off, none⟩)) 1 = some (.pointer (some ⟨id, off + 5, none⟩)) := afieldAddr_at (n := 0) (f := (fieldT Tryz.prog 95 1).getD default) (by kernel_rfl) (by kernel_rfl) (by kernel_rfl) id off
theorem fl95_1 (cs : List Value) : afield Tryz.prog 95 (.agg cs.toArray) 1 = cs[5]? := afield_one (f := (fieldT Tryz.prog 95 1).getD default) (by kernel_rfl) (by kernel_rfl) (by kernel_rfl) cs
theorem fa95_2 (id off : Nat) : afieldAddr Tryz.prog 95 (.pointer (some ⟨id, off, none⟩)) 2 = some (.pointer (some ⟨id, off + 6, none⟩)) := afieldAddr_at (n := 0) (f := (fieldT Tryz.prog 95 2).getD default) (by kernel_rfl) (by kernel_rfl) (by kernel_rfl) id off
theorem fl95_2 (cs : List Value) : afield Tryz.prog 95 (.agg cs.toArray) 2 = cs[6]? := afield_one (f := (fieldT Tryz.prog 95 2).getD default) (by kernel_rfl) (by kernel_rfl) (by kernel_rfl) cs
theorem fa95_3 (id off : Nat) : afieldAddr Tryz.prog 95 (.pointer (some ⟨id, off, none⟩)) 3 = some (.pointer (some ⟨id, off + 7, none⟩)) := afieldAddr_at (n := 0) (f := (fieldT Tryz.prog 95 3).getD default) (by kernel_rfl) (by kernel_rfl) (by kernel_rfl) id off
theorem fl95_3 (cs : List Value) : afield Tryz.prog 95 (.agg cs.toArray) 3 = cs[7]? := afield_one (f := (fieldT Tryz.prog 95 3).getD default) (by kernel_rfl) (by kernel_rfl) (by kernel_rfl) cs
theorem sz96 : szT Tryz.prog 96 = some 8 := by kernel_rfl
theorem ag96 : aggT Tryz.prog 96 = some true := by kernel_rfl
theorem ze96 : zeroT Tryz.prog 96 = some (.agg #[.int .i64 0, .int .i64 0, .int .i64 0, .int .i64 0, .int .i64 0, .string ByteArray.empty, .int .u32 0, .int .i64 0]) := by kernel_rfl
theorem inf96 : ∃ i, Tryz.prog.info? 96 = some i ∧ i.zero = some (.agg #[.int .i64 0, .int .i64 0, .int .i64 0, .int .i64 0, .int .i64 0, .string ByteArray.empty, .int .u32 0, .int .i64 0]) ∧ i.size = 8 ∧ i.bytes = 72 := by
  have h : (Tryz.prog.info? 96).map (fun i => (i.zero, i.size, i.bytes)) = some (some (.agg #[.int .i64 0, .int .i64 0, .int .i64 0, .int .i64 0, .int .i64 0, .string ByteArray.empty, .int .u32 0, .int .i64 0]), 8, 72) := by kernel_rfl
  obtain ⟨i, h1, h2⟩ := Option.map_eq_some_iff.1 h
  simp only [Prod.mk.injEq] at h2
  exact ⟨i, h1, h2.1, h2.2.1, h2.2.2⟩
theorem st96 (H : AHeap) (id off : Nat) (x : Value) : astoreT Tryz.prog H 96 (.pointer (some ⟨id, off, none⟩)) x = if x.cells.size = 8 ∧ x.cells.toList.all oneCell = true then ((H[id]?).bind (rowStore off x.cells.toList)).map fun o => H.set id o else none := astore_rule sz96 H id off x
theorem fa96_0 (id off : Nat) : afieldAddr Tryz.prog 96 (.pointer (some ⟨id, off, none⟩)) 0 = some (.pointer (some ⟨id, off + 0, none⟩)) := afieldAddr_at (n := 4) (f := (fieldT Tryz.prog 96 0).getD default) (by kernel_rfl) (by kernel_rfl) (by kernel_rfl) id off
theorem fl96_0 (cs : List Value) : afield Tryz.prog 96 (.agg cs.toArray) 0 = some (.agg ((cs.drop 0).take 5).toArray) := afield_agg (f := (fieldT Tryz.prog 96 0).getD default) (by kernel_rfl) (by kernel_rfl) (by kernel_rfl) (by kernel_rfl) cs
theorem fa96_1 (id off : Nat) : afieldAddr Tryz.prog 96 (.pointer (some ⟨id, off, none⟩)) 1 = some (.pointer (some ⟨id, off + 5, none⟩)) := afieldAddr_at (n := 0) (f := (fieldT Tryz.prog 96 1).getD default) (by kernel_rfl) (by kernel_rfl) (by kernel_rfl) id off
theorem fl96_1 (cs : List Value) : afield Tryz.prog 96 (.agg cs.toArray) 1 = cs[5]? := afield_one (f := (fieldT Tryz.prog 96 1).getD default) (by kernel_rfl) (by kernel_rfl) (by kernel_rfl) cs
theorem fa96_2 (id off : Nat) : afieldAddr Tryz.prog 96 (.pointer (some ⟨id, off, none⟩)) 2 = some (.pointer (some ⟨id, off + 6, none⟩)) := afieldAddr_at (n := 0) (f := (fieldT Tryz.prog 96 2).getD default) (by kernel_rfl) (by kernel_rfl) (by kernel_rfl) id off
theorem fl96_2 (cs : List Value) : afield Tryz.prog 96 (.agg cs.toArray) 2 = cs[6]? := afield_one (f := (fieldT Tryz.prog 96 2).getD default) (by kernel_rfl) (by kernel_rfl) (by kernel_rfl) cs
theorem fa96_3 (id off : Nat) : afieldAddr Tryz.prog 96 (.pointer (some ⟨id, off, none⟩)) 3 = some (.pointer (some ⟨id, off + 7, none⟩)) := afieldAddr_at (n := 0) (f := (fieldT Tryz.prog 96 3).getD default) (by kernel_rfl) (by kernel_rfl) (by kernel_rfl) id off
theorem fl96_3 (cs : List Value) : afield Tryz.prog 96 (.agg cs.toArray) 3 = cs[7]? := afield_one (f := (fieldT Tryz.prog 96 3).getD default) (by kernel_rfl) (by kernel_rfl) (by kernel_rfl) cs
theorem sz97 : szT Tryz.prog 97 = some 1 := by kernel_rfl
theorem ag97 : aggT Tryz.prog 97 = some false := by kernel_rfl
theorem ze97 : zeroT Tryz.prog 97 = some (.slice none 0 0) := by kernel_rfl
theorem inf97 : ∃ i, Tryz.prog.info? 97 = some i ∧ i.zero = some (.slice none 0 0) ∧ i.size = 1 ∧ i.bytes = 24 := by
  have h : (Tryz.prog.info? 97).map (fun i => (i.zero, i.size, i.bytes)) = some (some (.slice none 0 0), 1, 24) := by kernel_rfl
  obtain ⟨i, h1, h2⟩ := Option.map_eq_some_iff.1 h
  simp only [Prod.mk.injEq] at h2
  exact ⟨i, h1, h2.1, h2.2.1, h2.2.2⟩
theorem st97 (H : AHeap) (id off : Nat) (x : Value) : astoreT Tryz.prog H 97 (.pointer (some ⟨id, off, none⟩)) x = if x.cells.size = 1 ∧ x.cells.toList.all oneCell = true then ((H[id]?).bind (rowStore off x.cells.toList)).map fun o => H.set id o else none := astore_rule sz97 H id off x
theorem un97 : Tryz.prog.underlying 97 = some (.slice 5) := by kernel_rfl
theorem el97 : elemT Tryz.prog 97 = some 5 := by kernel_rfl
theorem ln97 (H : AHeap) (a : Option Addr) (m c : Nat) : alen Tryz.prog H 97 (.slice a m c) = some (.int .i64 m) := alen_slice un97 H a m c
theorem cp97 (a : Addr) (m c : Nat) : acap Tryz.prog 97 (.slice (some a) m c) = if c = 0 then none else some (.int .i64 c) := acap_slice un97 a m c
theorem ix97 (id off m c : Nat) (ik : IntKind) (i : Int) : aindexAddr Tryz.prog 97 (.slice (some ⟨id, off, none⟩) m c) (.int ik i) = if 0 ≤ i ∧ i < m then some (.pointer (some ⟨id, off + i.toNat * 1, none⟩)) else none := aindexAddr_at un97 (by kernel_rfl) id off m c ik i
theorem en97 (H : AHeap) (xo yo : Operand) (a : Option Addr) (n c m q : Nat) : abin Tryz.prog H .eql 97 xo yo (.slice a n c) (.slice none m q) = some (.bool a.isNone) := abin_eq_slnil un97 H xo yo a n c m q
theorem nn97 (H : AHeap) (xo yo : Operand) (a : Option Addr) (n c m q : Nat) : abin Tryz.prog H .neq 97 xo yo (.slice a n c) (.slice none m q) = some (.bool !a.isNone) := abin_ne_slnil un97 H xo yo a n c m q
theorem sc97 (H : AHeap) (a : Option Addr) (n c : Nat) (lo hi : Option Value) : aslice Tryz.prog H 97 (.slice a n c) lo hi none = (optB hi (some n) (capOf n c)).bind fun h => (optB lo (some 0) h).bind fun l => cut H 1 a c l h := aslice_sl un97 (by kernel_rfl) H a n c lo hi
theorem kd97 : kindT Tryz.prog 97 = .bytes := by kernel_rfl
theorem sz98 : szT Tryz.prog 98 = some 1 := by kernel_rfl
theorem ag98 : aggT Tryz.prog 98 = some false := by kernel_rfl
theorem ze98 : zeroT Tryz.prog 98 = some (.pointer none) := by kernel_rfl
theorem inf98 : ∃ i, Tryz.prog.info? 98 = some i ∧ i.zero = some (.pointer none) ∧ i.size = 1 ∧ i.bytes = 8 := by
  have h : (Tryz.prog.info? 98).map (fun i => (i.zero, i.size, i.bytes)) = some (some (.pointer none), 1, 8) := by kernel_rfl
  obtain ⟨i, h1, h2⟩ := Option.map_eq_some_iff.1 h
  simp only [Prod.mk.injEq] at h2
  exact ⟨i, h1, h2.1, h2.2.1, h2.2.2⟩
theorem st98 (H : AHeap) (id off : Nat) (x : Value) : astoreT Tryz.prog H 98 (.pointer (some ⟨id, off, none⟩)) x = if x.cells.size = 1 ∧ x.cells.toList.all oneCell = true then ((H[id]?).bind (rowStore off x.cells.toList)).map fun o => H.set id o else none := astore_rule sz98 H id off x
theorem en98 (H : AHeap) (xo yo : Operand) (a : Option Addr) : abin Tryz.prog H .eql 98 xo yo (.pointer a) (.pointer none) = some (.bool a.isNone) := abin_eq_ptrnil (e := 239) (by kernel_rfl) H xo yo a
theorem nn98 (H : AHeap) (xo yo : Operand) (a : Option Addr) : abin Tryz.prog H .neq 98 xo yo (.pointer a) (.pointer none) = some (.bool !a.isNone) := abin_ne_ptrnil (e := 239) (by kernel_rfl) H xo yo a
theorem sz99 : szT Tryz.prog 99 = some 13 := by kernel_rfl
theorem ag99 : aggT Tryz.prog 99 = some true := by kernel_rfl
theorem ze99 : zeroT Tryz.prog 99 = some (.agg #[.int .i64 0, .int .i64 0, .slice none 0 0, .pointer none, .int .i64 0, .int .i64 0, .int .i64 0, .int .i64 0, .int .i64 0, .string ByteArray.empty, .int .u32 0, .int .i64 0, .bool false]) := by kernel_rfl
theorem pz99 : plainV 100 (.agg #[.int .i64 0, .int .i64 0, .slice none 0 0, .pointer none, .int .i64 0, .int .i64 0, .int .i64 0, .int .i64 0, .int .i64 0, .string ByteArray.empty, .int .u32 0, .int .i64 0, .bool false]) = true := by kernel_rfl
theorem inf99 : ∃ i, Tryz.prog.info? 99 = some i ∧ i.zero = some (.agg #[.int .i64 0, .int .i64 0, .slice none 0 0, .pointer none, .int .i64 0, .int .i64 0, .int .i64 0, .int .i64 0, .int .i64 0, .string ByteArray.empty, .int .u32 0, .int .i64 0, .bool false]) ∧ i.size = 13 ∧ i.bytes = 128 := by
  have h : (Tryz.prog.info? 99).map (fun i => (i.zero, i.size, i.bytes)) = some (some (.agg #[.int .i64 0, .int .i64 0, .slice none 0 0, .pointer none, .int .i64 0, .int .i64 0, .int .i64 0, .int .i64 0, .int .i64 0, .string ByteArray.empty, .int .u32 0, .int .i64 0, .bool false]), 13, 128) := by kernel_rfl
  obtain ⟨i, h1, h2⟩ := Option.map_eq_some_iff.1 h
  simp only [Prod.mk.injEq] at h2
  exact ⟨i, h1, h2.1, h2.2.1, h2.2.2⟩
theorem st99 (H : AHeap) (id off : Nat) (x : Value) : astoreT Tryz.prog H 99 (.pointer (some ⟨id, off, none⟩)) x = if x.cells.size = 13 ∧ x.cells.toList.all oneCell = true then ((H[id]?).bind (rowStore off x.cells.toList)).map fun o => H.set id o else none := astore_rule sz99 H id off x
theorem fa99_0 (id off : Nat) : afieldAddr Tryz.prog 99 (.pointer (some ⟨id, off, none⟩)) 0 = some (.pointer (some ⟨id, off + 0, none⟩)) := afieldAddr_at (n := 1) (f := (fieldT Tryz.prog 99 0).getD default) (by kernel_rfl) (by kernel_rfl) (by kernel_rfl) id off
theorem fl99_0 (cs : List Value) : afield Tryz.prog 99 (.agg cs.toArray) 0 = some (.agg ((cs.drop 0).take 2).toArray) := afield_agg (f := (fieldT Tryz.prog 99 0).getD default) (by kernel_rfl) (by kernel_rfl) (by kernel_rfl) (by kernel_rfl) cs
theorem fa99_1 (id off : Nat) : afieldAddr Tryz.prog 99 (.pointer (some ⟨id, off, none⟩)) 1 = some (.pointer (some ⟨id, off + 2, none⟩)) := afieldAddr_at (n := 0) (f := (fieldT Tryz.prog 99 1).getD default) (by kernel_rfl) (by kernel_rfl) (by kernel_rfl) id off
theorem fl99_1 (cs : List Value) : afield Tryz.prog 99 (.agg cs.toArray) 1 = cs[2]? := afield_one (f := (fieldT Tryz.prog 99 1).getD default) (by kernel_rfl) (by kernel_rfl) (by kernel_rfl) cs
theorem fa99_2 (id off : Nat) : afieldAddr Tryz.prog 99 (.pointer (some ⟨id, off, none⟩)) 2 = some (.pointer (some ⟨id, off + 3, none⟩)) := afieldAddr_at (n := 0) (f := (fieldT Tryz.prog 99 2).getD default) (by kernel_rfl) (by kernel_rfl) (by kernel_rfl) id off
theorem fl99_2 (cs : List Value) : afield Tryz.prog 99 (.agg cs.toArray) 2 = cs[3]? := afield_one (f := (fieldT Tryz.prog 99 2).getD default) (by kernel_rfl) (by kernel_rfl) (by kernel_rfl) cs
theorem fa99_3 (id off : Nat) : afieldAddr Tryz.prog 99 (.pointer (some ⟨id, off, none⟩)) 3 = some (.pointer (some ⟨id, off + 4, none⟩)) := afieldAddr_at (n := 7) (f := (fieldT Tryz.prog 99 3).getD default) (by kernel_rfl) (by kernel_rfl) (by kernel_rfl) id off
theorem fl99_3 (cs : List Value) : afield Tryz.prog 99 (.agg cs.toArray) 3 = some (.agg ((cs.drop 4).take 8).toArray) := afield_agg (f := (fieldT Tryz.prog 99 3).getD default) (by kernel_rfl) (by kernel_rfl) (by kernel_rfl) (by kernel_rfl) cs
theorem fa99_4 (id off : Nat) : afieldAddr Tryz.prog 99 (.pointer (some ⟨id, off, none⟩)) 4 = some (.pointer (some ⟨id, off + 12, none⟩)) := afieldAddr_at (n := 0) (f := (fieldT Tryz.prog 99 4).getD default) (by kernel_rfl) (by kernel_rfl) (by kernel_rfl) id off
theorem fl99_4 (cs : List Value) : afield Tryz.prog 99 (.agg cs.toArray) 4 = cs[12]? := afield_one (f := (fieldT Tryz.prog 99 4).getD default) (by kernel_rfl) (by kernel_rfl) (by kernel_rfl) cs
theorem sz100 : szT Tryz.prog 100 = some 13 := by kernel_rfl
theorem ag100 : aggT Tryz.prog 100 = some true := by kernel_rfl
theorem ze100 : zeroT Tryz.prog 100 = some (.agg #[.int .i64 0, .int .i64 0, .slice none 0 0, .pointer none, .int .i64 0, .int .i64 0, .int .i64 0, .int .i64 0, .int .i64 0, .string ByteArray.empty, .int .u32 0, .int .i64 0, .bool false]) := by kernel_rfl
theorem inf100 : ∃ i, Tryz.prog.info? 100 = some i ∧ i.zero = some (.agg #[.int .i64 0, .int .i64 0, .slice none 0 0, .pointer none, .int .i64 0, .int .i64 0, .int .i64 0, .int .i64 0, .int .i64 0, .string ByteArray.empty, .int .u32 0, .int .i64 0, .bool false]) ∧ i.size = 13 ∧ i.bytes = 128 := by
  have h : (Tryz.prog.info? 100).map (fun i => (i.zero, i.size, i.bytes)) = some (some (.agg #[.int .i64 0, .int .i64 0, .slice none 0 0, .pointer none, .int .i64 0, .int .i64 0, .int .i64 0, .int .i64 0, .int .i64 0, .string ByteArray.empty, .int .u32 0, .int .i64 0, .bool false]), 13, 128) := by kernel_rfl
  obtain ⟨i, h1, h2⟩ := Option.map_eq_some_iff.1 h
  simp only [Prod.mk.injEq] at h2
  exact ⟨i, h1, h2.1, h2.2.1, h2.2.2⟩
theorem st100 (H : AHeap) (id off : Nat) (x : Value) : astoreT Tryz.prog H 100 (.pointer (some ⟨id, off, none⟩)) x = if x.cells.size = 13 ∧ x.cells.toList.all oneCell = true then ((H[id]?).bind (rowStore off x.cells.toList)).map fun o => H.set id o else none := astore_rule sz100 H id off x
theorem fa100_0 (id off : Nat) : afieldAddr Tryz.prog 100 (.pointer (some ⟨id, off, none⟩)) 0 = some (.pointer (some ⟨id, off + 0, none⟩)) := afieldAddr_at (n := 1) (f := (fieldT Tryz.prog 100 0).getD default) (by kernel_rfl) (by kernel_rfl) (by kernel_rfl) id off
theorem fl100_0 (cs : List Value) : afield Tryz.prog 100 (.agg cs.toArray) 0 = some (.agg ((cs.drop 0).take 2).toArray) := afield_agg (f := (fieldT Tryz.prog 100 0).getD default) (by kernel_rfl) (by kernel_rfl) (by kernel_rfl) (by kernel_rfl) cs
theorem fa100_1 (id off : Nat) : afieldAddr Tryz.prog 100 (.pointer (some ⟨id, off, none⟩)) 1 = some (.pointer (some ⟨id, off + 2, none⟩)) := afieldAddr_at (n := 0) (f := (fieldT Tryz.prog 100 1).getD default) (by kernel_rfl) (by kernel_rfl) (by kernel_rfl) id off
theorem fl100_1 (cs : List Value) : afield Tryz.prog 100 (.agg cs.toArray) 1 = cs[2]? := afield_one (f := (fieldT Tryz.prog 100 1).getD default) (by kernel_rfl) (by kernel_rfl) (by kernel_rfl) cs
theorem fa100_2 (id off : Nat) : afieldAddr Tryz.prog 100 (.pointer (some ⟨id, off, none⟩)) 2 = some (.pointer (some ⟨id, off + 3, none⟩)) := afieldAddr_at (n := 0) (f := (fieldT Tryz.prog 100 2).getD default) (by kernel_rfl) (by kernel_rfl) (by kernel_rfl) id off
theorem fl100_2 (cs : List Value) : afield Tryz.prog 100 (.agg cs.toArray) 2 = cs[3]? := afield_one (f := (fieldT Tryz.prog 100 2).getD default) (by kernel_rfl) (by kernel_rfl) (by kernel_rfl) cs
theorem fa100_3 (id off : Nat) : afieldAddr Tryz.prog 100 (.pointer (some ⟨id, off, none⟩)) 3 = some (.pointer (some ⟨id, off + 4, none⟩)) := afieldAddr_at (n := 7) (f := (fieldT Tryz.prog 100 3).getD default) (by kernel_rfl) (by kernel_rfl) (by kernel_rfl) id off
theorem fl100_3 (cs : List Value) : afield Tryz.prog 100 (.agg cs.toArray) 3 = some (.agg ((cs.drop 4).take 8).toArray) := afield_agg (f := (fieldT Tryz.prog 100 3).getD default) (by kernel_rfl) (by kernel_rfl) (by kernel_rfl) (by kernel_rfl) cs
theorem fa100_4 (id off : Nat) : afieldAddr Tryz.prog 100 (.pointer (some ⟨id, off, none⟩)) 4 = some (.pointer (some ⟨id, off + 12, none⟩)) := afieldAddr_at (n := 0) (f := (fieldT Tryz.prog 100 4).getD default) (by kernel_rfl) (by kernel_rfl) (by kernel_rfl) id off
theorem fl100_4 (cs : List Value) : afield Tryz.prog 100 (.agg cs.toArray) 4 = cs[12]? := afield_one (f := (fieldT Tryz.prog 100 4).getD default) (by kernel_rfl) (by kernel_rfl) (by kernel_rfl) cs
theorem sz105 : szT Tryz.prog 105 = some 1 := by kernel_rfl
theorem ag105 : aggT Tryz.prog 105 = some false := by kernel_rfl
theorem ze105 : zeroT Tryz.prog 105 = some (.pointer none) := by kernel_rfl
theorem inf105 : ∃ i, Tryz.prog.info? 105 = some i ∧ i.zero = some (.pointer none) ∧ i.size = 1 ∧ i.bytes = 8 := by
  have h : (Tryz.prog.info? 105).map (fun i => (i.zero, i.size, i.bytes)) = some (some (.pointer none), 1, 8) := by kernel_rfl
  obtain ⟨i, h1, h2⟩ := Option.map_eq_some_iff.1 h
  simp only [Prod.mk.injEq] at h2
  exact ⟨i, h1, h2.1, h2.2.1, h2.2.2⟩
theorem st105 (H : AHeap) (id off : Nat) (x : Value) : astoreT Tryz.prog H 105 (.pointer (some ⟨id, off, none⟩)) x = if x.cells.size = 1 ∧ x.cells.toList.all oneCell = true then ((H[id]?).bind (rowStore off x.cells.toList)).map fun o => H.set id o else none := astore_rule sz105 H id off x
theorem en105 (H : AHeap) (xo yo : Operand) (a : Option Addr) : abin Tryz.prog H .eql 105 xo yo (.pointer a) (.pointer none) = some (.bool a.isNone) := abin_eq_ptrnil (e := 70) (by kernel_rfl) H xo yo a
theorem nn105 (H : AHeap) (xo yo : Operand) (a : Option Addr) : abin Tryz.prog H .neq 105 xo yo (.pointer a) (.pointer none) = some (.bool !a.isNone) := abin_ne_ptrnil (e := 70) (by kernel_rfl) H xo yo a
theorem sz107 : szT Tryz.prog 107 = some 1 := by kernel_rfl
theorem ag107 : aggT Tryz.prog 107 = some false := by kernel_rfl
theorem ze107 : zeroT Tryz.prog 107 = some (.nilIface) := by kernel_rfl
theorem inf107 : ∃ i, Tryz.prog.info? 107 = some i ∧ i.zero = some (.nilIface) ∧ i.size = 1 ∧ i.bytes = 16 := by
  have h : (Tryz.prog.info? 107).map (fun i => (i.zero, i.size, i.bytes)) = some (some (.nilIface), 1, 16) := by kernel_rfl
  obtain ⟨i, h1, h2⟩ := Option.map_eq_some_iff.1 h
  simp only [Prod.mk.injEq] at h2
  exact ⟨i, h1, h2.1, h2.2.1, h2.2.2⟩
theorem st107 (H : AHeap) (id off : Nat) (x : Value) : astoreT Tryz.prog H 107 (.pointer (some ⟨id, off, none⟩)) x = if x.cells.size = 1 ∧ x.cells.toList.all oneCell = true then ((H[id]?).bind (rowStore off x.cells.toList)).map fun o => H.set id o else none := astore_rule sz107 H id off x
theorem enz107 (H : AHeap) (xo : Operand) (w : Value) : abin Tryz.prog H .eql 107 xo (.const w) .nilIface .nilIface = some (.bool true) := abin_eq_if0 (by kernel_rfl) H xo w
theorem eno107 (H : AHeap) (xo yo : Operand) (u : TypeId) (v : Value) : abin Tryz.prog H .eql 107 xo yo (.iface u v) .nilIface = some (.bool false) := abin_eq_if1 (by kernel_rfl) H xo yo u v
theorem nnz107 (H : AHeap) (xo : Operand) (w : Value) : abin Tryz.prog H .neq 107 xo (.const w) .nilIface .nilIface = some (.bool false) := abin_ne_if0 (by kernel_rfl) H xo w
theorem nno107 (H : AHeap) (xo yo : Operand) (u : TypeId) (v : Value) : abin Tryz.prog H .neq 107 xo yo (.iface u v) .nilIface = some (.bool true) := abin_ne_if1 (by kernel_rfl) H xo yo u v
theorem sz108 : szT Tryz.prog 108 = some 1 := by kernel_rfl
theorem ag108 : aggT Tryz.prog 108 = some false := by kernel_rfl
theorem ze108 : zeroT Tryz.prog 108 = some (.nilIface) := by kernel_rfl
theorem inf108 : ∃ i, Tryz.prog.info? 108 = some i ∧ i.zero = some (.nilIface) ∧ i.size = 1 ∧ i.bytes = 16 := by
  have h : (Tryz.prog.info? 108).map (fun i => (i.zero, i.size, i.bytes)) = some (some (.nilIface), 1, 16) := by kernel_rfl
  obtain ⟨i, h1, h2⟩ := Option.map_eq_some_iff.1 h
  simp only [Prod.mk.injEq] at h2
  exact ⟨i, h1, h2.1, h2.2.1, h2.2.2⟩
theorem st108 (H : AHeap) (id off : Nat) (x : Value) : astoreT Tryz.prog H 108 (.pointer (some ⟨id, off, none⟩)) x = if x.cells.size = 1 ∧ x.cells.toList.all oneCell = true then ((H[id]?).bind (rowStore off x.cells.toList)).map fun o => H.set id o else none := astore_rule sz108 H id off x
theorem enz108 (H : AHeap) (xo : Operand) (w : Value) : abin Tryz.prog H .eql 108 xo (.const w) .nilIface .nilIface = some (.bool true) := abin_eq_if0 (by kernel_rfl) H xo w
theorem eno108 (H : AHeap) (xo yo : Operand) (u : TypeId) (v : Value) : abin Tryz.prog H .eql 108 xo yo (.iface u v) .nilIface = some (.bool false) := abin_eq_if1 (by kernel_rfl) H xo yo u v
theorem nnz108 (H : AHeap) (xo : Operand) (w : Value) : abin Tryz.prog H .neq 108 xo (.const w) .nilIface .nilIface = some (.bool false) := abin_ne_if0 (by kernel_rfl) H xo w
theorem nno108 (H : AHeap) (xo yo : Operand) (u : TypeId) (v : Value) : abin Tryz.prog H .neq 108 xo yo (.iface u v) .nilIface = some (.bool true) := abin_ne_if1 (by kernel_rfl) H xo yo u v
theorem sz109 : szT Tryz.prog 109 = some 1 := by kernel_rfl
theorem ag109 : aggT Tryz.prog 109 = some false := by kernel_rfl
theorem ze109 : zeroT Tryz.prog 109 = some (.pointer none) := by kernel_rfl
theorem inf109 : ∃ i, Tryz.prog.info? 109 = some i ∧ i.zero = some (.pointer none) ∧ i.size = 1 ∧ i.bytes = 8 := by
  have h : (Tryz.prog.info? 109).map (fun i => (i.zero, i.size, i.bytes)) = some (some (.pointer none), 1, 8) := by kernel_rfl
  obtain ⟨i, h1, h2⟩ := Option.map_eq_some_iff.1 h
  simp only [Prod.mk.injEq] at h2
  exact ⟨i, h1, h2.1, h2.2.1, h2.2.2⟩
theorem st109 (H : AHeap) (id off : Nat) (x : Value) : astoreT Tryz.prog H 109 (.pointer (some ⟨id, off, none⟩)) x = if x.cells.size = 1 ∧ x.cells.toList.all oneCell = true then ((H[id]?).bind (rowStore off x.cells.toList)).map fun o => H.set id o else none := astore_rule sz109 H id off x
theorem en109 (H : AHeap) (xo yo : Operand) (a : Option Addr) : abin Tryz.prog H .eql 109 xo yo (.pointer a) (.pointer none) = some (.bool a.isNone) := abin_eq_ptrnil (e := 122) (by kernel_rfl) H xo yo a
theorem nn109 (H : AHeap) (xo yo : Operand) (a : Option Addr) : abin Tryz.prog H .neq 109 xo yo (.pointer a) (.pointer none) = some (.bool !a.isNone) := abin_ne_ptrnil (e := 122) (by kernel_rfl) H xo yo a
theorem sz114 : szT Tryz.prog 114 = some 1 := by kernel_rfl
theorem ag114 : aggT Tryz.prog 114 = some false := by kernel_rfl
theorem ze114 : zeroT Tryz.prog 114 = some (.slice none 0 0) := by kernel_rfl
theorem inf114 : ∃ i, Tryz.prog.info? 114 = some i ∧ i.zero = some (.slice none 0 0) ∧ i.size = 1 ∧ i.bytes = 24 := by
  have h : (Tryz.prog.info? 114).map (fun i => (i.zero, i.size, i.bytes)) = some (some (.slice none 0 0), 1, 24) := by kernel_rfl
  obtain ⟨i, h1, h2⟩ := Option.map_eq_some_iff.1 h
  simp only [Prod.mk.injEq] at h2
  exact ⟨i, h1, h2.1, h2.2.1, h2.2.2⟩
theorem st114 (H : AHeap) (id off : Nat) (x : Value) : astoreT Tryz.prog H 114 (.pointer (some ⟨id, off, none⟩)) x = if x.cells.size = 1 ∧ x.cells.toList.all oneCell = true then ((H[id]?).bind (rowStore off x.cells.toList)).map fun o => H.set id o else none := astore_rule sz114 H id off x
theorem un114 : Tryz.prog.underlying 114 = some (.slice 52) := by kernel_rfl
theorem el114 : elemT Tryz.prog 114 = some 52 := by kernel_rfl
theorem ln114 (H : AHeap) (a : Option Addr) (m c : Nat) : alen Tryz.prog H 114 (.slice a m c) = some (.int .i64 m) := alen_slice un114 H a m c
theorem cp114 (a : Addr) (m c : Nat) : acap Tryz.prog 114 (.slice (some a) m c) = if c = 0 then none else some (.int .i64 c) := acap_slice un114 a m c
theorem ix114 (id off m c : Nat) (ik : IntKind) (i : Int) : aindexAddr Tryz.prog 114 (.slice (some ⟨id, off, none⟩) m c) (.int ik i) = if 0 ≤ i ∧ i < m then some (.pointer (some ⟨id, off + i.toNat * 3, none⟩)) else none := aindexAddr_at un114 (by kernel_rfl) id off m c ik i
theorem en114 (H : AHeap) (xo yo : Operand) (a : Option Addr) (n c m q : Nat) : abin Tryz.prog H .eql 114 xo yo (.slice a n c) (.slice none m q) = some (.bool a.isNone) := abin_eq_slnil un114 H xo yo a n c m q
theorem nn114 (H : AHeap) (xo yo : Operand) (a : Option Addr) (n c m q : Nat) : abin Tryz.prog H .neq 114 xo yo (.slice a n c) (.slice none m q) = some (.bool !a.isNone) := abin_ne_slnil un114 H xo yo a n c m q
theorem sc114 (H : AHeap) (a : Option Addr) (n c : Nat) (lo hi : Option Value) : aslice Tryz.prog H 114 (.slice a n c) lo hi none = (optB hi (some n) (capOf n c)).bind fun h => (optB lo (some 0) h).bind fun l => cut H 3 a c l h := aslice_sl un114 (by kernel_rfl) H a n c lo hi
theorem sz115 : szT Tryz.prog 115 = some 1 := by kernel_rfl
theorem ag115 : aggT Tryz.prog 115 = some false := by kernel_rfl
theorem ze115 : zeroT Tryz.prog 115 = some (.slice none 0 0) := by kernel_rfl
theorem inf115 : ∃ i, Tryz.prog.info? 115 = some i ∧ i.zero = some (.slice none 0 0) ∧ i.size = 1 ∧ i.bytes = 24 := by
  have h : (Tryz.prog.info? 115).map (fun i => (i.zero, i.size, i.bytes)) = some (some (.slice none 0 0), 1, 24) := by kernel_rfl
  obtain ⟨i, h1, h2⟩ := Option.map_eq_some_iff.1 h
  simp only [Prod.mk.injEq] at h2
  exact ⟨i, h1, h2.1, h2.2.1, h2.2.2⟩
theorem st115 (H : AHeap) (id off : Nat) (x : Value) : astoreT Tryz.prog H 115 (.pointer (some ⟨id, off, none⟩)) x = if x.cells.size = 1 ∧ x.cells.toList.all oneCell = true then ((H[id]?).bind (rowStore off x.cells.toList)).map fun o => H.set id o else none := astore_rule sz115 H id off x
theorem un115 : Tryz.prog.underlying 115 = some (.slice 211) := by kernel_rfl
theorem el115 : elemT Tryz.prog 115 = some 211 := by kernel_rfl
theorem ln115 (H : AHeap) (a : Option Addr) (m c : Nat) : alen Tryz.prog H 115 (.slice a m c) = some (.int .i64 m) := alen_slice un115 H a m c
theorem cp115 (a : Addr) (m c : Nat) : acap Tryz.prog 115 (.slice (some a) m c) = if c = 0 then none else some (.int .i64 c) := acap_slice un115 a m c
theorem ix115 (id off m c : Nat) (ik : IntKind) (i : Int) : aindexAddr Tryz.prog 115 (.slice (some ⟨id, off, none⟩) m c) (.int ik i) = if 0 ≤ i ∧ i < m then some (.pointer (some ⟨id, off + i.toNat * 5, none⟩)) else none := aindexAddr_at un115 (by kernel_rfl) id off m c ik i
theorem en115 (H : AHeap) (xo yo : Operand) (a : Option Addr) (n c m q : Nat) : abin Tryz.prog H .eql 115 xo yo (.slice a n c) (.slice none m q) = some (.bool a.isNone) := abin_eq_slnil un115 H xo yo a n c m q
theorem nn115 (H : AHeap) (xo yo : Operand) (a : Option Addr) (n c m q : Nat) : abin Tryz.prog H .neq 115 xo yo (.slice a n c) (.slice none m q) = some (.bool !a.isNone) := abin_ne_slnil un115 H xo yo a n c m q
theorem sc115 (H : AHeap) (a : Option Addr) (n c : Nat) (lo hi : Option Value) : aslice Tryz.prog H 115 (.slice a n c) lo hi none = (optB hi (some n) (capOf n c)).bind fun h => (optB lo (some 0) h).bind fun l => cut H 5 a c l h := aslice_sl un115 (by kernel_rfl) H a n c lo hi
theorem sz116 : szT Tryz.prog 116 = some 8 := by kernel_rfl
theorem ag116 : aggT Tryz.prog 116 = some true := by kernel_rfl
theorem ze116 : zeroT Tryz.prog 116 = some (.agg #[.int .i64 0, .int .i64 0, .int .i64 0, .int .u64 0, .slice none 0 0, .int .i64 0, .slice none 0 0, .int .i64 0]) := by kernel_rfl
theorem pz116 : plainV 100 (.agg #[.int .i64 0, .int .i64 0, .int .i64 0, .int .u64 0, .slice none 0 0, .int .i64 0, .slice none 0 0, .int .i64 0]) = true := by kernel_rfl
theorem inf116 : ∃ i, Tryz.prog.info? 116 = some i ∧ i.zero = some (.agg #[.int .i64 0, .int .i64 0, .int .i64 0, .int .u64 0, .slice none 0 0, .int .i64 0, .slice none 0 0, .int .i64 0]) ∧ i.size = 8 ∧ i.bytes = 96 := by
  have h : (Tryz.prog.info? 116).map (fun i => (i.zero, i.size, i.bytes)) = some (some (.agg #[.int .i64 0, .int .i64 0, .int .i64 0, .int .u64 0, .slice none 0 0, .int .i64 0, .slice none 0 0, .int .i64 0]), 8, 96) := by kernel_rfl
  obtain ⟨i, h1, h2⟩ := Option.map_eq_some_iff.1 h
  simp only [Prod.mk.injEq] at h2
  exact ⟨i, h1, h2.1, h2.2.1, h2.2.2⟩
theorem st116 (H : AHeap) (id off : Nat) (x : Value) : astoreT Tryz.prog H 116 (.pointer (some ⟨id, off, none⟩)) x = if x.cells.size = 8 ∧ x.cells.toList.all oneCell = true then ((H[id]?).bind (rowStore off x.cells.toList)).map fun o => H.set id o else none := astore_rule sz116 H id off x
theorem fa116_0 (id off : Nat) : afieldAddr Tryz.prog 116 (.pointer (some ⟨id, off, none⟩)) 0 = some (.pointer (some ⟨id, off + 0, none⟩)) := afieldAddr_at (n := 1) (f := (fieldT Tryz.prog 116 0).getD default) (by kernel_rfl) (by kernel_rfl) (by kernel_rfl) id off
theorem fl116_0 (cs : List Value) : afield Tryz.prog 116 (.agg cs.toArray) 0 = some (.agg ((cs.drop 0).take 2).toArray) := afield_agg (f := (fieldT Tryz.prog 116 0).getD default) (by kernel_rfl) (by kernel_rfl) (by kernel_rfl) (by kernel_rfl) cs
theorem fa116_1 (id off : Nat) : afieldAddr Tryz.prog 116 (.pointer (some ⟨id, off, none⟩)) 1 = some (.pointer (some ⟨id, off + 2, none⟩)) := afieldAddr_at (n := 0) (f := (fieldT Tryz.prog 116 1).getD default) (by kernel_rfl) (by kernel_rfl) (by kernel_rfl) id off
theorem fl116_1 (cs : List Value) : afield Tryz.prog 116 (.agg cs.toArray) 1 = cs[2]? := afield_one (f := (fieldT Tryz.prog 116 1).getD default) (by kernel_rfl) (by kernel_rfl) (by kernel_rfl) cs
theorem fa116_2 (id off : Nat) : afieldAddr Tryz.prog 116 (.pointer (some ⟨id, off, none⟩)) 2 = some (.pointer (some ⟨id, off + 3, none⟩)) := afieldAddr_at (n := 0) (f := (fieldT Tryz.prog 116 2).getD default) (by kernel_rfl) (by kernel_rfl) (by kernel_rfl) id off
theorem fl116_2 (cs : List Value) : afield Tryz.prog 116 (.agg cs.toArray) 2 = cs[3]? := afield_one (f := (fieldT Tryz.prog 116 2).getD default) (by kernel_rfl) (by kernel_rfl) (by kernel_rfl) cs
theorem fa116_3 (id off : Nat) : afieldAddr Tryz.prog 116 (.pointer (some ⟨id, off, none⟩)) 3 = some (.pointer (some ⟨id, off + 4, none⟩)) := afieldAddr_at (n := 0) (f := (fieldT Tryz.prog 116 3).getD default) (by kernel_rfl) (by kernel_rfl) (by kernel_rfl) id off
theorem fl116_3 (cs : List Value) : afield Tryz.prog 116 (.agg cs.toArray) 3 = cs[4]? := afield_one (f := (fieldT Tryz.prog 116 3).getD default) (by kernel_rfl) (by kernel_rfl) (by kernel_rfl) cs
theorem fa116_4 (id off : Nat) : afieldAddr Tryz.prog 116 (.pointer (some ⟨id, off, none⟩)) 4 = some (.pointer (some ⟨id, off + 5, none⟩)) := afieldAddr_at (n := 0) (f := (fieldT Tryz.prog 116 4).getD default) (by kernel_rfl) (by kernel_rfl) (by kernel_rfl) id off
theorem fl116_4 (cs : List Value) : afield Tryz.prog 116 (.agg cs.toArray) 4 = cs[5]? := afield_one (f := (fieldT Tryz.prog 116 4).getD default) (by kernel_rfl) (by kernel_rfl) (by kernel_rfl) cs
theorem fa116_5 (id off : Nat) : afieldAddr Tryz.prog 116 (.pointer (some ⟨id, off, none⟩)) 5 = some (.pointer (some ⟨id, off + 6, none⟩)) := afieldAddr_at (n := 0) (f := (fieldT Tryz.prog 116 5).getD default) (by kernel_rfl) (by kernel_rfl) (by kernel_rfl) id off
theorem fl116_5 (cs : List Value) : afield Tryz.prog 116 (.agg cs.toArray) 5 = cs[6]? := afield_one (f := (fieldT Tryz.prog 116 5).getD default) (by kernel_rfl) (by kernel_rfl) (by kernel_rfl) cs
theorem fa116_6 (id off : Nat) : afieldAddr Tryz.prog 116 (.pointer (some ⟨id, off, none⟩)) 6 = some (.pointer (some ⟨id, off + 7, none⟩)) := afieldAddr_at (n := 0) (f := (fieldT Tryz.prog 116 6).getD default) (by kernel_rfl) (by kernel_rfl) (by kernel_rfl) id off
theorem fl116_6 (cs : List Value) : afield Tryz.prog 116 (.agg cs.toArray) 6 = cs[7]? := afield_one (f := (fieldT Tryz.prog 116 6).getD default) (by kernel_rfl) (by kernel_rfl) (by kernel_rfl) cs
theorem sz117 : szT Tryz.prog 117 = some 8 := by kernel_rfl
theorem ag117 : aggT Tryz.prog 117 = some true := by kernel_rfl
theorem ze117 : zeroT Tryz.prog 117 = some (.agg #[.int .i64 0, .int .i64 0, .int .i64 0, .int .u64 0, .slice none 0 0, .int .i64 0, .slice none 0 0, .int .i64 0]) := by kernel_rfl
theorem inf117 : ∃ i, Tryz.prog.info? 117 = some i ∧ i.zero = some (.agg #[.int .i64 0, .int .i64 0, .int .i64 0, .int .u64 0, .slice none 0 0, .int .i64 0, .slice none 0 0, .int .i64 0]) ∧ i.size = 8 ∧ i.bytes = 96 := by
  have h : (Tryz.prog.info? 117).map (fun i => (i.zero, i.size, i.bytes)) = some (some (.agg #[.int .i64 0, .int .i64 0, .int .i64 0, .int .u64 0, .slice none 0 0, .int .i64 0, .slice none 0 0, .int .i64 0]), 8, 96) := by kernel_rfl
  obtain ⟨i, h1, h2⟩ := Option.map_eq_some_iff.1 h
  simp only [Prod.mk.injEq] at h2
  exact ⟨i, h1, h2.1, h2.2.1, h2.2.2⟩
theorem st117 (H : AHeap) (id off : Nat) (x : Value) : astoreT Tryz.prog H 117 (.pointer (some ⟨id, off, none⟩)) x = if x.cells.size = 8 ∧ x.cells.toList.all oneCell = true then ((H[id]?).bind (rowStore off x.cells.toList)).map fun o => H.set id o else none := astore_rule sz117 H id off x
theorem fa117_0 (id off : Nat) : afieldAddr Tryz.prog 117 (.pointer (some ⟨id, off, none⟩)) 0 = some (.pointer (some ⟨id, off + 0, none⟩)) := afieldAddr_at (n := 1) (f := (fieldT Tryz.prog 117 0).getD default) (by kernel_rfl) (by kernel_rfl) (by kernel_rfl) id off
theorem fl117_0 (cs : List Value) : afield Tryz.prog 117 (.agg cs.toArray) 0 = some (.agg ((cs.drop 0).take 2).toArray) := afield_agg (f := (fieldT Tryz.prog 117 0).getD default) (by kernel_rfl) (by kernel_rfl) (by kernel_rfl) (by kernel_rfl) cs
theorem fa117_1 (id off : Nat) : afieldAddr Tryz.prog 117 (.pointer (some ⟨id, off, none⟩)) 1 = some (.pointer (some ⟨id, off + 2, none⟩)) := afieldAddr_at (n := 0) (f := (fieldT Tryz.prog 117 1).getD default) (by kernel_rfl) (by kernel_rfl) (by kernel_rfl) id off
theorem fl117_1 (cs : List Value) : afield Tryz.prog 117 (.agg cs.toArray) 1 = cs[2]? := afield_one (f := (fieldT Tryz.prog 117 1).getD default) (by kernel_rfl) (by kernel_rfl) (by kernel_rfl) cs
theorem fa117_2 (id off : Nat) : afieldAddr Tryz.prog 117 (.pointer (some ⟨id, off, none⟩)) 2 = some (.pointer (some ⟨id, off + 3, none⟩)) := afieldAddr_at (n := 0) (f := (fieldT Tryz.prog 117 2).getD default) (by kernel_rfl) (by kernel_rfl) (by kernel_rfl) id off
theorem fl117_2 (cs : List Value) : afield Tryz.prog 117 (.agg cs.toArray) 2 = cs[3]? := afield_one (f := (fieldT Tryz.prog 117 2).getD default) (by kernel_rfl) (by kernel_rfl) (by kernel_rfl) cs
theorem fa117_3 (id off : Nat) : afieldAddr Tryz.prog 117 (.pointer (some ⟨id, off, none⟩)) 3 = some (.pointer (some ⟨id, off + 4, none⟩)) := afieldAddr_at (n := 0) (f := (fieldT Tryz.prog 117 3).getD default) (by kernel_rfl) (by kernel_rfl) (by kernel_rfl) id off
theorem fl117_3 (cs : List Value) : afield Tryz.prog 117 (.agg cs.toArray) 3 = cs[4]? := afield_one (f := (fieldT Tryz.prog 117 3).getD default) (by kernel_rfl) (by kernel_rfl) (by kernel_rfl) cs
theorem fa117_4 (id off : Nat) : afieldAddr Tryz.prog 117 (.pointer (some ⟨id, off, none⟩)) 4 = some (.pointer (some ⟨id, off + 5, none⟩)) := afieldAddr_at (n := 0) (f := (fieldT Tryz.prog 117 4).getD default) (by kernel_rfl) (by kernel_rfl) (by kernel_rfl) id off
theorem fl117_4 (cs : List Value) : afield Tryz.prog 117 (.agg cs.toArray) 4 = cs[5]? := afield_one (f := (fieldT Tryz.prog 117 4).getD default) (by kernel_rfl) (by kernel_rfl) (by kernel_rfl) cs
theorem fa117_5 (id off : Nat) : afieldAddr Tryz.prog 117 (.pointer (some ⟨id, off, none⟩)) 5 = some (.pointer (some ⟨id, off + 6, none⟩)) := afieldAddr_at (n := 0) (f := (fieldT Tryz.prog 117 5).getD default) (by kernel_rfl) (by kernel_rfl) (by kernel_rfl) id off
theorem fl117_5 (cs : List Value) : afield Tryz.prog 117 (.agg cs.toArray) 5 = cs[6]? := afield_one (f := (fieldT Tryz.prog 117 5).getD default) (by kernel_rfl) (by kernel_rfl) (by kernel_rfl) cs
theorem fa117_6 (id off : Nat) : afieldAddr Tryz.prog 117 (.pointer (some ⟨id, off, none⟩)) 6 = some (.pointer (some ⟨id, off + 7, none⟩)) := afieldAddr_at (n := 0) (f := (fieldT Tryz.prog 117 6).getD default) (by kernel_rfl) (by kernel_rfl) (by kernel_rfl) id off
theorem fl117_6 (cs : List Value) : afield Tryz.prog 117 (.agg cs.toArray) 6 = cs[7]? := afield_one (f := (fieldT Tryz.prog 117 6).getD default) (by kernel_rfl) (by kernel_rfl) (by kernel_rfl) cs
theorem sz118 : szT Tryz.prog 118 = some 1 := by kernel_rfl
theorem ag118 : aggT Tryz.prog 118 = some false := by kernel_rfl
theorem ze118 : zeroT Tryz.prog 118 = some (.slice none 0 0) := by kernel_rfl
theorem inf118 : ∃ i, Tryz.prog.info? 118 = some i ∧ i.zero = some (.slice none 0 0) ∧ i.size = 1 ∧ i.bytes = 24 := by
  have h : (Tryz.prog.info? 118).map (fun i => (i.zero, i.size, i.bytes)) = some (some (.slice none 0 0), 1, 24) := by kernel_rfl
  obtain ⟨i, h1, h2⟩ := Option.map_eq_some_iff.1 h
  simp only [Prod.mk.injEq] at h2
  exact ⟨i, h1, h2.1, h2.2.1, h2.2.2⟩
theorem st118 (H : AHeap) (id off : Nat) (x : Value) : astoreT Tryz.prog H 118 (.pointer (some ⟨id, off, none⟩)) x = if x.cells.size = 1 ∧ x.cells.toList.all oneCell = true then ((H[id]?).bind (rowStore off x.cells.toList)).map fun o => H.set id o else none := astore_rule sz118 H id off x
theorem un118 : Tryz.prog.underlying 118 = some (.slice 146) := by kernel_rfl
theorem el118 : elemT Tryz.prog 118 = some 146 := by kernel_rfl
theorem ln118 (H : AHeap) (a : Option Addr) (m c : Nat) : alen Tryz.prog H 118 (.slice a m c) = some (.int .i64 m) := alen_slice un118 H a m c
theorem cp118 (a : Addr) (m c : Nat) : acap Tryz.prog 118 (.slice (some a) m c) = if c = 0 then none else some (.int .i64 c) := acap_slice un118 a m c
theorem ix118 (id off m c : Nat) (ik : IntKind) (i : Int) : aindexAddr Tryz.prog 118 (.slice (some ⟨id, off, none⟩) m c) (.int ik i) = if 0 ≤ i ∧ i < m then some (.pointer (some ⟨id, off + i.toNat * 3, none⟩)) else none := aindexAddr_at un118 (by kernel_rfl) id off m c ik i
theorem en118 (H : AHeap) (xo yo : Operand) (a : Option Addr) (n c m q : Nat) : abin Tryz.prog H .eql 118 xo yo (.slice a n c) (.slice none m q) = some (.bool a.isNone) := abin_eq_slnil un118 H xo yo a n c m q
theorem nn118 (H : AHeap) (xo yo : Operand) (a : Option Addr) (n c m q : Nat) : abin Tryz.prog H .neq 118 xo yo (.slice a n c) (.slice none m q) = some (.bool !a.isNone) := abin_ne_slnil un118 H xo yo a n c m q
theorem sc118 (H : AHeap) (a : Option Addr) (n c : Nat) (lo hi : Option Value) : aslice Tryz.prog H 118 (.slice a n c) lo hi none = (optB hi (some n) (capOf n c)).bind fun h => (optB lo (some 0) h).bind fun l => cut H 3 a c l h := aslice_sl un118 (by kernel_rfl) H a n c lo hi
theorem sz119 : szT Tryz.prog 119 = some 4 := by kernel_rfl
theorem ag119 : aggT Tryz.prog 119 = some true := by kernel_rfl
theorem ze119 : zeroT Tryz.prog 119 = some (.agg #[.int .i64 0, .int .u64 0, .int .u64 0, .slice none 0 0]) := by kernel_rfl
theorem pz119 : plainV 100 (.agg #[.int .i64 0, .int .u64 0, .int .u64 0, .slice none 0 0]) = true := by kernel_rfl
theorem inf119 : ∃ i, Tryz.prog.info? 119 = some i ∧ i.zero = some (.agg #[.int .i64 0, .int .u64 0, .int .u64 0, .slice none 0 0]) ∧ i.size = 4 ∧ i.bytes = 48 := by
  have h : (Tryz.prog.info? 119).map (fun i => (i.zero, i.size, i.bytes)) = some (some (.agg #[.int .i64 0, .int .u64 0, .int .u64 0, .slice none 0 0]), 4, 48) := by kernel_rfl
  obtain ⟨i, h1, h2⟩ := Option.map_eq_some_iff.1 h
  simp only [Prod.mk.injEq] at h2
  exact ⟨i, h1, h2.1, h2.2.1, h2.2.2⟩
theorem st119 (H : AHeap) (id off : Nat) (x : Value) : astoreT Tryz.prog H 119 (.pointer (some ⟨id, off, none⟩)) x = if x.cells.size = 4 ∧ x.cells.toList.all oneCell = true then ((H[id]?).bind (rowStore off x.cells.toList)).map fun o => H.set id o else none := astore_rule sz119 H id off x
theorem fa119_0 (id off : Nat) : afieldAddr Tryz.prog 119 (.pointer (some ⟨id, off, none⟩)) 0 = some (.pointer (some ⟨id, off + 0, none⟩)) := afieldAddr_at (n := 0) (f := (fieldT Tryz.prog 119 0).getD default) (by kernel_rfl) (by kernel_rfl) (by kernel_rfl) id off
theorem fl119_0 (cs : List Value) : afield Tryz.prog 119 (.agg cs.toArray) 0 = cs[0]? := afield_one (f := (fieldT Tryz.prog 119 0).getD default) (by kernel_rfl) (by kernel_rfl) (by kernel_rfl) cs
theorem fa119_1 (id off : Nat) : afieldAddr Tryz.prog 119 (.pointer (some ⟨id, off, none⟩)) 1 = some (.pointer (some ⟨id, off + 1, none⟩)) := afieldAddr_at (n := 0) (f := (fieldT Tryz.prog 119 1).getD default) (by kernel_rfl) (by kernel_rfl) (by kernel_rfl) id off
theorem fl119_1 (cs : List Value) : afield Tryz.prog 119 (.agg cs.toArray) 1 = cs[1]? := afield_one (f := (fieldT Tryz.prog 119 1).getD default) (by kernel_rfl) (by kernel_rfl) (by kernel_rfl) cs
theorem fa119_2 (id off : Nat) : afieldAddr Tryz.prog 119 (.pointer (some ⟨id, off, none⟩)) 2 = some (.pointer (some ⟨id, off + 2, none⟩)) := afieldAddr_at (n := 0) (f := (fieldT Tryz.prog 119 2).getD default) (by kernel_rfl) (by kernel_rfl) (by kernel_rfl) id off
theorem fl119_2 (cs : List Value) : afield Tryz.prog 119 (.agg cs.toArray) 2 = cs[2]? := afield_one (f := (fieldT Tryz.prog 119 2).getD default) (by kernel_rfl) (by kernel_rfl) (by kernel_rfl) cs
theorem fa119_3 (id off : Nat) : afieldAddr Tryz.prog 119 (.pointer (some ⟨id, off, none⟩)) 3 = some (.pointer (some ⟨id, off + 3, none⟩)) := afieldAddr_at (n := 0) (f := (fieldT Tryz.prog 119 3).getD default) (by kernel_rfl) (by kernel_rfl) (by kernel_rfl) id off
theorem fl119_3 (cs : List Value) : afield Tryz.prog 119 (.agg cs.toArray) 3 = cs[3]? := afield_one (f := (fieldT Tryz.prog 119 3).getD default) (by kernel_rfl) (by kernel_rfl) (by kernel_rfl) cs
theorem sz120 : szT Tryz.prog 120 = some 4 := by kernel_rfl
theorem ag120 : aggT Tryz.prog 120 = some true := by kernel_rfl
theorem ze120 : zeroT Tryz.prog 120 = some (.agg #[.int .i64 0, .int .u64 0, .int .u64 0, .slice none 0 0]) := by kernel_rfl
theorem inf120 : ∃ i, Tryz.prog.info? 120 = some i ∧ i.zero = some (.agg #[.int .i64 0, .int .u64 0, .int .u64 0, .slice none 0 0]) ∧ i.size = 4 ∧ i.bytes = 48 := by
  have h : (Tryz.prog.info? 120).map (fun i => (i.zero, i.size, i.bytes)) = some (some (.agg #[.int .i64 0, .int .u64 0, .int .u64 0, .slice none 0 0]), 4, 48) := by kernel_rfl
  obtain ⟨i, h1, h2⟩ := Option.map_eq_some_iff.1 h
  simp only [Prod.mk.injEq] at h2
  exact ⟨i, h1, h2.1, h2.2.1, h2.2.2⟩
theorem st120 (H : AHeap) (id off : Nat) (x : Value) : astoreT Tryz.prog H 120 (.pointer (some ⟨id, off, none⟩)) x = if x.cells.size = 4 ∧ x.cells.toList.all oneCell = true then ((H[id]?).bind (rowStore off x.cells.toList)).map fun o => H.set id o else none := astore_rule sz120 H id off x
theorem fa120_0 (id off : Nat) : afieldAddr Tryz.prog 120 (.pointer (some ⟨id, off, none⟩)) 0 = some (.pointer (some ⟨id, off + 0, none⟩)) := afieldAddr_at (n := 0) (f := (fieldT Tryz.prog 120 0).getD default) (by kernel_rfl) (by kernel_rfl) (by kernel_rfl) id off
theorem fl120_0 (cs : List Value) : afield Tryz.prog 120 (.agg cs.toArray) 0 = cs[0]? := afield_one (f := (fieldT Tryz.prog 120 0).getD default) (by kernel_rfl) (by kernel_rfl) (by kernel_rfl) cs
theorem fa120_1 (id off : Nat) : afieldAddr Tryz.prog 120 (.pointer (some ⟨id, off, none⟩)) 1 = some (.pointer (some ⟨id, off + 1, none⟩)) := afieldAddr_at (n := 0) (f := (fieldT Tryz.prog 120 1).getD default) (by kernel_rfl) (by kernel_rfl) (by kernel_rfl) id off
theorem fl120_1 (cs : List Value) : afield Tryz.prog 120 (.agg cs.toArray) 1 = cs[1]? := afield_one (f := (fieldT Tryz.prog 120 1).getD default) (by kernel_rfl) (by kernel_rfl) (by kernel_rfl) cs
theorem fa120_2 (id off : Nat) : afieldAddr Tryz.prog 120 (.pointer (some ⟨id, off, none⟩)) 2 = some (.pointer (some ⟨id, off + 2, none⟩)) := afieldAddr_at (n := 0) (f := (fieldT Tryz.prog 120 2).getD default) (by kernel_rfl) (by kernel_rfl) (by kernel_rfl) id off
theorem fl120_2 (cs : List Value) : afield Tryz.prog 120 (.agg cs.toArray) 2 = cs[2]? := afield_one (f := (fieldT Tryz.prog 120 2).getD default) (by kernel_rfl) (by kernel_rfl) (by kernel_rfl) cs
theorem fa120_3 (id off : Nat) : afieldAddr Tryz.prog 120 (.pointer (some ⟨id, off, none⟩)) 3 = some (.pointer (some ⟨id, off + 3, none⟩)) := afieldAddr_at (n := 0) (f := (fieldT Tryz.prog 120 3).getD default) (by kernel_rfl) (by kernel_rfl) (by kernel_rfl) id off
theorem fl120_3 (cs : List Value) : afield Tryz.prog 120 (.agg cs.toArray) 3 = cs[3]? := afield_one (f := (fieldT Tryz.prog 120 3).getD default) (by kernel_rfl) (by kernel_rfl) (by kernel_rfl) cs
theorem sz121 : szT Tryz.prog 121 = some 6 := by kernel_rfl
theorem ag121 : aggT Tryz.prog 121 = some true := by kernel_rfl
theorem ze121 : zeroT Tryz.prog 121 = some (.agg #[.int .i64 0, .int .u64 0, .int .u64 0, .slice none 0 0, .bool false, .slice none 0 0]) := by kernel_rfl
theorem pz121 : plainV 100 (.agg #[.int .i64 0, .int .u64 0, .int .u64 0, .slice none 0 0, .bool false, .slice none 0 0]) = true := by kernel_rfl
theorem inf121 : ∃ i, Tryz.prog.info? 121 = some i ∧ i.zero = some (.agg #[.int .i64 0, .int .u64 0, .int .u64 0, .slice none 0 0, .bool false, .slice none 0 0]) ∧ i.size = 6 ∧ i.bytes = 80 := by
  have h : (Tryz.prog.info? 121).map (fun i => (i.zero, i.size, i.bytes)) = some (some (.agg #[.int .i64 0, .int .u64 0, .int .u64 0, .slice none 0 0, .bool false, .slice none 0 0]), 6, 80) := by kernel_rfl
  obtain ⟨i, h1, h2⟩ := Option.map_eq_some_iff.1 h
  simp only [Prod.mk.injEq] at h2
  exact ⟨i, h1, h2.1, h2.2.1, h2.2.2⟩
theorem st121 (H : AHeap) (id off : Nat) (x : Value) : astoreT Tryz.prog H 121 (.pointer (some ⟨id, off, none⟩)) x = if x.cells.size = 6 ∧ x.cells.toList.all oneCell = true then ((H[id]?).bind (rowStore off x.cells.toList)).map fun o => H.set id o else none := astore_rule sz121 H id off x
theorem fa121_0 (id off : Nat) : afieldAddr Tryz.prog 121 (.pointer (some ⟨id, off, none⟩)) 0 = some (.pointer (some ⟨id, off + 0, none⟩)) := afieldAddr_at (n := 3) (f := (fieldT Tryz.prog 121 0).getD default) (by kernel_rfl) (by kernel_rfl) (by kernel_rfl) id off
theorem fl121_0 (cs : List Value) : afield Tryz.prog 121 (.agg cs.toArray) 0 = some (.agg ((cs.drop 0).take 4).toArray) := afield_agg (f := (fieldT Tryz.prog 121 0).getD default) (by kernel_rfl) (by kernel_rfl) (by kernel_rfl) (by kernel_rfl) cs
theorem fa121_1 (id off : Nat) : afieldAddr Tryz.prog 121 (.pointer (some ⟨id, off, none⟩)) 1 = some (.pointer (some ⟨id, off + 4, none⟩)) := afieldAddr_at (n := 0) (f := (fieldT Tryz.prog 121 1).getD default) (by kernel_rfl) (by kernel_rfl) (by kernel_rfl) id off
theorem fl121_1 (cs : List Value) : afield Tryz.prog 121 (.agg cs.toArray) 1 = cs[4]? := afield_one (f := (fieldT Tryz.prog 121 1).getD default) (by kernel_rfl) (by kernel_rfl) (by kernel_rfl) cs
theorem fa121_2 (id off : Nat) : afieldAddr Tryz.prog 121 (.pointer (some ⟨id, off, none⟩)) 2 = some (.pointer (some ⟨id, off + 5, none⟩)) := afieldAddr_at (n := 0) (f := (fieldT Tryz.prog 121 2).getD default) (by kernel_rfl) (by kernel_rfl) (by kernel_rfl) id off
theorem fl121_2 (cs : List Value) : afield Tryz.prog 121 (.agg cs.toArray) 2 = cs[5]? := afield_one (f := (fieldT Tryz.prog 121 2).getD default) (by kernel_rfl) (by kernel_rfl) (by kernel_rfl) cs
theorem sz122 : szT Tryz.prog 122 = some 6 := by kernel_rfl
theorem ag122 : aggT Tryz.prog 122 = some true := by kernel_rfl
theorem ze122 : zeroT Tryz.prog 122 = some (.agg #[.int .i64 0, .int .u64 0, .int .u64 0, .slice none 0 0, .bool false, .slice none 0 0]) := by kernel_rfl
theorem inf122 : ∃ i, Tryz.prog.info? 122 = some i ∧ i.zero = some (.agg #[.int .i64 0, .int .u64 0, .int .u64 0, .slice none 0 0, .bool false, .slice none 0 0]) ∧ i.size = 6 ∧ i.bytes = 80 := by
  have h : (Tryz.prog.info? 122).map (fun i => (i.zero, i.size, i.bytes)) = some (some (.agg #[.int .i64 0, .int .u64 0, .int .u64 0, .slice none 0 0, .bool false, .slice none 0 0]), 6, 80) := by kernel_rfl
  obtain ⟨i, h1, h2⟩ := Option.map_eq_some_iff.1 h
  simp only [Prod.mk.injEq] at h2
  exact ⟨i, h1, h2.1, h2.2.1, h2.2.2⟩
theorem st122 (H : AHeap) (id off : Nat) (x : Value) : astoreT Tryz.prog H 122 (.pointer (some ⟨id, off, none⟩)) x = if x.cells.size = 6 ∧ x.cells.toList.all oneCell = true then ((H[id]?).bind (rowStore off x.cells.toList)).map fun o => H.set id o else none := astore_rule sz122 H id off x
theorem fa122_0 (id off : Nat) : afieldAddr Tryz.prog 122 (.pointer (some ⟨id, off, none⟩)) 0 = some (.pointer (some ⟨id, off + 0, none⟩)) := afieldAddr_at (n := 3) (f := (fieldT Tryz.prog 122 0).getD default) (by kernel_rfl) (by kernel_rfl) (by kernel_rfl) id off
theorem fl122_0 (cs : List Value) : afield Tryz.prog 122 (.agg cs.toArray) 0 = some (.agg ((cs.drop 0).take 4).toArray) := afield_agg (f := (fieldT Tryz.prog 122 0).getD default) (by kernel_rfl) (by kernel_rfl) (by kernel_rfl) (by kernel_rfl) cs
theorem fa122_1 (id off : Nat) : afieldAddr Tryz.prog 122 (.pointer (some ⟨id, off, none⟩)) 1 = some (.pointer (some ⟨id, off + 4, none⟩)) := afieldAddr_at (n := 0) (f := (fieldT Tryz.prog 122 1).getD default) (by kernel_rfl) (by kernel_rfl) (by kernel_rfl) id off
theorem fl122_1 (cs : List Value) : afield Tryz.prog 122 (.agg cs.toArray) 1 = cs[4]? := afield_one (f := (fieldT Tryz.prog 122 1).getD default) (by kernel_rfl) (by kernel_rfl) (by kernel_rfl) cs
theorem fa122_2 (id off : Nat) : afieldAddr Tryz.prog 122 (.pointer (some ⟨id, off, none⟩)) 2 = some (.pointer (some ⟨id, off + 5, none⟩)) := afieldAddr_at (n := 0) (f := (fieldT Tryz.prog 122 2).getD default) (by kernel_rfl) (by kernel_rfl) (by kernel_rfl) id off
theorem fl122_2 (cs : List Value) : afield Tryz.prog 122 (.agg cs.toArray) 2 = cs[5]? := afield_one (f := (fieldT Tryz.prog 122 2).getD default) (by kernel_rfl) (by kernel_rfl) (by kernel_rfl) cs
theorem sz125 : szT Tryz.prog 125 = some 1 := by kernel_rfl
theorem ag125 : aggT Tryz.prog 125 = some false := by kernel_rfl
theorem ze125 : zeroT Tryz.prog 125 = some (.int .u64 0) := by kernel_rfl
theorem inf125 : ∃ i, Tryz.prog.info? 125 = some i ∧ i.zero = some (.int .u64 0) ∧ i.size = 1 ∧ i.bytes = 8 := by
  have h : (Tryz.prog.info? 125).map (fun i => (i.zero, i.size, i.bytes)) = some (some (.int .u64 0), 1, 8) := by kernel_rfl
  obtain ⟨i, h1, h2⟩ := Option.map_eq_some_iff.1 h
  simp only [Prod.mk.injEq] at h2
  exact ⟨i, h1, h2.1, h2.2.1, h2.2.2⟩
theorem st125 (H : AHeap) (id off : Nat) (x : Value) : astoreT Tryz.prog H 125 (.pointer (some ⟨id, off, none⟩)) x = if x.cells.size = 1 ∧ x.cells.toList.all oneCell = true then ((H[id]?).bind (rowStore off x.cells.toList)).map fun o => H.set id o else none := astore_rule sz125 H id off x
theorem kd125 : kindT Tryz.prog 125 = .int .u64 := by kernel_rfl
theorem sz136 : szT Tryz.prog 136 = some 1 := by kernel_rfl
theorem ag136 : aggT Tryz.prog 136 = some false := by kernel_rfl
theorem ze136 : zeroT Tryz.prog 136 = some (.slice none 0 0) := by kernel_rfl
theorem inf136 : ∃ i, Tryz.prog.info? 136 = some i ∧ i.zero = some (.slice none 0 0) ∧ i.size = 1 ∧ i.bytes = 24 := by
  have h : (Tryz.prog.info? 136).map (fun i => (i.zero, i.size, i.bytes)) = some (some (.slice none 0 0), 1, 24) := by kernel_rfl
  obtain ⟨i, h1, h2⟩ := Option.map_eq_some_iff.1 h
  simp only [Prod.mk.injEq] at h2
  exact ⟨i, h1, h2.1, h2.2.1, h2.2.2⟩
theorem st136 (H : AHeap) (id off : Nat) (x : Value) : astoreT Tryz.prog H 136 (.pointer (some ⟨id, off, none⟩)) x = if x.cells.size = 1 ∧ x.cells.toList.all oneCell = true then ((H[id]?).bind (rowStore off x.cells.toList)).map fun o => H.set id o else none := astore_rule sz136 H id off x
theorem un136 : Tryz.prog.underlying 136 = some (.slice 138) := by kernel_rfl
theorem el136 : elemT Tryz.prog 136 = some 138 := by kernel_rfl
theorem ln136 (H : AHeap) (a : Option Addr) (m c : Nat) : alen Tryz.prog H 136 (.slice a m c) = some (.int .i64 m) := alen_slice un136 H a m c
theorem cp136 (a : Addr) (m c : Nat) : acap Tryz.prog 136 (.slice (some a) m c) = if c = 0 then none else some (.int .i64 c) := acap_slice un136 a m c
theorem ix136 (id off m c : Nat) (ik : IntKind) (i : Int) : aindexAddr Tryz.prog 136 (.slice (some ⟨id, off, none⟩) m c) (.int ik i) = if 0 ≤ i ∧ i < m then some (.pointer (some ⟨id, off + i.toNat * 4, none⟩)) else none := aindexAddr_at un136 (by kernel_rfl) id off m c ik i
theorem en136 (H : AHeap) (xo yo : Operand) (a : Option Addr) (n c m q : Nat) : abin Tryz.prog H .eql 136 xo yo (.slice a n c) (.slice none m q) = some (.bool a.isNone) := abin_eq_slnil un136 H xo yo a n c m q
theorem nn136 (H : AHeap) (xo yo : Operand) (a : Option Addr) (n c m q : Nat) : abin Tryz.prog H .neq 136 xo yo (.slice a n c) (.slice none m q) = some (.bool !a.isNone) := abin_ne_slnil un136 H xo yo a n c m q
theorem sc136 (H : AHeap) (a : Option Addr) (n c : Nat) (lo hi : Option Value) : aslice Tryz.prog H 136 (.slice a n c) lo hi none = (optB hi (some n) (capOf n c)).bind fun h => (optB lo (some 0) h).bind fun l => cut H 4 a c l h := aslice_sl un136 (by kernel_rfl) H a n c lo hi
theorem sz137 : szT Tryz.prog 137 = some 4 := by kernel_rfl
theorem ag137 : aggT Tryz.prog 137 = some true := by kernel_rfl
theorem ze137 : zeroT Tryz.prog 137 = some (.agg #[.int .i64 0, .slice none 0 0, .slice none 0 0, .int .u64 0]) := by kernel_rfl
theorem pz137 : plainV 100 (.agg #[.int .i64 0, .slice none 0 0, .slice none 0 0, .int .u64 0]) = true := by kernel_rfl
theorem inf137 : ∃ i, Tryz.prog.info? 137 = some i ∧ i.zero = some (.agg #[.int .i64 0, .slice none 0 0, .slice none 0 0, .int .u64 0]) ∧ i.size = 4 ∧ i.bytes = 64 := by
  have h : (Tryz.prog.info? 137).map (fun i => (i.zero, i.size, i.bytes)) = some (some (.agg #[.int .i64 0, .slice none 0 0, .slice none 0 0, .int .u64 0]), 4, 64) := by kernel_rfl
  obtain ⟨i, h1, h2⟩ := Option.map_eq_some_iff.1 h
  simp only [Prod.mk.injEq] at h2
  exact ⟨i, h1, h2.1, h2.2.1, h2.2.2⟩
theorem st137 (H : AHeap) (id off : Nat) (x : Value) : astoreT Tryz.prog H 137 (.pointer (some ⟨id, off, none⟩)) x = if x.cells.size = 4 ∧ x.cells.toList.all oneCell = true then ((H[id]?).bind (rowStore off x.cells.toList)).map fun o => H.set id o else none := astore_rule sz137 H id off x
theorem fa137_0 (id off : Nat) : afieldAddr Tryz.prog 137 (.pointer (some ⟨id, off, none⟩)) 0 = some (.pointer (some ⟨id, off + 0, none⟩)) := afieldAddr_at (n := 2) (f := (fieldT Tryz.prog 137 0).getD default) (by kernel_rfl) (by kernel_rfl) (by kernel_rfl) id off
theorem fl137_0 (cs : List Value) : afield Tryz.prog 137 (.agg cs.toArray) 0 = some (.agg ((cs.drop 0).take 3).toArray) := afield_agg (f := (fieldT Tryz.prog 137 0).getD default) (by kernel_rfl) (by kernel_rfl) (by kernel_rfl) (by kernel_rfl) cs
theorem fa137_1 (id off : Nat) : afieldAddr Tryz.prog 137 (.pointer (some ⟨id, off, none⟩)) 1 = some (.pointer (some ⟨id, off + 3, none⟩)) := afieldAddr_at (n := 0) (f := (fieldT Tryz.prog 137 1).getD default) (by kernel_rfl) (by kernel_rfl) (by kernel_rfl) id off
theorem fl137_1 (cs : List Value) : afield Tryz.prog 137 (.agg cs.toArray) 1 = cs[3]? := afield_one (f := (fieldT Tryz.prog 137 1).getD default) (by kernel_rfl) (by kernel_rfl) (by kernel_rfl) cs
theorem sz138 : szT Tryz.prog 138 = some 4 := by kernel_rfl
theorem ag138 : aggT Tryz.prog 138 = some true := by kernel_rfl
theorem ze138 : zeroT Tryz.prog 138 = some (.agg #[.int .i64 0, .slice none 0 0, .slice none 0 0, .int .u64 0]) := by kernel_rfl
theorem inf138 : ∃ i, Tryz.prog.info? 138 = some i ∧ i.zero = some (.agg #[.int .i64 0, .slice none 0 0, .slice none 0 0, .int .u64 0]) ∧ i.size = 4 ∧ i.bytes = 64 := by
  have h : (Tryz.prog.info? 138).map (fun i => (i.zero, i.size, i.bytes)) = some (some (.agg #[.int .i64 0, .slice none 0 0, .slice none 0 0, .int .u64 0]), 4, 64) := by kernel_rfl
  obtain ⟨i, h1, h2⟩ := Option.map_eq_some_iff.1 h
  simp only [Prod.mk.injEq] at h2
  exact ⟨i, h1, h2.1, h2.2.1, h2.2.2⟩
theorem st138 (H : AHeap) (id off : Nat) (x : Value) : astoreT Tryz.prog H 138 (.pointer (some ⟨id, off, none⟩)) x = if x.cells.size = 4 ∧ x.cells.toList.all oneCell = true then ((H[id]?).bind (rowStore off x.cells.toList)).map fun o => H.set id o else none := astore_rule sz138 H id off x
theorem fa138_0 (id off : Nat) : afieldAddr Tryz.prog 138 (.pointer (some ⟨id, off, none⟩)) 0 = some (.pointer (some ⟨id, off + 0, none⟩)) := afieldAddr_at (n := 2) (f := (fieldT Tryz.prog 138 0).getD default) (by kernel_rfl) (by kernel_rfl) (by kernel_rfl) id off
theorem fl138_0 (cs : List Value) : afield Tryz.prog 138 (.agg cs.toArray) 0 = some (.agg ((cs.drop 0).take 3).toArray) := afield_agg (f := (fieldT Tryz.prog 138 0).getD default) (by kernel_rfl) (by kernel_rfl) (by kernel_rfl) (by kernel_rfl) cs
theorem fa138_1 (id off : Nat) : afieldAddr Tryz.prog 138 (.pointer (some ⟨id, off, none⟩)) 1 = some (.pointer (some ⟨id, off + 3, none⟩)) := afieldAddr_at (n := 0) (f := (fieldT Tryz.prog 138 1).getD default) (by kernel_rfl) (by kernel_rfl) (by kernel_rfl) id off
theorem fl138_1 (cs : List Value) : afield Tryz.prog 138 (.agg cs.toArray) 1 = cs[3]? := afield_one (f := (fieldT Tryz.prog 138 1).getD default) (by kernel_rfl) (by kernel_rfl) (by kernel_rfl) cs
theorem sz145 : szT Tryz.prog 145 = some 3 := by kernel_rfl
theorem ag145 : aggT Tryz.prog 145 = some true := by kernel_rfl
theorem ze145 : zeroT Tryz.prog 145 = some (.agg #[.int .i64 0, .int .i64 0, .slice none 0 0]) := by kernel_rfl
theorem pz145 : plainV 100 (.agg #[.int .i64 0, .int .i64 0, .slice none 0 0]) = true := by kernel_rfl
theorem inf145 : ∃ i, Tryz.prog.info? 145 = some i ∧ i.zero = some (.agg #[.int .i64 0, .int .i64 0, .slice none 0 0]) ∧ i.size = 3 ∧ i.bytes = 40 := by
  have h : (Tryz.prog.info? 145).map (fun i => (i.zero, i.size, i.bytes)) = some (some (.agg #[.int .i64 0, .int .i64 0, .slice none 0 0]), 3, 40) := by kernel_rfl
  obtain ⟨i, h1, h2⟩ := Option.map_eq_some_iff.1 h
  simp only [Prod.mk.injEq] at h2
  exact ⟨i, h1, h2.1, h2.2.1, h2.2.2⟩
theorem st145 (H : AHeap) (id off : Nat) (x : Value) : astoreT Tryz.prog H 145 (.pointer (some ⟨id, off, none⟩)) x = if x.cells.size = 3 ∧ x.cells.toList.all oneCell = true then ((H[id]?).bind (rowStore off x.cells.toList)).map fun o => H.set id o else none := astore_rule sz145 H id off x
theorem fa145_0 (id off : Nat) : afieldAddr Tryz.prog 145 (.pointer (some ⟨id, off, none⟩)) 0 = some (.pointer (some ⟨id, off + 0, none⟩)) := afieldAddr_at (n := 1) (f := (fieldT Tryz.prog 145 0).getD default) (by kernel_rfl) (by kernel_rfl) (by kernel_rfl) id off
theorem fl145_0 (cs : List Value) : afield Tryz.prog 145 (.agg cs.toArray) 0 = some (.agg ((cs.drop 0).take 2).toArray) := afield_agg (f := (fieldT Tryz.prog 145 0).getD default) (by kernel_rfl) (by kernel_rfl) (by kernel_rfl) (by kernel_rfl) cs
theorem fa145_1 (id off : Nat) : afieldAddr Tryz.prog 145 (.pointer (some ⟨id, off, none⟩)) 1 = some (.pointer (some ⟨id, off + 2, none⟩)) := afieldAddr_at (n := 0) (f := (fieldT Tryz.prog 145 1).getD default) (by kernel_rfl) (by kernel_rfl) (by kernel_rfl) id off
theorem fl145_1 (cs : List Value) : afield Tryz.prog 145 (.agg cs.toArray) 1 = cs[2]? := afield_one (f := (fieldT Tryz.prog 145 1).getD default) (by kernel_rfl) (by kernel_rfl) (by kernel_rfl) cs
theorem sz146 : szT Tryz.prog 146 = some 3 := by kernel_rfl
theorem ag146 : aggT Tryz.prog 146 = some true := by kernel_rfl
theorem ze146 : zeroT Tryz.prog 146 = some (.agg #[.int .i64 0, .int .i64 0, .slice none 0 0]) := by kernel_rfl
theorem inf146 : ∃ i, Tryz.prog.info? 146 = some i ∧ i.zero = some (.agg #[.int .i64 0, .int .i64 0, .slice none 0 0]) ∧ i.size = 3 ∧ i.bytes = 40 := by
  have h : (Tryz.prog.info? 146).map (fun i => (i.zero, i.size, i.bytes)) = some (some (.agg #[.int .i64 0, .int .i64 0, .slice none 0 0]), 3, 40) := by kernel_rfl
  obtain ⟨i, h1, h2⟩ := Option.map_eq_some_iff.1 h
  simp only [Prod.mk.injEq] at h2
  exact ⟨i, h1, h2.1, h2.2.1, h2.2.2⟩
theorem st146 (H : AHeap) (id off : Nat) (x : Value) : astoreT Tryz.prog H 146 (.pointer (some ⟨id, off, none⟩)) x = if x.cells.size = 3 ∧ x.cells.toList.all oneCell = true then ((H[id]?).bind (rowStore off x.cells.toList)).map fun o => H.set id o else none := astore_rule sz146 H id off x
theorem fa146_0 (id off : Nat) : afieldAddr Tryz.prog 146 (.pointer (some ⟨id, off, none⟩)) 0 = some (.pointer (some ⟨id, off + 0, none⟩)) := afieldAddr_at (n := 1) (f := (fieldT Tryz.prog 146 0).getD default) (by kernel_rfl) (by kernel_rfl) (by kernel_rfl) id off
theorem fl146_0 (cs : List Value) : afield Tryz.prog 146 (.agg cs.toArray) 0 = some (.agg ((cs.drop 0).take 2).toArray) := afield_agg (f := (fieldT Tryz.prog 146 0).getD default) (by kernel_rfl) (by kernel_rfl) (by kernel_rfl) (by kernel_rfl) cs
theorem fa146_1 (id off : Nat) : afieldAddr Tryz.prog 146 (.pointer (some ⟨id, off, none⟩)) 1 = some (.pointer (some ⟨id, off + 2, none⟩)) := afieldAddr_at (n := 0) (f := (fieldT Tryz.prog 146 1).getD default) (by kernel_rfl) (by kernel_rfl) (by kernel_rfl) id off
theorem fl146_1 (cs : List Value) : afield Tryz.prog 146 (.agg cs.toArray) 1 = cs[2]? := afield_one (f := (fieldT Tryz.prog 146 1).getD default) (by kernel_rfl) (by kernel_rfl) (by kernel_rfl) cs
theorem sz183 : szT Tryz.prog 183 = some 2 := by kernel_rfl
theorem ag183 : aggT Tryz.prog 183 = some true := by kernel_rfl
theorem ze183 : zeroT Tryz.prog 183 = some (.agg #[.int .i64 0, .int .i64 0]) := by kernel_rfl
theorem inf183 : ∃ i, Tryz.prog.info? 183 = some i ∧ i.zero = some (.agg #[.int .i64 0, .int .i64 0]) ∧ i.size = 2 ∧ i.bytes = 16 := by
  have h : (Tryz.prog.info? 183).map (fun i => (i.zero, i.size, i.bytes)) = some (some (.agg #[.int .i64 0, .int .i64 0]), 2, 16) := by kernel_rfl
  obtain ⟨i, h1, h2⟩ := Option.map_eq_some_iff.1 h
  simp only [Prod.mk.injEq] at h2
  exact ⟨i, h1, h2.1, h2.2.1, h2.2.2⟩
theorem st183 (H : AHeap) (id off : Nat) (x : Value) : astoreT Tryz.prog H 183 (.pointer (some ⟨id, off, none⟩)) x = if x.cells.size = 2 ∧ x.cells.toList.all oneCell = true then ((H[id]?).bind (rowStore off x.cells.toList)).map fun o => H.set id o else none := astore_rule sz183 H id off x
theorem fa183_0 (id off : Nat) : afieldAddr Tryz.prog 183 (.pointer (some ⟨id, off, none⟩)) 0 = some (.pointer (some ⟨id, off + 0, none⟩)) := afieldAddr_at (n := 0) (f := (fieldT Tryz.prog 183 0).getD default) (by kernel_rfl) (by kernel_rfl) (by kernel_rfl) id off
theorem fl183_0 (cs : List Value) : afield Tryz.prog 183 (.agg cs.toArray) 0 = cs[0]? := afield_one (f := (fieldT Tryz.prog 183 0).getD default) (by kernel_rfl) (by kernel_rfl) (by kernel_rfl) cs
theorem fa183_1 (id off : Nat) : afieldAddr Tryz.prog 183 (.pointer (some ⟨id, off, none⟩)) 1 = some (.pointer (some ⟨id, off + 1, none⟩)) := afieldAddr_at (n := 0) (f := (fieldT Tryz.prog 183 1).getD default) (by kernel_rfl) (by kernel_rfl) (by kernel_rfl) id off
theorem fl183_1 (cs : List Value) : afield Tryz.prog 183 (.agg cs.toArray) 1 = cs[1]? := afield_one (f := (fieldT Tryz.prog 183 1).getD default) (by kernel_rfl) (by kernel_rfl) (by kernel_rfl) cs
theorem sz184 : szT Tryz.prog 184 = some 2 := by kernel_rfl
theorem ag184 : aggT Tryz.prog 184 = some true := by kernel_rfl
theorem ze184 : zeroT Tryz.prog 184 = some (.agg #[.int .i64 0, .int .i64 0]) := by kernel_rfl
theorem inf184 : ∃ i, Tryz.prog.info? 184 = some i ∧ i.zero = some (.agg #[.int .i64 0, .int .i64 0]) ∧ i.size = 2 ∧ i.bytes = 16 := by
  have h : (Tryz.prog.info? 184).map (fun i => (i.zero, i.size, i.bytes)) = some (some (.agg #[.int .i64 0, .int .i64 0]), 2, 16) := by kernel_rfl
  obtain ⟨i, h1, h2⟩ := Option.map_eq_some_iff.1 h
  simp only [Prod.mk.injEq] at h2
  exact ⟨i, h1, h2.1, h2.2.1, h2.2.2⟩
theorem st184 (H : AHeap) (id off : Nat) (x : Value) : astoreT Tryz.prog H 184 (.pointer (some ⟨id, off, none⟩)) x = if x.cells.size = 2 ∧ x.cells.toList.all oneCell = true then ((H[id]?).bind (rowStore off x.cells.toList)).map fun o => H.set id o else none := astore_rule sz184 H id off x
theorem fa184_0 (id off : Nat) : afieldAddr Tryz.prog 184 (.pointer (some ⟨id, off, none⟩)) 0 = some (.pointer (some ⟨id, off + 0, none⟩)) := afieldAddr_at (n := 0) (f := (fieldT Tryz.prog 184 0).getD default) (by kernel_rfl) (by kernel_rfl) (by kernel_rfl) id off
theorem fl184_0 (cs : List Value) : afield Tryz.prog 184 (.agg cs.toArray) 0 = cs[0]? := afield_one (f := (fieldT Tryz.prog 184 0).getD default) (by kernel_rfl) (by kernel_rfl) (by kernel_rfl) cs
theorem fa184_1 (id off : Nat) : afieldAddr Tryz.prog 184 (.pointer (some ⟨id, off, none⟩)) 1 = some (.pointer (some ⟨id, off + 1, none⟩)) := afieldAddr_at (n := 0) (f := (fieldT Tryz.prog 184 1).getD default) (by kernel_rfl) (by kernel_rfl) (by kernel_rfl) id off
theorem fl184_1 (cs : List Value) : afield Tryz.prog 184 (.agg cs.toArray) 1 = cs[1]? := afield_one (f := (fieldT Tryz.prog 184 1).getD default) (by kernel_rfl) (by kernel_rfl) (by kernel_rfl) cs
theorem sz198 : szT Tryz.prog 198 = some 1 := by kernel_rfl
theorem ag198 : aggT Tryz.prog 198 = some false := by kernel_rfl
theorem ze198 : zeroT Tryz.prog 198 = some (.pointer none) := by kernel_rfl
theorem inf198 : ∃ i, Tryz.prog.info? 198 = some i ∧ i.zero = some (.pointer none) ∧ i.size = 1 ∧ i.bytes = 8 := by
  have h : (Tryz.prog.info? 198).map (fun i => (i.zero, i.size, i.bytes)) = some (some (.pointer none), 1, 8) := by kernel_rfl
  obtain ⟨i, h1, h2⟩ := Option.map_eq_some_iff.1 h
  simp only [Prod.mk.injEq] at h2
  exact ⟨i, h1, h2.1, h2.2.1, h2.2.2⟩
theorem st198 (H : AHeap) (id off : Nat) (x : Value) : astoreT Tryz.prog H 198 (.pointer (some ⟨id, off, none⟩)) x = if x.cells.size = 1 ∧ x.cells.toList.all oneCell = true then ((H[id]?).bind (rowStore off x.cells.toList)).map fun o => H.set id o else none := astore_rule sz198 H id off x
theorem en198 (H : AHeap) (xo yo : Operand) (a : Option Addr) : abin Tryz.prog H .eql 198 xo yo (.pointer a) (.pointer none) = some (.bool a.isNone) := abin_eq_ptrnil (e := 301) (by kernel_rfl) H xo yo a
theorem nn198 (H : AHeap) (xo yo : Operand) (a : Option Addr) : abin Tryz.prog H .neq 198 xo yo (.pointer a) (.pointer none) = some (.bool !a.isNone) := abin_ne_ptrnil (e := 301) (by kernel_rfl) H xo yo a
theorem sz210 : szT Tryz.prog 210 = some 5 := by kernel_rfl
theorem ag210 : aggT Tryz.prog 210 = some true := by kernel_rfl
theorem ze210 : zeroT Tryz.prog 210 = some (.agg #[.int .i64 0, .int .u64 0, .int .u64 0, .slice none 0 0, .int .i64 0]) := by kernel_rfl
theorem pz210 : plainV 100 (.agg #[.int .i64 0, .int .u64 0, .int .u64 0, .slice none 0 0, .int .i64 0]) = true := by kernel_rfl
theorem inf210 : ∃ i, Tryz.prog.info? 210 = some i ∧ i.zero = some (.agg #[.int .i64 0, .int .u64 0, .int .u64 0, .slice none 0 0, .int .i64 0]) ∧ i.size = 5 ∧ i.bytes = 56 := by
  have h : (Tryz.prog.info? 210).map (fun i => (i.zero, i.size, i.bytes)) = some (some (.agg #[.int .i64 0, .int .u64 0, .int .u64 0, .slice none 0 0, .int .i64 0]), 5, 56) := by kernel_rfl
  obtain ⟨i, h1, h2⟩ := Option.map_eq_some_iff.1 h
  simp only [Prod.mk.injEq] at h2
  exact ⟨i, h1, h2.1, h2.2.1, h2.2.2⟩
theorem st210 (H : AHeap) (id off : Nat) (x : Value) : astoreT Tryz.prog H 210 (.pointer (some ⟨id, off, none⟩)) x = if x.cells.size = 5 ∧ x.cells.toList.all oneCell = true then ((H[id]?).bind (rowStore off x.cells.toList)).map fun o => H.set id o else none := astore_rule sz210 H id off x
theorem fa210_0 (id off : Nat) : afieldAddr Tryz.prog 210 (.pointer (some ⟨id, off, none⟩)) 0 = some (.pointer (some ⟨id, off + 0, none⟩)) := afieldAddr_at (n := 3) (f := (fieldT Tryz.prog 210 0).getD default) (by kernel_rfl) (by kernel_rfl) (by kernel_rfl) id off
theorem fl210_0 (cs : List Value) : afield Tryz.prog 210 (.agg cs.toArray) 0 = some (.agg ((cs.drop 0).take 4).toArray) := afield_agg (f := (fieldT Tryz.prog 210 0).getD default) (by kernel_rfl) (by kernel_rfl) (by kernel_rfl) (by kernel_rfl) cs
theorem fa210_1 (id off : Nat) : afieldAddr Tryz.prog 210 (.pointer (some ⟨id, off, none⟩)) 1 = some (.pointer (some ⟨id, off + 4, none⟩)) := afieldAddr_at (n := 0) (f := (fieldT Tryz.prog 210 1).getD default) (by kernel_rfl) (by kernel_rfl) (by kernel_rfl) id off
theorem fl210_1 (cs : List Value) : afield Tryz.prog 210 (.agg cs.toArray) 1 = cs[4]? := afield_one (f := (fieldT Tryz.prog 210 1).getD default) (by kernel_rfl) (by kernel_rfl) (by kernel_rfl) cs
theorem sz211 : szT Tryz.prog 211 = some 5 := by kernel_rfl
theorem ag211 : aggT Tryz.prog 211 = some true := by kernel_rfl
theorem ze211 : zeroT Tryz.prog 211 = some (.agg #[.int .i64 0, .int .u64 0, .int .u64 0, .slice none 0 0, .int .i64 0]) := by kernel_rfl
theorem inf211 : ∃ i, Tryz.prog.info? 211 = some i ∧ i.zero = some (.agg #[.int .i64 0, .int .u64 0, .int .u64 0, .slice none 0 0, .int .i64 0]) ∧ i.size = 5 ∧ i.bytes = 56 := by
  have h : (Tryz.prog.info? 211).map (fun i => (i.zero, i.size, i.bytes)) = some (some (.agg #[.int .i64 0, .int .u64 0, .int .u64 0, .slice none 0 0, .int .i64 0]), 5, 56) := by kernel_rfl
  obtain ⟨i, h1, h2⟩ := Option.map_eq_some_iff.1 h
  simp only [Prod.mk.injEq] at h2
  exact ⟨i, h1, h2.1, h2.2.1, h2.2.2⟩
theorem st211 (H : AHeap) (id off : Nat) (x : Value) : astoreT Tryz.prog H 211 (.pointer (some ⟨id, off, none⟩)) x = if x.cells.size = 5 ∧ x.cells.toList.all oneCell = true then ((H[id]?).bind (rowStore off x.cells.toList)).map fun o => H.set id o else none := astore_rule sz211 H id off x
theorem fa211_0 (id off : Nat) : afieldAddr Tryz.prog 211 (.pointer (some ⟨id, off, none⟩)) 0 = some (.pointer (some ⟨id, off + 0, none⟩)) := afieldAddr_at (n := 3) (f := (fieldT Tryz.prog 211 0).getD default) (by kernel_rfl) (by kernel_rfl) (by kernel_rfl) id off
theorem fl211_0 (cs : List Value) : afield Tryz.prog 211 (.agg cs.toArray) 0 = some (.agg ((cs.drop 0).take 4).toArray) := afield_agg (f := (fieldT Tryz.prog 211 0).getD default) (by kernel_rfl) (by kernel_rfl) (by kernel_rfl) (by kernel_rfl) cs
theorem fa211_1 (id off : Nat) : afieldAddr Tryz.prog 211 (.pointer (some ⟨id, off, none⟩)) 1 = some (.pointer (some ⟨id, off + 4, none⟩)) := afieldAddr_at (n := 0) (f := (fieldT Tryz.prog 211 1).getD default) (by kernel_rfl) (by kernel_rfl) (by kernel_rfl) id off
theorem fl211_1 (cs : List Value) : afield Tryz.prog 211 (.agg cs.toArray) 1 = cs[4]? := afield_one (f := (fieldT Tryz.prog 211 1).getD default) (by kernel_rfl) (by kernel_rfl) (by kernel_rfl) cs
theorem sz237 : szT Tryz.prog 237 = some 1 := by kernel_rfl
theorem ag237 : aggT Tryz.prog 237 = some false := by kernel_rfl
theorem ze237 : zeroT Tryz.prog 237 = some (.slice none 0 0) := by kernel_rfl
theorem inf237 : ∃ i, Tryz.prog.info? 237 = some i ∧ i.zero = some (.slice none 0 0) ∧ i.size = 1 ∧ i.bytes = 24 := by
  have h : (Tryz.prog.info? 237).map (fun i => (i.zero, i.size, i.bytes)) = some (some (.slice none 0 0), 1, 24) := by kernel_rfl
  obtain ⟨i, h1, h2⟩ := Option.map_eq_some_iff.1 h
  simp only [Prod.mk.injEq] at h2
  exact ⟨i, h1, h2.1, h2.2.1, h2.2.2⟩
theorem st237 (H : AHeap) (id off : Nat) (x : Value) : astoreT Tryz.prog H 237 (.pointer (some ⟨id, off, none⟩)) x = if x.cells.size = 1 ∧ x.cells.toList.all oneCell = true then ((H[id]?).bind (rowStore off x.cells.toList)).map fun o => H.set id o else none := astore_rule sz237 H id off x
theorem un237 : Tryz.prog.underlying 237 = some (.slice 311) := by kernel_rfl
theorem el237 : elemT Tryz.prog 237 = some 311 := by kernel_rfl
theorem ln237 (H : AHeap) (a : Option Addr) (m c : Nat) : alen Tryz.prog H 237 (.slice a m c) = some (.int .i64 m) := alen_slice un237 H a m c
theorem cp237 (a : Addr) (m c : Nat) : acap Tryz.prog 237 (.slice (some a) m c) = if c = 0 then none else some (.int .i64 c) := acap_slice un237 a m c
theorem ix237 (id off m c : Nat) (ik : IntKind) (i : Int) : aindexAddr Tryz.prog 237 (.slice (some ⟨id, off, none⟩) m c) (.int ik i) = if 0 ≤ i ∧ i < m then some (.pointer (some ⟨id, off + i.toNat * 3, none⟩)) else none := aindexAddr_at un237 (by kernel_rfl) id off m c ik i
theorem en237 (H : AHeap) (xo yo : Operand) (a : Option Addr) (n c m q : Nat) : abin Tryz.prog H .eql 237 xo yo (.slice a n c) (.slice none m q) = some (.bool a.isNone) := abin_eq_slnil un237 H xo yo a n c m q
theorem nn237 (H : AHeap) (xo yo : Operand) (a : Option Addr) (n c m q : Nat) : abin Tryz.prog H .neq 237 xo yo (.slice a n c) (.slice none m q) = some (.bool !a.isNone) := abin_ne_slnil un237 H xo yo a n c m q
theorem sc237 (H : AHeap) (a : Option Addr) (n c : Nat) (lo hi : Option Value) : aslice Tryz.prog H 237 (.slice a n c) lo hi none = (optB hi (some n) (capOf n c)).bind fun h => (optB lo (some 0) h).bind fun l => cut H 3 a c l h := aslice_sl un237 (by kernel_rfl) H a n c lo hi
theorem sz238 : szT Tryz.prog 238 = some 4 := by kernel_rfl
theorem ag238 : aggT Tryz.prog 238 = some true := by kernel_rfl
theorem ze238 : zeroT Tryz.prog 238 = some (.agg #[.int .i64 0, .int .i64 0, .slice none 0 0, .slice none 0 0]) := by kernel_rfl
theorem pz238 : plainV 100 (.agg #[.int .i64 0, .int .i64 0, .slice none 0 0, .slice none 0 0]) = true := by kernel_rfl
theorem inf238 : ∃ i, Tryz.prog.info? 238 = some i ∧ i.zero = some (.agg #[.int .i64 0, .int .i64 0, .slice none 0 0, .slice none 0 0]) ∧ i.size = 4 ∧ i.bytes = 64 := by
  have h : (Tryz.prog.info? 238).map (fun i => (i.zero, i.size, i.bytes)) = some (some (.agg #[.int .i64 0, .int .i64 0, .slice none 0 0, .slice none 0 0]), 4, 64) := by kernel_rfl
  obtain ⟨i, h1, h2⟩ := Option.map_eq_some_iff.1 h
  simp only [Prod.mk.injEq] at h2
  exact ⟨i, h1, h2.1, h2.2.1, h2.2.2⟩
theorem st238 (H : AHeap) (id off : Nat) (x : Value) : astoreT Tryz.prog H 238 (.pointer (some ⟨id, off, none⟩)) x = if x.cells.size = 4 ∧ x.cells.toList.all oneCell = true then ((H[id]?).bind (rowStore off x.cells.toList)).map fun o => H.set id o else none := astore_rule sz238 H id off x
theorem fa238_0 (id off : Nat) : afieldAddr Tryz.prog 238 (.pointer (some ⟨id, off, none⟩)) 0 = some (.pointer (some ⟨id, off + 0, none⟩)) := afieldAddr_at (n := 1) (f := (fieldT Tryz.prog 238 0).getD default) (by kernel_rfl) (by kernel_rfl) (by kernel_rfl) id off
theorem fl238_0 (cs : List Value) : afield Tryz.prog 238 (.agg cs.toArray) 0 = some (.agg ((cs.drop 0).take 2).toArray) := afield_agg (f := (fieldT Tryz.prog 238 0).getD default) (by kernel_rfl) (by kernel_rfl) (by kernel_rfl) (by kernel_rfl) cs
theorem fa238_1 (id off : Nat) : afieldAddr Tryz.prog 238 (.pointer (some ⟨id, off, none⟩)) 1 = some (.pointer (some ⟨id, off + 2, none⟩)) := afieldAddr_at (n := 0) (f := (fieldT Tryz.prog 238 1).getD default) (by kernel_rfl) (by kernel_rfl) (by kernel_rfl) id off
theorem fl238_1 (cs : List Value) : afield Tryz.prog 238 (.agg cs.toArray) 1 = cs[2]? := afield_one (f := (fieldT Tryz.prog 238 1).getD default) (by kernel_rfl) (by kernel_rfl) (by kernel_rfl) cs
theorem fa238_2 (id off : Nat) : afieldAddr Tryz.prog 238 (.pointer (some ⟨id, off, none⟩)) 2 = some (.pointer (some ⟨id, off + 3, none⟩)) := afieldAddr_at (n := 0) (f := (fieldT Tryz.prog 238 2).getD default) (by kernel_rfl) (by kernel_rfl) (by kernel_rfl) id off
theorem fl238_2 (cs : List Value) : afield Tryz.prog 238 (.agg cs.toArray) 2 = cs[3]? := afield_one (f := (fieldT Tryz.prog 238 2).getD default) (by kernel_rfl) (by kernel_rfl) (by kernel_rfl) cs
theorem sz239 : szT Tryz.prog 239 = some 4 := by kernel_rfl
theorem ag239 : aggT Tryz.prog 239 = some true := by kernel_rfl
theorem ze239 : zeroT Tryz.prog 239 = some (.agg #[.int .i64 0, .int .i64 0, .slice none 0 0, .slice none 0 0]) := by kernel_rfl
theorem inf239 : ∃ i, Tryz.prog.info? 239 = some i ∧ i.zero = some (.agg #[.int .i64 0, .int .i64 0, .slice none 0 0, .slice none 0 0]) ∧ i.size = 4 ∧ i.bytes = 64 := by
  have h : (Tryz.prog.info? 239).map (fun i => (i.zero, i.size, i.bytes)) = some (some (.agg #[.int .i64 0, .int .i64 0, .slice none 0 0, .slice none 0 0]), 4, 64) := by kernel_rfl
  obtain ⟨i, h1, h2⟩ := Option.map_eq_some_iff.1 h
  simp only [Prod.mk.injEq] at h2
  exact ⟨i, h1, h2.1, h2.2.1, h2.2.2⟩
theorem st239 (H : AHeap) (id off : Nat) (x : Value) : astoreT Tryz.prog H 239 (.pointer (some ⟨id, off, none⟩)) x = if x.cells.size = 4 ∧ x.cells.toList.all oneCell = true then ((H[id]?).bind (rowStore off x.cells.toList)).map fun o => H.set id o else none := astore_rule sz239 H id off x
theorem fa239_0 (id off : Nat) : afieldAddr Tryz.prog 239 (.pointer (some ⟨id, off, none⟩)) 0 = some (.pointer (some ⟨id, off + 0, none⟩)) := afieldAddr_at (n := 1) (f := (fieldT Tryz.prog 239 0).getD default) (by kernel_rfl) (by kernel_rfl) (by kernel_rfl) id off
theorem fl239_0 (cs : List Value) : afield Tryz.prog 239 (.agg cs.toArray) 0 = some (.agg ((cs.drop 0).take 2).toArray) := afield_agg (f := (fieldT Tryz.prog 239 0).getD default) (by kernel_rfl) (by kernel_rfl) (by kernel_rfl) (by kernel_rfl) cs
theorem fa239_1 (id off : Nat) : afieldAddr Tryz.prog 239 (.pointer (some ⟨id, off, none⟩)) 1 = some (.pointer (some ⟨id, off + 2, none⟩)) := afieldAddr_at (n := 0) (f := (fieldT Tryz.prog 239 1).getD default) (by kernel_rfl) (by kernel_rfl) (by kernel_rfl) id off
theorem fl239_1 (cs : List Value) : afield Tryz.prog 239 (.agg cs.toArray) 1 = cs[2]? := afield_one (f := (fieldT Tryz.prog 239 1).getD default) (by kernel_rfl) (by kernel_rfl) (by kernel_rfl) cs
theorem fa239_2 (id off : Nat) : afieldAddr Tryz.prog 239 (.pointer (some ⟨id, off, none⟩)) 2 = some (.pointer (some ⟨id, off + 3, none⟩)) := afieldAddr_at (n := 0) (f := (fieldT Tryz.prog 239 2).getD default) (by kernel_rfl) (by kernel_rfl) (by kernel_rfl) id off
theorem fl239_2 (cs : List Value) : afield Tryz.prog 239 (.agg cs.toArray) 2 = cs[3]? := afield_one (f := (fieldT Tryz.prog 239 2).getD default) (by kernel_rfl) (by kernel_rfl) (by kernel_rfl) cs
theorem sz274 : szT Tryz.prog 274 = some 1 := by kernel_rfl
theorem ag274 : aggT Tryz.prog 274 = some false := by kernel_rfl
theorem ze274 : zeroT Tryz.prog 274 = some (.slice none 0 0) := by kernel_rfl
theorem inf274 : ∃ i, Tryz.prog.info? 274 = some i ∧ i.zero = some (.slice none 0 0) ∧ i.size = 1 ∧ i.bytes = 24 := by
  have h : (Tryz.prog.info? 274).map (fun i => (i.zero, i.size, i.bytes)) = some (some (.slice none 0 0), 1, 24) := by kernel_rfl
  obtain ⟨i, h1, h2⟩ := Option.map_eq_some_iff.1 h
  simp only [Prod.mk.injEq] at h2
  exact ⟨i, h1, h2.1, h2.2.1, h2.2.2⟩
theorem st274 (H : AHeap) (id off : Nat) (x : Value) : astoreT Tryz.prog H 274 (.pointer (some ⟨id, off, none⟩)) x = if x.cells.size = 1 ∧ x.cells.toList.all oneCell = true then ((H[id]?).bind (rowStore off x.cells.toList)).map fun o => H.set id o else none := astore_rule sz274 H id off x
theorem un274 : Tryz.prog.underlying 274 = some (.slice 276) := by kernel_rfl
theorem el274 : elemT Tryz.prog 274 = some 276 := by kernel_rfl
theorem ln274 (H : AHeap) (a : Option Addr) (m c : Nat) : alen Tryz.prog H 274 (.slice a m c) = some (.int .i64 m) := alen_slice un274 H a m c
theorem cp274 (a : Addr) (m c : Nat) : acap Tryz.prog 274 (.slice (some a) m c) = if c = 0 then none else some (.int .i64 c) := acap_slice un274 a m c
theorem ix274 (id off m c : Nat) (ik : IntKind) (i : Int) : aindexAddr Tryz.prog 274 (.slice (some ⟨id, off, none⟩) m c) (.int ik i) = if 0 ≤ i ∧ i < m then some (.pointer (some ⟨id, off + i.toNat * 3, none⟩)) else none := aindexAddr_at un274 (by kernel_rfl) id off m c ik i
theorem en274 (H : AHeap) (xo yo : Operand) (a : Option Addr) (n c m q : Nat) : abin Tryz.prog H .eql 274 xo yo (.slice a n c) (.slice none m q) = some (.bool a.isNone) := abin_eq_slnil un274 H xo yo a n c m q
theorem nn274 (H : AHeap) (xo yo : Operand) (a : Option Addr) (n c m q : Nat) : abin Tryz.prog H .neq 274 xo yo (.slice a n c) (.slice none m q) = some (.bool !a.isNone) := abin_ne_slnil un274 H xo yo a n c m q
theorem sc274 (H : AHeap) (a : Option Addr) (n c : Nat) (lo hi : Option Value) : aslice Tryz.prog H 274 (.slice a n c) lo hi none = (optB hi (some n) (capOf n c)).bind fun h => (optB lo (some 0) h).bind fun l => cut H 3 a c l h := aslice_sl un274 (by kernel_rfl) H a n c lo hi
theorem sz275 : szT Tryz.prog 275 = some 3 := by kernel_rfl
theorem ag275 : aggT Tryz.prog 275 = some true := by kernel_rfl
theorem ze275 : zeroT Tryz.prog 275 = some (.agg #[.int .u64 0, .int .i64 0, .slice none 0 0]) := by kernel_rfl
theorem pz275 : plainV 100 (.agg #[.int .u64 0, .int .i64 0, .slice none 0 0]) = true := by kernel_rfl
theorem inf275 : ∃ i, Tryz.prog.info? 275 = some i ∧ i.zero = some (.agg #[.int .u64 0, .int .i64 0, .slice none 0 0]) ∧ i.size = 3 ∧ i.bytes = 40 := by
  have h : (Tryz.prog.info? 275).map (fun i => (i.zero, i.size, i.bytes)) = some (some (.agg #[.int .u64 0, .int .i64 0, .slice none 0 0]), 3, 40) := by kernel_rfl
  obtain ⟨i, h1, h2⟩ := Option.map_eq_some_iff.1 h
  simp only [Prod.mk.injEq] at h2
  exact ⟨i, h1, h2.1, h2.2.1, h2.2.2⟩
theorem st275 (H : AHeap) (id off : Nat) (x : Value) : astoreT Tryz.prog H 275 (.pointer (some ⟨id, off, none⟩)) x = if x.cells.size = 3 ∧ x.cells.toList.all oneCell = true then ((H[id]?).bind (rowStore off x.cells.toList)).map fun o => H.set id o else none := astore_rule sz275 H id off x
theorem fa275_0 (id off : Nat) : afieldAddr Tryz.prog 275 (.pointer (some ⟨id, off, none⟩)) 0 = some (.pointer (some ⟨id, off + 0, none⟩)) := afieldAddr_at (n := 0) (f := (fieldT Tryz.prog 275 0).getD default) (by kernel_rfl) (by kernel_rfl) (by kernel_rfl) id off
theorem fl275_0 (cs : List Value) : afield Tryz.prog 275 (.agg cs.toArray) 0 = cs[0]? := afield_one (f := (fieldT Tryz.prog 275 0).getD default) (by kernel_rfl) (by kernel_rfl) (by kernel_rfl) cs
theorem fa275_1 (id off : Nat) : afieldAddr Tryz.prog 275 (.pointer (some ⟨id, off, none⟩)) 1 = some (.pointer (some ⟨id, off + 1, none⟩)) := afieldAddr_at (n := 0) (f := (fieldT Tryz.prog 275 1).getD default) (by kernel_rfl) (by kernel_rfl) (by kernel_rfl) id off
theorem fl275_1 (cs : List Value) : afield Tryz.prog 275 (.agg cs.toArray) 1 = cs[1]? := afield_one (f := (fieldT Tryz.prog 275 1).getD default) (by kernel_rfl) (by kernel_rfl) (by kernel_rfl) cs
theorem fa275_2 (id off : Nat) : afieldAddr Tryz.prog 275 (.pointer (some ⟨id, off, none⟩)) 2 = some (.pointer (some ⟨id, off + 2, none⟩)) := afieldAddr_at (n := 0) (f := (fieldT Tryz.prog 275 2).getD default) (by kernel_rfl) (by kernel_rfl) (by kernel_rfl) id off
theorem fl275_2 (cs : List Value) : afield Tryz.prog 275 (.agg cs.toArray) 2 = cs[2]? := afield_one (f := (fieldT Tryz.prog 275 2).getD default) (by kernel_rfl) (by kernel_rfl) (by kernel_rfl) cs
theorem sz276 : szT Tryz.prog 276 = some 3 := by kernel_rfl
theorem ag276 : aggT Tryz.prog 276 = some true := by kernel_rfl
theorem ze276 : zeroT Tryz.prog 276 = some (.agg #[.int .u64 0, .int .i64 0, .slice none 0 0]) := by kernel_rfl
theorem inf276 : ∃ i, Tryz.prog.info? 276 = some i ∧ i.zero = some (.agg #[.int .u64 0, .int .i64 0, .slice none 0 0]) ∧ i.size = 3 ∧ i.bytes = 40 := by
  have h : (Tryz.prog.info? 276).map (fun i => (i.zero, i.size, i.bytes)) = some (some (.agg #[.int .u64 0, .int .i64 0, .slice none 0 0]), 3, 40) := by kernel_rfl
  obtain ⟨i, h1, h2⟩ := Option.map_eq_some_iff.1 h
  simp only [Prod.mk.injEq] at h2
  exact ⟨i, h1, h2.1, h2.2.1, h2.2.2⟩
theorem st276 (H : AHeap) (id off : Nat) (x : Value) : astoreT Tryz.prog H 276 (.pointer (some ⟨id, off, none⟩)) x = if x.cells.size = 3 ∧ x.cells.toList.all oneCell = true then ((H[id]?).bind (rowStore off x.cells.toList)).map fun o => H.set id o else none := astore_rule sz276 H id off x
theorem fa276_0 (id off : Nat) : afieldAddr Tryz.prog 276 (.pointer (some ⟨id, off, none⟩)) 0 = some (.pointer (some ⟨id, off + 0, none⟩)) := afieldAddr_at (n := 0) (f := (fieldT Tryz.prog 276 0).getD default) (by kernel_rfl) (by kernel_rfl) (by kernel_rfl) id off
theorem fl276_0 (cs : List Value) : afield Tryz.prog 276 (.agg cs.toArray) 0 = cs[0]? := afield_one (f := (fieldT Tryz.prog 276 0).getD default) (by kernel_rfl) (by kernel_rfl) (by kernel_rfl) cs
theorem fa276_1 (id off : Nat) : afieldAddr Tryz.prog 276 (.pointer (some ⟨id, off, none⟩)) 1 = some (.pointer (some ⟨id, off + 1, none⟩)) := afieldAddr_at (n := 0) (f := (fieldT Tryz.prog 276 1).getD default) (by kernel_rfl) (by kernel_rfl) (by kernel_rfl) id off
theorem fl276_1 (cs : List Value) : afield Tryz.prog 276 (.agg cs.toArray) 1 = cs[1]? := afield_one (f := (fieldT Tryz.prog 276 1).getD default) (by kernel_rfl) (by kernel_rfl) (by kernel_rfl) cs
theorem fa276_2 (id off : Nat) : afieldAddr Tryz.prog 276 (.pointer (some ⟨id, off, none⟩)) 2 = some (.pointer (some ⟨id, off + 2, none⟩)) := afieldAddr_at (n := 0) (f := (fieldT Tryz.prog 276 2).getD default) (by kernel_rfl) (by kernel_rfl) (by kernel_rfl) id off
theorem fl276_2 (cs : List Value) : afield Tryz.prog 276 (.agg cs.toArray) 2 = cs[2]? := afield_one (f := (fieldT Tryz.prog 276 2).getD default) (by kernel_rfl) (by kernel_rfl) (by kernel_rfl) cs
theorem sz279 : szT Tryz.prog 279 = some 3 := by kernel_rfl
theorem ag279 : aggT Tryz.prog 279 = some true := by kernel_rfl
theorem ze279 : zeroT Tryz.prog 279 = some (.agg #[.int .i64 0, .int .i64 0, .slice none 0 0]) := by kernel_rfl
theorem inf279 : ∃ i, Tryz.prog.info? 279 = some i ∧ i.zero = some (.agg #[.int .i64 0, .int .i64 0, .slice none 0 0]) ∧ i.size = 3 ∧ i.bytes = 40 := by
  have h : (Tryz.prog.info? 279).map (fun i => (i.zero, i.size, i.bytes)) = some (some (.agg #[.int .i64 0, .int .i64 0, .slice none 0 0]), 3, 40) := by kernel_rfl
  obtain ⟨i, h1, h2⟩ := Option.map_eq_some_iff.1 h
  simp only [Prod.mk.injEq] at h2
  exact ⟨i, h1, h2.1, h2.2.1, h2.2.2⟩
theorem st279 (H : AHeap) (id off : Nat) (x : Value) : astoreT Tryz.prog H 279 (.pointer (some ⟨id, off, none⟩)) x = if x.cells.size = 3 ∧ x.cells.toList.all oneCell = true then ((H[id]?).bind (rowStore off x.cells.toList)).map fun o => H.set id o else none := astore_rule sz279 H id off x
theorem fa279_0 (id off : Nat) : afieldAddr Tryz.prog 279 (.pointer (some ⟨id, off, none⟩)) 0 = some (.pointer (some ⟨id, off + 0, none⟩)) := afieldAddr_at (n := 0) (f := (fieldT Tryz.prog 279 0).getD default) (by kernel_rfl) (by kernel_rfl) (by kernel_rfl) id off
theorem fl279_0 (cs : List Value) : afield Tryz.prog 279 (.agg cs.toArray) 0 = cs[0]? := afield_one (f := (fieldT Tryz.prog 279 0).getD default) (by kernel_rfl) (by kernel_rfl) (by kernel_rfl) cs
theorem fa279_1 (id off : Nat) : afieldAddr Tryz.prog 279 (.pointer (some ⟨id, off, none⟩)) 1 = some (.pointer (some ⟨id, off + 1, none⟩)) := afieldAddr_at (n := 0) (f := (fieldT Tryz.prog 279 1).getD default) (by kernel_rfl) (by kernel_rfl) (by kernel_rfl) id off
theorem fl279_1 (cs : List Value) : afield Tryz.prog 279 (.agg cs.toArray) 1 = cs[1]? := afield_one (f := (fieldT Tryz.prog 279 1).getD default) (by kernel_rfl) (by kernel_rfl) (by kernel_rfl) cs
theorem fa279_2 (id off : Nat) : afieldAddr Tryz.prog 279 (.pointer (some ⟨id, off, none⟩)) 2 = some (.pointer (some ⟨id, off + 2, none⟩)) := afieldAddr_at (n := 0) (f := (fieldT Tryz.prog 279 2).getD default) (by kernel_rfl) (by kernel_rfl) (by kernel_rfl) id off
theorem fl279_2 (cs : List Value) : afield Tryz.prog 279 (.agg cs.toArray) 2 = cs[2]? := afield_one (f := (fieldT Tryz.prog 279 2).getD default) (by kernel_rfl) (by kernel_rfl) (by kernel_rfl) cs
theorem sz280 : szT Tryz.prog 280 = some 3 := by kernel_rfl
theorem ag280 : aggT Tryz.prog 280 = some true := by kernel_rfl
theorem ze280 : zeroT Tryz.prog 280 = some (.agg #[.int .i64 0, .int .i64 0, .slice none 0 0]) := by kernel_rfl
theorem inf280 : ∃ i, Tryz.prog.info? 280 = some i ∧ i.zero = some (.agg #[.int .i64 0, .int .i64 0, .slice none 0 0]) ∧ i.size = 3 ∧ i.bytes = 40 := by
  have h : (Tryz.prog.info? 280).map (fun i => (i.zero, i.size, i.bytes)) = some (some (.agg #[.int .i64 0, .int .i64 0, .slice none 0 0]), 3, 40) := by kernel_rfl
  obtain ⟨i, h1, h2⟩ := Option.map_eq_some_iff.1 h
  simp only [Prod.mk.injEq] at h2
  exact ⟨i, h1, h2.1, h2.2.1, h2.2.2⟩
theorem st280 (H : AHeap) (id off : Nat) (x : Value) : astoreT Tryz.prog H 280 (.pointer (some ⟨id, off, none⟩)) x = if x.cells.size = 3 ∧ x.cells.toList.all oneCell = true then ((H[id]?).bind (rowStore off x.cells.toList)).map fun o => H.set id o else none := astore_rule sz280 H id off x
theorem fa280_0 (id off : Nat) : afieldAddr Tryz.prog 280 (.pointer (some ⟨id, off, none⟩)) 0 = some (.pointer (some ⟨id, off + 0, none⟩)) := afieldAddr_at (n := 0) (f := (fieldT Tryz.prog 280 0).getD default) (by kernel_rfl) (by kernel_rfl) (by kernel_rfl) id off
theorem fl280_0 (cs : List Value) : afield Tryz.prog 280 (.agg cs.toArray) 0 = cs[0]? := afield_one (f := (fieldT Tryz.prog 280 0).getD default) (by kernel_rfl) (by kernel_rfl) (by kernel_rfl) cs
theorem fa280_1 (id off : Nat) : afieldAddr Tryz.prog 280 (.pointer (some ⟨id, off, none⟩)) 1 = some (.pointer (some ⟨id, off + 1, none⟩)) := afieldAddr_at (n := 0) (f := (fieldT Tryz.prog 280 1).getD default) (by kernel_rfl) (by kernel_rfl) (by kernel_rfl) id off
theorem fl280_1 (cs : List Value) : afield Tryz.prog 280 (.agg cs.toArray) 1 = cs[1]? := afield_one (f := (fieldT Tryz.prog 280 1).getD default) (by kernel_rfl) (by kernel_rfl) (by kernel_rfl) cs
theorem fa280_2 (id off : Nat) : afieldAddr Tryz.prog 280 (.pointer (some ⟨id, off, none⟩)) 2 = some (.pointer (some ⟨id, off + 2, none⟩)) := afieldAddr_at (n := 0) (f := (fieldT Tryz.prog 280 2).getD default) (by kernel_rfl) (by kernel_rfl) (by kernel_rfl) id off
theorem fl280_2 (cs : List Value) : afield Tryz.prog 280 (.agg cs.toArray) 2 = cs[2]? := afield_one (f := (fieldT Tryz.prog 280 2).getD default) (by kernel_rfl) (by kernel_rfl) (by kernel_rfl) cs
theorem sz285 : szT Tryz.prog 285 = some 4 := by kernel_rfl
theorem ag285 : aggT Tryz.prog 285 = some true := by kernel_rfl
theorem ze285 : zeroT Tryz.prog 285 = some (.agg #[.int .i64 0, .int .i64 0, .slice none 0 0, .slice none 0 0]) := by kernel_rfl
theorem inf285 : ∃ i, Tryz.prog.info? 285 = some i ∧ i.zero = some (.agg #[.int .i64 0, .int .i64 0, .slice none 0 0, .slice none 0 0]) ∧ i.size = 4 ∧ i.bytes = 64 := by
  have h : (Tryz.prog.info? 285).map (fun i => (i.zero, i.size, i.bytes)) = some (some (.agg #[.int .i64 0, .int .i64 0, .slice none 0 0, .slice none 0 0]), 4, 64) := by kernel_rfl
  obtain ⟨i, h1, h2⟩ := Option.map_eq_some_iff.1 h
  simp only [Prod.mk.injEq] at h2
  exact ⟨i, h1, h2.1, h2.2.1, h2.2.2⟩
theorem st285 (H : AHeap) (id off : Nat) (x : Value) : astoreT Tryz.prog H 285 (.pointer (some ⟨id, off, none⟩)) x = if x.cells.size = 4 ∧ x.cells.toList.all oneCell = true then ((H[id]?).bind (rowStore off x.cells.toList)).map fun o => H.set id o else none := astore_rule sz285 H id off x
theorem fa285_0 (id off : Nat) : afieldAddr Tryz.prog 285 (.pointer (some ⟨id, off, none⟩)) 0 = some (.pointer (some ⟨id, off + 0, none⟩)) := afieldAddr_at (n := 2) (f := (fieldT Tryz.prog 285 0).getD default) (by kernel_rfl) (by kernel_rfl) (by kernel_rfl) id off
theorem fl285_0 (cs : List Value) : afield Tryz.prog 285 (.agg cs.toArray) 0 = some (.agg ((cs.drop 0).take 3).toArray) := afield_agg (f := (fieldT Tryz.prog 285 0).getD default) (by kernel_rfl) (by kernel_rfl) (by kernel_rfl) (by kernel_rfl) cs
theorem fa285_1 (id off : Nat) : afieldAddr Tryz.prog 285 (.pointer (some ⟨id, off, none⟩)) 1 = some (.pointer (some ⟨id, off + 3, none⟩)) := afieldAddr_at (n := 0) (f := (fieldT Tryz.prog 285 1).getD default) (by kernel_rfl) (by kernel_rfl) (by kernel_rfl) id off
theorem fl285_1 (cs : List Value) : afield Tryz.prog 285 (.agg cs.toArray) 1 = cs[3]? := afield_one (f := (fieldT Tryz.prog 285 1).getD default) (by kernel_rfl) (by kernel_rfl) (by kernel_rfl) cs
theorem sz286 : szT Tryz.prog 286 = some 4 := by kernel_rfl
theorem ag286 : aggT Tryz.prog 286 = some true := by kernel_rfl
theorem ze286 : zeroT Tryz.prog 286 = some (.agg #[.int .i64 0, .int .i64 0, .slice none 0 0, .slice none 0 0]) := by kernel_rfl
theorem inf286 : ∃ i, Tryz.prog.info? 286 = some i ∧ i.zero = some (.agg #[.int .i64 0, .int .i64 0, .slice none 0 0, .slice none 0 0]) ∧ i.size = 4 ∧ i.bytes = 64 := by
  have h : (Tryz.prog.info? 286).map (fun i => (i.zero, i.size, i.bytes)) = some (some (.agg #[.int .i64 0, .int .i64 0, .slice none 0 0, .slice none 0 0]), 4, 64) := by kernel_rfl
  obtain ⟨i, h1, h2⟩ := Option.map_eq_some_iff.1 h
  simp only [Prod.mk.injEq] at h2
  exact ⟨i, h1, h2.1, h2.2.1, h2.2.2⟩
theorem st286 (H : AHeap) (id off : Nat) (x : Value) : astoreT Tryz.prog H 286 (.pointer (some ⟨id, off, none⟩)) x = if x.cells.size = 4 ∧ x.cells.toList.all oneCell = true then ((H[id]?).bind (rowStore off x.cells.toList)).map fun o => H.set id o else none := astore_rule sz286 H id off x
theorem fa286_0 (id off : Nat) : afieldAddr Tryz.prog 286 (.pointer (some ⟨id, off, none⟩)) 0 = some (.pointer (some ⟨id, off + 0, none⟩)) := afieldAddr_at (n := 2) (f := (fieldT Tryz.prog 286 0).getD default) (by kernel_rfl) (by kernel_rfl) (by kernel_rfl) id off
theorem fl286_0 (cs : List Value) : afield Tryz.prog 286 (.agg cs.toArray) 0 = some (.agg ((cs.drop 0).take 3).toArray) := afield_agg (f := (fieldT Tryz.prog 286 0).getD default) (by kernel_rfl) (by kernel_rfl) (by kernel_rfl) (by kernel_rfl) cs
theorem fa286_1 (id off : Nat) : afieldAddr Tryz.prog 286 (.pointer (some ⟨id, off, none⟩)) 1 = some (.pointer (some ⟨id, off + 3, none⟩)) := afieldAddr_at (n := 0) (f := (fieldT Tryz.prog 286 1).getD default) (by kernel_rfl) (by kernel_rfl) (by kernel_rfl) id off
theorem fl286_1 (cs : List Value) : afield Tryz.prog 286 (.agg cs.toArray) 1 = cs[3]? := afield_one (f := (fieldT Tryz.prog 286 1).getD default) (by kernel_rfl) (by kernel_rfl) (by kernel_rfl) cs
theorem sz288 : szT Tryz.prog 288 = some 1 := by kernel_rfl
theorem ag288 : aggT Tryz.prog 288 = some false := by kernel_rfl
theorem ze288 : zeroT Tryz.prog 288 = some (.pointer none) := by kernel_rfl
theorem inf288 : ∃ i, Tryz.prog.info? 288 = some i ∧ i.zero = some (.pointer none) ∧ i.size = 1 ∧ i.bytes = 8 := by
  have h : (Tryz.prog.info? 288).map (fun i => (i.zero, i.size, i.bytes)) = some (some (.pointer none), 1, 8) := by kernel_rfl
  obtain ⟨i, h1, h2⟩ := Option.map_eq_some_iff.1 h
  simp only [Prod.mk.injEq] at h2
  exact ⟨i, h1, h2.1, h2.2.1, h2.2.2⟩
theorem st288 (H : AHeap) (id off : Nat) (x : Value) : astoreT Tryz.prog H 288 (.pointer (some ⟨id, off, none⟩)) x = if x.cells.size = 1 ∧ x.cells.toList.all oneCell = true then ((H[id]?).bind (rowStore off x.cells.toList)).map fun o => H.set id o else none := astore_rule sz288 H id off x
theorem en288 (H : AHeap) (xo yo : Operand) (a : Option Addr) : abin Tryz.prog H .eql 288 xo yo (.pointer a) (.pointer none) = some (.bool a.isNone) := abin_eq_ptrnil (e := 359) (by kernel_rfl) H xo yo a
theorem nn288 (H : AHeap) (xo yo : Operand) (a : Option Addr) : abin Tryz.prog H .neq 288 xo yo (.pointer a) (.pointer none) = some (.bool !a.isNone) := abin_ne_ptrnil (e := 359) (by kernel_rfl) H xo yo a
theorem sz300 : szT Tryz.prog 300 = some 2 := by kernel_rfl
theorem ag300 : aggT Tryz.prog 300 = some true := by kernel_rfl
theorem ze300 : zeroT Tryz.prog 300 = some (.agg #[.int .i64 0, .slice none 0 0]) := by kernel_rfl
theorem pz300 : plainV 100 (.agg #[.int .i64 0, .slice none 0 0]) = true := by kernel_rfl
theorem inf300 : ∃ i, Tryz.prog.info? 300 = some i ∧ i.zero = some (.agg #[.int .i64 0, .slice none 0 0]) ∧ i.size = 2 ∧ i.bytes = 32 := by
  have h : (Tryz.prog.info? 300).map (fun i => (i.zero, i.size, i.bytes)) = some (some (.agg #[.int .i64 0, .slice none 0 0]), 2, 32) := by kernel_rfl
  obtain ⟨i, h1, h2⟩ := Option.map_eq_some_iff.1 h
  simp only [Prod.mk.injEq] at h2
  exact ⟨i, h1, h2.1, h2.2.1, h2.2.2⟩
theorem st300 (H : AHeap) (id off : Nat) (x : Value) : astoreT Tryz.prog H 300 (.pointer (some ⟨id, off, none⟩)) x = if x.cells.size = 2 ∧ x.cells.toList.all oneCell = true then ((H[id]?).bind (rowStore off x.cells.toList)).map fun o => H.set id o else none := astore_rule sz300 H id off x
theorem fa300_0 (id off : Nat) : afieldAddr Tryz.prog 300 (.pointer (some ⟨id, off, none⟩)) 0 = some (.pointer (some ⟨id, off + 0, none⟩)) := afieldAddr_at (n := 0) (f := (fieldT Tryz.prog 300 0).getD default) (by kernel_rfl) (by kernel_rfl) (by kernel_rfl) id off
theorem fl300_0 (cs : List Value) : afield Tryz.prog 300 (.agg cs.toArray) 0 = cs[0]? := afield_one (f := (fieldT Tryz.prog 300 0).getD default) (by kernel_rfl) (by kernel_rfl) (by kernel_rfl) cs
theorem fa300_1 (id off : Nat) : afieldAddr Tryz.prog 300 (.pointer (some ⟨id, off, none⟩)) 1 = some (.pointer (some ⟨id, off + 1, none⟩)) := afieldAddr_at (n := 0) (f := (fieldT Tryz.prog 300 1).getD default) (by kernel_rfl) (by kernel_rfl) (by kernel_rfl) id off
theorem fl300_1 (cs : List Value) : afield Tryz.prog 300 (.agg cs.toArray) 1 = cs[1]? := afield_one (f := (fieldT Tryz.prog 300 1).getD default) (by kernel_rfl) (by kernel_rfl) (by kernel_rfl) cs
theorem sz301 : szT Tryz.prog 301 = some 2 := by kernel_rfl
theorem ag301 : aggT Tryz.prog 301 = some true := by kernel_rfl
theorem ze301 : zeroT Tryz.prog 301 = some (.agg #[.int .i64 0, .slice none 0 0]) := by kernel_rfl
theorem inf301 : ∃ i, Tryz.prog.info? 301 = some i ∧ i.zero = some (.agg #[.int .i64 0, .slice none 0 0]) ∧ i.size = 2 ∧ i.bytes = 32 := by
  have h : (Tryz.prog.info? 301).map (fun i => (i.zero, i.size, i.bytes)) = some (some (.agg #[.int .i64 0, .slice none 0 0]), 2, 32) := by kernel_rfl
  obtain ⟨i, h1, h2⟩ := Option.map_eq_some_iff.1 h
  simp only [Prod.mk.injEq] at h2
  exact ⟨i, h1, h2.1, h2.2.1, h2.2.2⟩
theorem st301 (H : AHeap) (id off : Nat) (x : Value) : astoreT Tryz.prog H 301 (.pointer (some ⟨id, off, none⟩)) x = if x.cells.size = 2 ∧ x.cells.toList.all oneCell = true then ((H[id]?).bind (rowStore off x.cells.toList)).map fun o => H.set id o else none := astore_rule sz301 H id off x
theorem fa301_0 (id off : Nat) : afieldAddr Tryz.prog 301 (.pointer (some ⟨id, off, none⟩)) 0 = some (.pointer (some ⟨id, off + 0, none⟩)) := afieldAddr_at (n := 0) (f := (fieldT Tryz.prog 301 0).getD default) (by kernel_rfl) (by kernel_rfl) (by kernel_rfl) id off
theorem fl301_0 (cs : List Value) : afield Tryz.prog 301 (.agg cs.toArray) 0 = cs[0]? := afield_one (f := (fieldT Tryz.prog 301 0).getD default) (by kernel_rfl) (by kernel_rfl) (by kernel_rfl) cs
theorem fa301_1 (id off : Nat) : afieldAddr Tryz.prog 301 (.pointer (some ⟨id, off, none⟩)) 1 = some (.pointer (some ⟨id, off + 1, none⟩)) := afieldAddr_at (n := 0) (f := (fieldT Tryz.prog 301 1).getD default) (by kernel_rfl) (by kernel_rfl) (by kernel_rfl) id off
theorem fl301_1 (cs : List Value) : afield Tryz.prog 301 (.agg cs.toArray) 1 = cs[1]? := afield_one (f := (fieldT Tryz.prog 301 1).getD default) (by kernel_rfl) (by kernel_rfl) (by kernel_rfl) cs
theorem sz309 : szT Tryz.prog 309 = some 1 := by kernel_rfl
theorem ag309 : aggT Tryz.prog 309 = some false := by kernel_rfl
theorem ze309 : zeroT Tryz.prog 309 = some (.slice none 0 0) := by kernel_rfl
theorem inf309 : ∃ i, Tryz.prog.info? 309 = some i ∧ i.zero = some (.slice none 0 0) ∧ i.size = 1 ∧ i.bytes = 24 := by
  have h : (Tryz.prog.info? 309).map (fun i => (i.zero, i.size, i.bytes)) = some (some (.slice none 0 0), 1, 24) := by kernel_rfl
  obtain ⟨i, h1, h2⟩ := Option.map_eq_some_iff.1 h
  simp only [Prod.mk.injEq] at h2
  exact ⟨i, h1, h2.1, h2.2.1, h2.2.2⟩
theorem st309 (H : AHeap) (id off : Nat) (x : Value) : astoreT Tryz.prog H 309 (.pointer (some ⟨id, off, none⟩)) x = if x.cells.size = 1 ∧ x.cells.toList.all oneCell = true then ((H[id]?).bind (rowStore off x.cells.toList)).map fun o => H.set id o else none := astore_rule sz309 H id off x
theorem un309 : Tryz.prog.underlying 309 = some (.slice 198) := by kernel_rfl
theorem el309 : elemT Tryz.prog 309 = some 198 := by kernel_rfl
theorem ln309 (H : AHeap) (a : Option Addr) (m c : Nat) : alen Tryz.prog H 309 (.slice a m c) = some (.int .i64 m) := alen_slice un309 H a m c
theorem cp309 (a : Addr) (m c : Nat) : acap Tryz.prog 309 (.slice (some a) m c) = if c = 0 then none else some (.int .i64 c) := acap_slice un309 a m c
theorem ix309 (id off m c : Nat) (ik : IntKind) (i : Int) : aindexAddr Tryz.prog 309 (.slice (some ⟨id, off, none⟩) m c) (.int ik i) = if 0 ≤ i ∧ i < m then some (.pointer (some ⟨id, off + i.toNat * 1, none⟩)) else none := aindexAddr_at un309 (by kernel_rfl) id off m c ik i
theorem en309 (H : AHeap) (xo yo : Operand) (a : Option Addr) (n c m q : Nat) : abin Tryz.prog H .eql 309 xo yo (.slice a n c) (.slice none m q) = some (.bool a.isNone) := abin_eq_slnil un309 H xo yo a n c m q
theorem nn309 (H : AHeap) (xo yo : Operand) (a : Option Addr) (n c m q : Nat) : abin Tryz.prog H .neq 309 xo yo (.slice a n c) (.slice none m q) = some (.bool !a.isNone) := abin_ne_slnil un309 H xo yo a n c m q
theorem sc309 (H : AHeap) (a : Option Addr) (n c : Nat) (lo hi : Option Value) : aslice Tryz.prog H 309 (.slice a n c) lo hi none = (optB hi (some n) (capOf n c)).bind fun h => (optB lo (some 0) h).bind fun l => cut H 1 a c l h := aslice_sl un309 (by kernel_rfl) H a n c lo hi
theorem sz310 : szT Tryz.prog 310 = some 3 := by kernel_rfl
theorem ag310 : aggT Tryz.prog 310 = some true := by kernel_rfl
theorem ze310 : zeroT Tryz.prog 310 = some (.agg #[.pointer none, .slice none 0 0, .slice none 0 0]) := by kernel_rfl
theorem pz310 : plainV 100 (.agg #[.pointer none, .slice none 0 0, .slice none 0 0]) = true := by kernel_rfl
theorem inf310 : ∃ i, Tryz.prog.info? 310 = some i ∧ i.zero = some (.agg #[.pointer none, .slice none 0 0, .slice none 0 0]) ∧ i.size = 3 ∧ i.bytes = 56 := by
  have h : (Tryz.prog.info? 310).map (fun i => (i.zero, i.size, i.bytes)) = some (some (.agg #[.pointer none, .slice none 0 0, .slice none 0 0]), 3, 56) := by kernel_rfl
  obtain ⟨i, h1, h2⟩ := Option.map_eq_some_iff.1 h
  simp only [Prod.mk.injEq] at h2
  exact ⟨i, h1, h2.1, h2.2.1, h2.2.2⟩
theorem st310 (H : AHeap) (id off : Nat) (x : Value) : astoreT Tryz.prog H 310 (.pointer (some ⟨id, off, none⟩)) x = if x.cells.size = 3 ∧ x.cells.toList.all oneCell = true then ((H[id]?).bind (rowStore off x.cells.toList)).map fun o => H.set id o else none := astore_rule sz310 H id off x
theorem fa310_0 (id off : Nat) : afieldAddr Tryz.prog 310 (.pointer (some ⟨id, off, none⟩)) 0 = some (.pointer (some ⟨id, off + 0, none⟩)) := afieldAddr_at (n := 0) (f := (fieldT Tryz.prog 310 0).getD default) (by kernel_rfl) (by kernel_rfl) (by kernel_rfl) id off
theorem fl310_0 (cs : List Value) : afield Tryz.prog 310 (.agg cs.toArray) 0 = cs[0]? := afield_one (f := (fieldT Tryz.prog 310 0).getD default) (by kernel_rfl) (by kernel_rfl) (by kernel_rfl) cs
theorem fa310_1 (id off : Nat) : afieldAddr Tryz.prog 310 (.pointer (some ⟨id, off, none⟩)) 1 = some (.pointer (some ⟨id, off + 1, none⟩)) := afieldAddr_at (n := 0) (f := (fieldT Tryz.prog 310 1).getD default) (by kernel_rfl) (by kernel_rfl) (by kernel_rfl) id off
theorem fl310_1 (cs : List Value) : afield Tryz.prog 310 (.agg cs.toArray) 1 = cs[1]? := afield_one (f := (fieldT Tryz.prog 310 1).getD default) (by kernel_rfl) (by kernel_rfl) (by kernel_rfl) cs
theorem fa310_2 (id off : Nat) : afieldAddr Tryz.prog 310 (.pointer (some ⟨id, off, none⟩)) 2 = some (.pointer (some ⟨id, off + 2, none⟩)) := afieldAddr_at (n := 0) (f := (fieldT Tryz.prog 310 2).getD default) (by kernel_rfl) (by kernel_rfl) (by kernel_rfl) id off
theorem fl310_2 (cs : List Value) : afield Tryz.prog 310 (.agg cs.toArray) 2 = cs[2]? := afield_one (f := (fieldT Tryz.prog 310 2).getD default) (by kernel_rfl) (by kernel_rfl) (by kernel_rfl) cs
theorem sz311 : szT Tryz.prog 311 = some 3 := by kernel_rfl
theorem ag311 : aggT Tryz.prog 311 = some true := by kernel_rfl
theorem ze311 : zeroT Tryz.prog 311 = some (.agg #[.pointer none, .slice none 0 0, .slice none 0 0]) := by kernel_rfl
theorem inf311 : ∃ i, Tryz.prog.info? 311 = some i ∧ i.zero = some (.agg #[.pointer none, .slice none 0 0, .slice none 0 0]) ∧ i.size = 3 ∧ i.bytes = 56 := by
  have h : (Tryz.prog.info? 311).map (fun i => (i.zero, i.size, i.bytes)) = some (some (.agg #[.pointer none, .slice none 0 0, .slice none 0 0]), 3, 56) := by kernel_rfl
  obtain ⟨i, h1, h2⟩ := Option.map_eq_some_iff.1 h
  simp only [Prod.mk.injEq] at h2
  exact ⟨i, h1, h2.1, h2.2.1, h2.2.2⟩
theorem st311 (H : AHeap) (id off : Nat) (x : Value) : astoreT Tryz.prog H 311 (.pointer (some ⟨id, off, none⟩)) x = if x.cells.size = 3 ∧ x.cells.toList.all oneCell = true then ((H[id]?).bind (rowStore off x.cells.toList)).map fun o => H.set id o else none := astore_rule sz311 H id off x
theorem fa311_0 (id off : Nat) : afieldAddr Tryz.prog 311 (.pointer (some ⟨id, off, none⟩)) 0 = some (.pointer (some ⟨id, off + 0, none⟩)) := afieldAddr_at (n := 0) (f := (fieldT Tryz.prog 311 0).getD default) (by kernel_rfl) (by kernel_rfl) (by kernel_rfl) id off
theorem fl311_0 (cs : List Value) : afield Tryz.prog 311 (.agg cs.toArray) 0 = cs[0]? := afield_one (f := (fieldT Tryz.prog 311 0).getD default) (by kernel_rfl) (by kernel_rfl) (by kernel_rfl) cs
theorem fa311_1 (id off : Nat) : afieldAddr Tryz.prog 311 (.pointer (some ⟨id, off, none⟩)) 1 = some (.pointer (some ⟨id, off + 1, none⟩)) := afieldAddr_at (n := 0) (f := (fieldT Tryz.prog 311 1).getD default) (by kernel_rfl) (by kernel_rfl) (by kernel_rfl) id off
theorem fl311_1 (cs : List Value) : afield Tryz.prog 311 (.agg cs.toArray) 1 = cs[1]? := afield_one (f := (fieldT Tryz.prog 311 1).getD default) (by kernel_rfl) (by kernel_rfl) (by kernel_rfl) cs
theorem fa311_2 (id off : Nat) : afieldAddr Tryz.prog 311 (.pointer (some ⟨id, off, none⟩)) 2 = some (.pointer (some ⟨id, off + 2, none⟩)) := afieldAddr_at (n := 0) (f := (fieldT Tryz.prog 311 2).getD default) (by kernel_rfl) (by kernel_rfl) (by kernel_rfl) id off
theorem fl311_2 (cs : List Value) : afield Tryz.prog 311 (.agg cs.toArray) 2 = cs[2]? := afield_one (f := (fieldT Tryz.prog 311 2).getD default) (by kernel_rfl) (by kernel_rfl) (by kernel_rfl) cs
theorem sz358 : szT Tryz.prog 358 = some 1 := by kernel_rfl
theorem ag358 : aggT Tryz.prog 358 = some true := by kernel_rfl
theorem ze358 : zeroT Tryz.prog 358 = some (.agg #[.slice none 0 0]) := by kernel_rfl
theorem pz358 : plainV 100 (.agg #[.slice none 0 0]) = true := by kernel_rfl
theorem inf358 : ∃ i, Tryz.prog.info? 358 = some i ∧ i.zero = some (.agg #[.slice none 0 0]) ∧ i.size = 1 ∧ i.bytes = 24 := by
  have h : (Tryz.prog.info? 358).map (fun i => (i.zero, i.size, i.bytes)) = some (some (.agg #[.slice none 0 0]), 1, 24) := by kernel_rfl
  obtain ⟨i, h1, h2⟩ := Option.map_eq_some_iff.1 h
  simp only [Prod.mk.injEq] at h2
  exact ⟨i, h1, h2.1, h2.2.1, h2.2.2⟩
theorem st358 (H : AHeap) (id off : Nat) (x : Value) : astoreT Tryz.prog H 358 (.pointer (some ⟨id, off, none⟩)) x = if x.cells.size = 1 ∧ x.cells.toList.all oneCell = true then ((H[id]?).bind (rowStore off x.cells.toList)).map fun o => H.set id o else none := astore_rule sz358 H id off x
theorem fa358_0 (id off : Nat) : afieldAddr Tryz.prog 358 (.pointer (some ⟨id, off, none⟩)) 0 = some (.pointer (some ⟨id, off + 0, none⟩)) := afieldAddr_at (n := 0) (f := (fieldT Tryz.prog 358 0).getD default) (by kernel_rfl) (by kernel_rfl) (by kernel_rfl) id off
theorem fl358_0 (cs : List Value) : afield Tryz.prog 358 (.agg cs.toArray) 0 = cs[0]? := afield_one (f := (fieldT Tryz.prog 358 0).getD default) (by kernel_rfl) (by kernel_rfl) (by kernel_rfl) cs
theorem sz359 : szT Tryz.prog 359 = some 1 := by kernel_rfl
theorem ag359 : aggT Tryz.prog 359 = some true := by kernel_rfl
theorem ze359 : zeroT Tryz.prog 359 = some (.agg #[.slice none 0 0]) := by kernel_rfl
theorem inf359 : ∃ i, Tryz.prog.info? 359 = some i ∧ i.zero = some (.agg #[.slice none 0 0]) ∧ i.size = 1 ∧ i.bytes = 24 := by
  have h : (Tryz.prog.info? 359).map (fun i => (i.zero, i.size, i.bytes)) = some (some (.agg #[.slice none 0 0]), 1, 24) := by kernel_rfl
  obtain ⟨i, h1, h2⟩ := Option.map_eq_some_iff.1 h
  simp only [Prod.mk.injEq] at h2
  exact ⟨i, h1, h2.1, h2.2.1, h2.2.2⟩
theorem st359 (H : AHeap) (id off : Nat) (x : Value) : astoreT Tryz.prog H 359 (.pointer (some ⟨id, off, none⟩)) x = if x.cells.size = 1 ∧ x.cells.toList.all oneCell = true then ((H[id]?).bind (rowStore off x.cells.toList)).map fun o => H.set id o else none := astore_rule sz359 H id off x
theorem fa359_0 (id off : Nat) : afieldAddr Tryz.prog 359 (.pointer (some ⟨id, off, none⟩)) 0 = some (.pointer (some ⟨id, off + 0, none⟩)) := afieldAddr_at (n := 0) (f := (fieldT Tryz.prog 359 0).getD default) (by kernel_rfl) (by kernel_rfl) (by kernel_rfl) id off
theorem fl359_0 (cs : List Value) : afield Tryz.prog 359 (.agg cs.toArray) 0 = cs[0]? := afield_one (f := (fieldT Tryz.prog 359 0).getD default) (by kernel_rfl) (by kernel_rfl) (by kernel_rfl) cs
theorem sz469 : szT Tryz.prog 469 = some 4 := by kernel_rfl
theorem ag469 : aggT Tryz.prog 469 = some true := by kernel_rfl
theorem ze469 : zeroT Tryz.prog 469 = some (.agg #[.int .i64 0, .slice none 0 0, .int .i64 0, .int .i64 0]) := by kernel_rfl
theorem pz469 : plainV 100 (.agg #[.int .i64 0, .slice none 0 0, .int .i64 0, .int .i64 0]) = true := by kernel_rfl
theorem inf469 : ∃ i, Tryz.prog.info? 469 = some i ∧ i.zero = some (.agg #[.int .i64 0, .slice none 0 0, .int .i64 0, .int .i64 0]) ∧ i.size = 4 ∧ i.bytes = 48 := by
  have h : (Tryz.prog.info? 469).map (fun i => (i.zero, i.size, i.bytes)) = some (some (.agg #[.int .i64 0, .slice none 0 0, .int .i64 0, .int .i64 0]), 4, 48) := by kernel_rfl
  obtain ⟨i, h1, h2⟩ := Option.map_eq_some_iff.1 h
  simp only [Prod.mk.injEq] at h2
  exact ⟨i, h1, h2.1, h2.2.1, h2.2.2⟩
theorem st469 (H : AHeap) (id off : Nat) (x : Value) : astoreT Tryz.prog H 469 (.pointer (some ⟨id, off, none⟩)) x = if x.cells.size = 4 ∧ x.cells.toList.all oneCell = true then ((H[id]?).bind (rowStore off x.cells.toList)).map fun o => H.set id o else none := astore_rule sz469 H id off x
theorem fa469_0 (id off : Nat) : afieldAddr Tryz.prog 469 (.pointer (some ⟨id, off, none⟩)) 0 = some (.pointer (some ⟨id, off + 0, none⟩)) := afieldAddr_at (n := 0) (f := (fieldT Tryz.prog 469 0).getD default) (by kernel_rfl) (by kernel_rfl) (by kernel_rfl) id off
theorem fl469_0 (cs : List Value) : afield Tryz.prog 469 (.agg cs.toArray) 0 = cs[0]? := afield_one (f := (fieldT Tryz.prog 469 0).getD default) (by kernel_rfl) (by kernel_rfl) (by kernel_rfl) cs
theorem fa469_1 (id off : Nat) : afieldAddr Tryz.prog 469 (.pointer (some ⟨id, off, none⟩)) 1 = some (.pointer (some ⟨id, off + 1, none⟩)) := afieldAddr_at (n := 0) (f := (fieldT Tryz.prog 469 1).getD default) (by kernel_rfl) (by kernel_rfl) (by kernel_rfl) id off
theorem fl469_1 (cs : List Value) : afield Tryz.prog 469 (.agg cs.toArray) 1 = cs[1]? := afield_one (f := (fieldT Tryz.prog 469 1).getD default) (by kernel_rfl) (by kernel_rfl) (by kernel_rfl) cs
theorem fa469_2 (id off : Nat) : afieldAddr Tryz.prog 469 (.pointer (some ⟨id, off, none⟩)) 2 = some (.pointer (some ⟨id, off + 2, none⟩)) := afieldAddr_at (n := 1) (f := (fieldT Tryz.prog 469 2).getD default) (by kernel_rfl) (by kernel_rfl) (by kernel_rfl) id off
theorem fl469_2 (cs : List Value) : afield Tryz.prog 469 (.agg cs.toArray) 2 = some (.agg ((cs.drop 2).take 2).toArray) := afield_agg (f := (fieldT Tryz.prog 469 2).getD default) (by kernel_rfl) (by kernel_rfl) (by kernel_rfl) (by kernel_rfl) cs
theorem sz470 : szT Tryz.prog 470 = some 4 := by kernel_rfl
theorem ag470 : aggT Tryz.prog 470 = some true := by kernel_rfl
theorem ze470 : zeroT Tryz.prog 470 = some (.agg #[.int .i64 0, .slice none 0 0, .int .i64 0, .int .i64 0]) := by kernel_rfl
theorem inf470 : ∃ i, Tryz.prog.info? 470 = some i ∧ i.zero = some (.agg #[.int .i64 0, .slice none 0 0, .int .i64 0, .int .i64 0]) ∧ i.size = 4 ∧ i.bytes = 48 := by
  have h : (Tryz.prog.info? 470).map (fun i => (i.zero, i.size, i.bytes)) = some (some (.agg #[.int .i64 0, .slice none 0 0, .int .i64 0, .int .i64 0]), 4, 48) := by kernel_rfl
  obtain ⟨i, h1, h2⟩ := Option.map_eq_some_iff.1 h
  simp only [Prod.mk.injEq] at h2
  exact ⟨i, h1, h2.1, h2.2.1, h2.2.2⟩
theorem st470 (H : AHeap) (id off : Nat) (x : Value) : astoreT Tryz.prog H 470 (.pointer (some ⟨id, off, none⟩)) x = if x.cells.size = 4 ∧ x.cells.toList.all oneCell = true then ((H[id]?).bind (rowStore off x.cells.toList)).map fun o => H.set id o else none := astore_rule sz470 H id off x
theorem fa470_0 (id off : Nat) : afieldAddr Tryz.prog 470 (.pointer (some ⟨id, off, none⟩)) 0 = some (.pointer (some ⟨id, off + 0, none⟩)) := afieldAddr_at (n := 0) (f := (fieldT Tryz.prog 470 0).getD default) (by kernel_rfl) (by kernel_rfl) (by kernel_rfl) id off
theorem fl470_0 (cs : List Value) : afield Tryz.prog 470 (.agg cs.toArray) 0 = cs[0]? := afield_one (f := (fieldT Tryz.prog 470 0).getD default) (by kernel_rfl) (by kernel_rfl) (by kernel_rfl) cs
theorem fa470_1 (id off : Nat) : afieldAddr Tryz.prog 470 (.pointer (some ⟨id, off, none⟩)) 1 = some (.pointer (some ⟨id, off + 1, none⟩)) := afieldAddr_at (n := 0) (f := (fieldT Tryz.prog 470 1).getD default) (by kernel_rfl) (by kernel_rfl) (by kernel_rfl) id off
theorem fl470_1 (cs : List Value) : afield Tryz.prog 470 (.agg cs.toArray) 1 = cs[1]? := afield_one (f := (fieldT Tryz.prog 470 1).getD default) (by kernel_rfl) (by kernel_rfl) (by kernel_rfl) cs
theorem fa470_2 (id off : Nat) : afieldAddr Tryz.prog 470 (.pointer (some ⟨id, off, none⟩)) 2 = some (.pointer (some ⟨id, off + 2, none⟩)) := afieldAddr_at (n := 1) (f := (fieldT Tryz.prog 470 2).getD default) (by kernel_rfl) (by kernel_rfl) (by kernel_rfl) id off
theorem fl470_2 (cs : List Value) : afield Tryz.prog 470 (.agg cs.toArray) 2 = some (.agg ((cs.drop 2).take 2).toArray) := afield_agg (f := (fieldT Tryz.prog 470 2).getD default) (by kernel_rfl) (by kernel_rfl) (by kernel_rfl) (by kernel_rfl) cs
theorem sz476 : szT Tryz.prog 476 = some 2 := by kernel_rfl
theorem ag476 : aggT Tryz.prog 476 = some true := by kernel_rfl
theorem ze476 : zeroT Tryz.prog 476 = some (.agg #[.string ByteArray.empty, .slice none 0 0]) := by kernel_rfl
theorem pz476 : plainV 100 (.agg #[.string ByteArray.empty, .slice none 0 0]) = true := by kernel_rfl
theorem inf476 : ∃ i, Tryz.prog.info? 476 = some i ∧ i.zero = some (.agg #[.string ByteArray.empty, .slice none 0 0]) ∧ i.size = 2 ∧ i.bytes = 40 := by
  have h : (Tryz.prog.info? 476).map (fun i => (i.zero, i.size, i.bytes)) = some (some (.agg #[.string ByteArray.empty, .slice none 0 0]), 2, 40) := by kernel_rfl
  obtain ⟨i, h1, h2⟩ := Option.map_eq_some_iff.1 h
  simp only [Prod.mk.injEq] at h2
  exact ⟨i, h1, h2.1, h2.2.1, h2.2.2⟩
theorem st476 (H : AHeap) (id off : Nat) (x : Value) : astoreT Tryz.prog H 476 (.pointer (some ⟨id, off, none⟩)) x = if x.cells.size = 2 ∧ x.cells.toList.all oneCell = true then ((H[id]?).bind (rowStore off x.cells.toList)).map fun o => H.set id o else none := astore_rule sz476 H id off x
theorem fa476_0 (id off : Nat) : afieldAddr Tryz.prog 476 (.pointer (some ⟨id, off, none⟩)) 0 = some (.pointer (some ⟨id, off + 0, none⟩)) := afieldAddr_at (n := 0) (f := (fieldT Tryz.prog 476 0).getD default) (by kernel_rfl) (by kernel_rfl) (by kernel_rfl) id off
theorem fl476_0 (cs : List Value) : afield Tryz.prog 476 (.agg cs.toArray) 0 = cs[0]? := afield_one (f := (fieldT Tryz.prog 476 0).getD default) (by kernel_rfl) (by kernel_rfl) (by kernel_rfl) cs
theorem fa476_1 (id off : Nat) : afieldAddr Tryz.prog 476 (.pointer (some ⟨id, off, none⟩)) 1 = some (.pointer (some ⟨id, off + 1, none⟩)) := afieldAddr_at (n := 0) (f := (fieldT Tryz.prog 476 1).getD default) (by kernel_rfl) (by kernel_rfl) (by kernel_rfl) id off
theorem fl476_1 (cs : List Value) : afield Tryz.prog 476 (.agg cs.toArray) 1 = cs[1]? := afield_one (f := (fieldT Tryz.prog 476 1).getD default) (by kernel_rfl) (by kernel_rfl) (by kernel_rfl) cs
theorem sz477 : szT Tryz.prog 477 = some 2 := by kernel_rfl
theorem ag477 : aggT Tryz.prog 477 = some true := by kernel_rfl
theorem ze477 : zeroT Tryz.prog 477 = some (.agg #[.string ByteArray.empty, .slice none 0 0]) := by kernel_rfl
theorem inf477 : ∃ i, Tryz.prog.info? 477 = some i ∧ i.zero = some (.agg #[.string ByteArray.empty, .slice none 0 0]) ∧ i.size = 2 ∧ i.bytes = 40 := by
  have h : (Tryz.prog.info? 477).map (fun i => (i.zero, i.size, i.bytes)) = some (some (.agg #[.string ByteArray.empty, .slice none 0 0]), 2, 40) := by kernel_rfl
  obtain ⟨i, h1, h2⟩ := Option.map_eq_some_iff.1 h
  simp only [Prod.mk.injEq] at h2
  exact ⟨i, h1, h2.1, h2.2.1, h2.2.2⟩
theorem st477 (H : AHeap) (id off : Nat) (x : Value) : astoreT Tryz.prog H 477 (.pointer (some ⟨id, off, none⟩)) x = if x.cells.size = 2 ∧ x.cells.toList.all oneCell = true then ((H[id]?).bind (rowStore off x.cells.toList)).map fun o => H.set id o else none := astore_rule sz477 H id off x
theorem fa477_0 (id off : Nat) : afieldAddr Tryz.prog 477 (.pointer (some ⟨id, off, none⟩)) 0 = some (.pointer (some ⟨id, off + 0, none⟩)) := afieldAddr_at (n := 0) (f := (fieldT Tryz.prog 477 0).getD default) (by kernel_rfl) (by kernel_rfl) (by kernel_rfl) id off
theorem fl477_0 (cs : List Value) : afield Tryz.prog 477 (.agg cs.toArray) 0 = cs[0]? := afield_one (f := (fieldT Tryz.prog 477 0).getD default) (by kernel_rfl) (by kernel_rfl) (by kernel_rfl) cs
theorem fa477_1 (id off : Nat) : afieldAddr Tryz.prog 477 (.pointer (some ⟨id, off, none⟩)) 1 = some (.pointer (some ⟨id, off + 1, none⟩)) := afieldAddr_at (n := 0) (f := (fieldT Tryz.prog 477 1).getD default) (by kernel_rfl) (by kernel_rfl) (by kernel_rfl) id off
theorem fl477_1 (cs : List Value) : afield Tryz.prog 477 (.agg cs.toArray) 1 = cs[1]? := afield_one (f := (fieldT Tryz.prog 477 1).getD default) (by kernel_rfl) (by kernel_rfl) (by kernel_rfl) cs
end Go.Proofs.YtpehfhnmcpdllaaGreatDoor
