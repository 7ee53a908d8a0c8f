/-
  The seat's types, as walks ask for them: written by program (gen/seat.py).
-/
import Derived.Test.YtahopobanopkfaaGreatDoorAwMore
import Derived.Test.YtahopobanopkfaaGreatDoorAwLoop
import Derived.Test.YtahopobanopkfaaGreatDoorProg
set_option linter.unusedVariables false
set_option linter.unusedSimpArgs false
namespace Go.Proofs.YtahopobanopkfaaGreatDoor
open Go Go.AW
set_option linter.unusedSimpArgs false
theorem mixed : Tryz.prog.follows .mixedOrders = true := by kernel_rfl
theorem sz2 : szT Tryz.prog 2 = some 1 := by kernel_rfl
theorem ag2 : aggT Tryz.prog 2 = some false := by kernel_rfl
theorem ze2 : zeroT Tryz.prog 2 = some (.int .i64 0) := by kernel_rfl
theorem pz2 : plainV 100 (.int .i64 0) = true := by kernel_rfl
theorem inf2 : ∃ i, Tryz.prog.info? 2 = some i ∧ i.zero = some (.int .i64 0) ∧ i.size = 1 ∧ i.bytes = 8 := by
  have h : (Tryz.prog.info? 2).map (fun i => (i.zero, i.size, i.bytes)) = some (some (.int .i64 0), 1, 8) := by kernel_rfl
  obtain ⟨i, h1, h2⟩ := Option.map_eq_some_iff.1 h
  simp only [Prod.mk.injEq] at h2
  exact ⟨i, h1, h2.1, h2.2.1, h2.2.2⟩
theorem st2 (H : AHeap) (id off : Nat) (x : Value) : astoreT Tryz.prog H 2 (.pointer (some ⟨id, off, none⟩)) x = if x.cells.size = 1 ∧ x.cells.toList.all oneCell = true then ((H[id]?).bind (rowStore off x.cells.toList)).map fun o => H.set id o else none := astore_rule sz2 H id off x
theorem kd2 : kindT Tryz.prog 2 = .int .i64 := by kernel_rfl
theorem sz3 : szT Tryz.prog 3 = some 1 := by kernel_rfl
theorem ag3 : aggT Tryz.prog 3 = some false := by kernel_rfl
theorem ze3 : zeroT Tryz.prog 3 = some (.int .i64 0) := by kernel_rfl
theorem inf3 : ∃ i, Tryz.prog.info? 3 = some i ∧ i.zero = some (.int .i64 0) ∧ i.size = 1 ∧ i.bytes = 8 := by
  have h : (Tryz.prog.info? 3).map (fun i => (i.zero, i.size, i.bytes)) = some (some (.int .i64 0), 1, 8) := by kernel_rfl
  obtain ⟨i, h1, h2⟩ := Option.map_eq_some_iff.1 h
  simp only [Prod.mk.injEq] at h2
  exact ⟨i, h1, h2.1, h2.2.1, h2.2.2⟩
theorem st3 (H : AHeap) (id off : Nat) (x : Value) : astoreT Tryz.prog H 3 (.pointer (some ⟨id, off, none⟩)) x = if x.cells.size = 1 ∧ x.cells.toList.all oneCell = true then ((H[id]?).bind (rowStore off x.cells.toList)).map fun o => H.set id o else none := astore_rule sz3 H id off x
theorem kd3 : kindT Tryz.prog 3 = .int .i64 := by kernel_rfl
theorem sz4 : szT Tryz.prog 4 = some 1 := by kernel_rfl
theorem ag4 : aggT Tryz.prog 4 = some false := by kernel_rfl
theorem ze4 : zeroT Tryz.prog 4 = some (.bool false) := by kernel_rfl
theorem pz4 : plainV 100 (.bool false) = true := by kernel_rfl
theorem inf4 : ∃ i, Tryz.prog.info? 4 = some i ∧ i.zero = some (.bool false) ∧ i.size = 1 ∧ i.bytes = 1 := by
  have h : (Tryz.prog.info? 4).map (fun i => (i.zero, i.size, i.bytes)) = some (some (.bool false), 1, 1) := by kernel_rfl
  obtain ⟨i, h1, h2⟩ := Option.map_eq_some_iff.1 h
  simp only [Prod.mk.injEq] at h2
  exact ⟨i, h1, h2.1, h2.2.1, h2.2.2⟩
theorem st4 (H : AHeap) (id off : Nat) (x : Value) : astoreT Tryz.prog H 4 (.pointer (some ⟨id, off, none⟩)) x = if x.cells.size = 1 ∧ x.cells.toList.all oneCell = true then ((H[id]?).bind (rowStore off x.cells.toList)).map fun o => H.set id o else none := astore_rule sz4 H id off x
theorem en4 (H : AHeap) (xo yo : Operand) (a b : Bool) : abin Tryz.prog H .eql 4 xo yo (.bool a) (.bool b) = some (.bool (a == b)) := abin_eq_bool (by kernel_rfl) H xo yo a b
theorem nn4 (H : AHeap) (xo yo : Operand) (a b : Bool) : abin Tryz.prog H .neq 4 xo yo (.bool a) (.bool b) = some (.bool !(a == b)) := abin_ne_bool (by kernel_rfl) H xo yo a b
theorem sz5 : szT Tryz.prog 5 = some 1 := by kernel_rfl
theorem ag5 : aggT Tryz.prog 5 = some false := by kernel_rfl
theorem ze5 : zeroT Tryz.prog 5 = some (.int .u8 0) := by kernel_rfl
theorem pz5 : plainV 100 (.int .u8 0) = true := by kernel_rfl
theorem inf5 : ∃ i, Tryz.prog.info? 5 = some i ∧ i.zero = some (.int .u8 0) ∧ i.size = 1 ∧ i.bytes = 1 := by
  have h : (Tryz.prog.info? 5).map (fun i => (i.zero, i.size, i.bytes)) = some (some (.int .u8 0), 1, 1) := by kernel_rfl
  obtain ⟨i, h1, h2⟩ := Option.map_eq_some_iff.1 h
  simp only [Prod.mk.injEq] at h2
  exact ⟨i, h1, h2.1, h2.2.1, h2.2.2⟩
theorem st5 (H : AHeap) (id off : Nat) (x : Value) : astoreT Tryz.prog H 5 (.pointer (some ⟨id, off, none⟩)) x = if x.cells.size = 1 ∧ x.cells.toList.all oneCell = true then ((H[id]?).bind (rowStore off x.cells.toList)).map fun o => H.set id o else none := astore_rule sz5 H id off x
theorem kd5 : kindT Tryz.prog 5 = .int .u8 := by kernel_rfl
theorem sz6 : szT Tryz.prog 6 = some 1 := by kernel_rfl
theorem ag6 : aggT Tryz.prog 6 = some false := by kernel_rfl
theorem ze6 : zeroT Tryz.prog 6 = some (.int .u8 0) := by kernel_rfl
theorem inf6 : ∃ i, Tryz.prog.info? 6 = some i ∧ i.zero = some (.int .u8 0) ∧ i.size = 1 ∧ i.bytes = 1 := by
  have h : (Tryz.prog.info? 6).map (fun i => (i.zero, i.size, i.bytes)) = some (some (.int .u8 0), 1, 1) := by kernel_rfl
  obtain ⟨i, h1, h2⟩ := Option.map_eq_some_iff.1 h
  simp only [Prod.mk.injEq] at h2
  exact ⟨i, h1, h2.1, h2.2.1, h2.2.2⟩
theorem st6 (H : AHeap) (id off : Nat) (x : Value) : astoreT Tryz.prog H 6 (.pointer (some ⟨id, off, none⟩)) x = if x.cells.size = 1 ∧ x.cells.toList.all oneCell = true then ((H[id]?).bind (rowStore off x.cells.toList)).map fun o => H.set id o else none := astore_rule sz6 H id off x
theorem kd6 : kindT Tryz.prog 6 = .int .u8 := by kernel_rfl
theorem sz7 : szT Tryz.prog 7 = some 4 := by kernel_rfl
theorem ag7 : aggT Tryz.prog 7 = some true := by kernel_rfl
theorem ze7 : zeroT Tryz.prog 7 = some (.agg #[.int .i64 0, .int .i64 0, .bool false, .int .u8 0]) := by kernel_rfl
theorem pz7 : plainV 100 (.agg #[.int .i64 0, .int .i64 0, .bool false, .int .u8 0]) = true := by kernel_rfl
theorem inf7 : ∃ i, Tryz.prog.info? 7 = some i ∧ i.zero = some (.agg #[.int .i64 0, .int .i64 0, .bool false, .int .u8 0]) ∧ i.size = 4 ∧ i.bytes = 24 := by
  have h : (Tryz.prog.info? 7).map (fun i => (i.zero, i.size, i.bytes)) = some (some (.agg #[.int .i64 0, .int .i64 0, .bool false, .int .u8 0]), 4, 24) := by kernel_rfl
  obtain ⟨i, h1, h2⟩ := Option.map_eq_some_iff.1 h
  simp only [Prod.mk.injEq] at h2
  exact ⟨i, h1, h2.1, h2.2.1, h2.2.2⟩
theorem st7 (H : AHeap) (id off : Nat) (x : Value) : astoreT Tryz.prog H 7 (.pointer (some ⟨id, off, none⟩)) x = if x.cells.size = 4 ∧ x.cells.toList.all oneCell = true then ((H[id]?).bind (rowStore off x.cells.toList)).map fun o => H.set id o else none := astore_rule sz7 H id off x
theorem fa7_0 (id off : Nat) : afieldAddr Tryz.prog 7 (.pointer (some ⟨id, off, none⟩)) 0 = some (.pointer (some ⟨id, off + 0, none⟩)) := afieldAddr_at (n := 0) (f := (fieldT Tryz.prog 7 0).getD default) (by kernel_rfl) (by kernel_rfl) (by kernel_rfl) id off
theorem fl7_0 (cs : List Value) : afield Tryz.prog 7 (.agg cs.toArray) 0 = cs[0]? := afield_one (f := (fieldT Tryz.prog 7 0).getD default) (by kernel_rfl) (by kernel_rfl) (by kernel_rfl) cs
theorem fa7_1 (id off : Nat) : afieldAddr Tryz.prog 7 (.pointer (some ⟨id, off, none⟩)) 1 = some (.pointer (some ⟨id, off + 1, none⟩)) := afieldAddr_at (n := 0) (f := (fieldT Tryz.prog 7 1).getD default) (by kernel_rfl) (by kernel_rfl) (by kernel_rfl) id off
theorem fl7_1 (cs : List Value) : afield Tryz.prog 7 (.agg cs.toArray) 1 = cs[1]? := afield_one (f := (fieldT Tryz.prog 7 1).getD default) (by kernel_rfl) (by kernel_rfl) (by kernel_rfl) cs
theorem fa7_2 (id off : Nat) : afieldAddr Tryz.prog 7 (.pointer (some ⟨id, off, none⟩)) 2 = some (.pointer (some ⟨id, off + 2, none⟩)) := afieldAddr_at (n := 0) (f := (fieldT Tryz.prog 7 2).getD default) (by kernel_rfl) (by kernel_rfl) (by kernel_rfl) id off
theorem fl7_2 (cs : List Value) : afield Tryz.prog 7 (.agg cs.toArray) 2 = cs[2]? := afield_one (f := (fieldT Tryz.prog 7 2).getD default) (by kernel_rfl) (by kernel_rfl) (by kernel_rfl) cs
theorem fa7_3 (id off : Nat) : afieldAddr Tryz.prog 7 (.pointer (some ⟨id, off, none⟩)) 3 = some (.pointer (some ⟨id, off + 3, none⟩)) := afieldAddr_at (n := 0) (f := (fieldT Tryz.prog 7 3).getD default) (by kernel_rfl) (by kernel_rfl) (by kernel_rfl) id off
theorem fl7_3 (cs : List Value) : afield Tryz.prog 7 (.agg cs.toArray) 3 = cs[3]? := afield_one (f := (fieldT Tryz.prog 7 3).getD default) (by kernel_rfl) (by kernel_rfl) (by kernel_rfl) cs
theorem sz8 : szT Tryz.prog 8 = some 4 := by kernel_rfl
theorem ag8 : aggT Tryz.prog 8 = some true := by kernel_rfl
theorem ze8 : zeroT Tryz.prog 8 = some (.agg #[.int .i64 0, .int .i64 0, .bool false, .int .u8 0]) := by kernel_rfl
theorem inf8 : ∃ i, Tryz.prog.info? 8 = some i ∧ i.zero = some (.agg #[.int .i64 0, .int .i64 0, .bool false, .int .u8 0]) ∧ i.size = 4 ∧ i.bytes = 24 := by
  have h : (Tryz.prog.info? 8).map (fun i => (i.zero, i.size, i.bytes)) = some (some (.agg #[.int .i64 0, .int .i64 0, .bool false, .int .u8 0]), 4, 24) := by kernel_rfl
  obtain ⟨i, h1, h2⟩ := Option.map_eq_some_iff.1 h
  simp only [Prod.mk.injEq] at h2
  exact ⟨i, h1, h2.1, h2.2.1, h2.2.2⟩
theorem st8 (H : AHeap) (id off : Nat) (x : Value) : astoreT Tryz.prog H 8 (.pointer (some ⟨id, off, none⟩)) x = if x.cells.size = 4 ∧ x.cells.toList.all oneCell = true then ((H[id]?).bind (rowStore off x.cells.toList)).map fun o => H.set id o else none := astore_rule sz8 H id off x
theorem fa8_0 (id off : Nat) : afieldAddr Tryz.prog 8 (.pointer (some ⟨id, off, none⟩)) 0 = some (.pointer (some ⟨id, off + 0, none⟩)) := afieldAddr_at (n := 0) (f := (fieldT Tryz.prog 8 0).getD default) (by kernel_rfl) (by kernel_rfl) (by kernel_rfl) id off
theorem fl8_0 (cs : List Value) : afield Tryz.prog 8 (.agg cs.toArray) 0 = cs[0]? := afield_one (f := (fieldT Tryz.prog 8 0).getD default) (by kernel_rfl) (by kernel_rfl) (by kernel_rfl) cs
theorem fa8_1 (id off : Nat) : afieldAddr Tryz.prog 8 (.pointer (some ⟨id, off, none⟩)) 1 = some (.pointer (some ⟨id, off + 1, none⟩)) := afieldAddr_at (n := 0) (f := (fieldT Tryz.prog 8 1).getD default) (by kernel_rfl) (by kernel_rfl) (by kernel_rfl) id off
theorem fl8_1 (cs : List Value) : afield Tryz.prog 8 (.agg cs.toArray) 1 = cs[1]? := afield_one (f := (fieldT Tryz.prog 8 1).getD default) (by kernel_rfl) (by kernel_rfl) (by kernel_rfl) cs
theorem fa8_2 (id off : Nat) : afieldAddr Tryz.prog 8 (.pointer (some ⟨id, off, none⟩)) 2 = some (.pointer (some ⟨id, off + 2, none⟩)) := afieldAddr_at (n := 0) (f := (fieldT Tryz.prog 8 2).getD default) (by kernel_rfl) (by kernel_rfl) (by kernel_rfl) id off
theorem fl8_2 (cs : List Value) : afield Tryz.prog 8 (.agg cs.toArray) 2 = cs[2]? := afield_one (f := (fieldT Tryz.prog 8 2).getD default) (by kernel_rfl) (by kernel_rfl) (by kernel_rfl) cs
theorem fa8_3 (id off : Nat) : afieldAddr Tryz.prog 8 (.pointer (some ⟨id, off, none⟩)) 3 = some (.pointer (some ⟨id, off + 3, none⟩)) := afieldAddr_at (n := 0) (f := (fieldT Tryz.prog 8 3).getD default) (by kernel_rfl) (by kernel_rfl) (by kernel_rfl) id off
theorem fl8_3 (cs : List Value) : afield Tryz.prog 8 (.agg cs.toArray) 3 = cs[3]? := afield_one (f := (fieldT Tryz.prog 8 3).getD default) (by kernel_rfl) (by kernel_rfl) (by kernel_rfl) cs
theorem sz9 : szT Tryz.prog 9 = some 1 := by kernel_rfl
theorem ag9 : aggT Tryz.prog 9 = some false := by kernel_rfl
theorem ze9 : zeroT Tryz.prog 9 = some (.string ByteArray.empty) := by kernel_rfl
theorem pz9 : plainV 100 (.string ByteArray.empty) = true := by kernel_rfl
theorem inf9 : ∃ i, Tryz.prog.info? 9 = some i ∧ i.zero = some (.string ByteArray.empty) ∧ i.size = 1 ∧ i.bytes = 16 := by
  have h : (Tryz.prog.info? 9).map (fun i => (i.zero, i.size, i.bytes)) = some (some (.string ByteArray.empty), 1, 16) := by kernel_rfl
  obtain ⟨i, h1, h2⟩ := Option.map_eq_some_iff.1 h
  simp only [Prod.mk.injEq] at h2
  exact ⟨i, h1, h2.1, h2.2.1, h2.2.2⟩
theorem st9 (H : AHeap) (id off : Nat) (x : Value) : astoreT Tryz.prog H 9 (.pointer (some ⟨id, off, none⟩)) x = if x.cells.size = 1 ∧ x.cells.toList.all oneCell = true then ((H[id]?).bind (rowStore off x.cells.toList)).map fun o => H.set id o else none := astore_rule sz9 H id off x
theorem kd9 : kindT Tryz.prog 9 = .str := by kernel_rfl
theorem sz10 : szT Tryz.prog 10 = some 1 := by kernel_rfl
theorem ag10 : aggT Tryz.prog 10 = some false := by kernel_rfl
theorem ze10 : zeroT Tryz.prog 10 = some (.string ByteArray.empty) := by kernel_rfl
theorem inf10 : ∃ i, Tryz.prog.info? 10 = some i ∧ i.zero = some (.string ByteArray.empty) ∧ i.size = 1 ∧ i.bytes = 16 := by
  have h : (Tryz.prog.info? 10).map (fun i => (i.zero, i.size, i.bytes)) = some (some (.string ByteArray.empty), 1, 16) := by kernel_rfl
  obtain ⟨i, h1, h2⟩ := Option.map_eq_some_iff.1 h
  simp only [Prod.mk.injEq] at h2
  exact ⟨i, h1, h2.1, h2.2.1, h2.2.2⟩
theorem st10 (H : AHeap) (id off : Nat) (x : Value) : astoreT Tryz.prog H 10 (.pointer (some ⟨id, off, none⟩)) x = if x.cells.size = 1 ∧ x.cells.toList.all oneCell = true then ((H[id]?).bind (rowStore off x.cells.toList)).map fun o => H.set id o else none := astore_rule sz10 H id off x
theorem kd10 : kindT Tryz.prog 10 = .str := by kernel_rfl
theorem sz11 : szT Tryz.prog 11 = some 1 := by kernel_rfl
theorem ag11 : aggT Tryz.prog 11 = some false := by kernel_rfl
theorem ze11 : zeroT Tryz.prog 11 = some (.string ByteArray.empty) := by kernel_rfl
theorem inf11 : ∃ i, Tryz.prog.info? 11 = some i ∧ i.zero = some (.string ByteArray.empty) ∧ i.size = 1 ∧ i.bytes = 16 := by
  have h : (Tryz.prog.info? 11).map (fun i => (i.zero, i.size, i.bytes)) = some (some (.string ByteArray.empty), 1, 16) := by kernel_rfl
  obtain ⟨i, h1, h2⟩ := Option.map_eq_some_iff.1 h
  simp only [Prod.mk.injEq] at h2
  exact ⟨i, h1, h2.1, h2.2.1, h2.2.2⟩
theorem st11 (H : AHeap) (id off : Nat) (x : Value) : astoreT Tryz.prog H 11 (.pointer (some ⟨id, off, none⟩)) x = if x.cells.size = 1 ∧ x.cells.toList.all oneCell = true then ((H[id]?).bind (rowStore off x.cells.toList)).map fun o => H.set id o else none := astore_rule sz11 H id off x
theorem kd11 : kindT Tryz.prog 11 = .str := by kernel_rfl
theorem sz12 : szT Tryz.prog 12 = some 1 := by kernel_rfl
theorem ag12 : aggT Tryz.prog 12 = some false := by kernel_rfl
theorem ze12 : zeroT Tryz.prog 12 = some (.int .u64 0) := by kernel_rfl
theorem pz12 : plainV 100 (.int .u64 0) = true := by kernel_rfl
theorem inf12 : ∃ i, Tryz.prog.info? 12 = some i ∧ i.zero = some (.int .u64 0) ∧ i.size = 1 ∧ i.bytes = 8 := by
  have h : (Tryz.prog.info? 12).map (fun i => (i.zero, i.size, i.bytes)) = some (some (.int .u64 0), 1, 8) := by kernel_rfl
  obtain ⟨i, h1, h2⟩ := Option.map_eq_some_iff.1 h
  simp only [Prod.mk.injEq] at h2
  exact ⟨i, h1, h2.1, h2.2.1, h2.2.2⟩
theorem st12 (H : AHeap) (id off : Nat) (x : Value) : astoreT Tryz.prog H 12 (.pointer (some ⟨id, off, none⟩)) x = if x.cells.size = 1 ∧ x.cells.toList.all oneCell = true then ((H[id]?).bind (rowStore off x.cells.toList)).map fun o => H.set id o else none := astore_rule sz12 H id off x
theorem kd12 : kindT Tryz.prog 12 = .int .u64 := by kernel_rfl
theorem sz13 : szT Tryz.prog 13 = some 2 := by kernel_rfl
theorem ag13 : aggT Tryz.prog 13 = some true := by kernel_rfl
theorem ze13 : zeroT Tryz.prog 13 = some (.agg #[.string ByteArray.empty, .int .u64 0]) := by kernel_rfl
theorem pz13 : plainV 100 (.agg #[.string ByteArray.empty, .int .u64 0]) = true := by kernel_rfl
theorem inf13 : ∃ i, Tryz.prog.info? 13 = some i ∧ i.zero = some (.agg #[.string ByteArray.empty, .int .u64 0]) ∧ i.size = 2 ∧ i.bytes = 24 := by
  have h : (Tryz.prog.info? 13).map (fun i => (i.zero, i.size, i.bytes)) = some (some (.agg #[.string ByteArray.empty, .int .u64 0]), 2, 24) := by kernel_rfl
  obtain ⟨i, h1, h2⟩ := Option.map_eq_some_iff.1 h
  simp only [Prod.mk.injEq] at h2
  exact ⟨i, h1, h2.1, h2.2.1, h2.2.2⟩
theorem st13 (H : AHeap) (id off : Nat) (x : Value) : astoreT Tryz.prog H 13 (.pointer (some ⟨id, off, none⟩)) x = if x.cells.size = 2 ∧ x.cells.toList.all oneCell = true then ((H[id]?).bind (rowStore off x.cells.toList)).map fun o => H.set id o else none := astore_rule sz13 H id off x
theorem fa13_0 (id off : Nat) : afieldAddr Tryz.prog 13 (.pointer (some ⟨id, off, none⟩)) 0 = some (.pointer (some ⟨id, off + 0, none⟩)) := afieldAddr_at (n := 0) (f := (fieldT Tryz.prog 13 0).getD default) (by kernel_rfl) (by kernel_rfl) (by kernel_rfl) id off
theorem fl13_0 (cs : List Value) : afield Tryz.prog 13 (.agg cs.toArray) 0 = cs[0]? := afield_one (f := (fieldT Tryz.prog 13 0).getD default) (by kernel_rfl) (by kernel_rfl) (by kernel_rfl) cs
theorem fa13_1 (id off : Nat) : afieldAddr Tryz.prog 13 (.pointer (some ⟨id, off, none⟩)) 1 = some (.pointer (some ⟨id, off + 1, none⟩)) := afieldAddr_at (n := 0) (f := (fieldT Tryz.prog 13 1).getD default) (by kernel_rfl) (by kernel_rfl) (by kernel_rfl) id off
theorem fl13_1 (cs : List Value) : afield Tryz.prog 13 (.agg cs.toArray) 1 = cs[1]? := afield_one (f := (fieldT Tryz.prog 13 1).getD default) (by kernel_rfl) (by kernel_rfl) (by kernel_rfl) cs
theorem sz14 : szT Tryz.prog 14 = some 2 := by kernel_rfl
theorem ag14 : aggT Tryz.prog 14 = some true := by kernel_rfl
theorem ze14 : zeroT Tryz.prog 14 = some (.agg #[.string ByteArray.empty, .int .u64 0]) := by kernel_rfl
theorem inf14 : ∃ i, Tryz.prog.info? 14 = some i ∧ i.zero = some (.agg #[.string ByteArray.empty, .int .u64 0]) ∧ i.size = 2 ∧ i.bytes = 24 := by
  have h : (Tryz.prog.info? 14).map (fun i => (i.zero, i.size, i.bytes)) = some (some (.agg #[.string ByteArray.empty, .int .u64 0]), 2, 24) := by kernel_rfl
  obtain ⟨i, h1, h2⟩ := Option.map_eq_some_iff.1 h
  simp only [Prod.mk.injEq] at h2
  exact ⟨i, h1, h2.1, h2.2.1, h2.2.2⟩
theorem st14 (H : AHeap) (id off : Nat) (x : Value) : astoreT Tryz.prog H 14 (.pointer (some ⟨id, off, none⟩)) x = if x.cells.size = 2 ∧ x.cells.toList.all oneCell = true then ((H[id]?).bind (rowStore off x.cells.toList)).map fun o => H.set id o else none := astore_rule sz14 H id off x
theorem fa14_0 (id off : Nat) : afieldAddr Tryz.prog 14 (.pointer (some ⟨id, off, none⟩)) 0 = some (.pointer (some ⟨id, off + 0, none⟩)) := afieldAddr_at (n := 0) (f := (fieldT Tryz.prog 14 0).getD default) (by kernel_rfl) (by kernel_rfl) (by kernel_rfl) id off
theorem fl14_0 (cs : List Value) : afield Tryz.prog 14 (.agg cs.toArray) 0 = cs[0]? := afield_one (f := (fieldT Tryz.prog 14 0).getD default) (by kernel_rfl) (by kernel_rfl) (by kernel_rfl) cs
theorem fa14_1 (id off : Nat) : afieldAddr Tryz.prog 14 (.pointer (some ⟨id, off, none⟩)) 1 = some (.pointer (some ⟨id, off + 1, none⟩)) := afieldAddr_at (n := 0) (f := (fieldT Tryz.prog 14 1).getD default) (by kernel_rfl) (by kernel_rfl) (by kernel_rfl) id off
theorem fl14_1 (cs : List Value) : afield Tryz.prog 14 (.agg cs.toArray) 1 = cs[1]? := afield_one (f := (fieldT Tryz.prog 14 1).getD default) (by kernel_rfl) (by kernel_rfl) (by kernel_rfl) cs
theorem sz20 : szT Tryz.prog 20 = some 1 := by kernel_rfl
theorem ag20 : aggT Tryz.prog 20 = some false := by kernel_rfl
theorem ze20 : zeroT Tryz.prog 20 = some (.nilIface) := by kernel_rfl
theorem pz20 : plainV 100 (.nilIface) = true := by kernel_rfl
theorem inf20 : ∃ i, Tryz.prog.info? 20 = some i ∧ i.zero = some (.nilIface) ∧ i.size = 1 ∧ i.bytes = 16 := by
  have h : (Tryz.prog.info? 20).map (fun i => (i.zero, i.size, i.bytes)) = some (some (.nilIface), 1, 16) := by kernel_rfl
  obtain ⟨i, h1, h2⟩ := Option.map_eq_some_iff.1 h
  simp only [Prod.mk.injEq] at h2
  exact ⟨i, h1, h2.1, h2.2.1, h2.2.2⟩
theorem st20 (H : AHeap) (id off : Nat) (x : Value) : astoreT Tryz.prog H 20 (.pointer (some ⟨id, off, none⟩)) x = if x.cells.size = 1 ∧ x.cells.toList.all oneCell = true then ((H[id]?).bind (rowStore off x.cells.toList)).map fun o => H.set id o else none := astore_rule sz20 H id off x
theorem enz20 (H : AHeap) (xo : Operand) (w : Value) : abin Tryz.prog H .eql 20 xo (.const w) .nilIface .nilIface = some (.bool true) := abin_eq_if0 (by kernel_rfl) H xo w
theorem eno20 (H : AHeap) (xo yo : Operand) (u : TypeId) (v : Value) : abin Tryz.prog H .eql 20 xo yo (.iface u v) .nilIface = some (.bool false) := abin_eq_if1 (by kernel_rfl) H xo yo u v
theorem nnz20 (H : AHeap) (xo : Operand) (w : Value) : abin Tryz.prog H .neq 20 xo (.const w) .nilIface .nilIface = some (.bool false) := abin_ne_if0 (by kernel_rfl) H xo w
theorem nno20 (H : AHeap) (xo yo : Operand) (u : TypeId) (v : Value) : abin Tryz.prog H .neq 20 xo yo (.iface u v) .nilIface = some (.bool true) := abin_ne_if1 (by kernel_rfl) H xo yo u v
theorem sz22 : szT Tryz.prog 22 = some 2 := by kernel_rfl
theorem ag22 : aggT Tryz.prog 22 = some true := by kernel_rfl
theorem ze22 : zeroT Tryz.prog 22 = some (.agg #[.int .i64 0, .int .i64 0]) := by kernel_rfl
theorem pz22 : plainV 100 (.agg #[.int .i64 0, .int .i64 0]) = true := by kernel_rfl
theorem inf22 : ∃ i, Tryz.prog.info? 22 = some i ∧ i.zero = some (.agg #[.int .i64 0, .int .i64 0]) ∧ i.size = 2 ∧ i.bytes = 16 := by
  have h : (Tryz.prog.info? 22).map (fun i => (i.zero, i.size, i.bytes)) = some (some (.agg #[.int .i64 0, .int .i64 0]), 2, 16) := by kernel_rfl
  obtain ⟨i, h1, h2⟩ := Option.map_eq_some_iff.1 h
  simp only [Prod.mk.injEq] at h2
  exact ⟨i, h1, h2.1, h2.2.1, h2.2.2⟩
theorem st22 (H : AHeap) (id off : Nat) (x : Value) : astoreT Tryz.prog H 22 (.pointer (some ⟨id, off, none⟩)) x = if x.cells.size = 2 ∧ x.cells.toList.all oneCell = true then ((H[id]?).bind (rowStore off x.cells.toList)).map fun o => H.set id o else none := astore_rule sz22 H id off x
theorem fa22_0 (id off : Nat) : afieldAddr Tryz.prog 22 (.pointer (some ⟨id, off, none⟩)) 0 = some (.pointer (some ⟨id, off + 0, none⟩)) := afieldAddr_at (n := 0) (f := (fieldT Tryz.prog 22 0).getD default) (by kernel_rfl) (by kernel_rfl) (by kernel_rfl) id off
theorem fl22_0 (cs : List Value) : afield Tryz.prog 22 (.agg cs.toArray) 0 = cs[0]? := afield_one (f := (fieldT Tryz.prog 22 0).getD default) (by kernel_rfl) (by kernel_rfl) (by kernel_rfl) cs
theorem fa22_1 (id off : Nat) : afieldAddr Tryz.prog 22 (.pointer (some ⟨id, off, none⟩)) 1 = some (.pointer (some ⟨id, off + 1, none⟩)) := afieldAddr_at (n := 0) (f := (fieldT Tryz.prog 22 1).getD default) (by kernel_rfl) (by kernel_rfl) (by kernel_rfl) id off
theorem fl22_1 (cs : List Value) : afield Tryz.prog 22 (.agg cs.toArray) 1 = cs[1]? := afield_one (f := (fieldT Tryz.prog 22 1).getD default) (by kernel_rfl) (by kernel_rfl) (by kernel_rfl) cs
theorem sz23 : szT Tryz.prog 23 = some 2 := by kernel_rfl
theorem ag23 : aggT Tryz.prog 23 = some true := by kernel_rfl
theorem ze23 : zeroT Tryz.prog 23 = some (.agg #[.int .i64 0, .int .i64 0]) := by kernel_rfl
theorem inf23 : ∃ i, Tryz.prog.info? 23 = some i ∧ i.zero = some (.agg #[.int .i64 0, .int .i64 0]) ∧ i.size = 2 ∧ i.bytes = 16 := by
  have h : (Tryz.prog.info? 23).map (fun i => (i.zero, i.size, i.bytes)) = some (some (.agg #[.int .i64 0, .int .i64 0]), 2, 16) := by kernel_rfl
  obtain ⟨i, h1, h2⟩ := Option.map_eq_some_iff.1 h
  simp only [Prod.mk.injEq] at h2
  exact ⟨i, h1, h2.1, h2.2.1, h2.2.2⟩
theorem st23 (H : AHeap) (id off : Nat) (x : Value) : astoreT Tryz.prog H 23 (.pointer (some ⟨id, off, none⟩)) x = if x.cells.size = 2 ∧ x.cells.toList.all oneCell = true then ((H[id]?).bind (rowStore off x.cells.toList)).map fun o => H.set id o else none := astore_rule sz23 H id off x
theorem fa23_0 (id off : Nat) : afieldAddr Tryz.prog 23 (.pointer (some ⟨id, off, none⟩)) 0 = some (.pointer (some ⟨id, off + 0, none⟩)) := afieldAddr_at (n := 0) (f := (fieldT Tryz.prog 23 0).getD default) (by kernel_rfl) (by kernel_rfl) (by kernel_rfl) id off
theorem fl23_0 (cs : List Value) : afield Tryz.prog 23 (.agg cs.toArray) 0 = cs[0]? := afield_one (f := (fieldT Tryz.prog 23 0).getD default) (by kernel_rfl) (by kernel_rfl) (by kernel_rfl) cs
theorem fa23_1 (id off : Nat) : afieldAddr Tryz.prog 23 (.pointer (some ⟨id, off, none⟩)) 1 = some (.pointer (some ⟨id, off + 1, none⟩)) := afieldAddr_at (n := 0) (f := (fieldT Tryz.prog 23 1).getD default) (by kernel_rfl) (by kernel_rfl) (by kernel_rfl) id off
theorem fl23_1 (cs : List Value) : afield Tryz.prog 23 (.agg cs.toArray) 1 = cs[1]? := afield_one (f := (fieldT Tryz.prog 23 1).getD default) (by kernel_rfl) (by kernel_rfl) (by kernel_rfl) cs
theorem sz24 : szT Tryz.prog 24 = some 10 := by kernel_rfl
theorem ag24 : aggT Tryz.prog 24 = some true := by kernel_rfl
theorem ze24 : zeroT Tryz.prog 24 = some (.agg #[.int .i64 0, .int .i64 0, .int .i64 0, .int .i64 0, .int .i64 0, .int .i64 0, .int .i64 0, .int .i64 0, .int .i64 0, .int .i64 0]) := by kernel_rfl
theorem pz24 : plainV 100 (.agg #[.int .i64 0, .int .i64 0, .int .i64 0, .int .i64 0, .int .i64 0, .int .i64 0, .int .i64 0, .int .i64 0, .int .i64 0, .int .i64 0]) = true := by kernel_rfl
theorem inf24 : ∃ i, Tryz.prog.info? 24 = some i ∧ i.zero = some (.agg #[.int .i64 0, .int .i64 0, .int .i64 0, .int .i64 0, .int .i64 0, .int .i64 0, .int .i64 0, .int .i64 0, .int .i64 0, .int .i64 0]) ∧ i.size = 10 ∧ i.bytes = 80 := by
  have h : (Tryz.prog.info? 24).map (fun i => (i.zero, i.size, i.bytes)) = some (some (.agg #[.int .i64 0, .int .i64 0, .int .i64 0, .int .i64 0, .int .i64 0, .int .i64 0, .int .i64 0, .int .i64 0, .int .i64 0, .int .i64 0]), 10, 80) := by kernel_rfl
  obtain ⟨i, h1, h2⟩ := Option.map_eq_some_iff.1 h
  simp only [Prod.mk.injEq] at h2
  exact ⟨i, h1, h2.1, h2.2.1, h2.2.2⟩
theorem st24 (H : AHeap) (id off : Nat) (x : Value) : astoreT Tryz.prog H 24 (.pointer (some ⟨id, off, none⟩)) x = if x.cells.size = 10 ∧ x.cells.toList.all oneCell = true then ((H[id]?).bind (rowStore off x.cells.toList)).map fun o => H.set id o else none := astore_rule sz24 H id off x
theorem fa24_0 (id off : Nat) : afieldAddr Tryz.prog 24 (.pointer (some ⟨id, off, none⟩)) 0 = some (.pointer (some ⟨id, off + 0, none⟩)) := afieldAddr_at (n := 1) (f := (fieldT Tryz.prog 24 0).getD default) (by kernel_rfl) (by kernel_rfl) (by kernel_rfl) id off
theorem fl24_0 (cs : List Value) : afield Tryz.prog 24 (.agg cs.toArray) 0 = some (.agg ((cs.drop 0).take 2).toArray) := afield_agg (f := (fieldT Tryz.prog 24 0).getD default) (by kernel_rfl) (by kernel_rfl) (by kernel_rfl) (by kernel_rfl) cs
theorem fa24_1 (id off : Nat) : afieldAddr Tryz.prog 24 (.pointer (some ⟨id, off, none⟩)) 1 = some (.pointer (some ⟨id, off + 2, none⟩)) := afieldAddr_at (n := 0) (f := (fieldT Tryz.prog 24 1).getD default) (by kernel_rfl) (by kernel_rfl) (by kernel_rfl) id off
theorem fl24_1 (cs : List Value) : afield Tryz.prog 24 (.agg cs.toArray) 1 = cs[2]? := afield_one (f := (fieldT Tryz.prog 24 1).getD default) (by kernel_rfl) (by kernel_rfl) (by kernel_rfl) cs
theorem fa24_2 (id off : Nat) : afieldAddr Tryz.prog 24 (.pointer (some ⟨id, off, none⟩)) 2 = some (.pointer (some ⟨id, off + 3, none⟩)) := afieldAddr_at (n := 0) (f := (fieldT Tryz.prog 24 2).getD default) (by kernel_rfl) (by kernel_rfl) (by kernel_rfl) id off
theorem fl24_2 (cs : List Value) : afield Tryz.prog 24 (.agg cs.toArray) 2 = cs[3]? := afield_one (f := (fieldT Tryz.prog 24 2).getD default) (by kernel_rfl) (by kernel_rfl) (by kernel_rfl) cs
theorem fa24_3 (id off : Nat) : afieldAddr Tryz.prog 24 (.pointer (some ⟨id, off, none⟩)) 3 = some (.pointer (some ⟨id, off + 4, none⟩)) := afieldAddr_at (n := 0) (f := (fieldT Tryz.prog 24 3).getD default) (by kernel_rfl) (by kernel_rfl) (by kernel_rfl) id off
theorem fl24_3 (cs : List Value) : afield Tryz.prog 24 (.agg cs.toArray) 3 = cs[4]? := afield_one (f := (fieldT Tryz.prog 24 3).getD default) (by kernel_rfl) (by kernel_rfl) (by kernel_rfl) cs
theorem fa24_4 (id off : Nat) : afieldAddr Tryz.prog 24 (.pointer (some ⟨id, off, none⟩)) 4 = some (.pointer (some ⟨id, off + 5, none⟩)) := afieldAddr_at (n := 0) (f := (fieldT Tryz.prog 24 4).getD default) (by kernel_rfl) (by kernel_rfl) (by kernel_rfl) id off
theorem fl24_4 (cs : List Value) : afield Tryz.prog 24 (.agg cs.toArray) 4 = cs[5]? := afield_one (f := (fieldT Tryz.prog 24 4).getD default) (by kernel_rfl) (by kernel_rfl) (by kernel_rfl) cs
theorem fa24_5 (id off : Nat) : afieldAddr Tryz.prog 24 (.pointer (some ⟨id, off, none⟩)) 5 = some (.pointer (some ⟨id, off + 6, none⟩)) := afieldAddr_at (n := 0) (f := (fieldT Tryz.prog 24 5).getD default) (by kernel_rfl) (by kernel_rfl) (by kernel_rfl) id off
theorem fl24_5 (cs : List Value) : afield Tryz.prog 24 (.agg cs.toArray) 5 = cs[6]? := afield_one (f := (fieldT Tryz.prog 24 5).getD default) (by kernel_rfl) (by kernel_rfl) (by kernel_rfl) cs
theorem fa24_6 (id off : Nat) : afieldAddr Tryz.prog 24 (.pointer (some ⟨id, off, none⟩)) 6 = some (.pointer (some ⟨id, off + 7, none⟩)) := afieldAddr_at (n := 0) (f := (fieldT Tryz.prog 24 6).getD default) (by kernel_rfl) (by kernel_rfl) (by kernel_rfl) id off
theorem fl24_6 (cs : List Value) : afield Tryz.prog 24 (.agg cs.toArray) 6 = cs[7]? := afield_one (f := (fieldT Tryz.prog 24 6).getD default) (by kernel_rfl) (by kernel_rfl) (by kernel_rfl) cs
theorem fa24_7 (id off : Nat) : afieldAddr Tryz.prog 24 (.pointer (some ⟨id, off, none⟩)) 7 = some (.pointer (some ⟨id, off + 8, none⟩)) := afieldAddr_at (n := 0) (f := (fieldT Tryz.prog 24 7).getD default) (by kernel_rfl) (by kernel_rfl) (by kernel_rfl) id off
theorem fl24_7 (cs : List Value) : afield Tryz.prog 24 (.agg cs.toArray) 7 = cs[8]? := afield_one (f := (fieldT Tryz.prog 24 7).getD default) (by kernel_rfl) (by kernel_rfl) (by kernel_rfl) cs
theorem fa24_8 (id off : Nat) : afieldAddr Tryz.prog 24 (.pointer (some ⟨id, off, none⟩)) 8 = some (.pointer (some ⟨id, off + 9, none⟩)) := afieldAddr_at (n := 0) (f := (fieldT Tryz.prog 24 8).getD default) (by kernel_rfl) (by kernel_rfl) (by kernel_rfl) id off
theorem fl24_8 (cs : List Value) : afield Tryz.prog 24 (.agg cs.toArray) 8 = cs[9]? := afield_one (f := (fieldT Tryz.prog 24 8).getD default) (by kernel_rfl) (by kernel_rfl) (by kernel_rfl) cs
theorem sz25 : szT Tryz.prog 25 = some 10 := by kernel_rfl
theorem ag25 : aggT Tryz.prog 25 = some true := by kernel_rfl
theorem ze25 : zeroT Tryz.prog 25 = some (.agg #[.int .i64 0, .int .i64 0, .int .i64 0, .int .i64 0, .int .i64 0, .int .i64 0, .int .i64 0, .int .i64 0, .int .i64 0, .int .i64 0]) := by kernel_rfl
theorem inf25 : ∃ i, Tryz.prog.info? 25 = some i ∧ i.zero = some (.agg #[.int .i64 0, .int .i64 0, .int .i64 0, .int .i64 0, .int .i64 0, .int .i64 0, .int .i64 0, .int .i64 0, .int .i64 0, .int .i64 0]) ∧ i.size = 10 ∧ i.bytes = 80 := by
  have h : (Tryz.prog.info? 25).map (fun i => (i.zero, i.size, i.bytes)) = some (some (.agg #[.int .i64 0, .int .i64 0, .int .i64 0, .int .i64 0, .int .i64 0, .int .i64 0, .int .i64 0, .int .i64 0, .int .i64 0, .int .i64 0]), 10, 80) := by kernel_rfl
  obtain ⟨i, h1, h2⟩ := Option.map_eq_some_iff.1 h
  simp only [Prod.mk.injEq] at h2
  exact ⟨i, h1, h2.1, h2.2.1, h2.2.2⟩
theorem st25 (H : AHeap) (id off : Nat) (x : Value) : astoreT Tryz.prog H 25 (.pointer (some ⟨id, off, none⟩)) x = if x.cells.size = 10 ∧ x.cells.toList.all oneCell = true then ((H[id]?).bind (rowStore off x.cells.toList)).map fun o => H.set id o else none := astore_rule sz25 H id off x
theorem fa25_0 (id off : Nat) : afieldAddr Tryz.prog 25 (.pointer (some ⟨id, off, none⟩)) 0 = some (.pointer (some ⟨id, off + 0, none⟩)) := afieldAddr_at (n := 1) (f := (fieldT Tryz.prog 25 0).getD default) (by kernel_rfl) (by kernel_rfl) (by kernel_rfl) id off
theorem fl25_0 (cs : List Value) : afield Tryz.prog 25 (.agg cs.toArray) 0 = some (.agg ((cs.drop 0).take 2).toArray) := afield_agg (f := (fieldT Tryz.prog 25 0).getD default) (by kernel_rfl) (by kernel_rfl) (by kernel_rfl) (by kernel_rfl) cs
theorem fa25_1 (id off : Nat) : afieldAddr Tryz.prog 25 (.pointer (some ⟨id, off, none⟩)) 1 = some (.pointer (some ⟨id, off + 2, none⟩)) := afieldAddr_at (n := 0) (f := (fieldT Tryz.prog 25 1).getD default) (by kernel_rfl) (by kernel_rfl) (by kernel_rfl) id off
theorem fl25_1 (cs : List Value) : afield Tryz.prog 25 (.agg cs.toArray) 1 = cs[2]? := afield_one (f := (fieldT Tryz.prog 25 1).getD default) (by kernel_rfl) (by kernel_rfl) (by kernel_rfl) cs
theorem fa25_2 (id off : Nat) : afieldAddr Tryz.prog 25 (.pointer (some ⟨id, off, none⟩)) 2 = some (.pointer (some ⟨id, off + 3, none⟩)) := afieldAddr_at (n := 0) (f := (fieldT Tryz.prog 25 2).getD default) (by kernel_rfl) (by kernel_rfl) (by kernel_rfl) id off
theorem fl25_2 (cs : List Value) : afield Tryz.prog 25 (.agg cs.toArray) 2 = cs[3]? := afield_one (f := (fieldT Tryz.prog 25 2).getD default) (by kernel_rfl) (by kernel_rfl) (by kernel_rfl) cs
theorem fa25_3 (id off : Nat) : afieldAddr Tryz.prog 25 (.pointer (some ⟨id, off, none⟩)) 3 = some (.pointer (some ⟨id, off + 4, none⟩)) := afieldAddr_at (n := 0) (f := (fieldT Tryz.prog 25 3).getD default) (by kernel_rfl) (by kernel_rfl) (by kernel_rfl) id off
theorem fl25_3 (cs : List Value) : afield Tryz.prog 25 (.agg cs.toArray) 3 = cs[4]? := afield_one (f := (fieldT Tryz.prog 25 3).getD default) (by kernel_rfl) (by kernel_rfl) (by kernel_rfl) cs
theorem fa25_4 (id off : Nat) : afieldAddr Tryz.prog 25 (.pointer (some ⟨id, off, none⟩)) 4 = some (.pointer (some ⟨id, off + 5, none⟩)) := afieldAddr_at (n := 0) (f := (fieldT Tryz.prog 25 4).getD default) (by kernel_rfl) (by kernel_rfl) (by kernel_rfl) id off
theorem fl25_4 (cs : List Value) : afield Tryz.prog 25 (.agg cs.toArray) 4 = cs[5]? := afield_one (f := (fieldT Tryz.prog 25 4).getD default) (by kernel_rfl) (by kernel_rfl) (by kernel_rfl) cs
theorem fa25_5 (id off : Nat) : afieldAddr Tryz.prog 25 (.pointer (some ⟨id, off, none⟩)) 5 = some (.pointer (some ⟨id, off + 6, none⟩)) := afieldAddr_at (n := 0) (f := (fieldT Tryz.prog 25 5).getD default) (by kernel_rfl) (by kernel_rfl) (by kernel_rfl) id off
theorem fl25_5 (cs : List Value) : afield Tryz.prog 25 (.agg cs.toArray) 5 = cs[6]? := afield_one (f := (fieldT Tryz.prog 25 5).getD default) (by kernel_rfl) (by kernel_rfl) (by kernel_rfl) cs
theorem fa25_6 (id off : Nat) : afieldAddr Tryz.prog 25 (.pointer (some ⟨id, off, none⟩)) 6 = some (.pointer (some ⟨id, off + 7, none⟩)) := afieldAddr_at (n := 0) (f := (fieldT Tryz.prog 25 6).getD default) (by kernel_rfl) (by kernel_rfl) (by kernel_rfl) id off
theorem fl25_6 (cs : List Value) : afield Tryz.prog 25 (.agg cs.toArray) 6 = cs[7]? := afield_one (f := (fieldT Tryz.prog 25 6).getD default) (by kernel_rfl) (by kernel_rfl) (by kernel_rfl) cs
theorem fa25_7 (id off : Nat) : afieldAddr Tryz.prog 25 (.pointer (some ⟨id, off, none⟩)) 7 = some (.pointer (some ⟨id, off + 8, none⟩)) := afieldAddr_at (n := 0) (f := (fieldT Tryz.prog 25 7).getD default) (by kernel_rfl) (by kernel_rfl) (by kernel_rfl) id off
theorem fl25_7 (cs : List Value) : afield Tryz.prog 25 (.agg cs.toArray) 7 = cs[8]? := afield_one (f := (fieldT Tryz.prog 25 7).getD default) (by kernel_rfl) (by kernel_rfl) (by kernel_rfl) cs
theorem fa25_8 (id off : Nat) : afieldAddr Tryz.prog 25 (.pointer (some ⟨id, off, none⟩)) 8 = some (.pointer (some ⟨id, off + 9, none⟩)) := afieldAddr_at (n := 0) (f := (fieldT Tryz.prog 25 8).getD default) (by kernel_rfl) (by kernel_rfl) (by kernel_rfl) id off
theorem fl25_8 (cs : List Value) : afield Tryz.prog 25 (.agg cs.toArray) 8 = cs[9]? := afield_one (f := (fieldT Tryz.prog 25 8).getD default) (by kernel_rfl) (by kernel_rfl) (by kernel_rfl) cs
theorem sz26 : szT Tryz.prog 26 = some 1 := by kernel_rfl
theorem ag26 : aggT Tryz.prog 26 = some false := by kernel_rfl
theorem ze26 : zeroT Tryz.prog 26 = some (.slice none 0 0) := by kernel_rfl
theorem pz26 : plainV 100 (.slice none 0 0) = true := by kernel_rfl
theorem inf26 : ∃ i, Tryz.prog.info? 26 = some i ∧ i.zero = some (.slice none 0 0) ∧ i.size = 1 ∧ i.bytes = 24 := by
  have h : (Tryz.prog.info? 26).map (fun i => (i.zero, i.size, i.bytes)) = some (some (.slice none 0 0), 1, 24) := by kernel_rfl
  obtain ⟨i, h1, h2⟩ := Option.map_eq_some_iff.1 h
  simp only [Prod.mk.injEq] at h2
  exact ⟨i, h1, h2.1, h2.2.1, h2.2.2⟩
theorem st26 (H : AHeap) (id off : Nat) (x : Value) : astoreT Tryz.prog H 26 (.pointer (some ⟨id, off, none⟩)) x = if x.cells.size = 1 ∧ x.cells.toList.all oneCell = true then ((H[id]?).bind (rowStore off x.cells.toList)).map fun o => H.set id o else none := astore_rule sz26 H id off x
theorem un26 : Tryz.prog.underlying 26 = some (.slice 3) := by kernel_rfl
theorem el26 : elemT Tryz.prog 26 = some 3 := by kernel_rfl
theorem ln26 (H : AHeap) (a : Option Addr) (m c : Nat) : alen Tryz.prog H 26 (.slice a m c) = some (.int .i64 m) := alen_slice un26 H a m c
theorem cp26 (a : Addr) (m c : Nat) : acap Tryz.prog 26 (.slice (some a) m c) = if c = 0 then none else some (.int .i64 c) := acap_slice un26 a m c
theorem ix26 (id off m c : Nat) (ik : IntKind) (i : Int) : aindexAddr Tryz.prog 26 (.slice (some ⟨id, off, none⟩) m c) (.int ik i) = if 0 ≤ i ∧ i < m then some (.pointer (some ⟨id, off + i.toNat * 1, none⟩)) else none := aindexAddr_at un26 (by kernel_rfl) id off m c ik i
theorem en26 (H : AHeap) (xo yo : Operand) (a : Option Addr) (n c m q : Nat) : abin Tryz.prog H .eql 26 xo yo (.slice a n c) (.slice none m q) = some (.bool a.isNone) := abin_eq_slnil un26 H xo yo a n c m q
theorem nn26 (H : AHeap) (xo yo : Operand) (a : Option Addr) (n c m q : Nat) : abin Tryz.prog H .neq 26 xo yo (.slice a n c) (.slice none m q) = some (.bool !a.isNone) := abin_ne_slnil un26 H xo yo a n c m q
theorem sc26 (H : AHeap) (a : Option Addr) (n c : Nat) (lo hi : Option Value) : aslice Tryz.prog H 26 (.slice a n c) lo hi none = (optB hi (some n) (capOf n c)).bind fun h => (optB lo (some 0) h).bind fun l => cut H 1 a c l h := aslice_sl un26 (by kernel_rfl) H a n c lo hi
theorem sz29 : szT Tryz.prog 29 = some 1 := by kernel_rfl
theorem ag29 : aggT Tryz.prog 29 = some false := by kernel_rfl
theorem ze29 : zeroT Tryz.prog 29 = some (.pointer none) := by kernel_rfl
theorem pz29 : plainV 100 (.pointer none) = true := by kernel_rfl
theorem inf29 : ∃ i, Tryz.prog.info? 29 = some i ∧ i.zero = some (.pointer none) ∧ i.size = 1 ∧ i.bytes = 8 := by
  have h : (Tryz.prog.info? 29).map (fun i => (i.zero, i.size, i.bytes)) = some (some (.pointer none), 1, 8) := by kernel_rfl
  obtain ⟨i, h1, h2⟩ := Option.map_eq_some_iff.1 h
  simp only [Prod.mk.injEq] at h2
  exact ⟨i, h1, h2.1, h2.2.1, h2.2.2⟩
theorem st29 (H : AHeap) (id off : Nat) (x : Value) : astoreT Tryz.prog H 29 (.pointer (some ⟨id, off, none⟩)) x = if x.cells.size = 1 ∧ x.cells.toList.all oneCell = true then ((H[id]?).bind (rowStore off x.cells.toList)).map fun o => H.set id o else none := astore_rule sz29 H id off x
theorem en29 (H : AHeap) (xo yo : Operand) (a : Option Addr) : abin Tryz.prog H .eql 29 xo yo (.pointer a) (.pointer none) = some (.bool a.isNone) := abin_eq_ptrnil (e := 87) (by kernel_rfl) H xo yo a
theorem nn29 (H : AHeap) (xo yo : Operand) (a : Option Addr) : abin Tryz.prog H .neq 29 xo yo (.pointer a) (.pointer none) = some (.bool !a.isNone) := abin_ne_ptrnil (e := 87) (by kernel_rfl) H xo yo a
theorem sz30 : szT Tryz.prog 30 = some 1 := by kernel_rfl
theorem ag30 : aggT Tryz.prog 30 = some false := by kernel_rfl
theorem ze30 : zeroT Tryz.prog 30 = some (.int .i64 0) := by kernel_rfl
theorem inf30 : ∃ i, Tryz.prog.info? 30 = some i ∧ i.zero = some (.int .i64 0) ∧ i.size = 1 ∧ i.bytes = 8 := by
  have h : (Tryz.prog.info? 30).map (fun i => (i.zero, i.size, i.bytes)) = some (some (.int .i64 0), 1, 8) := by kernel_rfl
  obtain ⟨i, h1, h2⟩ := Option.map_eq_some_iff.1 h
  simp only [Prod.mk.injEq] at h2
  exact ⟨i, h1, h2.1, h2.2.1, h2.2.2⟩
theorem st30 (H : AHeap) (id off : Nat) (x : Value) : astoreT Tryz.prog H 30 (.pointer (some ⟨id, off, none⟩)) x = if x.cells.size = 1 ∧ x.cells.toList.all oneCell = true then ((H[id]?).bind (rowStore off x.cells.toList)).map fun o => H.set id o else none := astore_rule sz30 H id off x
theorem kd30 : kindT Tryz.prog 30 = .int .i64 := by kernel_rfl
theorem sz33 : szT Tryz.prog 33 = some 1 := by kernel_rfl
theorem ag33 : aggT Tryz.prog 33 = some false := by kernel_rfl
theorem ze33 : zeroT Tryz.prog 33 = some (.pointer none) := by kernel_rfl
theorem inf33 : ∃ i, Tryz.prog.info? 33 = some i ∧ i.zero = some (.pointer none) ∧ i.size = 1 ∧ i.bytes = 8 := by
  have h : (Tryz.prog.info? 33).map (fun i => (i.zero, i.size, i.bytes)) = some (some (.pointer none), 1, 8) := by kernel_rfl
  obtain ⟨i, h1, h2⟩ := Option.map_eq_some_iff.1 h
  simp only [Prod.mk.injEq] at h2
  exact ⟨i, h1, h2.1, h2.2.1, h2.2.2⟩
theorem st33 (H : AHeap) (id off : Nat) (x : Value) : astoreT Tryz.prog H 33 (.pointer (some ⟨id, off, none⟩)) x = if x.cells.size = 1 ∧ x.cells.toList.all oneCell = true then ((H[id]?).bind (rowStore off x.cells.toList)).map fun o => H.set id o else none := astore_rule sz33 H id off x
theorem en33 (H : AHeap) (xo yo : Operand) (a : Option Addr) : abin Tryz.prog H .eql 33 xo yo (.pointer a) (.pointer none) = some (.bool a.isNone) := abin_eq_ptrnil (e := 100) (by kernel_rfl) H xo yo a
theorem nn33 (H : AHeap) (xo yo : Operand) (a : Option Addr) : abin Tryz.prog H .neq 33 xo yo (.pointer a) (.pointer none) = some (.bool !a.isNone) := abin_ne_ptrnil (e := 100) (by kernel_rfl) H xo yo a
theorem sz35 : szT Tryz.prog 35 = some 2 := by kernel_rfl
theorem ag35 : aggT Tryz.prog 35 = some true := by kernel_rfl
theorem ze35 : zeroT Tryz.prog 35 = some (.agg #[.int .i64 0, .int .i64 0]) := by kernel_rfl
theorem inf35 : ∃ i, Tryz.prog.info? 35 = some i ∧ i.zero = some (.agg #[.int .i64 0, .int .i64 0]) ∧ i.size = 2 ∧ i.bytes = 16 := by
  have h : (Tryz.prog.info? 35).map (fun i => (i.zero, i.size, i.bytes)) = some (some (.agg #[.int .i64 0, .int .i64 0]), 2, 16) := by kernel_rfl
  obtain ⟨i, h1, h2⟩ := Option.map_eq_some_iff.1 h
  simp only [Prod.mk.injEq] at h2
  exact ⟨i, h1, h2.1, h2.2.1, h2.2.2⟩
theorem st35 (H : AHeap) (id off : Nat) (x : Value) : astoreT Tryz.prog H 35 (.pointer (some ⟨id, off, none⟩)) x = if x.cells.size = 2 ∧ x.cells.toList.all oneCell = true then ((H[id]?).bind (rowStore off x.cells.toList)).map fun o => H.set id o else none := astore_rule sz35 H id off x
theorem fa35_0 (id off : Nat) : afieldAddr Tryz.prog 35 (.pointer (some ⟨id, off, none⟩)) 0 = some (.pointer (some ⟨id, off + 0, none⟩)) := afieldAddr_at (n := 0) (f := (fieldT Tryz.prog 35 0).getD default) (by kernel_rfl) (by kernel_rfl) (by kernel_rfl) id off
theorem fl35_0 (cs : List Value) : afield Tryz.prog 35 (.agg cs.toArray) 0 = cs[0]? := afield_one (f := (fieldT Tryz.prog 35 0).getD default) (by kernel_rfl) (by kernel_rfl) (by kernel_rfl) cs
theorem fa35_1 (id off : Nat) : afieldAddr Tryz.prog 35 (.pointer (some ⟨id, off, none⟩)) 1 = some (.pointer (some ⟨id, off + 1, none⟩)) := afieldAddr_at (n := 0) (f := (fieldT Tryz.prog 35 1).getD default) (by kernel_rfl) (by kernel_rfl) (by kernel_rfl) id off
theorem fl35_1 (cs : List Value) : afield Tryz.prog 35 (.agg cs.toArray) 1 = cs[1]? := afield_one (f := (fieldT Tryz.prog 35 1).getD default) (by kernel_rfl) (by kernel_rfl) (by kernel_rfl) cs
theorem sz36 : szT Tryz.prog 36 = some 2 := by kernel_rfl
theorem ag36 : aggT Tryz.prog 36 = some true := by kernel_rfl
theorem ze36 : zeroT Tryz.prog 36 = some (.agg #[.int .i64 0, .int .i64 0]) := by kernel_rfl
theorem inf36 : ∃ i, Tryz.prog.info? 36 = some i ∧ i.zero = some (.agg #[.int .i64 0, .int .i64 0]) ∧ i.size = 2 ∧ i.bytes = 16 := by
  have h : (Tryz.prog.info? 36).map (fun i => (i.zero, i.size, i.bytes)) = some (some (.agg #[.int .i64 0, .int .i64 0]), 2, 16) := by kernel_rfl
  obtain ⟨i, h1, h2⟩ := Option.map_eq_some_iff.1 h
  simp only [Prod.mk.injEq] at h2
  exact ⟨i, h1, h2.1, h2.2.1, h2.2.2⟩
theorem st36 (H : AHeap) (id off : Nat) (x : Value) : astoreT Tryz.prog H 36 (.pointer (some ⟨id, off, none⟩)) x = if x.cells.size = 2 ∧ x.cells.toList.all oneCell = true then ((H[id]?).bind (rowStore off x.cells.toList)).map fun o => H.set id o else none := astore_rule sz36 H id off x
theorem fa36_0 (id off : Nat) : afieldAddr Tryz.prog 36 (.pointer (some ⟨id, off, none⟩)) 0 = some (.pointer (some ⟨id, off + 0, none⟩)) := afieldAddr_at (n := 0) (f := (fieldT Tryz.prog 36 0).getD default) (by kernel_rfl) (by kernel_rfl) (by kernel_rfl) id off
theorem fl36_0 (cs : List Value) : afield Tryz.prog 36 (.agg cs.toArray) 0 = cs[0]? := afield_one (f := (fieldT Tryz.prog 36 0).getD default) (by kernel_rfl) (by kernel_rfl) (by kernel_rfl) cs
theorem fa36_1 (id off : Nat) : afieldAddr Tryz.prog 36 (.pointer (some ⟨id, off, none⟩)) 1 = some (.pointer (some ⟨id, off + 1, none⟩)) := afieldAddr_at (n := 0) (f := (fieldT Tryz.prog 36 1).getD default) (by kernel_rfl) (by kernel_rfl) (by kernel_rfl) id off
theorem fl36_1 (cs : List Value) : afield Tryz.prog 36 (.agg cs.toArray) 1 = cs[1]? := afield_one (f := (fieldT Tryz.prog 36 1).getD default) (by kernel_rfl) (by kernel_rfl) (by kernel_rfl) cs
theorem sz37 : szT Tryz.prog 37 = some 5 := by kernel_rfl
theorem ag37 : aggT Tryz.prog 37 = some true := by kernel_rfl
theorem ze37 : zeroT Tryz.prog 37 = some (.agg #[.int .i64 0, .int .i64 0, .int .i64 0, .int .i64 0, .int .i64 0]) := by kernel_rfl
theorem pz37 : plainV 100 (.agg #[.int .i64 0, .int .i64 0, .int .i64 0, .int .i64 0, .int .i64 0]) = true := by kernel_rfl
theorem inf37 : ∃ i, Tryz.prog.info? 37 = some i ∧ i.zero = some (.agg #[.int .i64 0, .int .i64 0, .int .i64 0, .int .i64 0, .int .i64 0]) ∧ i.size = 5 ∧ i.bytes = 40 := by
  have h : (Tryz.prog.info? 37).map (fun i => (i.zero, i.size, i.bytes)) = some (some (.agg #[.int .i64 0, .int .i64 0, .int .i64 0, .int .i64 0, .int .i64 0]), 5, 40) := by kernel_rfl
  obtain ⟨i, h1, h2⟩ := Option.map_eq_some_iff.1 h
  simp only [Prod.mk.injEq] at h2
  exact ⟨i, h1, h2.1, h2.2.1, h2.2.2⟩
theorem st37 (H : AHeap) (id off : Nat) (x : Value) : astoreT Tryz.prog H 37 (.pointer (some ⟨id, off, none⟩)) x = if x.cells.size = 5 ∧ x.cells.toList.all oneCell = true then ((H[id]?).bind (rowStore off x.cells.toList)).map fun o => H.set id o else none := astore_rule sz37 H id off x
theorem fa37_0 (id off : Nat) : afieldAddr Tryz.prog 37 (.pointer (some ⟨id, off, none⟩)) 0 = some (.pointer (some ⟨id, off + 0, none⟩)) := afieldAddr_at (n := 1) (f := (fieldT Tryz.prog 37 0).getD default) (by kernel_rfl) (by kernel_rfl) (by kernel_rfl) id off
theorem fl37_0 (cs : List Value) : afield Tryz.prog 37 (.agg cs.toArray) 0 = some (.agg ((cs.drop 0).take 2).toArray) := afield_agg (f := (fieldT Tryz.prog 37 0).getD default) (by kernel_rfl) (by kernel_rfl) (by kernel_rfl) (by kernel_rfl) cs
theorem fa37_1 (id off : Nat) : afieldAddr Tryz.prog 37 (.pointer (some ⟨id, off, none⟩)) 1 = some (.pointer (some ⟨id, off + 2, none⟩)) := afieldAddr_at (n := 0) (f := (fieldT Tryz.prog 37 1).getD default) (by kernel_rfl) (by kernel_rfl) (by kernel_rfl) id off
theorem fl37_1 (cs : List Value) : afield Tryz.prog 37 (.agg cs.toArray) 1 = cs[2]? := afield_one (f := (fieldT Tryz.prog 37 1).getD default) (by kernel_rfl) (by kernel_rfl) (by kernel_rfl) cs
theorem fa37_2 (id off : Nat) : afieldAddr Tryz.prog 37 (.pointer (some ⟨id, off, none⟩)) 2 = some (.pointer (some ⟨id, off + 3, none⟩)) := afieldAddr_at (n := 0) (f := (fieldT Tryz.prog 37 2).getD default) (by kernel_rfl) (by kernel_rfl) (by kernel_rfl) id off
theorem fl37_2 (cs : List Value) : afield Tryz.prog 37 (.agg cs.toArray) 2 = cs[3]? := afield_one (f := (fieldT Tryz.prog 37 2).getD default) (by kernel_rfl) (by kernel_rfl) (by kernel_rfl) cs
theorem fa37_3 (id off : Nat) : afieldAddr Tryz.prog 37 (.pointer (some ⟨id, off, none⟩)) 3 = some (.pointer (some ⟨id, off + 4, none⟩)) := afieldAddr_at (n := 0) (f := (fieldT Tryz.prog 37 3).getD default) (by kernel_rfl) (by kernel_rfl) (by kernel_rfl) id off
theorem fl37_3 (cs : List Value) : afield Tryz.prog 37 (.agg cs.toArray) 3 = cs[4]? := afield_one (f := (fieldT Tryz.prog 37 3).getD default) (by kernel_rfl) (by kernel_rfl) (by kernel_rfl) cs
theorem sz38 : szT Tryz.prog 38 = some 5 := by kernel_rfl
theorem ag38 : aggT Tryz.prog 38 = some true := by kernel_rfl
theorem ze38 : zeroT Tryz.prog 38 = some (.agg #[.int .i64 0, .int .i64 0, .int .i64 0, .int .i64 0, .int .i64 0]) := by kernel_rfl
theorem inf38 : ∃ i, Tryz.prog.info? 38 = some i ∧ i.zero = some (.agg #[.int .i64 0, .int .i64 0, .int .i64 0, .int .i64 0, .int .i64 0]) ∧ i.size = 5 ∧ i.bytes = 40 := by
  have h : (Tryz.prog.info? 38).map (fun i => (i.zero, i.size, i.bytes)) = some (some (.agg #[.int .i64 0, .int .i64 0, .int .i64 0, .int .i64 0, .int .i64 0]), 5, 40) := by kernel_rfl
  obtain ⟨i, h1, h2⟩ := Option.map_eq_some_iff.1 h
  simp only [Prod.mk.injEq] at h2
  exact ⟨i, h1, h2.1, h2.2.1, h2.2.2⟩
theorem st38 (H : AHeap) (id off : Nat) (x : Value) : astoreT Tryz.prog H 38 (.pointer (some ⟨id, off, none⟩)) x = if x.cells.size = 5 ∧ x.cells.toList.all oneCell = true then ((H[id]?).bind (rowStore off x.cells.toList)).map fun o => H.set id o else none := astore_rule sz38 H id off x
theorem fa38_0 (id off : Nat) : afieldAddr Tryz.prog 38 (.pointer (some ⟨id, off, none⟩)) 0 = some (.pointer (some ⟨id, off + 0, none⟩)) := afieldAddr_at (n := 1) (f := (fieldT Tryz.prog 38 0).getD default) (by kernel_rfl) (by kernel_rfl) (by kernel_rfl) id off
theorem fl38_0 (cs : List Value) : afield Tryz.prog 38 (.agg cs.toArray) 0 = some (.agg ((cs.drop 0).take 2).toArray) := afield_agg (f := (fieldT Tryz.prog 38 0).getD default) (by kernel_rfl) (by kernel_rfl) (by kernel_rfl) (by kernel_rfl) cs
theorem fa38_1 (id off : Nat) : afieldAddr Tryz.prog 38 (.pointer (some ⟨id, off, none⟩)) 1 = some (.pointer (some ⟨id, off + 2, none⟩)) := afieldAddr_at (n := 0) (f := (fieldT Tryz.prog 38 1).getD default) (by kernel_rfl) (by kernel_rfl) (by kernel_rfl) id off
theorem fl38_1 (cs : List Value) : afield Tryz.prog 38 (.agg cs.toArray) 1 = cs[2]? := afield_one (f := (fieldT Tryz.prog 38 1).getD default) (by kernel_rfl) (by kernel_rfl) (by kernel_rfl) cs
theorem fa38_2 (id off : Nat) : afieldAddr Tryz.prog 38 (.pointer (some ⟨id, off, none⟩)) 2 = some (.pointer (some ⟨id, off + 3, none⟩)) := afieldAddr_at (n := 0) (f := (fieldT Tryz.prog 38 2).getD default) (by kernel_rfl) (by kernel_rfl) (by kernel_rfl) id off
theorem fl38_2 (cs : List Value) : afield Tryz.prog 38 (.agg cs.toArray) 2 = cs[3]? := afield_one (f := (fieldT Tryz.prog 38 2).getD default) (by kernel_rfl) (by kernel_rfl) (by kernel_rfl) cs
theorem fa38_3 (id off : Nat) : afieldAddr Tryz.prog 38 (.pointer (some ⟨id, off, none⟩)) 3 = some (.pointer (some ⟨id, off + 4, none⟩)) := afieldAddr_at (n := 0) (f := (fieldT Tryz.prog 38 3).getD default) (by kernel_rfl) (by kernel_rfl) (by kernel_rfl) id off
theorem fl38_3 (cs : List Value) : afield Tryz.prog 38 (.agg cs.toArray) 3 = cs[4]? := afield_one (f := (fieldT Tryz.prog 38 3).getD default) (by kernel_rfl) (by kernel_rfl) (by kernel_rfl) cs
theorem sz39 : szT Tryz.prog 39 = some 7 := by kernel_rfl
theorem ag39 : aggT Tryz.prog 39 = some true := by kernel_rfl
theorem ze39 : zeroT Tryz.prog 39 = some (.agg #[.bool false, .int .i64 0, .int .i64 0, .int .i64 0, .int .i64 0, .int .i64 0, .int .i64 0]) := by kernel_rfl
theorem pz39 : plainV 100 (.agg #[.bool false, .int .i64 0, .int .i64 0, .int .i64 0, .int .i64 0, .int .i64 0, .int .i64 0]) = true := by kernel_rfl
theorem inf39 : ∃ i, Tryz.prog.info? 39 = some i ∧ i.zero = some (.agg #[.bool false, .int .i64 0, .int .i64 0, .int .i64 0, .int .i64 0, .int .i64 0, .int .i64 0]) ∧ i.size = 7 ∧ i.bytes = 56 := by
  have h : (Tryz.prog.info? 39).map (fun i => (i.zero, i.size, i.bytes)) = some (some (.agg #[.bool false, .int .i64 0, .int .i64 0, .int .i64 0, .int .i64 0, .int .i64 0, .int .i64 0]), 7, 56) := by kernel_rfl
  obtain ⟨i, h1, h2⟩ := Option.map_eq_some_iff.1 h
  simp only [Prod.mk.injEq] at h2
  exact ⟨i, h1, h2.1, h2.2.1, h2.2.2⟩
theorem st39 (H : AHeap) (id off : Nat) (x : Value) : astoreT Tryz.prog H 39 (.pointer (some ⟨id, off, none⟩)) x = if x.cells.size = 7 ∧ x.cells.toList.all oneCell = true then ((H[id]?).bind (rowStore off x.cells.toList)).map fun o => H.set id o else none := astore_rule sz39 H id off x
theorem fa39_0 (id off : Nat) : afieldAddr Tryz.prog 39 (.pointer (some ⟨id, off, none⟩)) 0 = some (.pointer (some ⟨id, off + 0, none⟩)) := afieldAddr_at (n := 0) (f := (fieldT Tryz.prog 39 0).getD default) (by kernel_rfl) (by kernel_rfl) (by kernel_rfl) id off
theorem fl39_0 (cs : List Value) : afield Tryz.prog 39 (.agg cs.toArray) 0 = cs[0]? := afield_one (f := (fieldT Tryz.prog 39 0).getD default) (by kernel_rfl) (by kernel_rfl) (by kernel_rfl) cs
theorem fa39_1 (id off : Nat) : afieldAddr Tryz.prog 39 (.pointer (some ⟨id, off, none⟩)) 1 = some (.pointer (some ⟨id, off + 1, none⟩)) := afieldAddr_at (n := 4) (f := (fieldT Tryz.prog 39 1).getD default) (by kernel_rfl) (by kernel_rfl) (by kernel_rfl) id off
theorem fl39_1 (cs : List Value) : afield Tryz.prog 39 (.agg cs.toArray) 1 = some (.agg ((cs.drop 1).take 5).toArray) := afield_agg (f := (fieldT Tryz.prog 39 1).getD default) (by kernel_rfl) (by kernel_rfl) (by kernel_rfl) (by kernel_rfl) cs
theorem fa39_2 (id off : Nat) : afieldAddr Tryz.prog 39 (.pointer (some ⟨id, off, none⟩)) 2 = some (.pointer (some ⟨id, off + 6, none⟩)) := afieldAddr_at (n := 0) (f := (fieldT Tryz.prog 39 2).getD default) (by kernel_rfl) (by kernel_rfl) (by kernel_rfl) id off
theorem fl39_2 (cs : List Value) : afield Tryz.prog 39 (.agg cs.toArray) 2 = cs[6]? := afield_one (f := (fieldT Tryz.prog 39 2).getD default) (by kernel_rfl) (by kernel_rfl) (by kernel_rfl) cs
theorem sz40 : szT Tryz.prog 40 = some 7 := by kernel_rfl
theorem ag40 : aggT Tryz.prog 40 = some true := by kernel_rfl
theorem ze40 : zeroT Tryz.prog 40 = some (.agg #[.bool false, .int .i64 0, .int .i64 0, .int .i64 0, .int .i64 0, .int .i64 0, .int .i64 0]) := by kernel_rfl
theorem inf40 : ∃ i, Tryz.prog.info? 40 = some i ∧ i.zero = some (.agg #[.bool false, .int .i64 0, .int .i64 0, .int .i64 0, .int .i64 0, .int .i64 0, .int .i64 0]) ∧ i.size = 7 ∧ i.bytes = 56 := by
  have h : (Tryz.prog.info? 40).map (fun i => (i.zero, i.size, i.bytes)) = some (some (.agg #[.bool false, .int .i64 0, .int .i64 0, .int .i64 0, .int .i64 0, .int .i64 0, .int .i64 0]), 7, 56) := by kernel_rfl
  obtain ⟨i, h1, h2⟩ := Option.map_eq_some_iff.1 h
  simp only [Prod.mk.injEq] at h2
  exact ⟨i, h1, h2.1, h2.2.1, h2.2.2⟩
theorem st40 (H : AHeap) (id off : Nat) (x : Value) : astoreT Tryz.prog H 40 (.pointer (some ⟨id, off, none⟩)) x = if x.cells.size = 7 ∧ x.cells.toList.all oneCell = true then ((H[id]?).bind (rowStore off x.cells.toList)).map fun o => H.set id o else none := astore_rule sz40 H id off x
theorem fa40_0 (id off : Nat) : afieldAddr Tryz.prog 40 (.pointer (some ⟨id, off, none⟩)) 0 = some (.pointer (some ⟨id, off + 0, none⟩)) := afieldAddr_at (n := 0) (f := (fieldT Tryz.prog 40 0).getD default) (by kernel_rfl) (by kernel_rfl) (by kernel_rfl) id off
theorem fl40_0 (cs : List Value) : afield Tryz.prog 40 (.agg cs.toArray) 0 = cs[0]? := afield_one (f := (fieldT Tryz.prog 40 0).getD default) (by kernel_rfl) (by kernel_rfl) (by kernel_rfl) cs
theorem fa40_1 (id off : Nat) : afieldAddr Tryz.prog 40 (.pointer (some ⟨id, off, none⟩)) 1 = some (.pointer (some ⟨id, off + 1, none⟩)) := afieldAddr_at (n := 4) (f := (fieldT Tryz.prog 40 1).getD default) (by kernel_rfl) (by kernel_rfl) (by kernel_rfl) id off
theorem fl40_1 (cs : List Value) : afield Tryz.prog 40 (.agg cs.toArray) 1 = some (.agg ((cs.drop 1).take 5).toArray) := afield_agg (f := (fieldT Tryz.prog 40 1).getD default) (by kernel_rfl) (by kernel_rfl) (by kernel_rfl) (by kernel_rfl) cs
theorem fa40_2 (id off : Nat) : afieldAddr Tryz.prog 40 (.pointer (some ⟨id, off, none⟩)) 2 = some (.pointer (some ⟨id, off + 6, none⟩)) := afieldAddr_at (n := 0) (f := (fieldT Tryz.prog 40 2).getD default) (by kernel_rfl) (by kernel_rfl) (by kernel_rfl) id off
theorem fl40_2 (cs : List Value) : afield Tryz.prog 40 (.agg cs.toArray) 2 = cs[6]? := afield_one (f := (fieldT Tryz.prog 40 2).getD default) (by kernel_rfl) (by kernel_rfl) (by kernel_rfl) cs
theorem sz41 : szT Tryz.prog 41 = some 1 := by kernel_rfl
theorem ag41 : aggT Tryz.prog 41 = some false := by kernel_rfl
theorem ze41 : zeroT Tryz.prog 41 = some (.slice none 0 0) := by kernel_rfl
theorem inf41 : ∃ i, Tryz.prog.info? 41 = some i ∧ i.zero = some (.slice none 0 0) ∧ i.size = 1 ∧ i.bytes = 24 := by
  have h : (Tryz.prog.info? 41).map (fun i => (i.zero, i.size, i.bytes)) = some (some (.slice none 0 0), 1, 24) := by kernel_rfl
  obtain ⟨i, h1, h2⟩ := Option.map_eq_some_iff.1 h
  simp only [Prod.mk.injEq] at h2
  exact ⟨i, h1, h2.1, h2.2.1, h2.2.2⟩
theorem st41 (H : AHeap) (id off : Nat) (x : Value) : astoreT Tryz.prog H 41 (.pointer (some ⟨id, off, none⟩)) x = if x.cells.size = 1 ∧ x.cells.toList.all oneCell = true then ((H[id]?).bind (rowStore off x.cells.toList)).map fun o => H.set id o else none := astore_rule sz41 H id off x
theorem un41 : Tryz.prog.underlying 41 = some (.slice 60) := by kernel_rfl
theorem el41 : elemT Tryz.prog 41 = some 60 := by kernel_rfl
theorem ln41 (H : AHeap) (a : Option Addr) (m c : Nat) : alen Tryz.prog H 41 (.slice a m c) = some (.int .i64 m) := alen_slice un41 H a m c
theorem cp41 (a : Addr) (m c : Nat) : acap Tryz.prog 41 (.slice (some a) m c) = if c = 0 then none else some (.int .i64 c) := acap_slice un41 a m c
theorem ix41 (id off m c : Nat) (ik : IntKind) (i : Int) : aindexAddr Tryz.prog 41 (.slice (some ⟨id, off, none⟩) m c) (.int ik i) = if 0 ≤ i ∧ i < m then some (.pointer (some ⟨id, off + i.toNat * 41, none⟩)) else none := aindexAddr_at un41 (by kernel_rfl) id off m c ik i
theorem en41 (H : AHeap) (xo yo : Operand) (a : Option Addr) (n c m q : Nat) : abin Tryz.prog H .eql 41 xo yo (.slice a n c) (.slice none m q) = some (.bool a.isNone) := abin_eq_slnil un41 H xo yo a n c m q
theorem nn41 (H : AHeap) (xo yo : Operand) (a : Option Addr) (n c m q : Nat) : abin Tryz.prog H .neq 41 xo yo (.slice a n c) (.slice none m q) = some (.bool !a.isNone) := abin_ne_slnil un41 H xo yo a n c m q
theorem sc41 (H : AHeap) (a : Option Addr) (n c : Nat) (lo hi : Option Value) : aslice Tryz.prog H 41 (.slice a n c) lo hi none = (optB hi (some n) (capOf n c)).bind fun h => (optB lo (some 0) h).bind fun l => cut H 41 a c l h := aslice_sl un41 (by kernel_rfl) H a n c lo hi
theorem sz43 : szT Tryz.prog 43 = some 1 := by kernel_rfl
theorem ag43 : aggT Tryz.prog 43 = some false := by kernel_rfl
theorem ze43 : zeroT Tryz.prog 43 = some (.int .u64 0) := by kernel_rfl
theorem inf43 : ∃ i, Tryz.prog.info? 43 = some i ∧ i.zero = some (.int .u64 0) ∧ i.size = 1 ∧ i.bytes = 8 := by
  have h : (Tryz.prog.info? 43).map (fun i => (i.zero, i.size, i.bytes)) = some (some (.int .u64 0), 1, 8) := by kernel_rfl
  obtain ⟨i, h1, h2⟩ := Option.map_eq_some_iff.1 h
  simp only [Prod.mk.injEq] at h2
  exact ⟨i, h1, h2.1, h2.2.1, h2.2.2⟩
theorem st43 (H : AHeap) (id off : Nat) (x : Value) : astoreT Tryz.prog H 43 (.pointer (some ⟨id, off, none⟩)) x = if x.cells.size = 1 ∧ x.cells.toList.all oneCell = true then ((H[id]?).bind (rowStore off x.cells.toList)).map fun o => H.set id o else none := astore_rule sz43 H id off x
theorem kd43 : kindT Tryz.prog 43 = .int .u64 := by kernel_rfl
theorem sz44 : szT Tryz.prog 44 = some 1 := by kernel_rfl
theorem ag44 : aggT Tryz.prog 44 = some false := by kernel_rfl
theorem ze44 : zeroT Tryz.prog 44 = some (.slice none 0 0) := by kernel_rfl
theorem inf44 : ∃ i, Tryz.prog.info? 44 = some i ∧ i.zero = some (.slice none 0 0) ∧ i.size = 1 ∧ i.bytes = 24 := by
  have h : (Tryz.prog.info? 44).map (fun i => (i.zero, i.size, i.bytes)) = some (some (.slice none 0 0), 1, 24) := by kernel_rfl
  obtain ⟨i, h1, h2⟩ := Option.map_eq_some_iff.1 h
  simp only [Prod.mk.injEq] at h2
  exact ⟨i, h1, h2.1, h2.2.1, h2.2.2⟩
theorem st44 (H : AHeap) (id off : Nat) (x : Value) : astoreT Tryz.prog H 44 (.pointer (some ⟨id, off, none⟩)) x = if x.cells.size = 1 ∧ x.cells.toList.all oneCell = true then ((H[id]?).bind (rowStore off x.cells.toList)).map fun o => H.set id o else none := astore_rule sz44 H id off x
theorem un44 : Tryz.prog.underlying 44 = some (.slice 9) := by kernel_rfl
theorem el44 : elemT Tryz.prog 44 = some 9 := by kernel_rfl
theorem ln44 (H : AHeap) (a : Option Addr) (m c : Nat) : alen Tryz.prog H 44 (.slice a m c) = some (.int .i64 m) := alen_slice un44 H a m c
theorem cp44 (a : Addr) (m c : Nat) : acap Tryz.prog 44 (.slice (some a) m c) = if c = 0 then none else some (.int .i64 c) := acap_slice un44 a m c
theorem ix44 (id off m c : Nat) (ik : IntKind) (i : Int) : aindexAddr Tryz.prog 44 (.slice (some ⟨id, off, none⟩) m c) (.int ik i) = if 0 ≤ i ∧ i < m then some (.pointer (some ⟨id, off + i.toNat * 1, none⟩)) else none := aindexAddr_at un44 (by kernel_rfl) id off m c ik i
theorem en44 (H : AHeap) (xo yo : Operand) (a : Option Addr) (n c m q : Nat) : abin Tryz.prog H .eql 44 xo yo (.slice a n c) (.slice none m q) = some (.bool a.isNone) := abin_eq_slnil un44 H xo yo a n c m q
theorem nn44 (H : AHeap) (xo yo : Operand) (a : Option Addr) (n c m q : Nat) : abin Tryz.prog H .neq 44 xo yo (.slice a n c) (.slice none m q) = some (.bool !a.isNone) := abin_ne_slnil un44 H xo yo a n c m q
theorem sc44 (H : AHeap) (a : Option Addr) (n c : Nat) (lo hi : Option Value) : aslice Tryz.prog H 44 (.slice a n c) lo hi none = (optB hi (some n) (capOf n c)).bind fun h => (optB lo (some 0) h).bind fun l => cut H 1 a c l h := aslice_sl un44 (by kernel_rfl) H a n c lo hi
theorem sz45 : szT Tryz.prog 45 = some 1 := by kernel_rfl
theorem ag45 : aggT Tryz.prog 45 = some false := by kernel_rfl
theorem ze45 : zeroT Tryz.prog 45 = some (.slice none 0 0) := by kernel_rfl
theorem inf45 : ∃ i, Tryz.prog.info? 45 = some i ∧ i.zero = some (.slice none 0 0) ∧ i.size = 1 ∧ i.bytes = 24 := by
  have h : (Tryz.prog.info? 45).map (fun i => (i.zero, i.size, i.bytes)) = some (some (.slice none 0 0), 1, 24) := by kernel_rfl
  obtain ⟨i, h1, h2⟩ := Option.map_eq_some_iff.1 h
  simp only [Prod.mk.injEq] at h2
  exact ⟨i, h1, h2.1, h2.2.1, h2.2.2⟩
theorem st45 (H : AHeap) (id off : Nat) (x : Value) : astoreT Tryz.prog H 45 (.pointer (some ⟨id, off, none⟩)) x = if x.cells.size = 1 ∧ x.cells.toList.all oneCell = true then ((H[id]?).bind (rowStore off x.cells.toList)).map fun o => H.set id o else none := astore_rule sz45 H id off x
theorem un45 : Tryz.prog.underlying 45 = some (.slice 2) := by kernel_rfl
theorem el45 : elemT Tryz.prog 45 = some 2 := by kernel_rfl
theorem ln45 (H : AHeap) (a : Option Addr) (m c : Nat) : alen Tryz.prog H 45 (.slice a m c) = some (.int .i64 m) := alen_slice un45 H a m c
theorem cp45 (a : Addr) (m c : Nat) : acap Tryz.prog 45 (.slice (some a) m c) = if c = 0 then none else some (.int .i64 c) := acap_slice un45 a m c
theorem ix45 (id off m c : Nat) (ik : IntKind) (i : Int) : aindexAddr Tryz.prog 45 (.slice (some ⟨id, off, none⟩) m c) (.int ik i) = if 0 ≤ i ∧ i < m then some (.pointer (some ⟨id, off + i.toNat * 1, none⟩)) else none := aindexAddr_at un45 (by kernel_rfl) id off m c ik i
theorem en45 (H : AHeap) (xo yo : Operand) (a : Option Addr) (n c m q : Nat) : abin Tryz.prog H .eql 45 xo yo (.slice a n c) (.slice none m q) = some (.bool a.isNone) := abin_eq_slnil un45 H xo yo a n c m q
theorem nn45 (H : AHeap) (xo yo : Operand) (a : Option Addr) (n c m q : Nat) : abin Tryz.prog H .neq 45 xo yo (.slice a n c) (.slice none m q) = some (.bool !a.isNone) := abin_ne_slnil un45 H xo yo a n c m q
theorem sc45 (H : AHeap) (a : Option Addr) (n c : Nat) (lo hi : Option Value) : aslice Tryz.prog H 45 (.slice a n c) lo hi none = (optB hi (some n) (capOf n c)).bind fun h => (optB lo (some 0) h).bind fun l => cut H 1 a c l h := aslice_sl un45 (by kernel_rfl) H a n c lo hi
theorem sz46 : szT Tryz.prog 46 = some 3 := by kernel_rfl
theorem ag46 : aggT Tryz.prog 46 = some true := by kernel_rfl
theorem ze46 : zeroT Tryz.prog 46 = some (.agg #[.int .i64 0, .slice none 0 0, .slice none 0 0]) := by kernel_rfl
theorem pz46 : plainV 100 (.agg #[.int .i64 0, .slice none 0 0, .slice none 0 0]) = true := by kernel_rfl
theorem inf46 : ∃ i, Tryz.prog.info? 46 = some i ∧ i.zero = some (.agg #[.int .i64 0, .slice none 0 0, .slice none 0 0]) ∧ i.size = 3 ∧ i.bytes = 56 := by
  have h : (Tryz.prog.info? 46).map (fun i => (i.zero, i.size, i.bytes)) = some (some (.agg #[.int .i64 0, .slice none 0 0, .slice none 0 0]), 3, 56) := by kernel_rfl
  obtain ⟨i, h1, h2⟩ := Option.map_eq_some_iff.1 h
  simp only [Prod.mk.injEq] at h2
  exact ⟨i, h1, h2.1, h2.2.1, h2.2.2⟩
theorem st46 (H : AHeap) (id off : Nat) (x : Value) : astoreT Tryz.prog H 46 (.pointer (some ⟨id, off, none⟩)) x = if x.cells.size = 3 ∧ x.cells.toList.all oneCell = true then ((H[id]?).bind (rowStore off x.cells.toList)).map fun o => H.set id o else none := astore_rule sz46 H id off x
theorem fa46_0 (id off : Nat) : afieldAddr Tryz.prog 46 (.pointer (some ⟨id, off, none⟩)) 0 = some (.pointer (some ⟨id, off + 0, none⟩)) := afieldAddr_at (n := 0) (f := (fieldT Tryz.prog 46 0).getD default) (by kernel_rfl) (by kernel_rfl) (by kernel_rfl) id off
theorem fl46_0 (cs : List Value) : afield Tryz.prog 46 (.agg cs.toArray) 0 = cs[0]? := afield_one (f := (fieldT Tryz.prog 46 0).getD default) (by kernel_rfl) (by kernel_rfl) (by kernel_rfl) cs
theorem fa46_1 (id off : Nat) : afieldAddr Tryz.prog 46 (.pointer (some ⟨id, off, none⟩)) 1 = some (.pointer (some ⟨id, off + 1, none⟩)) := afieldAddr_at (n := 0) (f := (fieldT Tryz.prog 46 1).getD default) (by kernel_rfl) (by kernel_rfl) (by kernel_rfl) id off
theorem fl46_1 (cs : List Value) : afield Tryz.prog 46 (.agg cs.toArray) 1 = cs[1]? := afield_one (f := (fieldT Tryz.prog 46 1).getD default) (by kernel_rfl) (by kernel_rfl) (by kernel_rfl) cs
theorem fa46_2 (id off : Nat) : afieldAddr Tryz.prog 46 (.pointer (some ⟨id, off, none⟩)) 2 = some (.pointer (some ⟨id, off + 2, none⟩)) := afieldAddr_at (n := 0) (f := (fieldT Tryz.prog 46 2).getD default) (by kernel_rfl) (by kernel_rfl) (by kernel_rfl) id off
theorem fl46_2 (cs : List Value) : afield Tryz.prog 46 (.agg cs.toArray) 2 = cs[2]? := afield_one (f := (fieldT Tryz.prog 46 2).getD default) (by kernel_rfl) (by kernel_rfl) (by kernel_rfl) cs
theorem sz47 : szT Tryz.prog 47 = some 3 := by kernel_rfl
theorem ag47 : aggT Tryz.prog 47 = some true := by kernel_rfl
theorem ze47 : zeroT Tryz.prog 47 = some (.agg #[.int .i64 0, .slice none 0 0, .slice none 0 0]) := by kernel_rfl
theorem inf47 : ∃ i, Tryz.prog.info? 47 = some i ∧ i.zero = some (.agg #[.int .i64 0, .slice none 0 0, .slice none 0 0]) ∧ i.size = 3 ∧ i.bytes = 56 := by
  have h : (Tryz.prog.info? 47).map (fun i => (i.zero, i.size, i.bytes)) = some (some (.agg #[.int .i64 0, .slice none 0 0, .slice none 0 0]), 3, 56) := by kernel_rfl
  obtain ⟨i, h1, h2⟩ := Option.map_eq_some_iff.1 h
  simp only [Prod.mk.injEq] at h2
  exact ⟨i, h1, h2.1, h2.2.1, h2.2.2⟩
theorem st47 (H : AHeap) (id off : Nat) (x : Value) : astoreT Tryz.prog H 47 (.pointer (some ⟨id, off, none⟩)) x = if x.cells.size = 3 ∧ x.cells.toList.all oneCell = true then ((H[id]?).bind (rowStore off x.cells.toList)).map fun o => H.set id o else none := astore_rule sz47 H id off x
theorem fa47_0 (id off : Nat) : afieldAddr Tryz.prog 47 (.pointer (some ⟨id, off, none⟩)) 0 = some (.pointer (some ⟨id, off + 0, none⟩)) := afieldAddr_at (n := 0) (f := (fieldT Tryz.prog 47 0).getD default) (by kernel_rfl) (by kernel_rfl) (by kernel_rfl) id off
theorem fl47_0 (cs : List Value) : afield Tryz.prog 47 (.agg cs.toArray) 0 = cs[0]? := afield_one (f := (fieldT Tryz.prog 47 0).getD default) (by kernel_rfl) (by kernel_rfl) (by kernel_rfl) cs
theorem fa47_1 (id off : Nat) : afieldAddr Tryz.prog 47 (.pointer (some ⟨id, off, none⟩)) 1 = some (.pointer (some ⟨id, off + 1, none⟩)) := afieldAddr_at (n := 0) (f := (fieldT Tryz.prog 47 1).getD default) (by kernel_rfl) (by kernel_rfl) (by kernel_rfl) id off
theorem fl47_1 (cs : List Value) : afield Tryz.prog 47 (.agg cs.toArray) 1 = cs[1]? := afield_one (f := (fieldT Tryz.prog 47 1).getD default) (by kernel_rfl) (by kernel_rfl) (by kernel_rfl) cs
theorem fa47_2 (id off : Nat) : afieldAddr Tryz.prog 47 (.pointer (some ⟨id, off, none⟩)) 2 = some (.pointer (some ⟨id, off + 2, none⟩)) := afieldAddr_at (n := 0) (f := (fieldT Tryz.prog 47 2).getD default) (by kernel_rfl) (by kernel_rfl) (by kernel_rfl) id off
theorem fl47_2 (cs : List Value) : afield Tryz.prog 47 (.agg cs.toArray) 2 = cs[2]? := afield_one (f := (fieldT Tryz.prog 47 2).getD default) (by kernel_rfl) (by kernel_rfl) (by kernel_rfl) cs
theorem sz48 : szT Tryz.prog 48 = some 1 := by kernel_rfl
theorem ag48 : aggT Tryz.prog 48 = some false := by kernel_rfl
theorem ze48 : zeroT Tryz.prog 48 = some (.slice none 0 0) := by kernel_rfl
theorem inf48 : ∃ i, Tryz.prog.info? 48 = some i ∧ i.zero = some (.slice none 0 0) ∧ i.size = 1 ∧ i.bytes = 24 := by
  have h : (Tryz.prog.info? 48).map (fun i => (i.zero, i.size, i.bytes)) = some (some (.slice none 0 0), 1, 24) := by kernel_rfl
  obtain ⟨i, h1, h2⟩ := Option.map_eq_some_iff.1 h
  simp only [Prod.mk.injEq] at h2
  exact ⟨i, h1, h2.1, h2.2.1, h2.2.2⟩
theorem st48 (H : AHeap) (id off : Nat) (x : Value) : astoreT Tryz.prog H 48 (.pointer (some ⟨id, off, none⟩)) x = if x.cells.size = 1 ∧ x.cells.toList.all oneCell = true then ((H[id]?).bind (rowStore off x.cells.toList)).map fun o => H.set id o else none := astore_rule sz48 H id off x
theorem un48 : Tryz.prog.underlying 48 = some (.slice 50) := by kernel_rfl
theorem el48 : elemT Tryz.prog 48 = some 50 := by kernel_rfl
theorem ln48 (H : AHeap) (a : Option Addr) (m c : Nat) : alen Tryz.prog H 48 (.slice a m c) = some (.int .i64 m) := alen_slice un48 H a m c
theorem cp48 (a : Addr) (m c : Nat) : acap Tryz.prog 48 (.slice (some a) m c) = if c = 0 then none else some (.int .i64 c) := acap_slice un48 a m c
theorem ix48 (id off m c : Nat) (ik : IntKind) (i : Int) : aindexAddr Tryz.prog 48 (.slice (some ⟨id, off, none⟩) m c) (.int ik i) = if 0 ≤ i ∧ i < m then some (.pointer (some ⟨id, off + i.toNat * 6, none⟩)) else none := aindexAddr_at un48 (by kernel_rfl) id off m c ik i
theorem en48 (H : AHeap) (xo yo : Operand) (a : Option Addr) (n c m q : Nat) : abin Tryz.prog H .eql 48 xo yo (.slice a n c) (.slice none m q) = some (.bool a.isNone) := abin_eq_slnil un48 H xo yo a n c m q
theorem nn48 (H : AHeap) (xo yo : Operand) (a : Option Addr) (n c m q : Nat) : abin Tryz.prog H .neq 48 xo yo (.slice a n c) (.slice none m q) = some (.bool !a.isNone) := abin_ne_slnil un48 H xo yo a n c m q
theorem sc48 (H : AHeap) (a : Option Addr) (n c : Nat) (lo hi : Option Value) : aslice Tryz.prog H 48 (.slice a n c) lo hi none = (optB hi (some n) (capOf n c)).bind fun h => (optB lo (some 0) h).bind fun l => cut H 6 a c l h := aslice_sl un48 (by kernel_rfl) H a n c lo hi
theorem sz49 : szT Tryz.prog 49 = some 6 := by kernel_rfl
theorem ag49 : aggT Tryz.prog 49 = some true := by kernel_rfl
theorem ze49 : zeroT Tryz.prog 49 = some (.agg #[.int .i64 0, .int .i64 0, .slice none 0 0, .int .i64 0, .int .i64 0, .slice none 0 0]) := by kernel_rfl
theorem pz49 : plainV 100 (.agg #[.int .i64 0, .int .i64 0, .slice none 0 0, .int .i64 0, .int .i64 0, .slice none 0 0]) = true := by kernel_rfl
theorem inf49 : ∃ i, Tryz.prog.info? 49 = some i ∧ i.zero = some (.agg #[.int .i64 0, .int .i64 0, .slice none 0 0, .int .i64 0, .int .i64 0, .slice none 0 0]) ∧ i.size = 6 ∧ i.bytes = 80 := by
  have h : (Tryz.prog.info? 49).map (fun i => (i.zero, i.size, i.bytes)) = some (some (.agg #[.int .i64 0, .int .i64 0, .slice none 0 0, .int .i64 0, .int .i64 0, .slice none 0 0]), 6, 80) := by kernel_rfl
  obtain ⟨i, h1, h2⟩ := Option.map_eq_some_iff.1 h
  simp only [Prod.mk.injEq] at h2
  exact ⟨i, h1, h2.1, h2.2.1, h2.2.2⟩
theorem st49 (H : AHeap) (id off : Nat) (x : Value) : astoreT Tryz.prog H 49 (.pointer (some ⟨id, off, none⟩)) x = if x.cells.size = 6 ∧ x.cells.toList.all oneCell = true then ((H[id]?).bind (rowStore off x.cells.toList)).map fun o => H.set id o else none := astore_rule sz49 H id off x
theorem fa49_0 (id off : Nat) : afieldAddr Tryz.prog 49 (.pointer (some ⟨id, off, none⟩)) 0 = some (.pointer (some ⟨id, off + 0, none⟩)) := afieldAddr_at (n := 0) (f := (fieldT Tryz.prog 49 0).getD default) (by kernel_rfl) (by kernel_rfl) (by kernel_rfl) id off
theorem fl49_0 (cs : List Value) : afield Tryz.prog 49 (.agg cs.toArray) 0 = cs[0]? := afield_one (f := (fieldT Tryz.prog 49 0).getD default) (by kernel_rfl) (by kernel_rfl) (by kernel_rfl) cs
theorem fa49_1 (id off : Nat) : afieldAddr Tryz.prog 49 (.pointer (some ⟨id, off, none⟩)) 1 = some (.pointer (some ⟨id, off + 1, none⟩)) := afieldAddr_at (n := 0) (f := (fieldT Tryz.prog 49 1).getD default) (by kernel_rfl) (by kernel_rfl) (by kernel_rfl) id off
theorem fl49_1 (cs : List Value) : afield Tryz.prog 49 (.agg cs.toArray) 1 = cs[1]? := afield_one (f := (fieldT Tryz.prog 49 1).getD default) (by kernel_rfl) (by kernel_rfl) (by kernel_rfl) cs
theorem fa49_2 (id off : Nat) : afieldAddr Tryz.prog 49 (.pointer (some ⟨id, off, none⟩)) 2 = some (.pointer (some ⟨id, off + 2, none⟩)) := afieldAddr_at (n := 0) (f := (fieldT Tryz.prog 49 2).getD default) (by kernel_rfl) (by kernel_rfl) (by kernel_rfl) id off
theorem fl49_2 (cs : List Value) : afield Tryz.prog 49 (.agg cs.toArray) 2 = cs[2]? := afield_one (f := (fieldT Tryz.prog 49 2).getD default) (by kernel_rfl) (by kernel_rfl) (by kernel_rfl) cs
theorem fa49_3 (id off : Nat) : afieldAddr Tryz.prog 49 (.pointer (some ⟨id, off, none⟩)) 3 = some (.pointer (some ⟨id, off + 3, none⟩)) := afieldAddr_at (n := 0) (f := (fieldT Tryz.prog 49 3).getD default) (by kernel_rfl) (by kernel_rfl) (by kernel_rfl) id off
theorem fl49_3 (cs : List Value) : afield Tryz.prog 49 (.agg cs.toArray) 3 = cs[3]? := afield_one (f := (fieldT Tryz.prog 49 3).getD default) (by kernel_rfl) (by kernel_rfl) (by kernel_rfl) cs
theorem fa49_4 (id off : Nat) : afieldAddr Tryz.prog 49 (.pointer (some ⟨id, off, none⟩)) 4 = some (.pointer (some ⟨id, off + 4, none⟩)) := afieldAddr_at (n := 0) (f := (fieldT Tryz.prog 49 4).getD default) (by kernel_rfl) (by kernel_rfl) (by kernel_rfl) id off
theorem fl49_4 (cs : List Value) : afield Tryz.prog 49 (.agg cs.toArray) 4 = cs[4]? := afield_one (f := (fieldT Tryz.prog 49 4).getD default) (by kernel_rfl) (by kernel_rfl) (by kernel_rfl) cs
theorem fa49_5 (id off : Nat) : afieldAddr Tryz.prog 49 (.pointer (some ⟨id, off, none⟩)) 5 = some (.pointer (some ⟨id, off + 5, none⟩)) := afieldAddr_at (n := 0) (f := (fieldT Tryz.prog 49 5).getD default) (by kernel_rfl) (by kernel_rfl) (by kernel_rfl) id off
theorem fl49_5 (cs : List Value) : afield Tryz.prog 49 (.agg cs.toArray) 5 = cs[5]? := afield_one (f := (fieldT Tryz.prog 49 5).getD default) (by kernel_rfl) (by kernel_rfl) (by kernel_rfl) cs
theorem sz50 : szT Tryz.prog 50 = some 6 := by kernel_rfl
theorem ag50 : aggT Tryz.prog 50 = some true := by kernel_rfl
theorem ze50 : zeroT Tryz.prog 50 = some (.agg #[.int .i64 0, .int .i64 0, .slice none 0 0, .int .i64 0, .int .i64 0, .slice none 0 0]) := by kernel_rfl
theorem inf50 : ∃ i, Tryz.prog.info? 50 = some i ∧ i.zero = some (.agg #[.int .i64 0, .int .i64 0, .slice none 0 0, .int .i64 0, .int .i64 0, .slice none 0 0]) ∧ i.size = 6 ∧ i.bytes = 80 := by
  have h : (Tryz.prog.info? 50).map (fun i => (i.zero, i.size, i.bytes)) = some (some (.agg #[.int .i64 0, .int .i64 0, .slice none 0 0, .int .i64 0, .int .i64 0, .slice none 0 0]), 6, 80) := by kernel_rfl
  obtain ⟨i, h1, h2⟩ := Option.map_eq_some_iff.1 h
  simp only [Prod.mk.injEq] at h2
  exact ⟨i, h1, h2.1, h2.2.1, h2.2.2⟩
theorem st50 (H : AHeap) (id off : Nat) (x : Value) : astoreT Tryz.prog H 50 (.pointer (some ⟨id, off, none⟩)) x = if x.cells.size = 6 ∧ x.cells.toList.all oneCell = true then ((H[id]?).bind (rowStore off x.cells.toList)).map fun o => H.set id o else none := astore_rule sz50 H id off x
theorem fa50_0 (id off : Nat) : afieldAddr Tryz.prog 50 (.pointer (some ⟨id, off, none⟩)) 0 = some (.pointer (some ⟨id, off + 0, none⟩)) := afieldAddr_at (n := 0) (f := (fieldT Tryz.prog 50 0).getD default) (by kernel_rfl) (by kernel_rfl) (by kernel_rfl) id off
theorem fl50_0 (cs : List Value) : afield Tryz.prog 50 (.agg cs.toArray) 0 = cs[0]? := afield_one (f := (fieldT Tryz.prog 50 0).getD default) (by kernel_rfl) (by kernel_rfl) (by kernel_rfl) cs
theorem fa50_1 (id off : Nat) : afieldAddr Tryz.prog 50 (.pointer (some ⟨id, off, none⟩)) 1 = some (.pointer (some ⟨id, off + 1, none⟩)) := afieldAddr_at (n := 0) (f := (fieldT Tryz.prog 50 1).getD default) (by kernel_rfl) (by kernel_rfl) (by kernel_rfl) id off
theorem fl50_1 (cs : List Value) : afield Tryz.prog 50 (.agg cs.toArray) 1 = cs[1]? := afield_one (f := (fieldT Tryz.prog 50 1).getD default) (by kernel_rfl) (by kernel_rfl) (by kernel_rfl) cs
theorem fa50_2 (id off : Nat) : afieldAddr Tryz.prog 50 (.pointer (some ⟨id, off, none⟩)) 2 = some (.pointer (some ⟨id, off + 2, none⟩)) := afieldAddr_at (n := 0) (f := (fieldT Tryz.prog 50 2).getD default) (by kernel_rfl) (by kernel_rfl) (by kernel_rfl) id off
theorem fl50_2 (cs : List Value) : afield Tryz.prog 50 (.agg cs.toArray) 2 = cs[2]? := afield_one (f := (fieldT Tryz.prog 50 2).getD default) (by kernel_rfl) (by kernel_rfl) (by kernel_rfl) cs
theorem fa50_3 (id off : Nat) : afieldAddr Tryz.prog 50 (.pointer (some ⟨id, off, none⟩)) 3 = some (.pointer (some ⟨id, off + 3, none⟩)) := afieldAddr_at (n := 0) (f := (fieldT Tryz.prog 50 3).getD default) (by kernel_rfl) (by kernel_rfl) (by kernel_rfl) id off
theorem fl50_3 (cs : List Value) : afield Tryz.prog 50 (.agg cs.toArray) 3 = cs[3]? := afield_one (f := (fieldT Tryz.prog 50 3).getD default) (by kernel_rfl) (by kernel_rfl) (by kernel_rfl) cs
theorem fa50_4 (id off : Nat) : afieldAddr Tryz.prog 50 (.pointer (some ⟨id, off, none⟩)) 4 = some (.pointer (some ⟨id, off + 4, none⟩)) := afieldAddr_at (n := 0) (f := (fieldT Tryz.prog 50 4).getD default) (by kernel_rfl) (by kernel_rfl) (by kernel_rfl) id off
theorem fl50_4 (cs : List Value) : afield Tryz.prog 50 (.agg cs.toArray) 4 = cs[4]? := afield_one (f := (fieldT Tryz.prog 50 4).getD default) (by kernel_rfl) (by kernel_rfl) (by kernel_rfl) cs
theorem fa50_5 (id off : Nat) : afieldAddr Tryz.prog 50 (.pointer (some ⟨id, off, none⟩)) 5 = some (.pointer (some ⟨id, off + 5, none⟩)) := afieldAddr_at (n := 0) (f := (fieldT Tryz.prog 50 5).getD default) (by kernel_rfl) (by kernel_rfl) (by kernel_rfl) id off
theorem fl50_5 (cs : List Value) : afield Tryz.prog 50 (.agg cs.toArray) 5 = cs[5]? := afield_one (f := (fieldT Tryz.prog 50 5).getD default) (by kernel_rfl) (by kernel_rfl) (by kernel_rfl) cs
theorem sz51 : szT Tryz.prog 51 = some 1 := by kernel_rfl
theorem ag51 : aggT Tryz.prog 51 = some false := by kernel_rfl
theorem ze51 : zeroT Tryz.prog 51 = some (.slice none 0 0) := by kernel_rfl
theorem inf51 : ∃ i, Tryz.prog.info? 51 = some i ∧ i.zero = some (.slice none 0 0) ∧ i.size = 1 ∧ i.bytes = 24 := by
  have h : (Tryz.prog.info? 51).map (fun i => (i.zero, i.size, i.bytes)) = some (some (.slice none 0 0), 1, 24) := by kernel_rfl
  obtain ⟨i, h1, h2⟩ := Option.map_eq_some_iff.1 h
  simp only [Prod.mk.injEq] at h2
  exact ⟨i, h1, h2.1, h2.2.1, h2.2.2⟩
theorem st51 (H : AHeap) (id off : Nat) (x : Value) : astoreT Tryz.prog H 51 (.pointer (some ⟨id, off, none⟩)) x = if x.cells.size = 1 ∧ x.cells.toList.all oneCell = true then ((H[id]?).bind (rowStore off x.cells.toList)).map fun o => H.set id o else none := astore_rule sz51 H id off x
theorem un51 : Tryz.prog.underlying 51 = some (.slice 26) := by kernel_rfl
theorem el51 : elemT Tryz.prog 51 = some 26 := by kernel_rfl
theorem ln51 (H : AHeap) (a : Option Addr) (m c : Nat) : alen Tryz.prog H 51 (.slice a m c) = some (.int .i64 m) := alen_slice un51 H a m c
theorem cp51 (a : Addr) (m c : Nat) : acap Tryz.prog 51 (.slice (some a) m c) = if c = 0 then none else some (.int .i64 c) := acap_slice un51 a m c
theorem ix51 (id off m c : Nat) (ik : IntKind) (i : Int) : aindexAddr Tryz.prog 51 (.slice (some ⟨id, off, none⟩) m c) (.int ik i) = if 0 ≤ i ∧ i < m then some (.pointer (some ⟨id, off + i.toNat * 1, none⟩)) else none := aindexAddr_at un51 (by kernel_rfl) id off m c ik i
theorem en51 (H : AHeap) (xo yo : Operand) (a : Option Addr) (n c m q : Nat) : abin Tryz.prog H .eql 51 xo yo (.slice a n c) (.slice none m q) = some (.bool a.isNone) := abin_eq_slnil un51 H xo yo a n c m q
theorem nn51 (H : AHeap) (xo yo : Operand) (a : Option Addr) (n c m q : Nat) : abin Tryz.prog H .neq 51 xo yo (.slice a n c) (.slice none m q) = some (.bool !a.isNone) := abin_ne_slnil un51 H xo yo a n c m q
theorem sc51 (H : AHeap) (a : Option Addr) (n c : Nat) (lo hi : Option Value) : aslice Tryz.prog H 51 (.slice a n c) lo hi none = (optB hi (some n) (capOf n c)).bind fun h => (optB lo (some 0) h).bind fun l => cut H 1 a c l h := aslice_sl un51 (by kernel_rfl) H a n c lo hi
theorem sz52 : szT Tryz.prog 52 = some 1 := by kernel_rfl
theorem ag52 : aggT Tryz.prog 52 = some false := by kernel_rfl
theorem ze52 : zeroT Tryz.prog 52 = some (.slice none 0 0) := by kernel_rfl
theorem inf52 : ∃ i, Tryz.prog.info? 52 = some i ∧ i.zero = some (.slice none 0 0) ∧ i.size = 1 ∧ i.bytes = 24 := by
  have h : (Tryz.prog.info? 52).map (fun i => (i.zero, i.size, i.bytes)) = some (some (.slice none 0 0), 1, 24) := by kernel_rfl
  obtain ⟨i, h1, h2⟩ := Option.map_eq_some_iff.1 h
  simp only [Prod.mk.injEq] at h2
  exact ⟨i, h1, h2.1, h2.2.1, h2.2.2⟩
theorem st52 (H : AHeap) (id off : Nat) (x : Value) : astoreT Tryz.prog H 52 (.pointer (some ⟨id, off, none⟩)) x = if x.cells.size = 1 ∧ x.cells.toList.all oneCell = true then ((H[id]?).bind (rowStore off x.cells.toList)).map fun o => H.set id o else none := astore_rule sz52 H id off x
theorem un52 : Tryz.prog.underlying 52 = some (.slice 167) := by kernel_rfl
theorem el52 : elemT Tryz.prog 52 = some 167 := by kernel_rfl
theorem ln52 (H : AHeap) (a : Option Addr) (m c : Nat) : alen Tryz.prog H 52 (.slice a m c) = some (.int .i64 m) := alen_slice un52 H a m c
theorem cp52 (a : Addr) (m c : Nat) : acap Tryz.prog 52 (.slice (some a) m c) = if c = 0 then none else some (.int .i64 c) := acap_slice un52 a m c
theorem ix52 (id off m c : Nat) (ik : IntKind) (i : Int) : aindexAddr Tryz.prog 52 (.slice (some ⟨id, off, none⟩) m c) (.int ik i) = if 0 ≤ i ∧ i < m then some (.pointer (some ⟨id, off + i.toNat * 2, none⟩)) else none := aindexAddr_at un52 (by kernel_rfl) id off m c ik i
theorem en52 (H : AHeap) (xo yo : Operand) (a : Option Addr) (n c m q : Nat) : abin Tryz.prog H .eql 52 xo yo (.slice a n c) (.slice none m q) = some (.bool a.isNone) := abin_eq_slnil un52 H xo yo a n c m q
theorem nn52 (H : AHeap) (xo yo : Operand) (a : Option Addr) (n c m q : Nat) : abin Tryz.prog H .neq 52 xo yo (.slice a n c) (.slice none m q) = some (.bool !a.isNone) := abin_ne_slnil un52 H xo yo a n c m q
theorem sc52 (H : AHeap) (a : Option Addr) (n c : Nat) (lo hi : Option Value) : aslice Tryz.prog H 52 (.slice a n c) lo hi none = (optB hi (some n) (capOf n c)).bind fun h => (optB lo (some 0) h).bind fun l => cut H 2 a c l h := aslice_sl un52 (by kernel_rfl) H a n c lo hi
theorem sz53 : szT Tryz.prog 53 = some 13 := by kernel_rfl
theorem ag53 : aggT Tryz.prog 53 = some true := by kernel_rfl
theorem ze53 : zeroT Tryz.prog 53 = some (.agg #[.int .i64 0, .int .i64 0, .int .i64 0, .int .i64 0, .slice none 0 0, .int .i64 0, .int .i64 0, .slice none 0 0, .int .i64 0, .slice none 0 0, .slice none 0 0, .int .i64 0, .int .i64 0]) := by kernel_rfl
theorem pz53 : plainV 100 (.agg #[.int .i64 0, .int .i64 0, .int .i64 0, .int .i64 0, .slice none 0 0, .int .i64 0, .int .i64 0, .slice none 0 0, .int .i64 0, .slice none 0 0, .slice none 0 0, .int .i64 0, .int .i64 0]) = true := by kernel_rfl
theorem inf53 : ∃ i, Tryz.prog.info? 53 = some i ∧ i.zero = some (.agg #[.int .i64 0, .int .i64 0, .int .i64 0, .int .i64 0, .slice none 0 0, .int .i64 0, .int .i64 0, .slice none 0 0, .int .i64 0, .slice none 0 0, .slice none 0 0, .int .i64 0, .int .i64 0]) ∧ i.size = 13 ∧ i.bytes = 168 := by
  have h : (Tryz.prog.info? 53).map (fun i => (i.zero, i.size, i.bytes)) = some (some (.agg #[.int .i64 0, .int .i64 0, .int .i64 0, .int .i64 0, .slice none 0 0, .int .i64 0, .int .i64 0, .slice none 0 0, .int .i64 0, .slice none 0 0, .slice none 0 0, .int .i64 0, .int .i64 0]), 13, 168) := by kernel_rfl
  obtain ⟨i, h1, h2⟩ := Option.map_eq_some_iff.1 h
  simp only [Prod.mk.injEq] at h2
  exact ⟨i, h1, h2.1, h2.2.1, h2.2.2⟩
theorem st53 (H : AHeap) (id off : Nat) (x : Value) : astoreT Tryz.prog H 53 (.pointer (some ⟨id, off, none⟩)) x = if x.cells.size = 13 ∧ x.cells.toList.all oneCell = true then ((H[id]?).bind (rowStore off x.cells.toList)).map fun o => H.set id o else none := astore_rule sz53 H id off x
theorem fa53_0 (id off : Nat) : afieldAddr Tryz.prog 53 (.pointer (some ⟨id, off, none⟩)) 0 = some (.pointer (some ⟨id, off + 0, none⟩)) := afieldAddr_at (n := 1) (f := (fieldT Tryz.prog 53 0).getD default) (by kernel_rfl) (by kernel_rfl) (by kernel_rfl) id off
theorem fl53_0 (cs : List Value) : afield Tryz.prog 53 (.agg cs.toArray) 0 = some (.agg ((cs.drop 0).take 2).toArray) := afield_agg (f := (fieldT Tryz.prog 53 0).getD default) (by kernel_rfl) (by kernel_rfl) (by kernel_rfl) (by kernel_rfl) cs
theorem fa53_1 (id off : Nat) : afieldAddr Tryz.prog 53 (.pointer (some ⟨id, off, none⟩)) 1 = some (.pointer (some ⟨id, off + 2, none⟩)) := afieldAddr_at (n := 5) (f := (fieldT Tryz.prog 53 1).getD default) (by kernel_rfl) (by kernel_rfl) (by kernel_rfl) id off
theorem fl53_1 (cs : List Value) : afield Tryz.prog 53 (.agg cs.toArray) 1 = some (.agg ((cs.drop 2).take 6).toArray) := afield_agg (f := (fieldT Tryz.prog 53 1).getD default) (by kernel_rfl) (by kernel_rfl) (by kernel_rfl) (by kernel_rfl) cs
theorem fa53_2 (id off : Nat) : afieldAddr Tryz.prog 53 (.pointer (some ⟨id, off, none⟩)) 2 = some (.pointer (some ⟨id, off + 8, none⟩)) := afieldAddr_at (n := 0) (f := (fieldT Tryz.prog 53 2).getD default) (by kernel_rfl) (by kernel_rfl) (by kernel_rfl) id off
theorem fl53_2 (cs : List Value) : afield Tryz.prog 53 (.agg cs.toArray) 2 = cs[8]? := afield_one (f := (fieldT Tryz.prog 53 2).getD default) (by kernel_rfl) (by kernel_rfl) (by kernel_rfl) cs
theorem fa53_3 (id off : Nat) : afieldAddr Tryz.prog 53 (.pointer (some ⟨id, off, none⟩)) 3 = some (.pointer (some ⟨id, off + 9, none⟩)) := afieldAddr_at (n := 0) (f := (fieldT Tryz.prog 53 3).getD default) (by kernel_rfl) (by kernel_rfl) (by kernel_rfl) id off
theorem fl53_3 (cs : List Value) : afield Tryz.prog 53 (.agg cs.toArray) 3 = cs[9]? := afield_one (f := (fieldT Tryz.prog 53 3).getD default) (by kernel_rfl) (by kernel_rfl) (by kernel_rfl) cs
theorem fa53_4 (id off : Nat) : afieldAddr Tryz.prog 53 (.pointer (some ⟨id, off, none⟩)) 4 = some (.pointer (some ⟨id, off + 10, none⟩)) := afieldAddr_at (n := 0) (f := (fieldT Tryz.prog 53 4).getD default) (by kernel_rfl) (by kernel_rfl) (by kernel_rfl) id off
theorem fl53_4 (cs : List Value) : afield Tryz.prog 53 (.agg cs.toArray) 4 = cs[10]? := afield_one (f := (fieldT Tryz.prog 53 4).getD default) (by kernel_rfl) (by kernel_rfl) (by kernel_rfl) cs
theorem fa53_5 (id off : Nat) : afieldAddr Tryz.prog 53 (.pointer (some ⟨id, off, none⟩)) 5 = some (.pointer (some ⟨id, off + 11, none⟩)) := afieldAddr_at (n := 0) (f := (fieldT Tryz.prog 53 5).getD default) (by kernel_rfl) (by kernel_rfl) (by kernel_rfl) id off
theorem fl53_5 (cs : List Value) : afield Tryz.prog 53 (.agg cs.toArray) 5 = cs[11]? := afield_one (f := (fieldT Tryz.prog 53 5).getD default) (by kernel_rfl) (by kernel_rfl) (by kernel_rfl) cs
theorem fa53_6 (id off : Nat) : afieldAddr Tryz.prog 53 (.pointer (some ⟨id, off, none⟩)) 6 = some (.pointer (some ⟨id, off + 12, none⟩)) := afieldAddr_at (n := 0) (f := (fieldT Tryz.prog 53 6).getD default) (by kernel_rfl) (by kernel_rfl) (by kernel_rfl) id off
theorem fl53_6 (cs : List Value) : afield Tryz.prog 53 (.agg cs.toArray) 6 = cs[12]? := afield_one (f := (fieldT Tryz.prog 53 6).getD default) (by kernel_rfl) (by kernel_rfl) (by kernel_rfl) cs
theorem sz54 : szT Tryz.prog 54 = some 13 := by kernel_rfl
theorem ag54 : aggT Tryz.prog 54 = some true := by kernel_rfl
theorem ze54 : zeroT Tryz.prog 54 = some (.agg #[.int .i64 0, .int .i64 0, .int .i64 0, .int .i64 0, .slice none 0 0, .int .i64 0, .int .i64 0, .slice none 0 0, .int .i64 0, .slice none 0 0, .slice none 0 0, .int .i64 0, .int .i64 0]) := by kernel_rfl
theorem inf54 : ∃ i, Tryz.prog.info? 54 = some i ∧ i.zero = some (.agg #[.int .i64 0, .int .i64 0, .int .i64 0, .int .i64 0, .slice none 0 0, .int .i64 0, .int .i64 0, .slice none 0 0, .int .i64 0, .slice none 0 0, .slice none 0 0, .int .i64 0, .int .i64 0]) ∧ i.size = 13 ∧ i.bytes = 168 := by
  have h : (Tryz.prog.info? 54).map (fun i => (i.zero, i.size, i.bytes)) = some (some (.agg #[.int .i64 0, .int .i64 0, .int .i64 0, .int .i64 0, .slice none 0 0, .int .i64 0, .int .i64 0, .slice none 0 0, .int .i64 0, .slice none 0 0, .slice none 0 0, .int .i64 0, .int .i64 0]), 13, 168) := by kernel_rfl
  obtain ⟨i, h1, h2⟩ := Option.map_eq_some_iff.1 h
  simp only [Prod.mk.injEq] at h2
  exact ⟨i, h1, h2.1, h2.2.1, h2.2.2⟩
theorem st54 (H : AHeap) (id off : Nat) (x : Value) : astoreT Tryz.prog H 54 (.pointer (some ⟨id, off, none⟩)) x = if x.cells.size = 13 ∧ x.cells.toList.all oneCell = true then ((H[id]?).bind (rowStore off x.cells.toList)).map fun o => H.set id o else none := astore_rule sz54 H id off x
theorem fa54_0 (id off : Nat) : afieldAddr Tryz.prog 54 (.pointer (some ⟨id, off, none⟩)) 0 = some (.pointer (some ⟨id, off + 0, none⟩)) := afieldAddr_at (n := 1) (f := (fieldT Tryz.prog 54 0).getD default) (by kernel_rfl) (by kernel_rfl) (by kernel_rfl) id off
theorem fl54_0 (cs : List Value) : afield Tryz.prog 54 (.agg cs.toArray) 0 = some (.agg ((cs.drop 0).take 2).toArray) := afield_agg (f := (fieldT Tryz.prog 54 0).getD default) (by kernel_rfl) (by kernel_rfl) (by kernel_rfl) (by kernel_rfl) cs
theorem fa54_1 (id off : Nat) : afieldAddr Tryz.prog 54 (.pointer (some ⟨id, off, none⟩)) 1 = some (.pointer (some ⟨id, off + 2, none⟩)) := afieldAddr_at (n := 5) (f := (fieldT Tryz.prog 54 1).getD default) (by kernel_rfl) (by kernel_rfl) (by kernel_rfl) id off
theorem fl54_1 (cs : List Value) : afield Tryz.prog 54 (.agg cs.toArray) 1 = some (.agg ((cs.drop 2).take 6).toArray) := afield_agg (f := (fieldT Tryz.prog 54 1).getD default) (by kernel_rfl) (by kernel_rfl) (by kernel_rfl) (by kernel_rfl) cs
theorem fa54_2 (id off : Nat) : afieldAddr Tryz.prog 54 (.pointer (some ⟨id, off, none⟩)) 2 = some (.pointer (some ⟨id, off + 8, none⟩)) := afieldAddr_at (n := 0) (f := (fieldT Tryz.prog 54 2).getD default) (by kernel_rfl) (by kernel_rfl) (by kernel_rfl) id off
theorem fl54_2 (cs : List Value) : afield Tryz.prog 54 (.agg cs.toArray) 2 = cs[8]? := afield_one (f := (fieldT Tryz.prog 54 2).getD default) (by kernel_rfl) (by kernel_rfl) (by kernel_rfl) cs
theorem fa54_3 (id off : Nat) : afieldAddr Tryz.prog 54 (.pointer (some ⟨id, off, none⟩)) 3 = some (.pointer (some ⟨id, off + 9, none⟩)) := afieldAddr_at (n := 0) (f := (fieldT Tryz.prog 54 3).getD default) (by kernel_rfl) (by kernel_rfl) (by kernel_rfl) id off
theorem fl54_3 (cs : List Value) : afield Tryz.prog 54 (.agg cs.toArray) 3 = cs[9]? := afield_one (f := (fieldT Tryz.prog 54 3).getD default) (by kernel_rfl) (by kernel_rfl) (by kernel_rfl) cs
theorem fa54_4 (id off : Nat) : afieldAddr Tryz.prog 54 (.pointer (some ⟨id, off, none⟩)) 4 = some (.pointer (some ⟨id, off + 10, none⟩)) := afieldAddr_at (n := 0) (f := (fieldT Tryz.prog 54 4).getD default) (by kernel_rfl) (by kernel_rfl) (by kernel_rfl) id off
theorem fl54_4 (cs : List Value) : afield Tryz.prog 54 (.agg cs.toArray) 4 = cs[10]? := afield_one (f := (fieldT Tryz.prog 54 4).getD default) (by kernel_rfl) (by kernel_rfl) (by kernel_rfl) cs
theorem fa54_5 (id off : Nat) : afieldAddr Tryz.prog 54 (.pointer (some ⟨id, off, none⟩)) 5 = some (.pointer (some ⟨id, off + 11, none⟩)) := afieldAddr_at (n := 0) (f := (fieldT Tryz.prog 54 5).getD default) (by kernel_rfl) (by kernel_rfl) (by kernel_rfl) id off
theorem fl54_5 (cs : List Value) : afield Tryz.prog 54 (.agg cs.toArray) 5 = cs[11]? := afield_one (f := (fieldT Tryz.prog 54 5).getD default) (by kernel_rfl) (by kernel_rfl) (by kernel_rfl) cs
theorem fa54_6 (id off : Nat) : afieldAddr Tryz.prog 54 (.pointer (some ⟨id, off, none⟩)) 6 = some (.pointer (some ⟨id, off + 12, none⟩)) := afieldAddr_at (n := 0) (f := (fieldT Tryz.prog 54 6).getD default) (by kernel_rfl) (by kernel_rfl) (by kernel_rfl) id off
theorem fl54_6 (cs : List Value) : afield Tryz.prog 54 (.agg cs.toArray) 6 = cs[12]? := afield_one (f := (fieldT Tryz.prog 54 6).getD default) (by kernel_rfl) (by kernel_rfl) (by kernel_rfl) cs
theorem sz55 : szT Tryz.prog 55 = some 7 := by kernel_rfl
theorem ag55 : aggT Tryz.prog 55 = some true := by kernel_rfl
theorem ze55 : zeroT Tryz.prog 55 = some (.agg #[.int .i64 0, .int .i64 0, .int .i64 0, .int .i64 0, .int .i64 0, .int .i64 0, .int .i64 0]) := by kernel_rfl
theorem pz55 : plainV 100 (.agg #[.int .i64 0, .int .i64 0, .int .i64 0, .int .i64 0, .int .i64 0, .int .i64 0, .int .i64 0]) = true := by kernel_rfl
theorem inf55 : ∃ i, Tryz.prog.info? 55 = some i ∧ i.zero = some (.agg #[.int .i64 0, .int .i64 0, .int .i64 0, .int .i64 0, .int .i64 0, .int .i64 0, .int .i64 0]) ∧ i.size = 7 ∧ i.bytes = 56 := by
  have h : (Tryz.prog.info? 55).map (fun i => (i.zero, i.size, i.bytes)) = some (some (.agg #[.int .i64 0, .int .i64 0, .int .i64 0, .int .i64 0, .int .i64 0, .int .i64 0, .int .i64 0]), 7, 56) := by kernel_rfl
  obtain ⟨i, h1, h2⟩ := Option.map_eq_some_iff.1 h
  simp only [Prod.mk.injEq] at h2
  exact ⟨i, h1, h2.1, h2.2.1, h2.2.2⟩
theorem st55 (H : AHeap) (id off : Nat) (x : Value) : astoreT Tryz.prog H 55 (.pointer (some ⟨id, off, none⟩)) x = if x.cells.size = 7 ∧ x.cells.toList.all oneCell = true then ((H[id]?).bind (rowStore off x.cells.toList)).map fun o => H.set id o else none := astore_rule sz55 H id off x
theorem fa55_0 (id off : Nat) : afieldAddr Tryz.prog 55 (.pointer (some ⟨id, off, none⟩)) 0 = some (.pointer (some ⟨id, off + 0, none⟩)) := afieldAddr_at (n := 4) (f := (fieldT Tryz.prog 55 0).getD default) (by kernel_rfl) (by kernel_rfl) (by kernel_rfl) id off
theorem fl55_0 (cs : List Value) : afield Tryz.prog 55 (.agg cs.toArray) 0 = some (.agg ((cs.drop 0).take 5).toArray) := afield_agg (f := (fieldT Tryz.prog 55 0).getD default) (by kernel_rfl) (by kernel_rfl) (by kernel_rfl) (by kernel_rfl) cs
theorem fa55_1 (id off : Nat) : afieldAddr Tryz.prog 55 (.pointer (some ⟨id, off, none⟩)) 1 = some (.pointer (some ⟨id, off + 5, none⟩)) := afieldAddr_at (n := 1) (f := (fieldT Tryz.prog 55 1).getD default) (by kernel_rfl) (by kernel_rfl) (by kernel_rfl) id off
theorem fl55_1 (cs : List Value) : afield Tryz.prog 55 (.agg cs.toArray) 1 = some (.agg ((cs.drop 5).take 2).toArray) := afield_agg (f := (fieldT Tryz.prog 55 1).getD default) (by kernel_rfl) (by kernel_rfl) (by kernel_rfl) (by kernel_rfl) cs
theorem sz56 : szT Tryz.prog 56 = some 7 := by kernel_rfl
theorem ag56 : aggT Tryz.prog 56 = some true := by kernel_rfl
theorem ze56 : zeroT Tryz.prog 56 = some (.agg #[.int .i64 0, .int .i64 0, .int .i64 0, .int .i64 0, .int .i64 0, .int .i64 0, .int .i64 0]) := by kernel_rfl
theorem inf56 : ∃ i, Tryz.prog.info? 56 = some i ∧ i.zero = some (.agg #[.int .i64 0, .int .i64 0, .int .i64 0, .int .i64 0, .int .i64 0, .int .i64 0, .int .i64 0]) ∧ i.size = 7 ∧ i.bytes = 56 := by
  have h : (Tryz.prog.info? 56).map (fun i => (i.zero, i.size, i.bytes)) = some (some (.agg #[.int .i64 0, .int .i64 0, .int .i64 0, .int .i64 0, .int .i64 0, .int .i64 0, .int .i64 0]), 7, 56) := by kernel_rfl
  obtain ⟨i, h1, h2⟩ := Option.map_eq_some_iff.1 h
  simp only [Prod.mk.injEq] at h2
  exact ⟨i, h1, h2.1, h2.2.1, h2.2.2⟩
theorem st56 (H : AHeap) (id off : Nat) (x : Value) : astoreT Tryz.prog H 56 (.pointer (some ⟨id, off, none⟩)) x = if x.cells.size = 7 ∧ x.cells.toList.all oneCell = true then ((H[id]?).bind (rowStore off x.cells.toList)).map fun o => H.set id o else none := astore_rule sz56 H id off x
theorem fa56_0 (id off : Nat) : afieldAddr Tryz.prog 56 (.pointer (some ⟨id, off, none⟩)) 0 = some (.pointer (some ⟨id, off + 0, none⟩)) := afieldAddr_at (n := 4) (f := (fieldT Tryz.prog 56 0).getD default) (by kernel_rfl) (by kernel_rfl) (by kernel_rfl) id off
theorem fl56_0 (cs : List Value) : afield Tryz.prog 56 (.agg cs.toArray) 0 = some (.agg ((cs.drop 0).take 5).toArray) := afield_agg (f := (fieldT Tryz.prog 56 0).getD default) (by kernel_rfl) (by kernel_rfl) (by kernel_rfl) (by kernel_rfl) cs
theorem fa56_1 (id off : Nat) : afieldAddr Tryz.prog 56 (.pointer (some ⟨id, off, none⟩)) 1 = some (.pointer (some ⟨id, off + 5, none⟩)) := afieldAddr_at (n := 1) (f := (fieldT Tryz.prog 56 1).getD default) (by kernel_rfl) (by kernel_rfl) (by kernel_rfl) id off
theorem fl56_1 (cs : List Value) : afield Tryz.prog 56 (.agg cs.toArray) 1 = some (.agg ((cs.drop 5).take 2).toArray) := afield_agg (f := (fieldT Tryz.prog 56 1).getD default) (by kernel_rfl) (by kernel_rfl) (by kernel_rfl) (by kernel_rfl) cs
theorem sz57 : szT Tryz.prog 57 = some 1 := by kernel_rfl
theorem ag57 : aggT Tryz.prog 57 = some false := by kernel_rfl
theorem ze57 : zeroT Tryz.prog 57 = some (.slice none 0 0) := by kernel_rfl
theorem inf57 : ∃ i, Tryz.prog.info? 57 = some i ∧ i.zero = some (.slice none 0 0) ∧ i.size = 1 ∧ i.bytes = 24 := by
  have h : (Tryz.prog.info? 57).map (fun i => (i.zero, i.size, i.bytes)) = some (some (.slice none 0 0), 1, 24) := by kernel_rfl
  obtain ⟨i, h1, h2⟩ := Option.map_eq_some_iff.1 h
  simp only [Prod.mk.injEq] at h2
  exact ⟨i, h1, h2.1, h2.2.1, h2.2.2⟩
theorem st57 (H : AHeap) (id off : Nat) (x : Value) : astoreT Tryz.prog H 57 (.pointer (some ⟨id, off, none⟩)) x = if x.cells.size = 1 ∧ x.cells.toList.all oneCell = true then ((H[id]?).bind (rowStore off x.cells.toList)).map fun o => H.set id o else none := astore_rule sz57 H id off x
theorem un57 : Tryz.prog.underlying 57 = some (.slice 38) := by kernel_rfl
theorem el57 : elemT Tryz.prog 57 = some 38 := by kernel_rfl
theorem ln57 (H : AHeap) (a : Option Addr) (m c : Nat) : alen Tryz.prog H 57 (.slice a m c) = some (.int .i64 m) := alen_slice un57 H a m c
theorem cp57 (a : Addr) (m c : Nat) : acap Tryz.prog 57 (.slice (some a) m c) = if c = 0 then none else some (.int .i64 c) := acap_slice un57 a m c
theorem ix57 (id off m c : Nat) (ik : IntKind) (i : Int) : aindexAddr Tryz.prog 57 (.slice (some ⟨id, off, none⟩) m c) (.int ik i) = if 0 ≤ i ∧ i < m then some (.pointer (some ⟨id, off + i.toNat * 5, none⟩)) else none := aindexAddr_at un57 (by kernel_rfl) id off m c ik i
theorem en57 (H : AHeap) (xo yo : Operand) (a : Option Addr) (n c m q : Nat) : abin Tryz.prog H .eql 57 xo yo (.slice a n c) (.slice none m q) = some (.bool a.isNone) := abin_eq_slnil un57 H xo yo a n c m q
theorem nn57 (H : AHeap) (xo yo : Operand) (a : Option Addr) (n c m q : Nat) : abin Tryz.prog H .neq 57 xo yo (.slice a n c) (.slice none m q) = some (.bool !a.isNone) := abin_ne_slnil un57 H xo yo a n c m q
theorem sc57 (H : AHeap) (a : Option Addr) (n c : Nat) (lo hi : Option Value) : aslice Tryz.prog H 57 (.slice a n c) lo hi none = (optB hi (some n) (capOf n c)).bind fun h => (optB lo (some 0) h).bind fun l => cut H 5 a c l h := aslice_sl un57 (by kernel_rfl) H a n c lo hi
theorem sz58 : szT Tryz.prog 58 = some 1 := by kernel_rfl
theorem ag58 : aggT Tryz.prog 58 = some false := by kernel_rfl
theorem ze58 : zeroT Tryz.prog 58 = some (.slice none 0 0) := by kernel_rfl
theorem inf58 : ∃ i, Tryz.prog.info? 58 = some i ∧ i.zero = some (.slice none 0 0) ∧ i.size = 1 ∧ i.bytes = 24 := by
  have h : (Tryz.prog.info? 58).map (fun i => (i.zero, i.size, i.bytes)) = some (some (.slice none 0 0), 1, 24) := by kernel_rfl
  obtain ⟨i, h1, h2⟩ := Option.map_eq_some_iff.1 h
  simp only [Prod.mk.injEq] at h2
  exact ⟨i, h1, h2.1, h2.2.1, h2.2.2⟩
theorem st58 (H : AHeap) (id off : Nat) (x : Value) : astoreT Tryz.prog H 58 (.pointer (some ⟨id, off, none⟩)) x = if x.cells.size = 1 ∧ x.cells.toList.all oneCell = true then ((H[id]?).bind (rowStore off x.cells.toList)).map fun o => H.set id o else none := astore_rule sz58 H id off x
theorem un58 : Tryz.prog.underlying 58 = some (.slice 294) := by kernel_rfl
theorem el58 : elemT Tryz.prog 58 = some 294 := by kernel_rfl
theorem ln58 (H : AHeap) (a : Option Addr) (m c : Nat) : alen Tryz.prog H 58 (.slice a m c) = some (.int .i64 m) := alen_slice un58 H a m c
theorem cp58 (a : Addr) (m c : Nat) : acap Tryz.prog 58 (.slice (some a) m c) = if c = 0 then none else some (.int .i64 c) := acap_slice un58 a m c
theorem ix58 (id off m c : Nat) (ik : IntKind) (i : Int) : aindexAddr Tryz.prog 58 (.slice (some ⟨id, off, none⟩) m c) (.int ik i) = if 0 ≤ i ∧ i < m then some (.pointer (some ⟨id, off + i.toNat * 4, none⟩)) else none := aindexAddr_at un58 (by kernel_rfl) id off m c ik i
theorem en58 (H : AHeap) (xo yo : Operand) (a : Option Addr) (n c m q : Nat) : abin Tryz.prog H .eql 58 xo yo (.slice a n c) (.slice none m q) = some (.bool a.isNone) := abin_eq_slnil un58 H xo yo a n c m q
theorem nn58 (H : AHeap) (xo yo : Operand) (a : Option Addr) (n c m q : Nat) : abin Tryz.prog H .neq 58 xo yo (.slice a n c) (.slice none m q) = some (.bool !a.isNone) := abin_ne_slnil un58 H xo yo a n c m q
theorem sc58 (H : AHeap) (a : Option Addr) (n c : Nat) (lo hi : Option Value) : aslice Tryz.prog H 58 (.slice a n c) lo hi none = (optB hi (some n) (capOf n c)).bind fun h => (optB lo (some 0) h).bind fun l => cut H 4 a c l h := aslice_sl un58 (by kernel_rfl) H a n c lo hi
theorem sz59 : szT Tryz.prog 59 = some 41 := by kernel_rfl
theorem ag59 : aggT Tryz.prog 59 = some true := by kernel_rfl
theorem ze59 : zeroT Tryz.prog 59 = some (.agg #[.int .i64 0, .int .i64 0, .int .i64 0, .int .u64 0, .int .u64 0, .int .u64 0, .int .i64 0, .int .u64 0, .int .i64 0, .int .i64 0, .slice none 0 0, .slice none 0 0, .int .i64 0, .int .i64 0, .int .i64 0, .int .i64 0, .slice none 0 0, .int .i64 0, .int .i64 0, .slice none 0 0, .int .i64 0, .slice none 0 0, .slice none 0 0, .int .i64 0, .int .i64 0, .int .i64 0, .int .i64 0, .int .i64 0, .int .i64 0, .int .i64 0, .int .i64 0, .int .i64 0, .bool false, .int .i64 0, .int .i64 0, .int .i64 0, .int .i64 0, .int .i64 0, .int .i64 0, .slice none 0 0, .slice none 0 0]) := by kernel_rfl
theorem pz59 : plainV 100 (.agg #[.int .i64 0, .int .i64 0, .int .i64 0, .int .u64 0, .int .u64 0, .int .u64 0, .int .i64 0, .int .u64 0, .int .i64 0, .int .i64 0, .slice none 0 0, .slice none 0 0, .int .i64 0, .int .i64 0, .int .i64 0, .int .i64 0, .slice none 0 0, .int .i64 0, .int .i64 0, .slice none 0 0, .int .i64 0, .slice none 0 0, .slice none 0 0, .int .i64 0, .int .i64 0, .int .i64 0, .int .i64 0, .int .i64 0, .int .i64 0, .int .i64 0, .int .i64 0, .int .i64 0, .bool false, .int .i64 0, .int .i64 0, .int .i64 0, .int .i64 0, .int .i64 0, .int .i64 0, .slice none 0 0, .slice none 0 0]) = true := by kernel_rfl
theorem inf59 : ∃ i, Tryz.prog.info? 59 = some i ∧ i.zero = some (.agg #[.int .i64 0, .int .i64 0, .int .i64 0, .int .u64 0, .int .u64 0, .int .u64 0, .int .i64 0, .int .u64 0, .int .i64 0, .int .i64 0, .slice none 0 0, .slice none 0 0, .int .i64 0, .int .i64 0, .int .i64 0, .int .i64 0, .slice none 0 0, .int .i64 0, .int .i64 0, .slice none 0 0, .int .i64 0, .slice none 0 0, .slice none 0 0, .int .i64 0, .int .i64 0, .int .i64 0, .int .i64 0, .int .i64 0, .int .i64 0, .int .i64 0, .int .i64 0, .int .i64 0, .bool false, .int .i64 0, .int .i64 0, .int .i64 0, .int .i64 0, .int .i64 0, .int .i64 0, .slice none 0 0, .slice none 0 0]) ∧ i.size = 41 ∧ i.bytes = 456 := by
  have h : (Tryz.prog.info? 59).map (fun i => (i.zero, i.size, i.bytes)) = some (some (.agg #[.int .i64 0, .int .i64 0, .int .i64 0, .int .u64 0, .int .u64 0, .int .u64 0, .int .i64 0, .int .u64 0, .int .i64 0, .int .i64 0, .slice none 0 0, .slice none 0 0, .int .i64 0, .int .i64 0, .int .i64 0, .int .i64 0, .slice none 0 0, .int .i64 0, .int .i64 0, .slice none 0 0, .int .i64 0, .slice none 0 0, .slice none 0 0, .int .i64 0, .int .i64 0, .int .i64 0, .int .i64 0, .int .i64 0, .int .i64 0, .int .i64 0, .int .i64 0, .int .i64 0, .bool false, .int .i64 0, .int .i64 0, .int .i64 0, .int .i64 0, .int .i64 0, .int .i64 0, .slice none 0 0, .slice none 0 0]), 41, 456) := by kernel_rfl
  obtain ⟨i, h1, h2⟩ := Option.map_eq_some_iff.1 h
  simp only [Prod.mk.injEq] at h2
  exact ⟨i, h1, h2.1, h2.2.1, h2.2.2⟩
theorem st59 (H : AHeap) (id off : Nat) (x : Value) : astoreT Tryz.prog H 59 (.pointer (some ⟨id, off, none⟩)) x = if x.cells.size = 41 ∧ x.cells.toList.all oneCell = true then ((H[id]?).bind (rowStore off x.cells.toList)).map fun o => H.set id o else none := astore_rule sz59 H id off x
theorem fa59_0 (id off : Nat) : afieldAddr Tryz.prog 59 (.pointer (some ⟨id, off, none⟩)) 0 = some (.pointer (some ⟨id, off + 0, none⟩)) := afieldAddr_at (n := 0) (f := (fieldT Tryz.prog 59 0).getD default) (by kernel_rfl) (by kernel_rfl) (by kernel_rfl) id off
theorem fl59_0 (cs : List Value) : afield Tryz.prog 59 (.agg cs.toArray) 0 = cs[0]? := afield_one (f := (fieldT Tryz.prog 59 0).getD default) (by kernel_rfl) (by kernel_rfl) (by kernel_rfl) cs
theorem fa59_1 (id off : Nat) : afieldAddr Tryz.prog 59 (.pointer (some ⟨id, off, none⟩)) 1 = some (.pointer (some ⟨id, off + 1, none⟩)) := afieldAddr_at (n := 0) (f := (fieldT Tryz.prog 59 1).getD default) (by kernel_rfl) (by kernel_rfl) (by kernel_rfl) id off
theorem fl59_1 (cs : List Value) : afield Tryz.prog 59 (.agg cs.toArray) 1 = cs[1]? := afield_one (f := (fieldT Tryz.prog 59 1).getD default) (by kernel_rfl) (by kernel_rfl) (by kernel_rfl) cs
theorem fa59_2 (id off : Nat) : afieldAddr Tryz.prog 59 (.pointer (some ⟨id, off, none⟩)) 2 = some (.pointer (some ⟨id, off + 2, none⟩)) := afieldAddr_at (n := 0) (f := (fieldT Tryz.prog 59 2).getD default) (by kernel_rfl) (by kernel_rfl) (by kernel_rfl) id off
theorem fl59_2 (cs : List Value) : afield Tryz.prog 59 (.agg cs.toArray) 2 = cs[2]? := afield_one (f := (fieldT Tryz.prog 59 2).getD default) (by kernel_rfl) (by kernel_rfl) (by kernel_rfl) cs
theorem fa59_3 (id off : Nat) : afieldAddr Tryz.prog 59 (.pointer (some ⟨id, off, none⟩)) 3 = some (.pointer (some ⟨id, off + 3, none⟩)) := afieldAddr_at (n := 0) (f := (fieldT Tryz.prog 59 3).getD default) (by kernel_rfl) (by kernel_rfl) (by kernel_rfl) id off
theorem fl59_3 (cs : List Value) : afield Tryz.prog 59 (.agg cs.toArray) 3 = cs[3]? := afield_one (f := (fieldT Tryz.prog 59 3).getD default) (by kernel_rfl) (by kernel_rfl) (by kernel_rfl) cs
theorem fa59_4 (id off : Nat) : afieldAddr Tryz.prog 59 (.pointer (some ⟨id, off, none⟩)) 4 = some (.pointer (some ⟨id, off + 4, none⟩)) := afieldAddr_at (n := 0) (f := (fieldT Tryz.prog 59 4).getD default) (by kernel_rfl) (by kernel_rfl) (by kernel_rfl) id off
theorem fl59_4 (cs : List Value) : afield Tryz.prog 59 (.agg cs.toArray) 4 = cs[4]? := afield_one (f := (fieldT Tryz.prog 59 4).getD default) (by kernel_rfl) (by kernel_rfl) (by kernel_rfl) cs
theorem fa59_5 (id off : Nat) : afieldAddr Tryz.prog 59 (.pointer (some ⟨id, off, none⟩)) 5 = some (.pointer (some ⟨id, off + 5, none⟩)) := afieldAddr_at (n := 0) (f := (fieldT Tryz.prog 59 5).getD default) (by kernel_rfl) (by kernel_rfl) (by kernel_rfl) id off
theorem fl59_5 (cs : List Value) : afield Tryz.prog 59 (.agg cs.toArray) 5 = cs[5]? := afield_one (f := (fieldT Tryz.prog 59 5).getD default) (by kernel_rfl) (by kernel_rfl) (by kernel_rfl) cs
theorem fa59_6 (id off : Nat) : afieldAddr Tryz.prog 59 (.pointer (some ⟨id, off, none⟩)) 6 = some (.pointer (some ⟨id, off + 6, none⟩)) := afieldAddr_at (n := 0) (f := (fieldT Tryz.prog 59 6).getD default) (by kernel_rfl) (by kernel_rfl) (by kernel_rfl) id off
theorem fl59_6 (cs : List Value) : afield Tryz.prog 59 (.agg cs.toArray) 6 = cs[6]? := afield_one (f := (fieldT Tryz.prog 59 6).getD default) (by kernel_rfl) (by kernel_rfl) (by kernel_rfl) cs
theorem fa59_7 (id off : Nat) : afieldAddr Tryz.prog 59 (.pointer (some ⟨id, off, none⟩)) 7 = some (.pointer (some ⟨id, off + 7, none⟩)) := afieldAddr_at (n := 0) (f := (fieldT Tryz.prog 59 7).getD default) (by kernel_rfl) (by kernel_rfl) (by kernel_rfl) id off
theorem fl59_7 (cs : List Value) : afield Tryz.prog 59 (.agg cs.toArray) 7 = cs[7]? := afield_one (f := (fieldT Tryz.prog 59 7).getD default) (by kernel_rfl) (by kernel_rfl) (by kernel_rfl) cs
theorem fa59_8 (id off : Nat) : afieldAddr Tryz.prog 59 (.pointer (some ⟨id, off, none⟩)) 8 = some (.pointer (some ⟨id, off + 8, none⟩)) := afieldAddr_at (n := 0) (f := (fieldT Tryz.prog 59 8).getD default) (by kernel_rfl) (by kernel_rfl) (by kernel_rfl) id off
theorem fl59_8 (cs : List Value) : afield Tryz.prog 59 (.agg cs.toArray) 8 = cs[8]? := afield_one (f := (fieldT Tryz.prog 59 8).getD default) (by kernel_rfl) (by kernel_rfl) (by kernel_rfl) cs
theorem fa59_9 (id off : Nat) : afieldAddr Tryz.prog 59 (.pointer (some ⟨id, off, none⟩)) 9 = some (.pointer (some ⟨id, off + 9, none⟩)) := afieldAddr_at (n := 2) (f := (fieldT Tryz.prog 59 9).getD default) (by kernel_rfl) (by kernel_rfl) (by kernel_rfl) id off
theorem fl59_9 (cs : List Value) : afield Tryz.prog 59 (.agg cs.toArray) 9 = some (.agg ((cs.drop 9).take 3).toArray) := afield_agg (f := (fieldT Tryz.prog 59 9).getD default) (by kernel_rfl) (by kernel_rfl) (by kernel_rfl) (by kernel_rfl) cs
theorem fa59_10 (id off : Nat) : afieldAddr Tryz.prog 59 (.pointer (some ⟨id, off, none⟩)) 10 = some (.pointer (some ⟨id, off + 12, none⟩)) := afieldAddr_at (n := 12) (f := (fieldT Tryz.prog 59 10).getD default) (by kernel_rfl) (by kernel_rfl) (by kernel_rfl) id off
theorem fl59_10 (cs : List Value) : afield Tryz.prog 59 (.agg cs.toArray) 10 = some (.agg ((cs.drop 12).take 13).toArray) := afield_agg (f := (fieldT Tryz.prog 59 10).getD default) (by kernel_rfl) (by kernel_rfl) (by kernel_rfl) (by kernel_rfl) cs
theorem fa59_11 (id off : Nat) : afieldAddr Tryz.prog 59 (.pointer (some ⟨id, off, none⟩)) 11 = some (.pointer (some ⟨id, off + 25, none⟩)) := afieldAddr_at (n := 6) (f := (fieldT Tryz.prog 59 11).getD default) (by kernel_rfl) (by kernel_rfl) (by kernel_rfl) id off
theorem fl59_11 (cs : List Value) : afield Tryz.prog 59 (.agg cs.toArray) 11 = some (.agg ((cs.drop 25).take 7).toArray) := afield_agg (f := (fieldT Tryz.prog 59 11).getD default) (by kernel_rfl) (by kernel_rfl) (by kernel_rfl) (by kernel_rfl) cs
theorem fa59_12 (id off : Nat) : afieldAddr Tryz.prog 59 (.pointer (some ⟨id, off, none⟩)) 12 = some (.pointer (some ⟨id, off + 32, none⟩)) := afieldAddr_at (n := 6) (f := (fieldT Tryz.prog 59 12).getD default) (by kernel_rfl) (by kernel_rfl) (by kernel_rfl) id off
theorem fl59_12 (cs : List Value) : afield Tryz.prog 59 (.agg cs.toArray) 12 = some (.agg ((cs.drop 32).take 7).toArray) := afield_agg (f := (fieldT Tryz.prog 59 12).getD default) (by kernel_rfl) (by kernel_rfl) (by kernel_rfl) (by kernel_rfl) cs
theorem fa59_13 (id off : Nat) : afieldAddr Tryz.prog 59 (.pointer (some ⟨id, off, none⟩)) 13 = some (.pointer (some ⟨id, off + 39, none⟩)) := afieldAddr_at (n := 0) (f := (fieldT Tryz.prog 59 13).getD default) (by kernel_rfl) (by kernel_rfl) (by kernel_rfl) id off
theorem fl59_13 (cs : List Value) : afield Tryz.prog 59 (.agg cs.toArray) 13 = cs[39]? := afield_one (f := (fieldT Tryz.prog 59 13).getD default) (by kernel_rfl) (by kernel_rfl) (by kernel_rfl) cs
theorem fa59_14 (id off : Nat) : afieldAddr Tryz.prog 59 (.pointer (some ⟨id, off, none⟩)) 14 = some (.pointer (some ⟨id, off + 40, none⟩)) := afieldAddr_at (n := 0) (f := (fieldT Tryz.prog 59 14).getD default) (by kernel_rfl) (by kernel_rfl) (by kernel_rfl) id off
theorem fl59_14 (cs : List Value) : afield Tryz.prog 59 (.agg cs.toArray) 14 = cs[40]? := afield_one (f := (fieldT Tryz.prog 59 14).getD default) (by kernel_rfl) (by kernel_rfl) (by kernel_rfl) cs
theorem sz60 : szT Tryz.prog 60 = some 41 := by kernel_rfl
theorem ag60 : aggT Tryz.prog 60 = some true := by kernel_rfl
theorem ze60 : zeroT Tryz.prog 60 = some (.agg #[.int .i64 0, .int .i64 0, .int .i64 0, .int .u64 0, .int .u64 0, .int .u64 0, .int .i64 0, .int .u64 0, .int .i64 0, .int .i64 0, .slice none 0 0, .slice none 0 0, .int .i64 0, .int .i64 0, .int .i64 0, .int .i64 0, .slice none 0 0, .int .i64 0, .int .i64 0, .slice none 0 0, .int .i64 0, .slice none 0 0, .slice none 0 0, .int .i64 0, .int .i64 0, .int .i64 0, .int .i64 0, .int .i64 0, .int .i64 0, .int .i64 0, .int .i64 0, .int .i64 0, .bool false, .int .i64 0, .int .i64 0, .int .i64 0, .int .i64 0, .int .i64 0, .int .i64 0, .slice none 0 0, .slice none 0 0]) := by kernel_rfl
theorem inf60 : ∃ i, Tryz.prog.info? 60 = some i ∧ i.zero = some (.agg #[.int .i64 0, .int .i64 0, .int .i64 0, .int .u64 0, .int .u64 0, .int .u64 0, .int .i64 0, .int .u64 0, .int .i64 0, .int .i64 0, .slice none 0 0, .slice none 0 0, .int .i64 0, .int .i64 0, .int .i64 0, .int .i64 0, .slice none 0 0, .int .i64 0, .int .i64 0, .slice none 0 0, .int .i64 0, .slice none 0 0, .slice none 0 0, .int .i64 0, .int .i64 0, .int .i64 0, .int .i64 0, .int .i64 0, .int .i64 0, .int .i64 0, .int .i64 0, .int .i64 0, .bool false, .int .i64 0, .int .i64 0, .int .i64 0, .int .i64 0, .int .i64 0, .int .i64 0, .slice none 0 0, .slice none 0 0]) ∧ i.size = 41 ∧ i.bytes = 456 := by
  have h : (Tryz.prog.info? 60).map (fun i => (i.zero, i.size, i.bytes)) = some (some (.agg #[.int .i64 0, .int .i64 0, .int .i64 0, .int .u64 0, .int .u64 0, .int .u64 0, .int .i64 0, .int .u64 0, .int .i64 0, .int .i64 0, .slice none 0 0, .slice none 0 0, .int .i64 0, .int .i64 0, .int .i64 0, .int .i64 0, .slice none 0 0, .int .i64 0, .int .i64 0, .slice none 0 0, .int .i64 0, .slice none 0 0, .slice none 0 0, .int .i64 0, .int .i64 0, .int .i64 0, .int .i64 0, .int .i64 0, .int .i64 0, .int .i64 0, .int .i64 0, .int .i64 0, .bool false, .int .i64 0, .int .i64 0, .int .i64 0, .int .i64 0, .int .i64 0, .int .i64 0, .slice none 0 0, .slice none 0 0]), 41, 456) := by kernel_rfl
  obtain ⟨i, h1, h2⟩ := Option.map_eq_some_iff.1 h
  simp only [Prod.mk.injEq] at h2
  exact ⟨i, h1, h2.1, h2.2.1, h2.2.2⟩
theorem st60 (H : AHeap) (id off : Nat) (x : Value) : astoreT Tryz.prog H 60 (.pointer (some ⟨id, off, none⟩)) x = if x.cells.size = 41 ∧ x.cells.toList.all oneCell = true then ((H[id]?).bind (rowStore off x.cells.toList)).map fun o => H.set id o else none := astore_rule sz60 H id off x
theorem fa60_0 (id off : Nat) : afieldAddr Tryz.prog 60 (.pointer (some ⟨id, off, none⟩)) 0 = some (.pointer (some ⟨id, off + 0, none⟩)) := afieldAddr_at (n := 0) (f := (fieldT Tryz.prog 60 0).getD default) (by kernel_rfl) (by kernel_rfl) (by kernel_rfl) id off
theorem fl60_0 (cs : List Value) : afield Tryz.prog 60 (.agg cs.toArray) 0 = cs[0]? := afield_one (f := (fieldT Tryz.prog 60 0).getD default) (by kernel_rfl) (by kernel_rfl) (by kernel_rfl) cs
theorem fa60_1 (id off : Nat) : afieldAddr Tryz.prog 60 (.pointer (some ⟨id, off, none⟩)) 1 = some (.pointer (some ⟨id, off + 1, none⟩)) := afieldAddr_at (n := 0) (f := (fieldT Tryz.prog 60 1).getD default) (by kernel_rfl) (by kernel_rfl) (by kernel_rfl) id off
theorem fl60_1 (cs : List Value) : afield Tryz.prog 60 (.agg cs.toArray) 1 = cs[1]? := afield_one (f := (fieldT Tryz.prog 60 1).getD default) (by kernel_rfl) (by kernel_rfl) (by kernel_rfl) cs
theorem fa60_2 (id off : Nat) : afieldAddr Tryz.prog 60 (.pointer (some ⟨id, off, none⟩)) 2 = some (.pointer (some ⟨id, off + 2, none⟩)) := afieldAddr_at (n := 0) (f := (fieldT Tryz.prog 60 2).getD default) (by kernel_rfl) (by kernel_rfl) (by kernel_rfl) id off
theorem fl60_2 (cs : List Value) : afield Tryz.prog 60 (.agg cs.toArray) 2 = cs[2]? := afield_one (f := (fieldT Tryz.prog 60 2).getD default) (by kernel_rfl) (by kernel_rfl) (by kernel_rfl) cs
theorem fa60_3 (id off : Nat) : afieldAddr Tryz.prog 60 (.pointer (some ⟨id, off, none⟩)) 3 = some (.pointer (some ⟨id, off + 3, none⟩)) := afieldAddr_at (n := 0) (f := (fieldT Tryz.prog 60 3).getD default) (by kernel_rfl) (by kernel_rfl) (by kernel_rfl) id off
theorem fl60_3 (cs : List Value) : afield Tryz.prog 60 (.agg cs.toArray) 3 = cs[3]? := afield_one (f := (fieldT Tryz.prog 60 3).getD default) (by kernel_rfl) (by kernel_rfl) (by kernel_rfl) cs
theorem fa60_4 (id off : Nat) : afieldAddr Tryz.prog 60 (.pointer (some ⟨id, off, none⟩)) 4 = some (.pointer (some ⟨id, off + 4, none⟩)) := afieldAddr_at (n := 0) (f := (fieldT Tryz.prog 60 4).getD default) (by kernel_rfl) (by kernel_rfl) (by kernel_rfl) id off
theorem fl60_4 (cs : List Value) : afield Tryz.prog 60 (.agg cs.toArray) 4 = cs[4]? := afield_one (f := (fieldT Tryz.prog 60 4).getD default) (by kernel_rfl) (by kernel_rfl) (by kernel_rfl) cs
theorem fa60_5 (id off : Nat) : afieldAddr Tryz.prog 60 (.pointer (some ⟨id, off, none⟩)) 5 = some (.pointer (some ⟨id, off + 5, none⟩)) := afieldAddr_at (n := 0) (f := (fieldT Tryz.prog 60 5).getD default) (by kernel_rfl) (by kernel_rfl) (by kernel_rfl) id off
theorem fl60_5 (cs : List Value) : afield Tryz.prog 60 (.agg cs.toArray) 5 = cs[5]? := afield_one (f := (fieldT Tryz.prog 60 5).getD default) (by kernel_rfl) (by kernel_rfl) (by kernel_rfl) cs
theorem fa60_6 (id off : Nat) : afieldAddr Tryz.prog 60 (.pointer (some ⟨id, off, none⟩)) 6 = some (.pointer (some ⟨id, off + 6, none⟩)) := afieldAddr_at (n := 0) (f := (fieldT Tryz.prog 60 6).getD default) (by kernel_rfl) (by kernel_rfl) (by kernel_rfl) id off
theorem fl60_6 (cs : List Value) : afield Tryz.prog 60 (.agg cs.toArray) 6 = cs[6]? := afield_one (f := (fieldT Tryz.prog 60 6).getD default) (by kernel_rfl) (by kernel_rfl) (by kernel_rfl) cs
theorem fa60_7 (id off : Nat) : afieldAddr Tryz.prog 60 (.pointer (some ⟨id, off, none⟩)) 7 = some (.pointer (some ⟨id, off + 7, none⟩)) := afieldAddr_at (n := 0) (f := (fieldT Tryz.prog 60 7).getD default) (by kernel_rfl) (by kernel_rfl) (by kernel_rfl) id off
theorem fl60_7 (cs : List Value) : afield Tryz.prog 60 (.agg cs.toArray) 7 = cs[7]? := afield_one (f := (fieldT Tryz.prog 60 7).getD default) (by kernel_rfl) (by kernel_rfl) (by kernel_rfl) cs
theorem fa60_8 (id off : Nat) : afieldAddr Tryz.prog 60 (.pointer (some ⟨id, off, none⟩)) 8 = some (.pointer (some ⟨id, off + 8, none⟩)) := afieldAddr_at (n := 0) (f := (fieldT Tryz.prog 60 8).getD default) (by kernel_rfl) (by kernel_rfl) (by kernel_rfl) id off
theorem fl60_8 (cs : List Value) : afield Tryz.prog 60 (.agg cs.toArray) 8 = cs[8]? := afield_one (f := (fieldT Tryz.prog 60 8).getD default) (by kernel_rfl) (by kernel_rfl) (by kernel_rfl) cs
theorem fa60_9 (id off : Nat) : afieldAddr Tryz.prog 60 (.pointer (some ⟨id, off, none⟩)) 9 = some (.pointer (some ⟨id, off + 9, none⟩)) := afieldAddr_at (n := 2) (f := (fieldT Tryz.prog 60 9).getD default) (by kernel_rfl) (by kernel_rfl) (by kernel_rfl) id off
theorem fl60_9 (cs : List Value) : afield Tryz.prog 60 (.agg cs.toArray) 9 = some (.agg ((cs.drop 9).take 3).toArray) := afield_agg (f := (fieldT Tryz.prog 60 9).getD default) (by kernel_rfl) (by kernel_rfl) (by kernel_rfl) (by kernel_rfl) cs
theorem fa60_10 (id off : Nat) : afieldAddr Tryz.prog 60 (.pointer (some ⟨id, off, none⟩)) 10 = some (.pointer (some ⟨id, off + 12, none⟩)) := afieldAddr_at (n := 12) (f := (fieldT Tryz.prog 60 10).getD default) (by kernel_rfl) (by kernel_rfl) (by kernel_rfl) id off
theorem fl60_10 (cs : List Value) : afield Tryz.prog 60 (.agg cs.toArray) 10 = some (.agg ((cs.drop 12).take 13).toArray) := afield_agg (f := (fieldT Tryz.prog 60 10).getD default) (by kernel_rfl) (by kernel_rfl) (by kernel_rfl) (by kernel_rfl) cs
theorem fa60_11 (id off : Nat) : afieldAddr Tryz.prog 60 (.pointer (some ⟨id, off, none⟩)) 11 = some (.pointer (some ⟨id, off + 25, none⟩)) := afieldAddr_at (n := 6) (f := (fieldT Tryz.prog 60 11).getD default) (by kernel_rfl) (by kernel_rfl) (by kernel_rfl) id off
theorem fl60_11 (cs : List Value) : afield Tryz.prog 60 (.agg cs.toArray) 11 = some (.agg ((cs.drop 25).take 7).toArray) := afield_agg (f := (fieldT Tryz.prog 60 11).getD default) (by kernel_rfl) (by kernel_rfl) (by kernel_rfl) (by kernel_rfl) cs
theorem fa60_12 (id off : Nat) : afieldAddr Tryz.prog 60 (.pointer (some ⟨id, off, none⟩)) 12 = some (.pointer (some ⟨id, off + 32, none⟩)) := afieldAddr_at (n := 6) (f := (fieldT Tryz.prog 60 12).getD default) (by kernel_rfl) (by kernel_rfl) (by kernel_rfl) id off
theorem fl60_12 (cs : List Value) : afield Tryz.prog 60 (.agg cs.toArray) 12 = some (.agg ((cs.drop 32).take 7).toArray) := afield_agg (f := (fieldT Tryz.prog 60 12).getD default) (by kernel_rfl) (by kernel_rfl) (by kernel_rfl) (by kernel_rfl) cs
theorem fa60_13 (id off : Nat) : afieldAddr Tryz.prog 60 (.pointer (some ⟨id, off, none⟩)) 13 = some (.pointer (some ⟨id, off + 39, none⟩)) := afieldAddr_at (n := 0) (f := (fieldT Tryz.prog 60 13).getD default) (by kernel_rfl) (by kernel_rfl) (by kernel_rfl) id off
theorem fl60_13 (cs : List Value) : afield Tryz.prog 60 (.agg cs.toArray) 13 = cs[39]? := afield_one (f := (fieldT Tryz.prog 60 13).getD default) (by kernel_rfl) (by kernel_rfl) (by kernel_rfl) cs
theorem fa60_14 (id off : Nat) : afieldAddr Tryz.prog 60 (.pointer (some ⟨id, off, none⟩)) 14 = some (.pointer (some ⟨id, off + 40, none⟩)) := afieldAddr_at (n := 0) (f := (fieldT Tryz.prog 60 14).getD default) (by kernel_rfl) (by kernel_rfl) (by kernel_rfl) id off
theorem fl60_14 (cs : List Value) : afield Tryz.prog 60 (.agg cs.toArray) 14 = cs[40]? := afield_one (f := (fieldT Tryz.prog 60 14).getD default) (by kernel_rfl) (by kernel_rfl) (by kernel_rfl) cs
theorem sz65 : szT Tryz.prog 65 = some 1 := by kernel_rfl
theorem ag65 : aggT Tryz.prog 65 = some false := by kernel_rfl
theorem ze65 : zeroT Tryz.prog 65 = some (.pointer none) := by kernel_rfl
theorem inf65 : ∃ i, Tryz.prog.info? 65 = some i ∧ i.zero = some (.pointer none) ∧ i.size = 1 ∧ i.bytes = 8 := by
  have h : (Tryz.prog.info? 65).map (fun i => (i.zero, i.size, i.bytes)) = some (some (.pointer none), 1, 8) := by kernel_rfl
  obtain ⟨i, h1, h2⟩ := Option.map_eq_some_iff.1 h
  simp only [Prod.mk.injEq] at h2
  exact ⟨i, h1, h2.1, h2.2.1, h2.2.2⟩
theorem st65 (H : AHeap) (id off : Nat) (x : Value) : astoreT Tryz.prog H 65 (.pointer (some ⟨id, off, none⟩)) x = if x.cells.size = 1 ∧ x.cells.toList.all oneCell = true then ((H[id]?).bind (rowStore off x.cells.toList)).map fun o => H.set id o else none := astore_rule sz65 H id off x
theorem en65 (H : AHeap) (xo yo : Operand) (a : Option Addr) : abin Tryz.prog H .eql 65 xo yo (.pointer a) (.pointer none) = some (.bool a.isNone) := abin_eq_ptrnil (e := 72) (by kernel_rfl) H xo yo a
theorem nn65 (H : AHeap) (xo yo : Operand) (a : Option Addr) : abin Tryz.prog H .neq 65 xo yo (.pointer a) (.pointer none) = some (.bool !a.isNone) := abin_ne_ptrnil (e := 72) (by kernel_rfl) H xo yo a
theorem sz66 : szT Tryz.prog 66 = some 1 := by kernel_rfl
theorem ag66 : aggT Tryz.prog 66 = some false := by kernel_rfl
theorem ze66 : zeroT Tryz.prog 66 = some (.slice none 0 0) := by kernel_rfl
theorem inf66 : ∃ i, Tryz.prog.info? 66 = some i ∧ i.zero = some (.slice none 0 0) ∧ i.size = 1 ∧ i.bytes = 24 := by
  have h : (Tryz.prog.info? 66).map (fun i => (i.zero, i.size, i.bytes)) = some (some (.slice none 0 0), 1, 24) := by kernel_rfl
  obtain ⟨i, h1, h2⟩ := Option.map_eq_some_iff.1 h
  simp only [Prod.mk.injEq] at h2
  exact ⟨i, h1, h2.1, h2.2.1, h2.2.2⟩
theorem st66 (H : AHeap) (id off : Nat) (x : Value) : astoreT Tryz.prog H 66 (.pointer (some ⟨id, off, none⟩)) x = if x.cells.size = 1 ∧ x.cells.toList.all oneCell = true then ((H[id]?).bind (rowStore off x.cells.toList)).map fun o => H.set id o else none := astore_rule sz66 H id off x
theorem un66 : Tryz.prog.underlying 66 = some (.slice 196) := by kernel_rfl
theorem el66 : elemT Tryz.prog 66 = some 196 := by kernel_rfl
theorem ln66 (H : AHeap) (a : Option Addr) (m c : Nat) : alen Tryz.prog H 66 (.slice a m c) = some (.int .i64 m) := alen_slice un66 H a m c
theorem cp66 (a : Addr) (m c : Nat) : acap Tryz.prog 66 (.slice (some a) m c) = if c = 0 then none else some (.int .i64 c) := acap_slice un66 a m c
theorem ix66 (id off m c : Nat) (ik : IntKind) (i : Int) : aindexAddr Tryz.prog 66 (.slice (some ⟨id, off, none⟩) m c) (.int ik i) = if 0 ≤ i ∧ i < m then some (.pointer (some ⟨id, off + i.toNat * 8, none⟩)) else none := aindexAddr_at un66 (by kernel_rfl) id off m c ik i
theorem en66 (H : AHeap) (xo yo : Operand) (a : Option Addr) (n c m q : Nat) : abin Tryz.prog H .eql 66 xo yo (.slice a n c) (.slice none m q) = some (.bool a.isNone) := abin_eq_slnil un66 H xo yo a n c m q
theorem nn66 (H : AHeap) (xo yo : Operand) (a : Option Addr) (n c m q : Nat) : abin Tryz.prog H .neq 66 xo yo (.slice a n c) (.slice none m q) = some (.bool !a.isNone) := abin_ne_slnil un66 H xo yo a n c m q
theorem sc66 (H : AHeap) (a : Option Addr) (n c : Nat) (lo hi : Option Value) : aslice Tryz.prog H 66 (.slice a n c) lo hi none = (optB hi (some n) (capOf n c)).bind fun h => (optB lo (some 0) h).bind fun l => cut H 8 a c l h := aslice_sl un66 (by kernel_rfl) H a n c lo hi
theorem sz67 : szT Tryz.prog 67 = some 1 := by kernel_rfl
theorem ag67 : aggT Tryz.prog 67 = some false := by kernel_rfl
theorem ze67 : zeroT Tryz.prog 67 = some (.slice none 0 0) := by kernel_rfl
theorem inf67 : ∃ i, Tryz.prog.info? 67 = some i ∧ i.zero = some (.slice none 0 0) ∧ i.size = 1 ∧ i.bytes = 24 := by
  have h : (Tryz.prog.info? 67).map (fun i => (i.zero, i.size, i.bytes)) = some (some (.slice none 0 0), 1, 24) := by kernel_rfl
  obtain ⟨i, h1, h2⟩ := Option.map_eq_some_iff.1 h
  simp only [Prod.mk.injEq] at h2
  exact ⟨i, h1, h2.1, h2.2.1, h2.2.2⟩
theorem st67 (H : AHeap) (id off : Nat) (x : Value) : astoreT Tryz.prog H 67 (.pointer (some ⟨id, off, none⟩)) x = if x.cells.size = 1 ∧ x.cells.toList.all oneCell = true then ((H[id]?).bind (rowStore off x.cells.toList)).map fun o => H.set id o else none := astore_rule sz67 H id off x
theorem un67 : Tryz.prog.underlying 67 = some (.slice 43) := by kernel_rfl
theorem el67 : elemT Tryz.prog 67 = some 43 := by kernel_rfl
theorem ln67 (H : AHeap) (a : Option Addr) (m c : Nat) : alen Tryz.prog H 67 (.slice a m c) = some (.int .i64 m) := alen_slice un67 H a m c
theorem cp67 (a : Addr) (m c : Nat) : acap Tryz.prog 67 (.slice (some a) m c) = if c = 0 then none else some (.int .i64 c) := acap_slice un67 a m c
theorem ix67 (id off m c : Nat) (ik : IntKind) (i : Int) : aindexAddr Tryz.prog 67 (.slice (some ⟨id, off, none⟩) m c) (.int ik i) = if 0 ≤ i ∧ i < m then some (.pointer (some ⟨id, off + i.toNat * 1, none⟩)) else none := aindexAddr_at un67 (by kernel_rfl) id off m c ik i
theorem en67 (H : AHeap) (xo yo : Operand) (a : Option Addr) (n c m q : Nat) : abin Tryz.prog H .eql 67 xo yo (.slice a n c) (.slice none m q) = some (.bool a.isNone) := abin_eq_slnil un67 H xo yo a n c m q
theorem nn67 (H : AHeap) (xo yo : Operand) (a : Option Addr) (n c m q : Nat) : abin Tryz.prog H .neq 67 xo yo (.slice a n c) (.slice none m q) = some (.bool !a.isNone) := abin_ne_slnil un67 H xo yo a n c m q
theorem sc67 (H : AHeap) (a : Option Addr) (n c : Nat) (lo hi : Option Value) : aslice Tryz.prog H 67 (.slice a n c) lo hi none = (optB hi (some n) (capOf n c)).bind fun h => (optB lo (some 0) h).bind fun l => cut H 1 a c l h := aslice_sl un67 (by kernel_rfl) H a n c lo hi
theorem sz68 : szT Tryz.prog 68 = some 5 := by kernel_rfl
theorem ag68 : aggT Tryz.prog 68 = some true := by kernel_rfl
theorem ze68 : zeroT Tryz.prog 68 = some (.agg #[.int .i64 0, .int .i64 0, .int .i64 0, .slice none 0 0, .slice none 0 0]) := by kernel_rfl
theorem pz68 : plainV 100 (.agg #[.int .i64 0, .int .i64 0, .int .i64 0, .slice none 0 0, .slice none 0 0]) = true := by kernel_rfl
theorem inf68 : ∃ i, Tryz.prog.info? 68 = some i ∧ i.zero = some (.agg #[.int .i64 0, .int .i64 0, .int .i64 0, .slice none 0 0, .slice none 0 0]) ∧ i.size = 5 ∧ i.bytes = 72 := by
  have h : (Tryz.prog.info? 68).map (fun i => (i.zero, i.size, i.bytes)) = some (some (.agg #[.int .i64 0, .int .i64 0, .int .i64 0, .slice none 0 0, .slice none 0 0]), 5, 72) := by kernel_rfl
  obtain ⟨i, h1, h2⟩ := Option.map_eq_some_iff.1 h
  simp only [Prod.mk.injEq] at h2
  exact ⟨i, h1, h2.1, h2.2.1, h2.2.2⟩
theorem st68 (H : AHeap) (id off : Nat) (x : Value) : astoreT Tryz.prog H 68 (.pointer (some ⟨id, off, none⟩)) x = if x.cells.size = 5 ∧ x.cells.toList.all oneCell = true then ((H[id]?).bind (rowStore off x.cells.toList)).map fun o => H.set id o else none := astore_rule sz68 H id off x
theorem fa68_0 (id off : Nat) : afieldAddr Tryz.prog 68 (.pointer (some ⟨id, off, none⟩)) 0 = some (.pointer (some ⟨id, off + 0, none⟩)) := afieldAddr_at (n := 0) (f := (fieldT Tryz.prog 68 0).getD default) (by kernel_rfl) (by kernel_rfl) (by kernel_rfl) id off
theorem fl68_0 (cs : List Value) : afield Tryz.prog 68 (.agg cs.toArray) 0 = cs[0]? := afield_one (f := (fieldT Tryz.prog 68 0).getD default) (by kernel_rfl) (by kernel_rfl) (by kernel_rfl) cs
theorem fa68_1 (id off : Nat) : afieldAddr Tryz.prog 68 (.pointer (some ⟨id, off, none⟩)) 1 = some (.pointer (some ⟨id, off + 1, none⟩)) := afieldAddr_at (n := 0) (f := (fieldT Tryz.prog 68 1).getD default) (by kernel_rfl) (by kernel_rfl) (by kernel_rfl) id off
theorem fl68_1 (cs : List Value) : afield Tryz.prog 68 (.agg cs.toArray) 1 = cs[1]? := afield_one (f := (fieldT Tryz.prog 68 1).getD default) (by kernel_rfl) (by kernel_rfl) (by kernel_rfl) cs
theorem fa68_2 (id off : Nat) : afieldAddr Tryz.prog 68 (.pointer (some ⟨id, off, none⟩)) 2 = some (.pointer (some ⟨id, off + 2, none⟩)) := afieldAddr_at (n := 0) (f := (fieldT Tryz.prog 68 2).getD default) (by kernel_rfl) (by kernel_rfl) (by kernel_rfl) id off
theorem fl68_2 (cs : List Value) : afield Tryz.prog 68 (.agg cs.toArray) 2 = cs[2]? := afield_one (f := (fieldT Tryz.prog 68 2).getD default) (by kernel_rfl) (by kernel_rfl) (by kernel_rfl) cs
theorem fa68_3 (id off : Nat) : afieldAddr Tryz.prog 68 (.pointer (some ⟨id, off, none⟩)) 3 = some (.pointer (some ⟨id, off + 3, none⟩)) := afieldAddr_at (n := 0) (f := (fieldT Tryz.prog 68 3).getD default) (by kernel_rfl) (by kernel_rfl) (by kernel_rfl) id off
theorem fl68_3 (cs : List Value) : afield Tryz.prog 68 (.agg cs.toArray) 3 = cs[3]? := afield_one (f := (fieldT Tryz.prog 68 3).getD default) (by kernel_rfl) (by kernel_rfl) (by kernel_rfl) cs
theorem fa68_4 (id off : Nat) : afieldAddr Tryz.prog 68 (.pointer (some ⟨id, off, none⟩)) 4 = some (.pointer (some ⟨id, off + 4, none⟩)) := afieldAddr_at (n := 0) (f := (fieldT Tryz.prog 68 4).getD default) (by kernel_rfl) (by kernel_rfl) (by kernel_rfl) id off
theorem fl68_4 (cs : List Value) : afield Tryz.prog 68 (.agg cs.toArray) 4 = cs[4]? := afield_one (f := (fieldT Tryz.prog 68 4).getD default) (by kernel_rfl) (by kernel_rfl) (by kernel_rfl) cs
theorem sz69 : szT Tryz.prog 69 = some 5 := by kernel_rfl
theorem ag69 : aggT Tryz.prog 69 = some true := by kernel_rfl
theorem ze69 : zeroT Tryz.prog 69 = some (.agg #[.int .i64 0, .int .i64 0, .int .i64 0, .slice none 0 0, .slice none 0 0]) := by kernel_rfl
theorem inf69 : ∃ i, Tryz.prog.info? 69 = some i ∧ i.zero = some (.agg #[.int .i64 0, .int .i64 0, .int .i64 0, .slice none 0 0, .slice none 0 0]) ∧ i.size = 5 ∧ i.bytes = 72 := by
  have h : (Tryz.prog.info? 69).map (fun i => (i.zero, i.size, i.bytes)) = some (some (.agg #[.int .i64 0, .int .i64 0, .int .i64 0, .slice none 0 0, .slice none 0 0]), 5, 72) := by kernel_rfl
  obtain ⟨i, h1, h2⟩ := Option.map_eq_some_iff.1 h
  simp only [Prod.mk.injEq] at h2
  exact ⟨i, h1, h2.1, h2.2.1, h2.2.2⟩
theorem st69 (H : AHeap) (id off : Nat) (x : Value) : astoreT Tryz.prog H 69 (.pointer (some ⟨id, off, none⟩)) x = if x.cells.size = 5 ∧ x.cells.toList.all oneCell = true then ((H[id]?).bind (rowStore off x.cells.toList)).map fun o => H.set id o else none := astore_rule sz69 H id off x
theorem fa69_0 (id off : Nat) : afieldAddr Tryz.prog 69 (.pointer (some ⟨id, off, none⟩)) 0 = some (.pointer (some ⟨id, off + 0, none⟩)) := afieldAddr_at (n := 0) (f := (fieldT Tryz.prog 69 0).getD default) (by kernel_rfl) (by kernel_rfl) (by kernel_rfl) id off
theorem fl69_0 (cs : List Value) : afield Tryz.prog 69 (.agg cs.toArray) 0 = cs[0]? := afield_one (f := (fieldT Tryz.prog 69 0).getD default) (by kernel_rfl) (by kernel_rfl) (by kernel_rfl) cs
theorem fa69_1 (id off : Nat) : afieldAddr Tryz.prog 69 (.pointer (some ⟨id, off, none⟩)) 1 = some (.pointer (some ⟨id, off + 1, none⟩)) := afieldAddr_at (n := 0) (f := (fieldT Tryz.prog 69 1).getD default) (by kernel_rfl) (by kernel_rfl) (by kernel_rfl) id off
theorem fl69_1 (cs : List Value) : afield Tryz.prog 69 (.agg cs.toArray) 1 = cs[1]? := afield_one (f := (fieldT Tryz.prog 69 1).getD default) (by kernel_rfl) (by kernel_rfl) (by kernel_rfl) cs
theorem fa69_2 (id off : Nat) : afieldAddr Tryz.prog 69 (.pointer (some ⟨id, off, none⟩)) 2 = some (.pointer (some ⟨id, off + 2, none⟩)) := afieldAddr_at (n := 0) (f := (fieldT Tryz.prog 69 2).getD default) (by kernel_rfl) (by kernel_rfl) (by kernel_rfl) id off
theorem fl69_2 (cs : List Value) : afield Tryz.prog 69 (.agg cs.toArray) 2 = cs[2]? := afield_one (f := (fieldT Tryz.prog 69 2).getD default) (by kernel_rfl) (by kernel_rfl) (by kernel_rfl) cs
theorem fa69_3 (id off : Nat) : afieldAddr Tryz.prog 69 (.pointer (some ⟨id, off, none⟩)) 3 = some (.pointer (some ⟨id, off + 3, none⟩)) := afieldAddr_at (n := 0) (f := (fieldT Tryz.prog 69 3).getD default) (by kernel_rfl) (by kernel_rfl) (by kernel_rfl) id off
theorem fl69_3 (cs : List Value) : afield Tryz.prog 69 (.agg cs.toArray) 3 = cs[3]? := afield_one (f := (fieldT Tryz.prog 69 3).getD default) (by kernel_rfl) (by kernel_rfl) (by kernel_rfl) cs
theorem fa69_4 (id off : Nat) : afieldAddr Tryz.prog 69 (.pointer (some ⟨id, off, none⟩)) 4 = some (.pointer (some ⟨id, off + 4, none⟩)) := afieldAddr_at (n := 0) (f := (fieldT Tryz.prog 69 4).getD default) (by kernel_rfl) (by kernel_rfl) (by kernel_rfl) id off
theorem fl69_4 (cs : List Value) : afield Tryz.prog 69 (.agg cs.toArray) 4 = cs[4]? := afield_one (f := (fieldT Tryz.prog 69 4).getD default) (by kernel_rfl) (by kernel_rfl) (by kernel_rfl) cs
theorem sz70 : szT Tryz.prog 70 = some 1 := by kernel_rfl
theorem ag70 : aggT Tryz.prog 70 = some false := by kernel_rfl
theorem ze70 : zeroT Tryz.prog 70 = some (.slice none 0 0) := by kernel_rfl
theorem inf70 : ∃ i, Tryz.prog.info? 70 = some i ∧ i.zero = some (.slice none 0 0) ∧ i.size = 1 ∧ i.bytes = 24 := by
  have h : (Tryz.prog.info? 70).map (fun i => (i.zero, i.size, i.bytes)) = some (some (.slice none 0 0), 1, 24) := by kernel_rfl
  obtain ⟨i, h1, h2⟩ := Option.map_eq_some_iff.1 h
  simp only [Prod.mk.injEq] at h2
  exact ⟨i, h1, h2.1, h2.2.1, h2.2.2⟩
theorem st70 (H : AHeap) (id off : Nat) (x : Value) : astoreT Tryz.prog H 70 (.pointer (some ⟨id, off, none⟩)) x = if x.cells.size = 1 ∧ x.cells.toList.all oneCell = true then ((H[id]?).bind (rowStore off x.cells.toList)).map fun o => H.set id o else none := astore_rule sz70 H id off x
theorem un70 : Tryz.prog.underlying 70 = some (.slice 433) := by kernel_rfl
theorem el70 : elemT Tryz.prog 70 = some 433 := by kernel_rfl
theorem ln70 (H : AHeap) (a : Option Addr) (m c : Nat) : alen Tryz.prog H 70 (.slice a m c) = some (.int .i64 m) := alen_slice un70 H a m c
theorem cp70 (a : Addr) (m c : Nat) : acap Tryz.prog 70 (.slice (some a) m c) = if c = 0 then none else some (.int .i64 c) := acap_slice un70 a m c
theorem ix70 (id off m c : Nat) (ik : IntKind) (i : Int) : aindexAddr Tryz.prog 70 (.slice (some ⟨id, off, none⟩) m c) (.int ik i) = if 0 ≤ i ∧ i < m then some (.pointer (some ⟨id, off + i.toNat * 4, none⟩)) else none := aindexAddr_at un70 (by kernel_rfl) id off m c ik i
theorem en70 (H : AHeap) (xo yo : Operand) (a : Option Addr) (n c m q : Nat) : abin Tryz.prog H .eql 70 xo yo (.slice a n c) (.slice none m q) = some (.bool a.isNone) := abin_eq_slnil un70 H xo yo a n c m q
theorem nn70 (H : AHeap) (xo yo : Operand) (a : Option Addr) (n c m q : Nat) : abin Tryz.prog H .neq 70 xo yo (.slice a n c) (.slice none m q) = some (.bool !a.isNone) := abin_ne_slnil un70 H xo yo a n c m q
theorem sc70 (H : AHeap) (a : Option Addr) (n c : Nat) (lo hi : Option Value) : aslice Tryz.prog H 70 (.slice a n c) lo hi none = (optB hi (some n) (capOf n c)).bind fun h => (optB lo (some 0) h).bind fun l => cut H 4 a c l h := aslice_sl un70 (by kernel_rfl) H a n c lo hi
theorem sz71 : szT Tryz.prog 71 = some 9 := by kernel_rfl
theorem ag71 : aggT Tryz.prog 71 = some true := by kernel_rfl
theorem ze71 : zeroT Tryz.prog 71 = some (.agg #[.int .i64 0, .int .i64 0, .int .i64 0, .slice none 0 0, .slice none 0 0, .bool false, .int .i64 0, .slice none 0 0, .slice none 0 0]) := by kernel_rfl
theorem pz71 : plainV 100 (.agg #[.int .i64 0, .int .i64 0, .int .i64 0, .slice none 0 0, .slice none 0 0, .bool false, .int .i64 0, .slice none 0 0, .slice none 0 0]) = true := by kernel_rfl
theorem inf71 : ∃ i, Tryz.prog.info? 71 = some i ∧ i.zero = some (.agg #[.int .i64 0, .int .i64 0, .int .i64 0, .slice none 0 0, .slice none 0 0, .bool false, .int .i64 0, .slice none 0 0, .slice none 0 0]) ∧ i.size = 9 ∧ i.bytes = 136 := by
  have h : (Tryz.prog.info? 71).map (fun i => (i.zero, i.size, i.bytes)) = some (some (.agg #[.int .i64 0, .int .i64 0, .int .i64 0, .slice none 0 0, .slice none 0 0, .bool false, .int .i64 0, .slice none 0 0, .slice none 0 0]), 9, 136) := by kernel_rfl
  obtain ⟨i, h1, h2⟩ := Option.map_eq_some_iff.1 h
  simp only [Prod.mk.injEq] at h2
  exact ⟨i, h1, h2.1, h2.2.1, h2.2.2⟩
theorem st71 (H : AHeap) (id off : Nat) (x : Value) : astoreT Tryz.prog H 71 (.pointer (some ⟨id, off, none⟩)) x = if x.cells.size = 9 ∧ x.cells.toList.all oneCell = true then ((H[id]?).bind (rowStore off x.cells.toList)).map fun o => H.set id o else none := astore_rule sz71 H id off x
theorem fa71_0 (id off : Nat) : afieldAddr Tryz.prog 71 (.pointer (some ⟨id, off, none⟩)) 0 = some (.pointer (some ⟨id, off + 0, none⟩)) := afieldAddr_at (n := 4) (f := (fieldT Tryz.prog 71 0).getD default) (by kernel_rfl) (by kernel_rfl) (by kernel_rfl) id off
theorem fl71_0 (cs : List Value) : afield Tryz.prog 71 (.agg cs.toArray) 0 = some (.agg ((cs.drop 0).take 5).toArray) := afield_agg (f := (fieldT Tryz.prog 71 0).getD default) (by kernel_rfl) (by kernel_rfl) (by kernel_rfl) (by kernel_rfl) cs
theorem fa71_1 (id off : Nat) : afieldAddr Tryz.prog 71 (.pointer (some ⟨id, off, none⟩)) 1 = some (.pointer (some ⟨id, off + 5, none⟩)) := afieldAddr_at (n := 0) (f := (fieldT Tryz.prog 71 1).getD default) (by kernel_rfl) (by kernel_rfl) (by kernel_rfl) id off
theorem fl71_1 (cs : List Value) : afield Tryz.prog 71 (.agg cs.toArray) 1 = cs[5]? := afield_one (f := (fieldT Tryz.prog 71 1).getD default) (by kernel_rfl) (by kernel_rfl) (by kernel_rfl) cs
theorem fa71_2 (id off : Nat) : afieldAddr Tryz.prog 71 (.pointer (some ⟨id, off, none⟩)) 2 = some (.pointer (some ⟨id, off + 6, none⟩)) := afieldAddr_at (n := 0) (f := (fieldT Tryz.prog 71 2).getD default) (by kernel_rfl) (by kernel_rfl) (by kernel_rfl) id off
theorem fl71_2 (cs : List Value) : afield Tryz.prog 71 (.agg cs.toArray) 2 = cs[6]? := afield_one (f := (fieldT Tryz.prog 71 2).getD default) (by kernel_rfl) (by kernel_rfl) (by kernel_rfl) cs
theorem fa71_3 (id off : Nat) : afieldAddr Tryz.prog 71 (.pointer (some ⟨id, off, none⟩)) 3 = some (.pointer (some ⟨id, off + 7, none⟩)) := afieldAddr_at (n := 0) (f := (fieldT Tryz.prog 71 3).getD default) (by kernel_rfl) (by kernel_rfl) (by kernel_rfl) id off
theorem fl71_3 (cs : List Value) : afield Tryz.prog 71 (.agg cs.toArray) 3 = cs[7]? := afield_one (f := (fieldT Tryz.prog 71 3).getD default) (by kernel_rfl) (by kernel_rfl) (by kernel_rfl) cs
theorem fa71_4 (id off : Nat) : afieldAddr Tryz.prog 71 (.pointer (some ⟨id, off, none⟩)) 4 = some (.pointer (some ⟨id, off + 8, none⟩)) := afieldAddr_at (n := 0) (f := (fieldT Tryz.prog 71 4).getD default) (by kernel_rfl) (by kernel_rfl) (by kernel_rfl) id off
theorem fl71_4 (cs : List Value) : afield Tryz.prog 71 (.agg cs.toArray) 4 = cs[8]? := afield_one (f := (fieldT Tryz.prog 71 4).getD default) (by kernel_rfl) (by kernel_rfl) (by kernel_rfl) cs
theorem sz72 : szT Tryz.prog 72 = some 9 := by kernel_rfl
theorem ag72 : aggT Tryz.prog 72 = some true := by kernel_rfl
theorem ze72 : zeroT Tryz.prog 72 = some (.agg #[.int .i64 0, .int .i64 0, .int .i64 0, .slice none 0 0, .slice none 0 0, .bool false, .int .i64 0, .slice none 0 0, .slice none 0 0]) := by kernel_rfl
theorem inf72 : ∃ i, Tryz.prog.info? 72 = some i ∧ i.zero = some (.agg #[.int .i64 0, .int .i64 0, .int .i64 0, .slice none 0 0, .slice none 0 0, .bool false, .int .i64 0, .slice none 0 0, .slice none 0 0]) ∧ i.size = 9 ∧ i.bytes = 136 := by
  have h : (Tryz.prog.info? 72).map (fun i => (i.zero, i.size, i.bytes)) = some (some (.agg #[.int .i64 0, .int .i64 0, .int .i64 0, .slice none 0 0, .slice none 0 0, .bool false, .int .i64 0, .slice none 0 0, .slice none 0 0]), 9, 136) := by kernel_rfl
  obtain ⟨i, h1, h2⟩ := Option.map_eq_some_iff.1 h
  simp only [Prod.mk.injEq] at h2
  exact ⟨i, h1, h2.1, h2.2.1, h2.2.2⟩
theorem st72 (H : AHeap) (id off : Nat) (x : Value) : astoreT Tryz.prog H 72 (.pointer (some ⟨id, off, none⟩)) x = if x.cells.size = 9 ∧ x.cells.toList.all oneCell = true then ((H[id]?).bind (rowStore off x.cells.toList)).map fun o => H.set id o else none := astore_rule sz72 H id off x
theorem fa72_0 (id off : Nat) : afieldAddr Tryz.prog 72 (.pointer (some ⟨id, off, none⟩)) 0 = some (.pointer (some ⟨id, off + 0, none⟩)) := afieldAddr_at (n := 4) (f := (fieldT Tryz.prog 72 0).getD default) (by kernel_rfl) (by kernel_rfl) (by kernel_rfl) id off
theorem fl72_0 (cs : List Value) : afield Tryz.prog 72 (.agg cs.toArray) 0 = some (.agg ((cs.drop 0).take 5).toArray) := afield_agg (f := (fieldT Tryz.prog 72 0).getD default) (by kernel_rfl) (by kernel_rfl) (by kernel_rfl) (by kernel_rfl) cs
theorem fa72_1 (id off : Nat) : afieldAddr Tryz.prog 72 (.pointer (some ⟨id, off, none⟩)) 1 = some (.pointer (some ⟨id, off + 5, none⟩)) := afieldAddr_at (n := 0) (f := (fieldT Tryz.prog 72 1).getD default) (by kernel_rfl) (by kernel_rfl) (by kernel_rfl) id off
theorem fl72_1 (cs : List Value) : afield Tryz.prog 72 (.agg cs.toArray) 1 = cs[5]? := afield_one (f := (fieldT Tryz.prog 72 1).getD default) (by kernel_rfl) (by kernel_rfl) (by kernel_rfl) cs
theorem fa72_2 (id off : Nat) : afieldAddr Tryz.prog 72 (.pointer (some ⟨id, off, none⟩)) 2 = some (.pointer (some ⟨id, off + 6, none⟩)) := afieldAddr_at (n := 0) (f := (fieldT Tryz.prog 72 2).getD default) (by kernel_rfl) (by kernel_rfl) (by kernel_rfl) id off
theorem fl72_2 (cs : List Value) : afield Tryz.prog 72 (.agg cs.toArray) 2 = cs[6]? := afield_one (f := (fieldT Tryz.prog 72 2).getD default) (by kernel_rfl) (by kernel_rfl) (by kernel_rfl) cs
theorem fa72_3 (id off : Nat) : afieldAddr Tryz.prog 72 (.pointer (some ⟨id, off, none⟩)) 3 = some (.pointer (some ⟨id, off + 7, none⟩)) := afieldAddr_at (n := 0) (f := (fieldT Tryz.prog 72 3).getD default) (by kernel_rfl) (by kernel_rfl) (by kernel_rfl) id off
theorem fl72_3 (cs : List Value) : afield Tryz.prog 72 (.agg cs.toArray) 3 = cs[7]? := afield_one (f := (fieldT Tryz.prog 72 3).getD default) (by kernel_rfl) (by kernel_rfl) (by kernel_rfl) cs
theorem fa72_4 (id off : Nat) : afieldAddr Tryz.prog 72 (.pointer (some ⟨id, off, none⟩)) 4 = some (.pointer (some ⟨id, off + 8, none⟩)) := afieldAddr_at (n := 0) (f := (fieldT Tryz.prog 72 4).getD default) (by kernel_rfl) (by kernel_rfl) (by kernel_rfl) id off
theorem fl72_4 (cs : List Value) : afield Tryz.prog 72 (.agg cs.toArray) 4 = cs[8]? := afield_one (f := (fieldT Tryz.prog 72 4).getD default) (by kernel_rfl) (by kernel_rfl) (by kernel_rfl) cs
theorem sz73 : szT Tryz.prog 73 = some 1 := by kernel_rfl
theorem ag73 : aggT Tryz.prog 73 = some false := by kernel_rfl
theorem ze73 : zeroT Tryz.prog 73 = some (.pointer none) := by kernel_rfl
theorem inf73 : ∃ i, Tryz.prog.info? 73 = some i ∧ i.zero = some (.pointer none) ∧ i.size = 1 ∧ i.bytes = 8 := by
  have h : (Tryz.prog.info? 73).map (fun i => (i.zero, i.size, i.bytes)) = some (some (.pointer none), 1, 8) := by kernel_rfl
  obtain ⟨i, h1, h2⟩ := Option.map_eq_some_iff.1 h
  simp only [Prod.mk.injEq] at h2
  exact ⟨i, h1, h2.1, h2.2.1, h2.2.2⟩
theorem st73 (H : AHeap) (id off : Nat) (x : Value) : astoreT Tryz.prog H 73 (.pointer (some ⟨id, off, none⟩)) x = if x.cells.size = 1 ∧ x.cells.toList.all oneCell = true then ((H[id]?).bind (rowStore off x.cells.toList)).map fun o => H.set id o else none := astore_rule sz73 H id off x
theorem en73 (H : AHeap) (xo yo : Operand) (a : Option Addr) : abin Tryz.prog H .eql 73 xo yo (.pointer a) (.pointer none) = some (.bool a.isNone) := abin_eq_ptrnil (e := 76) (by kernel_rfl) H xo yo a
theorem nn73 (H : AHeap) (xo yo : Operand) (a : Option Addr) : abin Tryz.prog H .neq 73 xo yo (.pointer a) (.pointer none) = some (.bool !a.isNone) := abin_ne_ptrnil (e := 76) (by kernel_rfl) H xo yo a
theorem sz74 : szT Tryz.prog 74 = some 1 := by kernel_rfl
theorem ag74 : aggT Tryz.prog 74 = some false := by kernel_rfl
theorem ze74 : zeroT Tryz.prog 74 = some (.slice none 0 0) := by kernel_rfl
theorem inf74 : ∃ i, Tryz.prog.info? 74 = some i ∧ i.zero = some (.slice none 0 0) ∧ i.size = 1 ∧ i.bytes = 24 := by
  have h : (Tryz.prog.info? 74).map (fun i => (i.zero, i.size, i.bytes)) = some (some (.slice none 0 0), 1, 24) := by kernel_rfl
  obtain ⟨i, h1, h2⟩ := Option.map_eq_some_iff.1 h
  simp only [Prod.mk.injEq] at h2
  exact ⟨i, h1, h2.1, h2.2.1, h2.2.2⟩
theorem st74 (H : AHeap) (id off : Nat) (x : Value) : astoreT Tryz.prog H 74 (.pointer (some ⟨id, off, none⟩)) x = if x.cells.size = 1 ∧ x.cells.toList.all oneCell = true then ((H[id]?).bind (rowStore off x.cells.toList)).map fun o => H.set id o else none := astore_rule sz74 H id off x
theorem un74 : Tryz.prog.underlying 74 = some (.slice 435) := by kernel_rfl
theorem el74 : elemT Tryz.prog 74 = some 435 := by kernel_rfl
theorem ln74 (H : AHeap) (a : Option Addr) (m c : Nat) : alen Tryz.prog H 74 (.slice a m c) = some (.int .i64 m) := alen_slice un74 H a m c
theorem cp74 (a : Addr) (m c : Nat) : acap Tryz.prog 74 (.slice (some a) m c) = if c = 0 then none else some (.int .i64 c) := acap_slice un74 a m c
theorem ix74 (id off m c : Nat) (ik : IntKind) (i : Int) : aindexAddr Tryz.prog 74 (.slice (some ⟨id, off, none⟩) m c) (.int ik i) = if 0 ≤ i ∧ i < m then some (.pointer (some ⟨id, off + i.toNat * 2, none⟩)) else none := aindexAddr_at un74 (by kernel_rfl) id off m c ik i
theorem en74 (H : AHeap) (xo yo : Operand) (a : Option Addr) (n c m q : Nat) : abin Tryz.prog H .eql 74 xo yo (.slice a n c) (.slice none m q) = some (.bool a.isNone) := abin_eq_slnil un74 H xo yo a n c m q
theorem nn74 (H : AHeap) (xo yo : Operand) (a : Option Addr) (n c m q : Nat) : abin Tryz.prog H .neq 74 xo yo (.slice a n c) (.slice none m q) = some (.bool !a.isNone) := abin_ne_slnil un74 H xo yo a n c m q
theorem sc74 (H : AHeap) (a : Option Addr) (n c : Nat) (lo hi : Option Value) : aslice Tryz.prog H 74 (.slice a n c) lo hi none = (optB hi (some n) (capOf n c)).bind fun h => (optB lo (some 0) h).bind fun l => cut H 2 a c l h := aslice_sl un74 (by kernel_rfl) H a n c lo hi
theorem sz75 : szT Tryz.prog 75 = some 4 := by kernel_rfl
theorem ag75 : aggT Tryz.prog 75 = some true := by kernel_rfl
theorem ze75 : zeroT Tryz.prog 75 = some (.agg #[.slice none 0 0, .bool false, .int .i64 0, .slice none 0 0]) := by kernel_rfl
theorem pz75 : plainV 100 (.agg #[.slice none 0 0, .bool false, .int .i64 0, .slice none 0 0]) = true := by kernel_rfl
theorem inf75 : ∃ i, Tryz.prog.info? 75 = some i ∧ i.zero = some (.agg #[.slice none 0 0, .bool false, .int .i64 0, .slice none 0 0]) ∧ i.size = 4 ∧ i.bytes = 64 := by
  have h : (Tryz.prog.info? 75).map (fun i => (i.zero, i.size, i.bytes)) = some (some (.agg #[.slice none 0 0, .bool false, .int .i64 0, .slice none 0 0]), 4, 64) := by kernel_rfl
  obtain ⟨i, h1, h2⟩ := Option.map_eq_some_iff.1 h
  simp only [Prod.mk.injEq] at h2
  exact ⟨i, h1, h2.1, h2.2.1, h2.2.2⟩
theorem st75 (H : AHeap) (id off : Nat) (x : Value) : astoreT Tryz.prog H 75 (.pointer (some ⟨id, off, none⟩)) x = if x.cells.size = 4 ∧ x.cells.toList.all oneCell = true then ((H[id]?).bind (rowStore off x.cells.toList)).map fun o => H.set id o else none := astore_rule sz75 H id off x
theorem fa75_0 (id off : Nat) : afieldAddr Tryz.prog 75 (.pointer (some ⟨id, off, none⟩)) 0 = some (.pointer (some ⟨id, off + 0, none⟩)) := afieldAddr_at (n := 0) (f := (fieldT Tryz.prog 75 0).getD default) (by kernel_rfl) (by kernel_rfl) (by kernel_rfl) id off
theorem fl75_0 (cs : List Value) : afield Tryz.prog 75 (.agg cs.toArray) 0 = cs[0]? := afield_one (f := (fieldT Tryz.prog 75 0).getD default) (by kernel_rfl) (by kernel_rfl) (by kernel_rfl) cs
theorem fa75_1 (id off : Nat) : afieldAddr Tryz.prog 75 (.pointer (some ⟨id, off, none⟩)) 1 = some (.pointer (some ⟨id, off + 1, none⟩)) := afieldAddr_at (n := 0) (f := (fieldT Tryz.prog 75 1).getD default) (by kernel_rfl) (by kernel_rfl) (by kernel_rfl) id off
theorem fl75_1 (cs : List Value) : afield Tryz.prog 75 (.agg cs.toArray) 1 = cs[1]? := afield_one (f := (fieldT Tryz.prog 75 1).getD default) (by kernel_rfl) (by kernel_rfl) (by kernel_rfl) cs
theorem fa75_2 (id off : Nat) : afieldAddr Tryz.prog 75 (.pointer (some ⟨id, off, none⟩)) 2 = some (.pointer (some ⟨id, off + 2, none⟩)) := afieldAddr_at (n := 0) (f := (fieldT Tryz.prog 75 2).getD default) (by kernel_rfl) (by kernel_rfl) (by kernel_rfl) id off
theorem fl75_2 (cs : List Value) : afield Tryz.prog 75 (.agg cs.toArray) 2 = cs[2]? := afield_one (f := (fieldT Tryz.prog 75 2).getD default) (by kernel_rfl) (by kernel_rfl) (by kernel_rfl) cs
theorem fa75_3 (id off : Nat) : afieldAddr Tryz.prog 75 (.pointer (some ⟨id, off, none⟩)) 3 = some (.pointer (some ⟨id, off + 3, none⟩)) := afieldAddr_at (n := 0) (f := (fieldT Tryz.prog 75 3).getD default) (by kernel_rfl) (by kernel_rfl) (by kernel_rfl) id off
theorem fl75_3 (cs : List Value) : afield Tryz.prog 75 (.agg cs.toArray) 3 = cs[3]? := afield_one (f := (fieldT Tryz.prog 75 3).getD default) (by kernel_rfl) (by kernel_rfl) (by kernel_rfl) cs
theorem sz76 : szT Tryz.prog 76 = some 4 := by kernel_rfl
theorem ag76 : aggT Tryz.prog 76 = some true := by kernel_rfl
theorem ze76 : zeroT Tryz.prog 76 = some (.agg #[.slice none 0 0, .bool false, .int .i64 0, .slice none 0 0]) := by kernel_rfl
theorem inf76 : ∃ i, Tryz.prog.info? 76 = some i ∧ i.zero = some (.agg #[.slice none 0 0, .bool false, .int .i64 0, .slice none 0 0]) ∧ i.size = 4 ∧ i.bytes = 64 := by
  have h : (Tryz.prog.info? 76).map (fun i => (i.zero, i.size, i.bytes)) = some (some (.agg #[.slice none 0 0, .bool false, .int .i64 0, .slice none 0 0]), 4, 64) := by kernel_rfl
  obtain ⟨i, h1, h2⟩ := Option.map_eq_some_iff.1 h
  simp only [Prod.mk.injEq] at h2
  exact ⟨i, h1, h2.1, h2.2.1, h2.2.2⟩
theorem st76 (H : AHeap) (id off : Nat) (x : Value) : astoreT Tryz.prog H 76 (.pointer (some ⟨id, off, none⟩)) x = if x.cells.size = 4 ∧ x.cells.toList.all oneCell = true then ((H[id]?).bind (rowStore off x.cells.toList)).map fun o => H.set id o else none := astore_rule sz76 H id off x
theorem fa76_0 (id off : Nat) : afieldAddr Tryz.prog 76 (.pointer (some ⟨id, off, none⟩)) 0 = some (.pointer (some ⟨id, off + 0, none⟩)) := afieldAddr_at (n := 0) (f := (fieldT Tryz.prog 76 0).getD default) (by kernel_rfl) (by kernel_rfl) (by kernel_rfl) id off
theorem fl76_0 (cs : List Value) : afield Tryz.prog 76 (.agg cs.toArray) 0 = cs[0]? := afield_one (f := (fieldT Tryz.prog 76 0).getD default) (by kernel_rfl) (by kernel_rfl) (by kernel_rfl) cs
theorem fa76_1 (id off : Nat) : afieldAddr Tryz.prog 76 (.pointer (some ⟨id, off, none⟩)) 1 = some (.pointer (some ⟨id, off + 1, none⟩)) := afieldAddr_at (n := 0) (f := (fieldT Tryz.prog 76 1).getD default) (by kernel_rfl) (by kernel_rfl) (by kernel_rfl) id off
theorem fl76_1 (cs : List Value) : afield Tryz.prog 76 (.agg cs.toArray) 1 = cs[1]? := afield_one (f := (fieldT Tryz.prog 76 1).getD default) (by kernel_rfl) (by kernel_rfl) (by kernel_rfl) cs
theorem fa76_2 (id off : Nat) : afieldAddr Tryz.prog 76 (.pointer (some ⟨id, off, none⟩)) 2 = some (.pointer (some ⟨id, off + 2, none⟩)) := afieldAddr_at (n := 0) (f := (fieldT Tryz.prog 76 2).getD default) (by kernel_rfl) (by kernel_rfl) (by kernel_rfl) id off
theorem fl76_2 (cs : List Value) : afield Tryz.prog 76 (.agg cs.toArray) 2 = cs[2]? := afield_one (f := (fieldT Tryz.prog 76 2).getD default) (by kernel_rfl) (by kernel_rfl) (by kernel_rfl) cs
theorem fa76_3 (id off : Nat) : afieldAddr Tryz.prog 76 (.pointer (some ⟨id, off, none⟩)) 3 = some (.pointer (some ⟨id, off + 3, none⟩)) := afieldAddr_at (n := 0) (f := (fieldT Tryz.prog 76 3).getD default) (by kernel_rfl) (by kernel_rfl) (by kernel_rfl) id off
theorem fl76_3 (cs : List Value) : afield Tryz.prog 76 (.agg cs.toArray) 3 = cs[3]? := afield_one (f := (fieldT Tryz.prog 76 3).getD default) (by kernel_rfl) (by kernel_rfl) (by kernel_rfl) cs
theorem sz81 : szT Tryz.prog 81 = some 1 := by kernel_rfl
theorem ag81 : aggT Tryz.prog 81 = some false := by kernel_rfl
theorem ze81 : zeroT Tryz.prog 81 = some (.pointer none) := by kernel_rfl
theorem inf81 : ∃ i, Tryz.prog.info? 81 = some i ∧ i.zero = some (.pointer none) ∧ i.size = 1 ∧ i.bytes = 8 := by
  have h : (Tryz.prog.info? 81).map (fun i => (i.zero, i.size, i.bytes)) = some (some (.pointer none), 1, 8) := by kernel_rfl
  obtain ⟨i, h1, h2⟩ := Option.map_eq_some_iff.1 h
  simp only [Prod.mk.injEq] at h2
  exact ⟨i, h1, h2.1, h2.2.1, h2.2.2⟩
theorem st81 (H : AHeap) (id off : Nat) (x : Value) : astoreT Tryz.prog H 81 (.pointer (some ⟨id, off, none⟩)) x = if x.cells.size = 1 ∧ x.cells.toList.all oneCell = true then ((H[id]?).bind (rowStore off x.cells.toList)).map fun o => H.set id o else none := astore_rule sz81 H id off x
theorem en81 (H : AHeap) (xo yo : Operand) (a : Option Addr) : abin Tryz.prog H .eql 81 xo yo (.pointer a) (.pointer none) = some (.bool a.isNone) := abin_eq_ptrnil (e := 130) (by kernel_rfl) H xo yo a
theorem nn81 (H : AHeap) (xo yo : Operand) (a : Option Addr) : abin Tryz.prog H .neq 81 xo yo (.pointer a) (.pointer none) = some (.bool !a.isNone) := abin_ne_ptrnil (e := 130) (by kernel_rfl) H xo yo a
theorem sz84 : szT Tryz.prog 84 = some 1 := by kernel_rfl
theorem ag84 : aggT Tryz.prog 84 = some false := by kernel_rfl
theorem ze84 : zeroT Tryz.prog 84 = some (.map none) := by kernel_rfl
theorem pz84 : plainV 100 (.map none) = true := by kernel_rfl
theorem inf84 : ∃ i, Tryz.prog.info? 84 = some i ∧ i.zero = some (.map none) ∧ i.size = 1 ∧ i.bytes = 8 := by
  have h : (Tryz.prog.info? 84).map (fun i => (i.zero, i.size, i.bytes)) = some (some (.map none), 1, 8) := by kernel_rfl
  obtain ⟨i, h1, h2⟩ := Option.map_eq_some_iff.1 h
  simp only [Prod.mk.injEq] at h2
  exact ⟨i, h1, h2.1, h2.2.1, h2.2.2⟩
theorem st84 (H : AHeap) (id off : Nat) (x : Value) : astoreT Tryz.prog H 84 (.pointer (some ⟨id, off, none⟩)) x = if x.cells.size = 1 ∧ x.cells.toList.all oneCell = true then ((H[id]?).bind (rowStore off x.cells.toList)).map fun o => H.set id o else none := astore_rule sz84 H id off x
theorem en84 (H : AHeap) (xo yo : Operand) (a : Option Nat) : abin Tryz.prog H .eql 84 xo yo (.map a) (.map none) = some (.bool a.isNone) := abin_eq_mapnil (k := 38) (e := 92) (by kernel_rfl) H xo yo a
theorem nn84 (H : AHeap) (xo yo : Operand) (a : Option Nat) : abin Tryz.prog H .neq 84 xo yo (.map a) (.map none) = some (.bool !a.isNone) := abin_ne_mapnil (k := 38) (e := 92) (by kernel_rfl) H xo yo a
theorem un84 : Tryz.prog.underlying 84 = some (.map 38 92) := by kernel_rfl
theorem mt84 : mapT Tryz.prog 84 = some (38, 92) := by kernel_rfl
theorem sz85 : szT Tryz.prog 85 = some 1 := by kernel_rfl
theorem ag85 : aggT Tryz.prog 85 = some false := by kernel_rfl
theorem ze85 : zeroT Tryz.prog 85 = some (.slice none 0 0) := by kernel_rfl
theorem inf85 : ∃ i, Tryz.prog.info? 85 = some i ∧ i.zero = some (.slice none 0 0) ∧ i.size = 1 ∧ i.bytes = 24 := by
  have h : (Tryz.prog.info? 85).map (fun i => (i.zero, i.size, i.bytes)) = some (some (.slice none 0 0), 1, 24) := by kernel_rfl
  obtain ⟨i, h1, h2⟩ := Option.map_eq_some_iff.1 h
  simp only [Prod.mk.injEq] at h2
  exact ⟨i, h1, h2.1, h2.2.1, h2.2.2⟩
theorem st85 (H : AHeap) (id off : Nat) (x : Value) : astoreT Tryz.prog H 85 (.pointer (some ⟨id, off, none⟩)) x = if x.cells.size = 1 ∧ x.cells.toList.all oneCell = true then ((H[id]?).bind (rowStore off x.cells.toList)).map fun o => H.set id o else none := astore_rule sz85 H id off x
theorem un85 : Tryz.prog.underlying 85 = some (.slice 40) := by kernel_rfl
theorem el85 : elemT Tryz.prog 85 = some 40 := by kernel_rfl
theorem ln85 (H : AHeap) (a : Option Addr) (m c : Nat) : alen Tryz.prog H 85 (.slice a m c) = some (.int .i64 m) := alen_slice un85 H a m c
theorem cp85 (a : Addr) (m c : Nat) : acap Tryz.prog 85 (.slice (some a) m c) = if c = 0 then none else some (.int .i64 c) := acap_slice un85 a m c
theorem ix85 (id off m c : Nat) (ik : IntKind) (i : Int) : aindexAddr Tryz.prog 85 (.slice (some ⟨id, off, none⟩) m c) (.int ik i) = if 0 ≤ i ∧ i < m then some (.pointer (some ⟨id, off + i.toNat * 7, none⟩)) else none := aindexAddr_at un85 (by kernel_rfl) id off m c ik i
theorem en85 (H : AHeap) (xo yo : Operand) (a : Option Addr) (n c m q : Nat) : abin Tryz.prog H .eql 85 xo yo (.slice a n c) (.slice none m q) = some (.bool a.isNone) := abin_eq_slnil un85 H xo yo a n c m q
theorem nn85 (H : AHeap) (xo yo : Operand) (a : Option Addr) (n c m q : Nat) : abin Tryz.prog H .neq 85 xo yo (.slice a n c) (.slice none m q) = some (.bool !a.isNone) := abin_ne_slnil un85 H xo yo a n c m q
theorem sc85 (H : AHeap) (a : Option Addr) (n c : Nat) (lo hi : Option Value) : aslice Tryz.prog H 85 (.slice a n c) lo hi none = (optB hi (some n) (capOf n c)).bind fun h => (optB lo (some 0) h).bind fun l => cut H 7 a c l h := aslice_sl un85 (by kernel_rfl) H a n c lo hi
theorem sz86 : szT Tryz.prog 86 = some 18 := by kernel_rfl
theorem ag86 : aggT Tryz.prog 86 = some true := by kernel_rfl
theorem ze86 : zeroT Tryz.prog 86 = some (.agg #[.int .i64 0, .int .i64 0, .int .i64 0, .int .i64 0, .int .i64 0, .int .i64 0, .int .i64 0, .int .i64 0, .int .i64 0, .int .i64 0, .int .i64 0, .pointer none, .map none, .slice none 0 0, .int .i64 0, .int .i64 0, .bool false, .bool false]) := by kernel_rfl
theorem pz86 : plainV 100 (.agg #[.int .i64 0, .int .i64 0, .int .i64 0, .int .i64 0, .int .i64 0, .int .i64 0, .int .i64 0, .int .i64 0, .int .i64 0, .int .i64 0, .int .i64 0, .pointer none, .map none, .slice none 0 0, .int .i64 0, .int .i64 0, .bool false, .bool false]) = true := by kernel_rfl
theorem inf86 : ∃ i, Tryz.prog.info? 86 = some i ∧ i.zero = some (.agg #[.int .i64 0, .int .i64 0, .int .i64 0, .int .i64 0, .int .i64 0, .int .i64 0, .int .i64 0, .int .i64 0, .int .i64 0, .int .i64 0, .int .i64 0, .pointer none, .map none, .slice none 0 0, .int .i64 0, .int .i64 0, .bool false, .bool false]) ∧ i.size = 18 ∧ i.bytes = 152 := by
  have h : (Tryz.prog.info? 86).map (fun i => (i.zero, i.size, i.bytes)) = some (some (.agg #[.int .i64 0, .int .i64 0, .int .i64 0, .int .i64 0, .int .i64 0, .int .i64 0, .int .i64 0, .int .i64 0, .int .i64 0, .int .i64 0, .int .i64 0, .pointer none, .map none, .slice none 0 0, .int .i64 0, .int .i64 0, .bool false, .bool false]), 18, 152) := by kernel_rfl
  obtain ⟨i, h1, h2⟩ := Option.map_eq_some_iff.1 h
  simp only [Prod.mk.injEq] at h2
  exact ⟨i, h1, h2.1, h2.2.1, h2.2.2⟩
theorem st86 (H : AHeap) (id off : Nat) (x : Value) : astoreT Tryz.prog H 86 (.pointer (some ⟨id, off, none⟩)) x = if x.cells.size = 18 ∧ x.cells.toList.all oneCell = true then ((H[id]?).bind (rowStore off x.cells.toList)).map fun o => H.set id o else none := astore_rule sz86 H id off x
theorem fa86_0 (id off : Nat) : afieldAddr Tryz.prog 86 (.pointer (some ⟨id, off, none⟩)) 0 = some (.pointer (some ⟨id, off + 0, none⟩)) := afieldAddr_at (n := 9) (f := (fieldT Tryz.prog 86 0).getD default) (by kernel_rfl) (by kernel_rfl) (by kernel_rfl) id off
theorem fl86_0 (cs : List Value) : afield Tryz.prog 86 (.agg cs.toArray) 0 = some (.agg ((cs.drop 0).take 10).toArray) := afield_agg (f := (fieldT Tryz.prog 86 0).getD default) (by kernel_rfl) (by kernel_rfl) (by kernel_rfl) (by kernel_rfl) cs
theorem fa86_1 (id off : Nat) : afieldAddr Tryz.prog 86 (.pointer (some ⟨id, off, none⟩)) 1 = some (.pointer (some ⟨id, off + 10, none⟩)) := afieldAddr_at (n := 0) (f := (fieldT Tryz.prog 86 1).getD default) (by kernel_rfl) (by kernel_rfl) (by kernel_rfl) id off
theorem fl86_1 (cs : List Value) : afield Tryz.prog 86 (.agg cs.toArray) 1 = cs[10]? := afield_one (f := (fieldT Tryz.prog 86 1).getD default) (by kernel_rfl) (by kernel_rfl) (by kernel_rfl) cs
theorem fa86_2 (id off : Nat) : afieldAddr Tryz.prog 86 (.pointer (some ⟨id, off, none⟩)) 2 = some (.pointer (some ⟨id, off + 11, none⟩)) := afieldAddr_at (n := 0) (f := (fieldT Tryz.prog 86 2).getD default) (by kernel_rfl) (by kernel_rfl) (by kernel_rfl) id off
theorem fl86_2 (cs : List Value) : afield Tryz.prog 86 (.agg cs.toArray) 2 = cs[11]? := afield_one (f := (fieldT Tryz.prog 86 2).getD default) (by kernel_rfl) (by kernel_rfl) (by kernel_rfl) cs
theorem fa86_3 (id off : Nat) : afieldAddr Tryz.prog 86 (.pointer (some ⟨id, off, none⟩)) 3 = some (.pointer (some ⟨id, off + 12, none⟩)) := afieldAddr_at (n := 0) (f := (fieldT Tryz.prog 86 3).getD default) (by kernel_rfl) (by kernel_rfl) (by kernel_rfl) id off
theorem fl86_3 (cs : List Value) : afield Tryz.prog 86 (.agg cs.toArray) 3 = cs[12]? := afield_one (f := (fieldT Tryz.prog 86 3).getD default) (by kernel_rfl) (by kernel_rfl) (by kernel_rfl) cs
theorem fa86_4 (id off : Nat) : afieldAddr Tryz.prog 86 (.pointer (some ⟨id, off, none⟩)) 4 = some (.pointer (some ⟨id, off + 13, none⟩)) := afieldAddr_at (n := 0) (f := (fieldT Tryz.prog 86 4).getD default) (by kernel_rfl) (by kernel_rfl) (by kernel_rfl) id off
theorem fl86_4 (cs : List Value) : afield Tryz.prog 86 (.agg cs.toArray) 4 = cs[13]? := afield_one (f := (fieldT Tryz.prog 86 4).getD default) (by kernel_rfl) (by kernel_rfl) (by kernel_rfl) cs
theorem fa86_5 (id off : Nat) : afieldAddr Tryz.prog 86 (.pointer (some ⟨id, off, none⟩)) 5 = some (.pointer (some ⟨id, off + 14, none⟩)) := afieldAddr_at (n := 0) (f := (fieldT Tryz.prog 86 5).getD default) (by kernel_rfl) (by kernel_rfl) (by kernel_rfl) id off
theorem fl86_5 (cs : List Value) : afield Tryz.prog 86 (.agg cs.toArray) 5 = cs[14]? := afield_one (f := (fieldT Tryz.prog 86 5).getD default) (by kernel_rfl) (by kernel_rfl) (by kernel_rfl) cs
theorem fa86_6 (id off : Nat) : afieldAddr Tryz.prog 86 (.pointer (some ⟨id, off, none⟩)) 6 = some (.pointer (some ⟨id, off + 15, none⟩)) := afieldAddr_at (n := 0) (f := (fieldT Tryz.prog 86 6).getD default) (by kernel_rfl) (by kernel_rfl) (by kernel_rfl) id off
theorem fl86_6 (cs : List Value) : afield Tryz.prog 86 (.agg cs.toArray) 6 = cs[15]? := afield_one (f := (fieldT Tryz.prog 86 6).getD default) (by kernel_rfl) (by kernel_rfl) (by kernel_rfl) cs
theorem fa86_7 (id off : Nat) : afieldAddr Tryz.prog 86 (.pointer (some ⟨id, off, none⟩)) 7 = some (.pointer (some ⟨id, off + 16, none⟩)) := afieldAddr_at (n := 0) (f := (fieldT Tryz.prog 86 7).getD default) (by kernel_rfl) (by kernel_rfl) (by kernel_rfl) id off
theorem fl86_7 (cs : List Value) : afield Tryz.prog 86 (.agg cs.toArray) 7 = cs[16]? := afield_one (f := (fieldT Tryz.prog 86 7).getD default) (by kernel_rfl) (by kernel_rfl) (by kernel_rfl) cs
theorem fa86_8 (id off : Nat) : afieldAddr Tryz.prog 86 (.pointer (some ⟨id, off, none⟩)) 8 = some (.pointer (some ⟨id, off + 17, none⟩)) := afieldAddr_at (n := 0) (f := (fieldT Tryz.prog 86 8).getD default) (by kernel_rfl) (by kernel_rfl) (by kernel_rfl) id off
theorem fl86_8 (cs : List Value) : afield Tryz.prog 86 (.agg cs.toArray) 8 = cs[17]? := afield_one (f := (fieldT Tryz.prog 86 8).getD default) (by kernel_rfl) (by kernel_rfl) (by kernel_rfl) cs
theorem sz87 : szT Tryz.prog 87 = some 18 := by kernel_rfl
theorem ag87 : aggT Tryz.prog 87 = some true := by kernel_rfl
theorem ze87 : zeroT Tryz.prog 87 = some (.agg #[.int .i64 0, .int .i64 0, .int .i64 0, .int .i64 0, .int .i64 0, .int .i64 0, .int .i64 0, .int .i64 0, .int .i64 0, .int .i64 0, .int .i64 0, .pointer none, .map none, .slice none 0 0, .int .i64 0, .int .i64 0, .bool false, .bool false]) := by kernel_rfl
theorem inf87 : ∃ i, Tryz.prog.info? 87 = some i ∧ i.zero = some (.agg #[.int .i64 0, .int .i64 0, .int .i64 0, .int .i64 0, .int .i64 0, .int .i64 0, .int .i64 0, .int .i64 0, .int .i64 0, .int .i64 0, .int .i64 0, .pointer none, .map none, .slice none 0 0, .int .i64 0, .int .i64 0, .bool false, .bool false]) ∧ i.size = 18 ∧ i.bytes = 152 := by
  have h : (Tryz.prog.info? 87).map (fun i => (i.zero, i.size, i.bytes)) = some (some (.agg #[.int .i64 0, .int .i64 0, .int .i64 0, .int .i64 0, .int .i64 0, .int .i64 0, .int .i64 0, .int .i64 0, .int .i64 0, .int .i64 0, .int .i64 0, .pointer none, .map none, .slice none 0 0, .int .i64 0, .int .i64 0, .bool false, .bool false]), 18, 152) := by kernel_rfl
  obtain ⟨i, h1, h2⟩ := Option.map_eq_some_iff.1 h
  simp only [Prod.mk.injEq] at h2
  exact ⟨i, h1, h2.1, h2.2.1, h2.2.2⟩
theorem st87 (H : AHeap) (id off : Nat) (x : Value) : astoreT Tryz.prog H 87 (.pointer (some ⟨id, off, none⟩)) x = if x.cells.size = 18 ∧ x.cells.toList.all oneCell = true then ((H[id]?).bind (rowStore off x.cells.toList)).map fun o => H.set id o else none := astore_rule sz87 H id off x
theorem fa87_0 (id off : Nat) : afieldAddr Tryz.prog 87 (.pointer (some ⟨id, off, none⟩)) 0 = some (.pointer (some ⟨id, off + 0, none⟩)) := afieldAddr_at (n := 9) (f := (fieldT Tryz.prog 87 0).getD default) (by kernel_rfl) (by kernel_rfl) (by kernel_rfl) id off
theorem fl87_0 (cs : List Value) : afield Tryz.prog 87 (.agg cs.toArray) 0 = some (.agg ((cs.drop 0).take 10).toArray) := afield_agg (f := (fieldT Tryz.prog 87 0).getD default) (by kernel_rfl) (by kernel_rfl) (by kernel_rfl) (by kernel_rfl) cs
theorem fa87_1 (id off : Nat) : afieldAddr Tryz.prog 87 (.pointer (some ⟨id, off, none⟩)) 1 = some (.pointer (some ⟨id, off + 10, none⟩)) := afieldAddr_at (n := 0) (f := (fieldT Tryz.prog 87 1).getD default) (by kernel_rfl) (by kernel_rfl) (by kernel_rfl) id off
theorem fl87_1 (cs : List Value) : afield Tryz.prog 87 (.agg cs.toArray) 1 = cs[10]? := afield_one (f := (fieldT Tryz.prog 87 1).getD default) (by kernel_rfl) (by kernel_rfl) (by kernel_rfl) cs
theorem fa87_2 (id off : Nat) : afieldAddr Tryz.prog 87 (.pointer (some ⟨id, off, none⟩)) 2 = some (.pointer (some ⟨id, off + 11, none⟩)) := afieldAddr_at (n := 0) (f := (fieldT Tryz.prog 87 2).getD default) (by kernel_rfl) (by kernel_rfl) (by kernel_rfl) id off
theorem fl87_2 (cs : List Value) : afield Tryz.prog 87 (.agg cs.toArray) 2 = cs[11]? := afield_one (f := (fieldT Tryz.prog 87 2).getD default) (by kernel_rfl) (by kernel_rfl) (by kernel_rfl) cs
theorem fa87_3 (id off : Nat) : afieldAddr Tryz.prog 87 (.pointer (some ⟨id, off, none⟩)) 3 = some (.pointer (some ⟨id, off + 12, none⟩)) := afieldAddr_at (n := 0) (f := (fieldT Tryz.prog 87 3).getD default) (by kernel_rfl) (by kernel_rfl) (by kernel_rfl) id off
theorem fl87_3 (cs : List Value) : afield Tryz.prog 87 (.agg cs.toArray) 3 = cs[12]? := afield_one (f := (fieldT Tryz.prog 87 3).getD default) (by kernel_rfl) (by kernel_rfl) (by kernel_rfl) cs
theorem fa87_4 (id off : Nat) : afieldAddr Tryz.prog 87 (.pointer (some ⟨id, off, none⟩)) 4 = some (.pointer (some ⟨id, off + 13, none⟩)) := afieldAddr_at (n := 0) (f := (fieldT Tryz.prog 87 4).getD default) (by kernel_rfl) (by kernel_rfl) (by kernel_rfl) id off
theorem fl87_4 (cs : List Value) : afield Tryz.prog 87 (.agg cs.toArray) 4 = cs[13]? := afield_one (f := (fieldT Tryz.prog 87 4).getD default) (by kernel_rfl) (by kernel_rfl) (by kernel_rfl) cs
theorem fa87_5 (id off : Nat) : afieldAddr Tryz.prog 87 (.pointer (some ⟨id, off, none⟩)) 5 = some (.pointer (some ⟨id, off + 14, none⟩)) := afieldAddr_at (n := 0) (f := (fieldT Tryz.prog 87 5).getD default) (by kernel_rfl) (by kernel_rfl) (by kernel_rfl) id off
theorem fl87_5 (cs : List Value) : afield Tryz.prog 87 (.agg cs.toArray) 5 = cs[14]? := afield_one (f := (fieldT Tryz.prog 87 5).getD default) (by kernel_rfl) (by kernel_rfl) (by kernel_rfl) cs
theorem fa87_6 (id off : Nat) : afieldAddr Tryz.prog 87 (.pointer (some ⟨id, off, none⟩)) 6 = some (.pointer (some ⟨id, off + 15, none⟩)) := afieldAddr_at (n := 0) (f := (fieldT Tryz.prog 87 6).getD default) (by kernel_rfl) (by kernel_rfl) (by kernel_rfl) id off
theorem fl87_6 (cs : List Value) : afield Tryz.prog 87 (.agg cs.toArray) 6 = cs[15]? := afield_one (f := (fieldT Tryz.prog 87 6).getD default) (by kernel_rfl) (by kernel_rfl) (by kernel_rfl) cs
theorem fa87_7 (id off : Nat) : afieldAddr Tryz.prog 87 (.pointer (some ⟨id, off, none⟩)) 7 = some (.pointer (some ⟨id, off + 16, none⟩)) := afieldAddr_at (n := 0) (f := (fieldT Tryz.prog 87 7).getD default) (by kernel_rfl) (by kernel_rfl) (by kernel_rfl) id off
theorem fl87_7 (cs : List Value) : afield Tryz.prog 87 (.agg cs.toArray) 7 = cs[16]? := afield_one (f := (fieldT Tryz.prog 87 7).getD default) (by kernel_rfl) (by kernel_rfl) (by kernel_rfl) cs
theorem fa87_8 (id off : Nat) : afieldAddr Tryz.prog 87 (.pointer (some ⟨id, off, none⟩)) 8 = some (.pointer (some ⟨id, off + 17, none⟩)) := afieldAddr_at (n := 0) (f := (fieldT Tryz.prog 87 8).getD default) (by kernel_rfl) (by kernel_rfl) (by kernel_rfl) id off
theorem fl87_8 (cs : List Value) : afield Tryz.prog 87 (.agg cs.toArray) 8 = cs[17]? := afield_one (f := (fieldT Tryz.prog 87 8).getD default) (by kernel_rfl) (by kernel_rfl) (by kernel_rfl) cs
theorem sz89 : szT Tryz.prog 89 = some 1 := by kernel_rfl
theorem ag89 : aggT Tryz.prog 89 = some false := by kernel_rfl
theorem ze89 : zeroT Tryz.prog 89 = some (.slice none 0 0) := by kernel_rfl
theorem inf89 : ∃ i, Tryz.prog.info? 89 = some i ∧ i.zero = some (.slice none 0 0) ∧ i.size = 1 ∧ i.bytes = 24 := by
  have h : (Tryz.prog.info? 89).map (fun i => (i.zero, i.size, i.bytes)) = some (some (.slice none 0 0), 1, 24) := by kernel_rfl
  obtain ⟨i, h1, h2⟩ := Option.map_eq_some_iff.1 h
  simp only [Prod.mk.injEq] at h2
  exact ⟨i, h1, h2.1, h2.2.1, h2.2.2⟩
theorem st89 (H : AHeap) (id off : Nat) (x : Value) : astoreT Tryz.prog H 89 (.pointer (some ⟨id, off, none⟩)) x = if x.cells.size = 1 ∧ x.cells.toList.all oneCell = true then ((H[id]?).bind (rowStore off x.cells.toList)).map fun o => H.set id o else none := astore_rule sz89 H id off x
theorem un89 : Tryz.prog.underlying 89 = some (.slice 5) := by kernel_rfl
theorem el89 : elemT Tryz.prog 89 = some 5 := by kernel_rfl
theorem ln89 (H : AHeap) (a : Option Addr) (m c : Nat) : alen Tryz.prog H 89 (.slice a m c) = some (.int .i64 m) := alen_slice un89 H a m c
theorem cp89 (a : Addr) (m c : Nat) : acap Tryz.prog 89 (.slice (some a) m c) = if c = 0 then none else some (.int .i64 c) := acap_slice un89 a m c
theorem ix89 (id off m c : Nat) (ik : IntKind) (i : Int) : aindexAddr Tryz.prog 89 (.slice (some ⟨id, off, none⟩) m c) (.int ik i) = if 0 ≤ i ∧ i < m then some (.pointer (some ⟨id, off + i.toNat * 1, none⟩)) else none := aindexAddr_at un89 (by kernel_rfl) id off m c ik i
theorem en89 (H : AHeap) (xo yo : Operand) (a : Option Addr) (n c m q : Nat) : abin Tryz.prog H .eql 89 xo yo (.slice a n c) (.slice none m q) = some (.bool a.isNone) := abin_eq_slnil un89 H xo yo a n c m q
theorem nn89 (H : AHeap) (xo yo : Operand) (a : Option Addr) (n c m q : Nat) : abin Tryz.prog H .neq 89 xo yo (.slice a n c) (.slice none m q) = some (.bool !a.isNone) := abin_ne_slnil un89 H xo yo a n c m q
theorem sc89 (H : AHeap) (a : Option Addr) (n c : Nat) (lo hi : Option Value) : aslice Tryz.prog H 89 (.slice a n c) lo hi none = (optB hi (some n) (capOf n c)).bind fun h => (optB lo (some 0) h).bind fun l => cut H 1 a c l h := aslice_sl un89 (by kernel_rfl) H a n c lo hi
theorem kd89 : kindT Tryz.prog 89 = .bytes := by kernel_rfl
theorem sz92 : szT Tryz.prog 92 = some 1 := by kernel_rfl
theorem ag92 : aggT Tryz.prog 92 = some false := by kernel_rfl
theorem ze92 : zeroT Tryz.prog 92 = some (.pointer none) := by kernel_rfl
theorem inf92 : ∃ i, Tryz.prog.info? 92 = some i ∧ i.zero = some (.pointer none) ∧ i.size = 1 ∧ i.bytes = 8 := by
  have h : (Tryz.prog.info? 92).map (fun i => (i.zero, i.size, i.bytes)) = some (some (.pointer none), 1, 8) := by kernel_rfl
  obtain ⟨i, h1, h2⟩ := Option.map_eq_some_iff.1 h
  simp only [Prod.mk.injEq] at h2
  exact ⟨i, h1, h2.1, h2.2.1, h2.2.2⟩
theorem st92 (H : AHeap) (id off : Nat) (x : Value) : astoreT Tryz.prog H 92 (.pointer (some ⟨id, off, none⟩)) x = if x.cells.size = 1 ∧ x.cells.toList.all oneCell = true then ((H[id]?).bind (rowStore off x.cells.toList)).map fun o => H.set id o else none := astore_rule sz92 H id off x
theorem en92 (H : AHeap) (xo yo : Operand) (a : Option Addr) : abin Tryz.prog H .eql 92 xo yo (.pointer a) (.pointer none) = some (.bool a.isNone) := abin_eq_ptrnil (e := 156) (by kernel_rfl) H xo yo a
theorem nn92 (H : AHeap) (xo yo : Operand) (a : Option Addr) : abin Tryz.prog H .neq 92 xo yo (.pointer a) (.pointer none) = some (.bool !a.isNone) := abin_ne_ptrnil (e := 156) (by kernel_rfl) H xo yo a
theorem sz98 : szT Tryz.prog 98 = some 1 := by kernel_rfl
theorem ag98 : aggT Tryz.prog 98 = some false := by kernel_rfl
theorem ze98 : zeroT Tryz.prog 98 = some (.map none) := by kernel_rfl
theorem inf98 : ∃ i, Tryz.prog.info? 98 = some i ∧ i.zero = some (.map none) ∧ i.size = 1 ∧ i.bytes = 8 := by
  have h : (Tryz.prog.info? 98).map (fun i => (i.zero, i.size, i.bytes)) = some (some (.map none), 1, 8) := by kernel_rfl
  obtain ⟨i, h1, h2⟩ := Option.map_eq_some_iff.1 h
  simp only [Prod.mk.injEq] at h2
  exact ⟨i, h1, h2.1, h2.2.1, h2.2.2⟩
theorem st98 (H : AHeap) (id off : Nat) (x : Value) : astoreT Tryz.prog H 98 (.pointer (some ⟨id, off, none⟩)) x = if x.cells.size = 1 ∧ x.cells.toList.all oneCell = true then ((H[id]?).bind (rowStore off x.cells.toList)).map fun o => H.set id o else none := astore_rule sz98 H id off x
theorem en98 (H : AHeap) (xo yo : Operand) (a : Option Nat) : abin Tryz.prog H .eql 98 xo yo (.map a) (.map none) = some (.bool a.isNone) := abin_eq_mapnil (k := 9) (e := 188) (by kernel_rfl) H xo yo a
theorem nn98 (H : AHeap) (xo yo : Operand) (a : Option Nat) : abin Tryz.prog H .neq 98 xo yo (.map a) (.map none) = some (.bool !a.isNone) := abin_ne_mapnil (k := 9) (e := 188) (by kernel_rfl) H xo yo a
theorem un98 : Tryz.prog.underlying 98 = some (.map 9 188) := by kernel_rfl
theorem mt98 : mapT Tryz.prog 98 = some (9, 188) := by kernel_rfl
theorem sz99 : szT Tryz.prog 99 = some 5 := by kernel_rfl
theorem ag99 : aggT Tryz.prog 99 = some true := by kernel_rfl
theorem ze99 : zeroT Tryz.prog 99 = some (.agg #[.map none, .bool false, .int .i64 0, .int .i64 0, .int .i64 0]) := by kernel_rfl
theorem pz99 : plainV 100 (.agg #[.map none, .bool false, .int .i64 0, .int .i64 0, .int .i64 0]) = true := by kernel_rfl
theorem inf99 : ∃ i, Tryz.prog.info? 99 = some i ∧ i.zero = some (.agg #[.map none, .bool false, .int .i64 0, .int .i64 0, .int .i64 0]) ∧ i.size = 5 ∧ i.bytes = 40 := by
  have h : (Tryz.prog.info? 99).map (fun i => (i.zero, i.size, i.bytes)) = some (some (.agg #[.map none, .bool false, .int .i64 0, .int .i64 0, .int .i64 0]), 5, 40) := by kernel_rfl
  obtain ⟨i, h1, h2⟩ := Option.map_eq_some_iff.1 h
  simp only [Prod.mk.injEq] at h2
  exact ⟨i, h1, h2.1, h2.2.1, h2.2.2⟩
theorem st99 (H : AHeap) (id off : Nat) (x : Value) : astoreT Tryz.prog H 99 (.pointer (some ⟨id, off, none⟩)) x = if x.cells.size = 5 ∧ x.cells.toList.all oneCell = true then ((H[id]?).bind (rowStore off x.cells.toList)).map fun o => H.set id o else none := astore_rule sz99 H id off x
theorem fa99_0 (id off : Nat) : afieldAddr Tryz.prog 99 (.pointer (some ⟨id, off, none⟩)) 0 = some (.pointer (some ⟨id, off + 0, none⟩)) := afieldAddr_at (n := 0) (f := (fieldT Tryz.prog 99 0).getD default) (by kernel_rfl) (by kernel_rfl) (by kernel_rfl) id off
theorem fl99_0 (cs : List Value) : afield Tryz.prog 99 (.agg cs.toArray) 0 = cs[0]? := afield_one (f := (fieldT Tryz.prog 99 0).getD default) (by kernel_rfl) (by kernel_rfl) (by kernel_rfl) cs
theorem fa99_1 (id off : Nat) : afieldAddr Tryz.prog 99 (.pointer (some ⟨id, off, none⟩)) 1 = some (.pointer (some ⟨id, off + 1, none⟩)) := afieldAddr_at (n := 0) (f := (fieldT Tryz.prog 99 1).getD default) (by kernel_rfl) (by kernel_rfl) (by kernel_rfl) id off
theorem fl99_1 (cs : List Value) : afield Tryz.prog 99 (.agg cs.toArray) 1 = cs[1]? := afield_one (f := (fieldT Tryz.prog 99 1).getD default) (by kernel_rfl) (by kernel_rfl) (by kernel_rfl) cs
theorem fa99_2 (id off : Nat) : afieldAddr Tryz.prog 99 (.pointer (some ⟨id, off, none⟩)) 2 = some (.pointer (some ⟨id, off + 2, none⟩)) := afieldAddr_at (n := 0) (f := (fieldT Tryz.prog 99 2).getD default) (by kernel_rfl) (by kernel_rfl) (by kernel_rfl) id off
theorem fl99_2 (cs : List Value) : afield Tryz.prog 99 (.agg cs.toArray) 2 = cs[2]? := afield_one (f := (fieldT Tryz.prog 99 2).getD default) (by kernel_rfl) (by kernel_rfl) (by kernel_rfl) cs
theorem fa99_3 (id off : Nat) : afieldAddr Tryz.prog 99 (.pointer (some ⟨id, off, none⟩)) 3 = some (.pointer (some ⟨id, off + 3, none⟩)) := afieldAddr_at (n := 0) (f := (fieldT Tryz.prog 99 3).getD default) (by kernel_rfl) (by kernel_rfl) (by kernel_rfl) id off
theorem fl99_3 (cs : List Value) : afield Tryz.prog 99 (.agg cs.toArray) 3 = cs[3]? := afield_one (f := (fieldT Tryz.prog 99 3).getD default) (by kernel_rfl) (by kernel_rfl) (by kernel_rfl) cs
theorem fa99_4 (id off : Nat) : afieldAddr Tryz.prog 99 (.pointer (some ⟨id, off, none⟩)) 4 = some (.pointer (some ⟨id, off + 4, none⟩)) := afieldAddr_at (n := 0) (f := (fieldT Tryz.prog 99 4).getD default) (by kernel_rfl) (by kernel_rfl) (by kernel_rfl) id off
theorem fl99_4 (cs : List Value) : afield Tryz.prog 99 (.agg cs.toArray) 4 = cs[4]? := afield_one (f := (fieldT Tryz.prog 99 4).getD default) (by kernel_rfl) (by kernel_rfl) (by kernel_rfl) cs
theorem sz100 : szT Tryz.prog 100 = some 5 := by kernel_rfl
theorem ag100 : aggT Tryz.prog 100 = some true := by kernel_rfl
theorem ze100 : zeroT Tryz.prog 100 = some (.agg #[.map none, .bool false, .int .i64 0, .int .i64 0, .int .i64 0]) := by kernel_rfl
theorem inf100 : ∃ i, Tryz.prog.info? 100 = some i ∧ i.zero = some (.agg #[.map none, .bool false, .int .i64 0, .int .i64 0, .int .i64 0]) ∧ i.size = 5 ∧ i.bytes = 40 := by
  have h : (Tryz.prog.info? 100).map (fun i => (i.zero, i.size, i.bytes)) = some (some (.agg #[.map none, .bool false, .int .i64 0, .int .i64 0, .int .i64 0]), 5, 40) := by kernel_rfl
  obtain ⟨i, h1, h2⟩ := Option.map_eq_some_iff.1 h
  simp only [Prod.mk.injEq] at h2
  exact ⟨i, h1, h2.1, h2.2.1, h2.2.2⟩
theorem st100 (H : AHeap) (id off : Nat) (x : Value) : astoreT Tryz.prog H 100 (.pointer (some ⟨id, off, none⟩)) x = if x.cells.size = 5 ∧ x.cells.toList.all oneCell = true then ((H[id]?).bind (rowStore off x.cells.toList)).map fun o => H.set id o else none := astore_rule sz100 H id off x
theorem fa100_0 (id off : Nat) : afieldAddr Tryz.prog 100 (.pointer (some ⟨id, off, none⟩)) 0 = some (.pointer (some ⟨id, off + 0, none⟩)) := afieldAddr_at (n := 0) (f := (fieldT Tryz.prog 100 0).getD default) (by kernel_rfl) (by kernel_rfl) (by kernel_rfl) id off
theorem fl100_0 (cs : List Value) : afield Tryz.prog 100 (.agg cs.toArray) 0 = cs[0]? := afield_one (f := (fieldT Tryz.prog 100 0).getD default) (by kernel_rfl) (by kernel_rfl) (by kernel_rfl) cs
theorem fa100_1 (id off : Nat) : afieldAddr Tryz.prog 100 (.pointer (some ⟨id, off, none⟩)) 1 = some (.pointer (some ⟨id, off + 1, none⟩)) := afieldAddr_at (n := 0) (f := (fieldT Tryz.prog 100 1).getD default) (by kernel_rfl) (by kernel_rfl) (by kernel_rfl) id off
theorem fl100_1 (cs : List Value) : afield Tryz.prog 100 (.agg cs.toArray) 1 = cs[1]? := afield_one (f := (fieldT Tryz.prog 100 1).getD default) (by kernel_rfl) (by kernel_rfl) (by kernel_rfl) cs
theorem fa100_2 (id off : Nat) : afieldAddr Tryz.prog 100 (.pointer (some ⟨id, off, none⟩)) 2 = some (.pointer (some ⟨id, off + 2, none⟩)) := afieldAddr_at (n := 0) (f := (fieldT Tryz.prog 100 2).getD default) (by kernel_rfl) (by kernel_rfl) (by kernel_rfl) id off
theorem fl100_2 (cs : List Value) : afield Tryz.prog 100 (.agg cs.toArray) 2 = cs[2]? := afield_one (f := (fieldT Tryz.prog 100 2).getD default) (by kernel_rfl) (by kernel_rfl) (by kernel_rfl) cs
theorem fa100_3 (id off : Nat) : afieldAddr Tryz.prog 100 (.pointer (some ⟨id, off, none⟩)) 3 = some (.pointer (some ⟨id, off + 3, none⟩)) := afieldAddr_at (n := 0) (f := (fieldT Tryz.prog 100 3).getD default) (by kernel_rfl) (by kernel_rfl) (by kernel_rfl) id off
theorem fl100_3 (cs : List Value) : afield Tryz.prog 100 (.agg cs.toArray) 3 = cs[3]? := afield_one (f := (fieldT Tryz.prog 100 3).getD default) (by kernel_rfl) (by kernel_rfl) (by kernel_rfl) cs
theorem fa100_4 (id off : Nat) : afieldAddr Tryz.prog 100 (.pointer (some ⟨id, off, none⟩)) 4 = some (.pointer (some ⟨id, off + 4, none⟩)) := afieldAddr_at (n := 0) (f := (fieldT Tryz.prog 100 4).getD default) (by kernel_rfl) (by kernel_rfl) (by kernel_rfl) id off
theorem fl100_4 (cs : List Value) : afield Tryz.prog 100 (.agg cs.toArray) 4 = cs[4]? := afield_one (f := (fieldT Tryz.prog 100 4).getD default) (by kernel_rfl) (by kernel_rfl) (by kernel_rfl) cs
theorem sz103 : szT Tryz.prog 103 = some 1 := by kernel_rfl
theorem ag103 : aggT Tryz.prog 103 = some false := by kernel_rfl
theorem ze103 : zeroT Tryz.prog 103 = some (.nilIface) := by kernel_rfl
theorem inf103 : ∃ i, Tryz.prog.info? 103 = some i ∧ i.zero = some (.nilIface) ∧ i.size = 1 ∧ i.bytes = 16 := by
  have h : (Tryz.prog.info? 103).map (fun i => (i.zero, i.size, i.bytes)) = some (some (.nilIface), 1, 16) := by kernel_rfl
  obtain ⟨i, h1, h2⟩ := Option.map_eq_some_iff.1 h
  simp only [Prod.mk.injEq] at h2
  exact ⟨i, h1, h2.1, h2.2.1, h2.2.2⟩
theorem st103 (H : AHeap) (id off : Nat) (x : Value) : astoreT Tryz.prog H 103 (.pointer (some ⟨id, off, none⟩)) x = if x.cells.size = 1 ∧ x.cells.toList.all oneCell = true then ((H[id]?).bind (rowStore off x.cells.toList)).map fun o => H.set id o else none := astore_rule sz103 H id off x
theorem enz103 (H : AHeap) (xo : Operand) (w : Value) : abin Tryz.prog H .eql 103 xo (.const w) .nilIface .nilIface = some (.bool true) := abin_eq_if0 (by kernel_rfl) H xo w
theorem eno103 (H : AHeap) (xo yo : Operand) (u : TypeId) (v : Value) : abin Tryz.prog H .eql 103 xo yo (.iface u v) .nilIface = some (.bool false) := abin_eq_if1 (by kernel_rfl) H xo yo u v
theorem nnz103 (H : AHeap) (xo : Operand) (w : Value) : abin Tryz.prog H .neq 103 xo (.const w) .nilIface .nilIface = some (.bool false) := abin_ne_if0 (by kernel_rfl) H xo w
theorem nno103 (H : AHeap) (xo yo : Operand) (u : TypeId) (v : Value) : abin Tryz.prog H .neq 103 xo yo (.iface u v) .nilIface = some (.bool true) := abin_ne_if1 (by kernel_rfl) H xo yo u v
theorem sz104 : szT Tryz.prog 104 = some 1 := by kernel_rfl
theorem ag104 : aggT Tryz.prog 104 = some false := by kernel_rfl
theorem ze104 : zeroT Tryz.prog 104 = some (.nilIface) := by kernel_rfl
theorem inf104 : ∃ i, Tryz.prog.info? 104 = some i ∧ i.zero = some (.nilIface) ∧ i.size = 1 ∧ i.bytes = 16 := by
  have h : (Tryz.prog.info? 104).map (fun i => (i.zero, i.size, i.bytes)) = some (some (.nilIface), 1, 16) := by kernel_rfl
  obtain ⟨i, h1, h2⟩ := Option.map_eq_some_iff.1 h
  simp only [Prod.mk.injEq] at h2
  exact ⟨i, h1, h2.1, h2.2.1, h2.2.2⟩
theorem st104 (H : AHeap) (id off : Nat) (x : Value) : astoreT Tryz.prog H 104 (.pointer (some ⟨id, off, none⟩)) x = if x.cells.size = 1 ∧ x.cells.toList.all oneCell = true then ((H[id]?).bind (rowStore off x.cells.toList)).map fun o => H.set id o else none := astore_rule sz104 H id off x
theorem enz104 (H : AHeap) (xo : Operand) (w : Value) : abin Tryz.prog H .eql 104 xo (.const w) .nilIface .nilIface = some (.bool true) := abin_eq_if0 (by kernel_rfl) H xo w
theorem eno104 (H : AHeap) (xo yo : Operand) (u : TypeId) (v : Value) : abin Tryz.prog H .eql 104 xo yo (.iface u v) .nilIface = some (.bool false) := abin_eq_if1 (by kernel_rfl) H xo yo u v
theorem nnz104 (H : AHeap) (xo : Operand) (w : Value) : abin Tryz.prog H .neq 104 xo (.const w) .nilIface .nilIface = some (.bool false) := abin_ne_if0 (by kernel_rfl) H xo w
theorem nno104 (H : AHeap) (xo yo : Operand) (u : TypeId) (v : Value) : abin Tryz.prog H .neq 104 xo yo (.iface u v) .nilIface = some (.bool true) := abin_ne_if1 (by kernel_rfl) H xo yo u v
theorem sz108 : szT Tryz.prog 108 = some 1 := by kernel_rfl
theorem ag108 : aggT Tryz.prog 108 = some false := by kernel_rfl
theorem ze108 : zeroT Tryz.prog 108 = some (.nilIface) := by kernel_rfl
theorem inf108 : ∃ i, Tryz.prog.info? 108 = some i ∧ i.zero = some (.nilIface) ∧ i.size = 1 ∧ i.bytes = 16 := by
  have h : (Tryz.prog.info? 108).map (fun i => (i.zero, i.size, i.bytes)) = some (some (.nilIface), 1, 16) := by kernel_rfl
  obtain ⟨i, h1, h2⟩ := Option.map_eq_some_iff.1 h
  simp only [Prod.mk.injEq] at h2
  exact ⟨i, h1, h2.1, h2.2.1, h2.2.2⟩
theorem st108 (H : AHeap) (id off : Nat) (x : Value) : astoreT Tryz.prog H 108 (.pointer (some ⟨id, off, none⟩)) x = if x.cells.size = 1 ∧ x.cells.toList.all oneCell = true then ((H[id]?).bind (rowStore off x.cells.toList)).map fun o => H.set id o else none := astore_rule sz108 H id off x
theorem enz108 (H : AHeap) (xo : Operand) (w : Value) : abin Tryz.prog H .eql 108 xo (.const w) .nilIface .nilIface = some (.bool true) := abin_eq_if0 (by kernel_rfl) H xo w
theorem eno108 (H : AHeap) (xo yo : Operand) (u : TypeId) (v : Value) : abin Tryz.prog H .eql 108 xo yo (.iface u v) .nilIface = some (.bool false) := abin_eq_if1 (by kernel_rfl) H xo yo u v
theorem nnz108 (H : AHeap) (xo : Operand) (w : Value) : abin Tryz.prog H .neq 108 xo (.const w) .nilIface .nilIface = some (.bool false) := abin_ne_if0 (by kernel_rfl) H xo w
theorem nno108 (H : AHeap) (xo yo : Operand) (u : TypeId) (v : Value) : abin Tryz.prog H .neq 108 xo yo (.iface u v) .nilIface = some (.bool true) := abin_ne_if1 (by kernel_rfl) H xo yo u v
theorem sz109 : szT Tryz.prog 109 = some 1 := by kernel_rfl
theorem ag109 : aggT Tryz.prog 109 = some false := by kernel_rfl
theorem ze109 : zeroT Tryz.prog 109 = some (.nilIface) := by kernel_rfl
theorem inf109 : ∃ i, Tryz.prog.info? 109 = some i ∧ i.zero = some (.nilIface) ∧ i.size = 1 ∧ i.bytes = 16 := by
  have h : (Tryz.prog.info? 109).map (fun i => (i.zero, i.size, i.bytes)) = some (some (.nilIface), 1, 16) := by kernel_rfl
  obtain ⟨i, h1, h2⟩ := Option.map_eq_some_iff.1 h
  simp only [Prod.mk.injEq] at h2
  exact ⟨i, h1, h2.1, h2.2.1, h2.2.2⟩
theorem st109 (H : AHeap) (id off : Nat) (x : Value) : astoreT Tryz.prog H 109 (.pointer (some ⟨id, off, none⟩)) x = if x.cells.size = 1 ∧ x.cells.toList.all oneCell = true then ((H[id]?).bind (rowStore off x.cells.toList)).map fun o => H.set id o else none := astore_rule sz109 H id off x
theorem enz109 (H : AHeap) (xo : Operand) (w : Value) : abin Tryz.prog H .eql 109 xo (.const w) .nilIface .nilIface = some (.bool true) := abin_eq_if0 (by kernel_rfl) H xo w
theorem eno109 (H : AHeap) (xo yo : Operand) (u : TypeId) (v : Value) : abin Tryz.prog H .eql 109 xo yo (.iface u v) .nilIface = some (.bool false) := abin_eq_if1 (by kernel_rfl) H xo yo u v
theorem nnz109 (H : AHeap) (xo : Operand) (w : Value) : abin Tryz.prog H .neq 109 xo (.const w) .nilIface .nilIface = some (.bool false) := abin_ne_if0 (by kernel_rfl) H xo w
theorem nno109 (H : AHeap) (xo yo : Operand) (u : TypeId) (v : Value) : abin Tryz.prog H .neq 109 xo yo (.iface u v) .nilIface = some (.bool true) := abin_ne_if1 (by kernel_rfl) H xo yo u v
theorem sz110 : szT Tryz.prog 110 = some 1 := by kernel_rfl
theorem ag110 : aggT Tryz.prog 110 = some false := by kernel_rfl
theorem ze110 : zeroT Tryz.prog 110 = some (.nilIface) := by kernel_rfl
theorem inf110 : ∃ i, Tryz.prog.info? 110 = some i ∧ i.zero = some (.nilIface) ∧ i.size = 1 ∧ i.bytes = 16 := by
  have h : (Tryz.prog.info? 110).map (fun i => (i.zero, i.size, i.bytes)) = some (some (.nilIface), 1, 16) := by kernel_rfl
  obtain ⟨i, h1, h2⟩ := Option.map_eq_some_iff.1 h
  simp only [Prod.mk.injEq] at h2
  exact ⟨i, h1, h2.1, h2.2.1, h2.2.2⟩
theorem st110 (H : AHeap) (id off : Nat) (x : Value) : astoreT Tryz.prog H 110 (.pointer (some ⟨id, off, none⟩)) x = if x.cells.size = 1 ∧ x.cells.toList.all oneCell = true then ((H[id]?).bind (rowStore off x.cells.toList)).map fun o => H.set id o else none := astore_rule sz110 H id off x
theorem enz110 (H : AHeap) (xo : Operand) (w : Value) : abin Tryz.prog H .eql 110 xo (.const w) .nilIface .nilIface = some (.bool true) := abin_eq_if0 (by kernel_rfl) H xo w
theorem eno110 (H : AHeap) (xo yo : Operand) (u : TypeId) (v : Value) : abin Tryz.prog H .eql 110 xo yo (.iface u v) .nilIface = some (.bool false) := abin_eq_if1 (by kernel_rfl) H xo yo u v
theorem nnz110 (H : AHeap) (xo : Operand) (w : Value) : abin Tryz.prog H .neq 110 xo (.const w) .nilIface .nilIface = some (.bool false) := abin_ne_if0 (by kernel_rfl) H xo w
theorem nno110 (H : AHeap) (xo yo : Operand) (u : TypeId) (v : Value) : abin Tryz.prog H .neq 110 xo yo (.iface u v) .nilIface = some (.bool true) := abin_ne_if1 (by kernel_rfl) H xo yo u v
theorem sz111 : szT Tryz.prog 111 = some 1 := by kernel_rfl
theorem ag111 : aggT Tryz.prog 111 = some false := by kernel_rfl
theorem ze111 : zeroT Tryz.prog 111 = some (.nilIface) := by kernel_rfl
theorem inf111 : ∃ i, Tryz.prog.info? 111 = some i ∧ i.zero = some (.nilIface) ∧ i.size = 1 ∧ i.bytes = 16 := by
  have h : (Tryz.prog.info? 111).map (fun i => (i.zero, i.size, i.bytes)) = some (some (.nilIface), 1, 16) := by kernel_rfl
  obtain ⟨i, h1, h2⟩ := Option.map_eq_some_iff.1 h
  simp only [Prod.mk.injEq] at h2
  exact ⟨i, h1, h2.1, h2.2.1, h2.2.2⟩
theorem st111 (H : AHeap) (id off : Nat) (x : Value) : astoreT Tryz.prog H 111 (.pointer (some ⟨id, off, none⟩)) x = if x.cells.size = 1 ∧ x.cells.toList.all oneCell = true then ((H[id]?).bind (rowStore off x.cells.toList)).map fun o => H.set id o else none := astore_rule sz111 H id off x
theorem enz111 (H : AHeap) (xo : Operand) (w : Value) : abin Tryz.prog H .eql 111 xo (.const w) .nilIface .nilIface = some (.bool true) := abin_eq_if0 (by kernel_rfl) H xo w
theorem eno111 (H : AHeap) (xo yo : Operand) (u : TypeId) (v : Value) : abin Tryz.prog H .eql 111 xo yo (.iface u v) .nilIface = some (.bool false) := abin_eq_if1 (by kernel_rfl) H xo yo u v
theorem nnz111 (H : AHeap) (xo : Operand) (w : Value) : abin Tryz.prog H .neq 111 xo (.const w) .nilIface .nilIface = some (.bool false) := abin_ne_if0 (by kernel_rfl) H xo w
theorem nno111 (H : AHeap) (xo yo : Operand) (u : TypeId) (v : Value) : abin Tryz.prog H .neq 111 xo yo (.iface u v) .nilIface = some (.bool true) := abin_ne_if1 (by kernel_rfl) H xo yo u v
theorem sz129 : szT Tryz.prog 129 = some 1 := by kernel_rfl
theorem ag129 : aggT Tryz.prog 129 = some true := by kernel_rfl
theorem ze129 : zeroT Tryz.prog 129 = some (.agg #[.pointer none]) := by kernel_rfl
theorem pz129 : plainV 100 (.agg #[.pointer none]) = true := by kernel_rfl
theorem inf129 : ∃ i, Tryz.prog.info? 129 = some i ∧ i.zero = some (.agg #[.pointer none]) ∧ i.size = 1 ∧ i.bytes = 8 := by
  have h : (Tryz.prog.info? 129).map (fun i => (i.zero, i.size, i.bytes)) = some (some (.agg #[.pointer none]), 1, 8) := by kernel_rfl
  obtain ⟨i, h1, h2⟩ := Option.map_eq_some_iff.1 h
  simp only [Prod.mk.injEq] at h2
  exact ⟨i, h1, h2.1, h2.2.1, h2.2.2⟩
theorem st129 (H : AHeap) (id off : Nat) (x : Value) : astoreT Tryz.prog H 129 (.pointer (some ⟨id, off, none⟩)) x = if x.cells.size = 1 ∧ x.cells.toList.all oneCell = true then ((H[id]?).bind (rowStore off x.cells.toList)).map fun o => H.set id o else none := astore_rule sz129 H id off x
theorem fa129_0 (id off : Nat) : afieldAddr Tryz.prog 129 (.pointer (some ⟨id, off, none⟩)) 0 = some (.pointer (some ⟨id, off + 0, none⟩)) := afieldAddr_at (n := 0) (f := (fieldT Tryz.prog 129 0).getD default) (by kernel_rfl) (by kernel_rfl) (by kernel_rfl) id off
theorem fl129_0 (cs : List Value) : afield Tryz.prog 129 (.agg cs.toArray) 0 = cs[0]? := afield_one (f := (fieldT Tryz.prog 129 0).getD default) (by kernel_rfl) (by kernel_rfl) (by kernel_rfl) cs
theorem sz130 : szT Tryz.prog 130 = some 1 := by kernel_rfl
theorem ag130 : aggT Tryz.prog 130 = some true := by kernel_rfl
theorem ze130 : zeroT Tryz.prog 130 = some (.agg #[.pointer none]) := by kernel_rfl
theorem inf130 : ∃ i, Tryz.prog.info? 130 = some i ∧ i.zero = some (.agg #[.pointer none]) ∧ i.size = 1 ∧ i.bytes = 8 := by
  have h : (Tryz.prog.info? 130).map (fun i => (i.zero, i.size, i.bytes)) = some (some (.agg #[.pointer none]), 1, 8) := by kernel_rfl
  obtain ⟨i, h1, h2⟩ := Option.map_eq_some_iff.1 h
  simp only [Prod.mk.injEq] at h2
  exact ⟨i, h1, h2.1, h2.2.1, h2.2.2⟩
theorem st130 (H : AHeap) (id off : Nat) (x : Value) : astoreT Tryz.prog H 130 (.pointer (some ⟨id, off, none⟩)) x = if x.cells.size = 1 ∧ x.cells.toList.all oneCell = true then ((H[id]?).bind (rowStore off x.cells.toList)).map fun o => H.set id o else none := astore_rule sz130 H id off x
theorem fa130_0 (id off : Nat) : afieldAddr Tryz.prog 130 (.pointer (some ⟨id, off, none⟩)) 0 = some (.pointer (some ⟨id, off + 0, none⟩)) := afieldAddr_at (n := 0) (f := (fieldT Tryz.prog 130 0).getD default) (by kernel_rfl) (by kernel_rfl) (by kernel_rfl) id off
theorem fl130_0 (cs : List Value) : afield Tryz.prog 130 (.agg cs.toArray) 0 = cs[0]? := afield_one (f := (fieldT Tryz.prog 130 0).getD default) (by kernel_rfl) (by kernel_rfl) (by kernel_rfl) cs
theorem sz142 : szT Tryz.prog 142 = some 1 := by kernel_rfl
theorem ag142 : aggT Tryz.prog 142 = some false := by kernel_rfl
theorem ze142 : zeroT Tryz.prog 142 = some (.slice none 0 0) := by kernel_rfl
theorem inf142 : ∃ i, Tryz.prog.info? 142 = some i ∧ i.zero = some (.slice none 0 0) ∧ i.size = 1 ∧ i.bytes = 24 := by
  have h : (Tryz.prog.info? 142).map (fun i => (i.zero, i.size, i.bytes)) = some (some (.slice none 0 0), 1, 24) := by kernel_rfl
  obtain ⟨i, h1, h2⟩ := Option.map_eq_some_iff.1 h
  simp only [Prod.mk.injEq] at h2
  exact ⟨i, h1, h2.1, h2.2.1, h2.2.2⟩
theorem st142 (H : AHeap) (id off : Nat) (x : Value) : astoreT Tryz.prog H 142 (.pointer (some ⟨id, off, none⟩)) x = if x.cells.size = 1 ∧ x.cells.toList.all oneCell = true then ((H[id]?).bind (rowStore off x.cells.toList)).map fun o => H.set id o else none := astore_rule sz142 H id off x
theorem un142 : Tryz.prog.underlying 142 = some (.slice 144) := by kernel_rfl
theorem el142 : elemT Tryz.prog 142 = some 144 := by kernel_rfl
theorem ln142 (H : AHeap) (a : Option Addr) (m c : Nat) : alen Tryz.prog H 142 (.slice a m c) = some (.int .i64 m) := alen_slice un142 H a m c
theorem cp142 (a : Addr) (m c : Nat) : acap Tryz.prog 142 (.slice (some a) m c) = if c = 0 then none else some (.int .i64 c) := acap_slice un142 a m c
theorem ix142 (id off m c : Nat) (ik : IntKind) (i : Int) : aindexAddr Tryz.prog 142 (.slice (some ⟨id, off, none⟩) m c) (.int ik i) = if 0 ≤ i ∧ i < m then some (.pointer (some ⟨id, off + i.toNat * 4, none⟩)) else none := aindexAddr_at un142 (by kernel_rfl) id off m c ik i
theorem en142 (H : AHeap) (xo yo : Operand) (a : Option Addr) (n c m q : Nat) : abin Tryz.prog H .eql 142 xo yo (.slice a n c) (.slice none m q) = some (.bool a.isNone) := abin_eq_slnil un142 H xo yo a n c m q
theorem nn142 (H : AHeap) (xo yo : Operand) (a : Option Addr) (n c m q : Nat) : abin Tryz.prog H .neq 142 xo yo (.slice a n c) (.slice none m q) = some (.bool !a.isNone) := abin_ne_slnil un142 H xo yo a n c m q
theorem sc142 (H : AHeap) (a : Option Addr) (n c : Nat) (lo hi : Option Value) : aslice Tryz.prog H 142 (.slice a n c) lo hi none = (optB hi (some n) (capOf n c)).bind fun h => (optB lo (some 0) h).bind fun l => cut H 4 a c l h := aslice_sl un142 (by kernel_rfl) H a n c lo hi
theorem sz143 : szT Tryz.prog 143 = some 4 := by kernel_rfl
theorem ag143 : aggT Tryz.prog 143 = some true := by kernel_rfl
theorem ze143 : zeroT Tryz.prog 143 = some (.agg #[.int .i64 0, .slice none 0 0, .slice none 0 0, .int .u64 0]) := by kernel_rfl
theorem pz143 : plainV 100 (.agg #[.int .i64 0, .slice none 0 0, .slice none 0 0, .int .u64 0]) = true := by kernel_rfl
theorem inf143 : ∃ i, Tryz.prog.info? 143 = some i ∧ i.zero = some (.agg #[.int .i64 0, .slice none 0 0, .slice none 0 0, .int .u64 0]) ∧ i.size = 4 ∧ i.bytes = 64 := by
  have h : (Tryz.prog.info? 143).map (fun i => (i.zero, i.size, i.bytes)) = some (some (.agg #[.int .i64 0, .slice none 0 0, .slice none 0 0, .int .u64 0]), 4, 64) := by kernel_rfl
  obtain ⟨i, h1, h2⟩ := Option.map_eq_some_iff.1 h
  simp only [Prod.mk.injEq] at h2
  exact ⟨i, h1, h2.1, h2.2.1, h2.2.2⟩
theorem st143 (H : AHeap) (id off : Nat) (x : Value) : astoreT Tryz.prog H 143 (.pointer (some ⟨id, off, none⟩)) x = if x.cells.size = 4 ∧ x.cells.toList.all oneCell = true then ((H[id]?).bind (rowStore off x.cells.toList)).map fun o => H.set id o else none := astore_rule sz143 H id off x
theorem fa143_0 (id off : Nat) : afieldAddr Tryz.prog 143 (.pointer (some ⟨id, off, none⟩)) 0 = some (.pointer (some ⟨id, off + 0, none⟩)) := afieldAddr_at (n := 2) (f := (fieldT Tryz.prog 143 0).getD default) (by kernel_rfl) (by kernel_rfl) (by kernel_rfl) id off
theorem fl143_0 (cs : List Value) : afield Tryz.prog 143 (.agg cs.toArray) 0 = some (.agg ((cs.drop 0).take 3).toArray) := afield_agg (f := (fieldT Tryz.prog 143 0).getD default) (by kernel_rfl) (by kernel_rfl) (by kernel_rfl) (by kernel_rfl) cs
theorem fa143_1 (id off : Nat) : afieldAddr Tryz.prog 143 (.pointer (some ⟨id, off, none⟩)) 1 = some (.pointer (some ⟨id, off + 3, none⟩)) := afieldAddr_at (n := 0) (f := (fieldT Tryz.prog 143 1).getD default) (by kernel_rfl) (by kernel_rfl) (by kernel_rfl) id off
theorem fl143_1 (cs : List Value) : afield Tryz.prog 143 (.agg cs.toArray) 1 = cs[3]? := afield_one (f := (fieldT Tryz.prog 143 1).getD default) (by kernel_rfl) (by kernel_rfl) (by kernel_rfl) cs
theorem sz144 : szT Tryz.prog 144 = some 4 := by kernel_rfl
theorem ag144 : aggT Tryz.prog 144 = some true := by kernel_rfl
theorem ze144 : zeroT Tryz.prog 144 = some (.agg #[.int .i64 0, .slice none 0 0, .slice none 0 0, .int .u64 0]) := by kernel_rfl
theorem inf144 : ∃ i, Tryz.prog.info? 144 = some i ∧ i.zero = some (.agg #[.int .i64 0, .slice none 0 0, .slice none 0 0, .int .u64 0]) ∧ i.size = 4 ∧ i.bytes = 64 := by
  have h : (Tryz.prog.info? 144).map (fun i => (i.zero, i.size, i.bytes)) = some (some (.agg #[.int .i64 0, .slice none 0 0, .slice none 0 0, .int .u64 0]), 4, 64) := by kernel_rfl
  obtain ⟨i, h1, h2⟩ := Option.map_eq_some_iff.1 h
  simp only [Prod.mk.injEq] at h2
  exact ⟨i, h1, h2.1, h2.2.1, h2.2.2⟩
theorem st144 (H : AHeap) (id off : Nat) (x : Value) : astoreT Tryz.prog H 144 (.pointer (some ⟨id, off, none⟩)) x = if x.cells.size = 4 ∧ x.cells.toList.all oneCell = true then ((H[id]?).bind (rowStore off x.cells.toList)).map fun o => H.set id o else none := astore_rule sz144 H id off x
theorem fa144_0 (id off : Nat) : afieldAddr Tryz.prog 144 (.pointer (some ⟨id, off, none⟩)) 0 = some (.pointer (some ⟨id, off + 0, none⟩)) := afieldAddr_at (n := 2) (f := (fieldT Tryz.prog 144 0).getD default) (by kernel_rfl) (by kernel_rfl) (by kernel_rfl) id off
theorem fl144_0 (cs : List Value) : afield Tryz.prog 144 (.agg cs.toArray) 0 = some (.agg ((cs.drop 0).take 3).toArray) := afield_agg (f := (fieldT Tryz.prog 144 0).getD default) (by kernel_rfl) (by kernel_rfl) (by kernel_rfl) (by kernel_rfl) cs
theorem fa144_1 (id off : Nat) : afieldAddr Tryz.prog 144 (.pointer (some ⟨id, off, none⟩)) 1 = some (.pointer (some ⟨id, off + 3, none⟩)) := afieldAddr_at (n := 0) (f := (fieldT Tryz.prog 144 1).getD default) (by kernel_rfl) (by kernel_rfl) (by kernel_rfl) id off
theorem fl144_1 (cs : List Value) : afield Tryz.prog 144 (.agg cs.toArray) 1 = cs[3]? := afield_one (f := (fieldT Tryz.prog 144 1).getD default) (by kernel_rfl) (by kernel_rfl) (by kernel_rfl) cs
theorem sz154 : szT Tryz.prog 154 = some 1 := by kernel_rfl
theorem ag154 : aggT Tryz.prog 154 = some false := by kernel_rfl
theorem ze154 : zeroT Tryz.prog 154 = some (.slice none 0 0) := by kernel_rfl
theorem inf154 : ∃ i, Tryz.prog.info? 154 = some i ∧ i.zero = some (.slice none 0 0) ∧ i.size = 1 ∧ i.bytes = 24 := by
  have h : (Tryz.prog.info? 154).map (fun i => (i.zero, i.size, i.bytes)) = some (some (.slice none 0 0), 1, 24) := by kernel_rfl
  obtain ⟨i, h1, h2⟩ := Option.map_eq_some_iff.1 h
  simp only [Prod.mk.injEq] at h2
  exact ⟨i, h1, h2.1, h2.2.1, h2.2.2⟩
theorem st154 (H : AHeap) (id off : Nat) (x : Value) : astoreT Tryz.prog H 154 (.pointer (some ⟨id, off, none⟩)) x = if x.cells.size = 1 ∧ x.cells.toList.all oneCell = true then ((H[id]?).bind (rowStore off x.cells.toList)).map fun o => H.set id o else none := astore_rule sz154 H id off x
theorem un154 : Tryz.prog.underlying 154 = some (.slice 236) := by kernel_rfl
theorem el154 : elemT Tryz.prog 154 = some 236 := by kernel_rfl
theorem ln154 (H : AHeap) (a : Option Addr) (m c : Nat) : alen Tryz.prog H 154 (.slice a m c) = some (.int .i64 m) := alen_slice un154 H a m c
theorem cp154 (a : Addr) (m c : Nat) : acap Tryz.prog 154 (.slice (some a) m c) = if c = 0 then none else some (.int .i64 c) := acap_slice un154 a m c
theorem ix154 (id off m c : Nat) (ik : IntKind) (i : Int) : aindexAddr Tryz.prog 154 (.slice (some ⟨id, off, none⟩) m c) (.int ik i) = if 0 ≤ i ∧ i < m then some (.pointer (some ⟨id, off + i.toNat * 3, none⟩)) else none := aindexAddr_at un154 (by kernel_rfl) id off m c ik i
theorem en154 (H : AHeap) (xo yo : Operand) (a : Option Addr) (n c m q : Nat) : abin Tryz.prog H .eql 154 xo yo (.slice a n c) (.slice none m q) = some (.bool a.isNone) := abin_eq_slnil un154 H xo yo a n c m q
theorem nn154 (H : AHeap) (xo yo : Operand) (a : Option Addr) (n c m q : Nat) : abin Tryz.prog H .neq 154 xo yo (.slice a n c) (.slice none m q) = some (.bool !a.isNone) := abin_ne_slnil un154 H xo yo a n c m q
theorem sc154 (H : AHeap) (a : Option Addr) (n c : Nat) (lo hi : Option Value) : aslice Tryz.prog H 154 (.slice a n c) lo hi none = (optB hi (some n) (capOf n c)).bind fun h => (optB lo (some 0) h).bind fun l => cut H 3 a c l h := aslice_sl un154 (by kernel_rfl) H a n c lo hi
theorem sz155 : szT Tryz.prog 155 = some 4 := by kernel_rfl
theorem ag155 : aggT Tryz.prog 155 = some true := by kernel_rfl
theorem ze155 : zeroT Tryz.prog 155 = some (.agg #[.int .i64 0, .int .i64 0, .slice none 0 0, .slice none 0 0]) := by kernel_rfl
theorem pz155 : plainV 100 (.agg #[.int .i64 0, .int .i64 0, .slice none 0 0, .slice none 0 0]) = true := by kernel_rfl
theorem inf155 : ∃ i, Tryz.prog.info? 155 = some i ∧ i.zero = some (.agg #[.int .i64 0, .int .i64 0, .slice none 0 0, .slice none 0 0]) ∧ i.size = 4 ∧ i.bytes = 64 := by
  have h : (Tryz.prog.info? 155).map (fun i => (i.zero, i.size, i.bytes)) = some (some (.agg #[.int .i64 0, .int .i64 0, .slice none 0 0, .slice none 0 0]), 4, 64) := by kernel_rfl
  obtain ⟨i, h1, h2⟩ := Option.map_eq_some_iff.1 h
  simp only [Prod.mk.injEq] at h2
  exact ⟨i, h1, h2.1, h2.2.1, h2.2.2⟩
theorem st155 (H : AHeap) (id off : Nat) (x : Value) : astoreT Tryz.prog H 155 (.pointer (some ⟨id, off, none⟩)) x = if x.cells.size = 4 ∧ x.cells.toList.all oneCell = true then ((H[id]?).bind (rowStore off x.cells.toList)).map fun o => H.set id o else none := astore_rule sz155 H id off x
theorem fa155_0 (id off : Nat) : afieldAddr Tryz.prog 155 (.pointer (some ⟨id, off, none⟩)) 0 = some (.pointer (some ⟨id, off + 0, none⟩)) := afieldAddr_at (n := 1) (f := (fieldT Tryz.prog 155 0).getD default) (by kernel_rfl) (by kernel_rfl) (by kernel_rfl) id off
theorem fl155_0 (cs : List Value) : afield Tryz.prog 155 (.agg cs.toArray) 0 = some (.agg ((cs.drop 0).take 2).toArray) := afield_agg (f := (fieldT Tryz.prog 155 0).getD default) (by kernel_rfl) (by kernel_rfl) (by kernel_rfl) (by kernel_rfl) cs
theorem fa155_1 (id off : Nat) : afieldAddr Tryz.prog 155 (.pointer (some ⟨id, off, none⟩)) 1 = some (.pointer (some ⟨id, off + 2, none⟩)) := afieldAddr_at (n := 0) (f := (fieldT Tryz.prog 155 1).getD default) (by kernel_rfl) (by kernel_rfl) (by kernel_rfl) id off
theorem fl155_1 (cs : List Value) : afield Tryz.prog 155 (.agg cs.toArray) 1 = cs[2]? := afield_one (f := (fieldT Tryz.prog 155 1).getD default) (by kernel_rfl) (by kernel_rfl) (by kernel_rfl) cs
theorem fa155_2 (id off : Nat) : afieldAddr Tryz.prog 155 (.pointer (some ⟨id, off, none⟩)) 2 = some (.pointer (some ⟨id, off + 3, none⟩)) := afieldAddr_at (n := 0) (f := (fieldT Tryz.prog 155 2).getD default) (by kernel_rfl) (by kernel_rfl) (by kernel_rfl) id off
theorem fl155_2 (cs : List Value) : afield Tryz.prog 155 (.agg cs.toArray) 2 = cs[3]? := afield_one (f := (fieldT Tryz.prog 155 2).getD default) (by kernel_rfl) (by kernel_rfl) (by kernel_rfl) cs
theorem sz156 : szT Tryz.prog 156 = some 4 := by kernel_rfl
theorem ag156 : aggT Tryz.prog 156 = some true := by kernel_rfl
theorem ze156 : zeroT Tryz.prog 156 = some (.agg #[.int .i64 0, .int .i64 0, .slice none 0 0, .slice none 0 0]) := by kernel_rfl
theorem inf156 : ∃ i, Tryz.prog.info? 156 = some i ∧ i.zero = some (.agg #[.int .i64 0, .int .i64 0, .slice none 0 0, .slice none 0 0]) ∧ i.size = 4 ∧ i.bytes = 64 := by
  have h : (Tryz.prog.info? 156).map (fun i => (i.zero, i.size, i.bytes)) = some (some (.agg #[.int .i64 0, .int .i64 0, .slice none 0 0, .slice none 0 0]), 4, 64) := by kernel_rfl
  obtain ⟨i, h1, h2⟩ := Option.map_eq_some_iff.1 h
  simp only [Prod.mk.injEq] at h2
  exact ⟨i, h1, h2.1, h2.2.1, h2.2.2⟩
theorem st156 (H : AHeap) (id off : Nat) (x : Value) : astoreT Tryz.prog H 156 (.pointer (some ⟨id, off, none⟩)) x = if x.cells.size = 4 ∧ x.cells.toList.all oneCell = true then ((H[id]?).bind (rowStore off x.cells.toList)).map fun o => H.set id o else none := astore_rule sz156 H id off x
theorem fa156_0 (id off : Nat) : afieldAddr Tryz.prog 156 (.pointer (some ⟨id, off, none⟩)) 0 = some (.pointer (some ⟨id, off + 0, none⟩)) := afieldAddr_at (n := 1) (f := (fieldT Tryz.prog 156 0).getD default) (by kernel_rfl) (by kernel_rfl) (by kernel_rfl) id off
theorem fl156_0 (cs : List Value) : afield Tryz.prog 156 (.agg cs.toArray) 0 = some (.agg ((cs.drop 0).take 2).toArray) := afield_agg (f := (fieldT Tryz.prog 156 0).getD default) (by kernel_rfl) (by kernel_rfl) (by kernel_rfl) (by kernel_rfl) cs
theorem fa156_1 (id off : Nat) : afieldAddr Tryz.prog 156 (.pointer (some ⟨id, off, none⟩)) 1 = some (.pointer (some ⟨id, off + 2, none⟩)) := afieldAddr_at (n := 0) (f := (fieldT Tryz.prog 156 1).getD default) (by kernel_rfl) (by kernel_rfl) (by kernel_rfl) id off
theorem fl156_1 (cs : List Value) : afield Tryz.prog 156 (.agg cs.toArray) 1 = cs[2]? := afield_one (f := (fieldT Tryz.prog 156 1).getD default) (by kernel_rfl) (by kernel_rfl) (by kernel_rfl) cs
theorem fa156_2 (id off : Nat) : afieldAddr Tryz.prog 156 (.pointer (some ⟨id, off, none⟩)) 2 = some (.pointer (some ⟨id, off + 3, none⟩)) := afieldAddr_at (n := 0) (f := (fieldT Tryz.prog 156 2).getD default) (by kernel_rfl) (by kernel_rfl) (by kernel_rfl) id off
theorem fl156_2 (cs : List Value) : afield Tryz.prog 156 (.agg cs.toArray) 2 = cs[3]? := afield_one (f := (fieldT Tryz.prog 156 2).getD default) (by kernel_rfl) (by kernel_rfl) (by kernel_rfl) cs
theorem sz166 : szT Tryz.prog 166 = some 2 := by kernel_rfl
theorem ag166 : aggT Tryz.prog 166 = some true := by kernel_rfl
theorem ze166 : zeroT Tryz.prog 166 = some (.agg #[.int .i64 0, .int .i64 0]) := by kernel_rfl
theorem inf166 : ∃ i, Tryz.prog.info? 166 = some i ∧ i.zero = some (.agg #[.int .i64 0, .int .i64 0]) ∧ i.size = 2 ∧ i.bytes = 16 := by
  have h : (Tryz.prog.info? 166).map (fun i => (i.zero, i.size, i.bytes)) = some (some (.agg #[.int .i64 0, .int .i64 0]), 2, 16) := by kernel_rfl
  obtain ⟨i, h1, h2⟩ := Option.map_eq_some_iff.1 h
  simp only [Prod.mk.injEq] at h2
  exact ⟨i, h1, h2.1, h2.2.1, h2.2.2⟩
theorem st166 (H : AHeap) (id off : Nat) (x : Value) : astoreT Tryz.prog H 166 (.pointer (some ⟨id, off, none⟩)) x = if x.cells.size = 2 ∧ x.cells.toList.all oneCell = true then ((H[id]?).bind (rowStore off x.cells.toList)).map fun o => H.set id o else none := astore_rule sz166 H id off x
theorem fa166_0 (id off : Nat) : afieldAddr Tryz.prog 166 (.pointer (some ⟨id, off, none⟩)) 0 = some (.pointer (some ⟨id, off + 0, none⟩)) := afieldAddr_at (n := 0) (f := (fieldT Tryz.prog 166 0).getD default) (by kernel_rfl) (by kernel_rfl) (by kernel_rfl) id off
theorem fl166_0 (cs : List Value) : afield Tryz.prog 166 (.agg cs.toArray) 0 = cs[0]? := afield_one (f := (fieldT Tryz.prog 166 0).getD default) (by kernel_rfl) (by kernel_rfl) (by kernel_rfl) cs
theorem fa166_1 (id off : Nat) : afieldAddr Tryz.prog 166 (.pointer (some ⟨id, off, none⟩)) 1 = some (.pointer (some ⟨id, off + 1, none⟩)) := afieldAddr_at (n := 0) (f := (fieldT Tryz.prog 166 1).getD default) (by kernel_rfl) (by kernel_rfl) (by kernel_rfl) id off
theorem fl166_1 (cs : List Value) : afield Tryz.prog 166 (.agg cs.toArray) 1 = cs[1]? := afield_one (f := (fieldT Tryz.prog 166 1).getD default) (by kernel_rfl) (by kernel_rfl) (by kernel_rfl) cs
theorem sz167 : szT Tryz.prog 167 = some 2 := by kernel_rfl
theorem ag167 : aggT Tryz.prog 167 = some true := by kernel_rfl
theorem ze167 : zeroT Tryz.prog 167 = some (.agg #[.int .i64 0, .int .i64 0]) := by kernel_rfl
theorem inf167 : ∃ i, Tryz.prog.info? 167 = some i ∧ i.zero = some (.agg #[.int .i64 0, .int .i64 0]) ∧ i.size = 2 ∧ i.bytes = 16 := by
  have h : (Tryz.prog.info? 167).map (fun i => (i.zero, i.size, i.bytes)) = some (some (.agg #[.int .i64 0, .int .i64 0]), 2, 16) := by kernel_rfl
  obtain ⟨i, h1, h2⟩ := Option.map_eq_some_iff.1 h
  simp only [Prod.mk.injEq] at h2
  exact ⟨i, h1, h2.1, h2.2.1, h2.2.2⟩
theorem st167 (H : AHeap) (id off : Nat) (x : Value) : astoreT Tryz.prog H 167 (.pointer (some ⟨id, off, none⟩)) x = if x.cells.size = 2 ∧ x.cells.toList.all oneCell = true then ((H[id]?).bind (rowStore off x.cells.toList)).map fun o => H.set id o else none := astore_rule sz167 H id off x
theorem fa167_0 (id off : Nat) : afieldAddr Tryz.prog 167 (.pointer (some ⟨id, off, none⟩)) 0 = some (.pointer (some ⟨id, off + 0, none⟩)) := afieldAddr_at (n := 0) (f := (fieldT Tryz.prog 167 0).getD default) (by kernel_rfl) (by kernel_rfl) (by kernel_rfl) id off
theorem fl167_0 (cs : List Value) : afield Tryz.prog 167 (.agg cs.toArray) 0 = cs[0]? := afield_one (f := (fieldT Tryz.prog 167 0).getD default) (by kernel_rfl) (by kernel_rfl) (by kernel_rfl) cs
theorem fa167_1 (id off : Nat) : afieldAddr Tryz.prog 167 (.pointer (some ⟨id, off, none⟩)) 1 = some (.pointer (some ⟨id, off + 1, none⟩)) := afieldAddr_at (n := 0) (f := (fieldT Tryz.prog 167 1).getD default) (by kernel_rfl) (by kernel_rfl) (by kernel_rfl) id off
theorem fl167_1 (cs : List Value) : afield Tryz.prog 167 (.agg cs.toArray) 1 = cs[1]? := afield_one (f := (fieldT Tryz.prog 167 1).getD default) (by kernel_rfl) (by kernel_rfl) (by kernel_rfl) cs
theorem sz174 : szT Tryz.prog 174 = some 1 := by kernel_rfl
theorem ag174 : aggT Tryz.prog 174 = some false := by kernel_rfl
theorem ze174 : zeroT Tryz.prog 174 = some (.pointer none) := by kernel_rfl
theorem inf174 : ∃ i, Tryz.prog.info? 174 = some i ∧ i.zero = some (.pointer none) ∧ i.size = 1 ∧ i.bytes = 8 := by
  have h : (Tryz.prog.info? 174).map (fun i => (i.zero, i.size, i.bytes)) = some (some (.pointer none), 1, 8) := by kernel_rfl
  obtain ⟨i, h1, h2⟩ := Option.map_eq_some_iff.1 h
  simp only [Prod.mk.injEq] at h2
  exact ⟨i, h1, h2.1, h2.2.1, h2.2.2⟩
theorem st174 (H : AHeap) (id off : Nat) (x : Value) : astoreT Tryz.prog H 174 (.pointer (some ⟨id, off, none⟩)) x = if x.cells.size = 1 ∧ x.cells.toList.all oneCell = true then ((H[id]?).bind (rowStore off x.cells.toList)).map fun o => H.set id o else none := astore_rule sz174 H id off x
theorem en174 (H : AHeap) (xo yo : Operand) (a : Option Addr) : abin Tryz.prog H .eql 174 xo yo (.pointer a) (.pointer none) = some (.bool a.isNone) := abin_eq_ptrnil (e := 267) (by kernel_rfl) H xo yo a
theorem nn174 (H : AHeap) (xo yo : Operand) (a : Option Addr) : abin Tryz.prog H .neq 174 xo yo (.pointer a) (.pointer none) = some (.bool !a.isNone) := abin_ne_ptrnil (e := 267) (by kernel_rfl) H xo yo a
theorem sz188 : szT Tryz.prog 188 = some 1 := by kernel_rfl
theorem ag188 : aggT Tryz.prog 188 = some false := by kernel_rfl
theorem ze188 : zeroT Tryz.prog 188 = some (.pointer none) := by kernel_rfl
theorem inf188 : ∃ i, Tryz.prog.info? 188 = some i ∧ i.zero = some (.pointer none) ∧ i.size = 1 ∧ i.bytes = 8 := by
  have h : (Tryz.prog.info? 188).map (fun i => (i.zero, i.size, i.bytes)) = some (some (.pointer none), 1, 8) := by kernel_rfl
  obtain ⟨i, h1, h2⟩ := Option.map_eq_some_iff.1 h
  simp only [Prod.mk.injEq] at h2
  exact ⟨i, h1, h2.1, h2.2.1, h2.2.2⟩
theorem st188 (H : AHeap) (id off : Nat) (x : Value) : astoreT Tryz.prog H 188 (.pointer (some ⟨id, off, none⟩)) x = if x.cells.size = 1 ∧ x.cells.toList.all oneCell = true then ((H[id]?).bind (rowStore off x.cells.toList)).map fun o => H.set id o else none := astore_rule sz188 H id off x
theorem en188 (H : AHeap) (xo yo : Operand) (a : Option Addr) : abin Tryz.prog H .eql 188 xo yo (.pointer a) (.pointer none) = some (.bool a.isNone) := abin_eq_ptrnil (e := 190) (by kernel_rfl) H xo yo a
theorem nn188 (H : AHeap) (xo yo : Operand) (a : Option Addr) : abin Tryz.prog H .neq 188 xo yo (.pointer a) (.pointer none) = some (.bool !a.isNone) := abin_ne_ptrnil (e := 190) (by kernel_rfl) H xo yo a
theorem sz189 : szT Tryz.prog 189 = some 2 := by kernel_rfl
theorem ag189 : aggT Tryz.prog 189 = some true := by kernel_rfl
theorem ze189 : zeroT Tryz.prog 189 = some (.agg #[.slice none 0 0, .int .i64 0]) := by kernel_rfl
theorem pz189 : plainV 100 (.agg #[.slice none 0 0, .int .i64 0]) = true := by kernel_rfl
theorem inf189 : ∃ i, Tryz.prog.info? 189 = some i ∧ i.zero = some (.agg #[.slice none 0 0, .int .i64 0]) ∧ i.size = 2 ∧ i.bytes = 32 := by
  have h : (Tryz.prog.info? 189).map (fun i => (i.zero, i.size, i.bytes)) = some (some (.agg #[.slice none 0 0, .int .i64 0]), 2, 32) := by kernel_rfl
  obtain ⟨i, h1, h2⟩ := Option.map_eq_some_iff.1 h
  simp only [Prod.mk.injEq] at h2
  exact ⟨i, h1, h2.1, h2.2.1, h2.2.2⟩
theorem st189 (H : AHeap) (id off : Nat) (x : Value) : astoreT Tryz.prog H 189 (.pointer (some ⟨id, off, none⟩)) x = if x.cells.size = 2 ∧ x.cells.toList.all oneCell = true then ((H[id]?).bind (rowStore off x.cells.toList)).map fun o => H.set id o else none := astore_rule sz189 H id off x
theorem fa189_0 (id off : Nat) : afieldAddr Tryz.prog 189 (.pointer (some ⟨id, off, none⟩)) 0 = some (.pointer (some ⟨id, off + 0, none⟩)) := afieldAddr_at (n := 0) (f := (fieldT Tryz.prog 189 0).getD default) (by kernel_rfl) (by kernel_rfl) (by kernel_rfl) id off
theorem fl189_0 (cs : List Value) : afield Tryz.prog 189 (.agg cs.toArray) 0 = cs[0]? := afield_one (f := (fieldT Tryz.prog 189 0).getD default) (by kernel_rfl) (by kernel_rfl) (by kernel_rfl) cs
theorem fa189_1 (id off : Nat) : afieldAddr Tryz.prog 189 (.pointer (some ⟨id, off, none⟩)) 1 = some (.pointer (some ⟨id, off + 1, none⟩)) := afieldAddr_at (n := 0) (f := (fieldT Tryz.prog 189 1).getD default) (by kernel_rfl) (by kernel_rfl) (by kernel_rfl) id off
theorem fl189_1 (cs : List Value) : afield Tryz.prog 189 (.agg cs.toArray) 1 = cs[1]? := afield_one (f := (fieldT Tryz.prog 189 1).getD default) (by kernel_rfl) (by kernel_rfl) (by kernel_rfl) cs
theorem sz190 : szT Tryz.prog 190 = some 2 := by kernel_rfl
theorem ag190 : aggT Tryz.prog 190 = some true := by kernel_rfl
theorem ze190 : zeroT Tryz.prog 190 = some (.agg #[.slice none 0 0, .int .i64 0]) := by kernel_rfl
theorem inf190 : ∃ i, Tryz.prog.info? 190 = some i ∧ i.zero = some (.agg #[.slice none 0 0, .int .i64 0]) ∧ i.size = 2 ∧ i.bytes = 32 := by
  have h : (Tryz.prog.info? 190).map (fun i => (i.zero, i.size, i.bytes)) = some (some (.agg #[.slice none 0 0, .int .i64 0]), 2, 32) := by kernel_rfl
  obtain ⟨i, h1, h2⟩ := Option.map_eq_some_iff.1 h
  simp only [Prod.mk.injEq] at h2
  exact ⟨i, h1, h2.1, h2.2.1, h2.2.2⟩
theorem st190 (H : AHeap) (id off : Nat) (x : Value) : astoreT Tryz.prog H 190 (.pointer (some ⟨id, off, none⟩)) x = if x.cells.size = 2 ∧ x.cells.toList.all oneCell = true then ((H[id]?).bind (rowStore off x.cells.toList)).map fun o => H.set id o else none := astore_rule sz190 H id off x
theorem fa190_0 (id off : Nat) : afieldAddr Tryz.prog 190 (.pointer (some ⟨id, off, none⟩)) 0 = some (.pointer (some ⟨id, off + 0, none⟩)) := afieldAddr_at (n := 0) (f := (fieldT Tryz.prog 190 0).getD default) (by kernel_rfl) (by kernel_rfl) (by kernel_rfl) id off
theorem fl190_0 (cs : List Value) : afield Tryz.prog 190 (.agg cs.toArray) 0 = cs[0]? := afield_one (f := (fieldT Tryz.prog 190 0).getD default) (by kernel_rfl) (by kernel_rfl) (by kernel_rfl) cs
theorem fa190_1 (id off : Nat) : afieldAddr Tryz.prog 190 (.pointer (some ⟨id, off, none⟩)) 1 = some (.pointer (some ⟨id, off + 1, none⟩)) := afieldAddr_at (n := 0) (f := (fieldT Tryz.prog 190 1).getD default) (by kernel_rfl) (by kernel_rfl) (by kernel_rfl) id off
theorem fl190_1 (cs : List Value) : afield Tryz.prog 190 (.agg cs.toArray) 1 = cs[1]? := afield_one (f := (fieldT Tryz.prog 190 1).getD default) (by kernel_rfl) (by kernel_rfl) (by kernel_rfl) cs
theorem sz194 : szT Tryz.prog 194 = some 1 := by kernel_rfl
theorem ag194 : aggT Tryz.prog 194 = some false := by kernel_rfl
theorem ze194 : zeroT Tryz.prog 194 = some (.int .u32 0) := by kernel_rfl
theorem pz194 : plainV 100 (.int .u32 0) = true := by kernel_rfl
theorem inf194 : ∃ i, Tryz.prog.info? 194 = some i ∧ i.zero = some (.int .u32 0) ∧ i.size = 1 ∧ i.bytes = 4 := by
  have h : (Tryz.prog.info? 194).map (fun i => (i.zero, i.size, i.bytes)) = some (some (.int .u32 0), 1, 4) := by kernel_rfl
  obtain ⟨i, h1, h2⟩ := Option.map_eq_some_iff.1 h
  simp only [Prod.mk.injEq] at h2
  exact ⟨i, h1, h2.1, h2.2.1, h2.2.2⟩
theorem st194 (H : AHeap) (id off : Nat) (x : Value) : astoreT Tryz.prog H 194 (.pointer (some ⟨id, off, none⟩)) x = if x.cells.size = 1 ∧ x.cells.toList.all oneCell = true then ((H[id]?).bind (rowStore off x.cells.toList)).map fun o => H.set id o else none := astore_rule sz194 H id off x
theorem kd194 : kindT Tryz.prog 194 = .int .u32 := by kernel_rfl
theorem sz195 : szT Tryz.prog 195 = some 8 := by kernel_rfl
theorem ag195 : aggT Tryz.prog 195 = some true := by kernel_rfl
theorem ze195 : zeroT Tryz.prog 195 = some (.agg #[.int .i64 0, .int .i64 0, .int .i64 0, .int .i64 0, .int .i64 0, .string ByteArray.empty, .int .u32 0, .int .i64 0]) := by kernel_rfl
theorem pz195 : plainV 100 (.agg #[.int .i64 0, .int .i64 0, .int .i64 0, .int .i64 0, .int .i64 0, .string ByteArray.empty, .int .u32 0, .int .i64 0]) = true := by kernel_rfl
theorem inf195 : ∃ i, Tryz.prog.info? 195 = some i ∧ i.zero = some (.agg #[.int .i64 0, .int .i64 0, .int .i64 0, .int .i64 0, .int .i64 0, .string ByteArray.empty, .int .u32 0, .int .i64 0]) ∧ i.size = 8 ∧ i.bytes = 72 := by
  have h : (Tryz.prog.info? 195).map (fun i => (i.zero, i.size, i.bytes)) = some (some (.agg #[.int .i64 0, .int .i64 0, .int .i64 0, .int .i64 0, .int .i64 0, .string ByteArray.empty, .int .u32 0, .int .i64 0]), 8, 72) := by kernel_rfl
  obtain ⟨i, h1, h2⟩ := Option.map_eq_some_iff.1 h
  simp only [Prod.mk.injEq] at h2
  exact ⟨i, h1, h2.1, h2.2.1, h2.2.2⟩
theorem st195 (H : AHeap) (id off : Nat) (x : Value) : astoreT Tryz.prog H 195 (.pointer (some ⟨id, off, none⟩)) x = if x.cells.size = 8 ∧ x.cells.toList.all oneCell = true then ((H[id]?).bind (rowStore off x.cells.toList)).map fun o => H.set id o else none := astore_rule sz195 H id off x
theorem fa195_0 (id off : Nat) : afieldAddr Tryz.prog 195 (.pointer (some ⟨id, off, none⟩)) 0 = some (.pointer (some ⟨id, off + 0, none⟩)) := afieldAddr_at (n := 4) (f := (fieldT Tryz.prog 195 0).getD default) (by kernel_rfl) (by kernel_rfl) (by kernel_rfl) id off
theorem fl195_0 (cs : List Value) : afield Tryz.prog 195 (.agg cs.toArray) 0 = some (.agg ((cs.drop 0).take 5).toArray) := afield_agg (f := (fieldT Tryz.prog 195 0).getD default) (by kernel_rfl) (by kernel_rfl) (by kernel_rfl) (by kernel_rfl) cs
theorem fa195_1 (id off : Nat) : afieldAddr Tryz.prog 195 (.pointer (some ⟨id, off, none⟩)) 1 = some (.pointer (some ⟨id, off + 5, none⟩)) := afieldAddr_at (n := 0) (f := (fieldT Tryz.prog 195 1).getD default) (by kernel_rfl) (by kernel_rfl) (by kernel_rfl) id off
theorem fl195_1 (cs : List Value) : afield Tryz.prog 195 (.agg cs.toArray) 1 = cs[5]? := afield_one (f := (fieldT Tryz.prog 195 1).getD default) (by kernel_rfl) (by kernel_rfl) (by kernel_rfl) cs
theorem fa195_2 (id off : Nat) : afieldAddr Tryz.prog 195 (.pointer (some ⟨id, off, none⟩)) 2 = some (.pointer (some ⟨id, off + 6, none⟩)) := afieldAddr_at (n := 0) (f := (fieldT Tryz.prog 195 2).getD default) (by kernel_rfl) (by kernel_rfl) (by kernel_rfl) id off
theorem fl195_2 (cs : List Value) : afield Tryz.prog 195 (.agg cs.toArray) 2 = cs[6]? := afield_one (f := (fieldT Tryz.prog 195 2).getD default) (by kernel_rfl) (by kernel_rfl) (by kernel_rfl) cs
theorem fa195_3 (id off : Nat) : afieldAddr Tryz.prog 195 (.pointer (some ⟨id, off, none⟩)) 3 = some (.pointer (some ⟨id, off + 7, none⟩)) := afieldAddr_at (n := 0) (f := (fieldT Tryz.prog 195 3).getD default) (by kernel_rfl) (by kernel_rfl) (by kernel_rfl) id off
theorem fl195_3 (cs : List Value) : afield Tryz.prog 195 (.agg cs.toArray) 3 = cs[7]? := afield_one (f := (fieldT Tryz.prog 195 3).getD default) (by kernel_rfl) (by kernel_rfl) (by kernel_rfl) cs
theorem sz196 : szT Tryz.prog 196 = some 8 := by kernel_rfl
theorem ag196 : aggT Tryz.prog 196 = some true := by kernel_rfl
theorem ze196 : zeroT Tryz.prog 196 = some (.agg #[.int .i64 0, .int .i64 0, .int .i64 0, .int .i64 0, .int .i64 0, .string ByteArray.empty, .int .u32 0, .int .i64 0]) := by kernel_rfl
theorem inf196 : ∃ i, Tryz.prog.info? 196 = some i ∧ i.zero = some (.agg #[.int .i64 0, .int .i64 0, .int .i64 0, .int .i64 0, .int .i64 0, .string ByteArray.empty, .int .u32 0, .int .i64 0]) ∧ i.size = 8 ∧ i.bytes = 72 := by
  have h : (Tryz.prog.info? 196).map (fun i => (i.zero, i.size, i.bytes)) = some (some (.agg #[.int .i64 0, .int .i64 0, .int .i64 0, .int .i64 0, .int .i64 0, .string ByteArray.empty, .int .u32 0, .int .i64 0]), 8, 72) := by kernel_rfl
  obtain ⟨i, h1, h2⟩ := Option.map_eq_some_iff.1 h
  simp only [Prod.mk.injEq] at h2
  exact ⟨i, h1, h2.1, h2.2.1, h2.2.2⟩
theorem st196 (H : AHeap) (id off : Nat) (x : Value) : astoreT Tryz.prog H 196 (.pointer (some ⟨id, off, none⟩)) x = if x.cells.size = 8 ∧ x.cells.toList.all oneCell = true then ((H[id]?).bind (rowStore off x.cells.toList)).map fun o => H.set id o else none := astore_rule sz196 H id off x
theorem fa196_0 (id off : Nat) : afieldAddr Tryz.prog 196 (.pointer (some ⟨id, off, none⟩)) 0 = some (.pointer (some ⟨id, off + 0, none⟩)) := afieldAddr_at (n := 4) (f := (fieldT Tryz.prog 196 0).getD default) (by kernel_rfl) (by kernel_rfl) (by kernel_rfl) id off
theorem fl196_0 (cs : List Value) : afield Tryz.prog 196 (.agg cs.toArray) 0 = some (.agg ((cs.drop 0).take 5).toArray) := afield_agg (f := (fieldT Tryz.prog 196 0).getD default) (by kernel_rfl) (by kernel_rfl) (by kernel_rfl) (by kernel_rfl) cs
theorem fa196_1 (id off : Nat) : afieldAddr Tryz.prog 196 (.pointer (some ⟨id, off, none⟩)) 1 = some (.pointer (some ⟨id, off + 5, none⟩)) := afieldAddr_at (n := 0) (f := (fieldT Tryz.prog 196 1).getD default) (by kernel_rfl) (by kernel_rfl) (by kernel_rfl) id off
theorem fl196_1 (cs : List Value) : afield Tryz.prog 196 (.agg cs.toArray) 1 = cs[5]? := afield_one (f := (fieldT Tryz.prog 196 1).getD default) (by kernel_rfl) (by kernel_rfl) (by kernel_rfl) cs
theorem fa196_2 (id off : Nat) : afieldAddr Tryz.prog 196 (.pointer (some ⟨id, off, none⟩)) 2 = some (.pointer (some ⟨id, off + 6, none⟩)) := afieldAddr_at (n := 0) (f := (fieldT Tryz.prog 196 2).getD default) (by kernel_rfl) (by kernel_rfl) (by kernel_rfl) id off
theorem fl196_2 (cs : List Value) : afield Tryz.prog 196 (.agg cs.toArray) 2 = cs[6]? := afield_one (f := (fieldT Tryz.prog 196 2).getD default) (by kernel_rfl) (by kernel_rfl) (by kernel_rfl) cs
theorem fa196_3 (id off : Nat) : afieldAddr Tryz.prog 196 (.pointer (some ⟨id, off, none⟩)) 3 = some (.pointer (some ⟨id, off + 7, none⟩)) := afieldAddr_at (n := 0) (f := (fieldT Tryz.prog 196 3).getD default) (by kernel_rfl) (by kernel_rfl) (by kernel_rfl) id off
theorem fl196_3 (cs : List Value) : afield Tryz.prog 196 (.agg cs.toArray) 3 = cs[7]? := afield_one (f := (fieldT Tryz.prog 196 3).getD default) (by kernel_rfl) (by kernel_rfl) (by kernel_rfl) cs
theorem sz208 : szT Tryz.prog 208 = some 1 := by kernel_rfl
theorem ag208 : aggT Tryz.prog 208 = some true := by kernel_rfl
theorem ze208 : zeroT Tryz.prog 208 = some (.agg #[.int .i64 0]) := by kernel_rfl
theorem pz208 : plainV 100 (.agg #[.int .i64 0]) = true := by kernel_rfl
theorem inf208 : ∃ i, Tryz.prog.info? 208 = some i ∧ i.zero = some (.agg #[.int .i64 0]) ∧ i.size = 1 ∧ i.bytes = 8 := by
  have h : (Tryz.prog.info? 208).map (fun i => (i.zero, i.size, i.bytes)) = some (some (.agg #[.int .i64 0]), 1, 8) := by kernel_rfl
  obtain ⟨i, h1, h2⟩ := Option.map_eq_some_iff.1 h
  simp only [Prod.mk.injEq] at h2
  exact ⟨i, h1, h2.1, h2.2.1, h2.2.2⟩
theorem st208 (H : AHeap) (id off : Nat) (x : Value) : astoreT Tryz.prog H 208 (.pointer (some ⟨id, off, none⟩)) x = if x.cells.size = 1 ∧ x.cells.toList.all oneCell = true then ((H[id]?).bind (rowStore off x.cells.toList)).map fun o => H.set id o else none := astore_rule sz208 H id off x
theorem fa208_0 (id off : Nat) : afieldAddr Tryz.prog 208 (.pointer (some ⟨id, off, none⟩)) 0 = some (.pointer (some ⟨id, off + 0, none⟩)) := afieldAddr_at (n := 0) (f := (fieldT Tryz.prog 208 0).getD default) (by kernel_rfl) (by kernel_rfl) (by kernel_rfl) id off
theorem fl208_0 (cs : List Value) : afield Tryz.prog 208 (.agg cs.toArray) 0 = cs[0]? := afield_one (f := (fieldT Tryz.prog 208 0).getD default) (by kernel_rfl) (by kernel_rfl) (by kernel_rfl) cs
theorem sz209 : szT Tryz.prog 209 = some 1 := by kernel_rfl
theorem ag209 : aggT Tryz.prog 209 = some true := by kernel_rfl
theorem ze209 : zeroT Tryz.prog 209 = some (.agg #[.int .i64 0]) := by kernel_rfl
theorem inf209 : ∃ i, Tryz.prog.info? 209 = some i ∧ i.zero = some (.agg #[.int .i64 0]) ∧ i.size = 1 ∧ i.bytes = 8 := by
  have h : (Tryz.prog.info? 209).map (fun i => (i.zero, i.size, i.bytes)) = some (some (.agg #[.int .i64 0]), 1, 8) := by kernel_rfl
  obtain ⟨i, h1, h2⟩ := Option.map_eq_some_iff.1 h
  simp only [Prod.mk.injEq] at h2
  exact ⟨i, h1, h2.1, h2.2.1, h2.2.2⟩
theorem st209 (H : AHeap) (id off : Nat) (x : Value) : astoreT Tryz.prog H 209 (.pointer (some ⟨id, off, none⟩)) x = if x.cells.size = 1 ∧ x.cells.toList.all oneCell = true then ((H[id]?).bind (rowStore off x.cells.toList)).map fun o => H.set id o else none := astore_rule sz209 H id off x
theorem fa209_0 (id off : Nat) : afieldAddr Tryz.prog 209 (.pointer (some ⟨id, off, none⟩)) 0 = some (.pointer (some ⟨id, off + 0, none⟩)) := afieldAddr_at (n := 0) (f := (fieldT Tryz.prog 209 0).getD default) (by kernel_rfl) (by kernel_rfl) (by kernel_rfl) id off
theorem fl209_0 (cs : List Value) : afield Tryz.prog 209 (.agg cs.toArray) 0 = cs[0]? := afield_one (f := (fieldT Tryz.prog 209 0).getD default) (by kernel_rfl) (by kernel_rfl) (by kernel_rfl) cs
theorem sz221 : szT Tryz.prog 221 = some 1 := by kernel_rfl
theorem ag221 : aggT Tryz.prog 221 = some false := by kernel_rfl
theorem ze221 : zeroT Tryz.prog 221 = some (.pointer none) := by kernel_rfl
theorem inf221 : ∃ i, Tryz.prog.info? 221 = some i ∧ i.zero = some (.pointer none) ∧ i.size = 1 ∧ i.bytes = 8 := by
  have h : (Tryz.prog.info? 221).map (fun i => (i.zero, i.size, i.bytes)) = some (some (.pointer none), 1, 8) := by kernel_rfl
  obtain ⟨i, h1, h2⟩ := Option.map_eq_some_iff.1 h
  simp only [Prod.mk.injEq] at h2
  exact ⟨i, h1, h2.1, h2.2.1, h2.2.2⟩
theorem st221 (H : AHeap) (id off : Nat) (x : Value) : astoreT Tryz.prog H 221 (.pointer (some ⟨id, off, none⟩)) x = if x.cells.size = 1 ∧ x.cells.toList.all oneCell = true then ((H[id]?).bind (rowStore off x.cells.toList)).map fun o => H.set id o else none := astore_rule sz221 H id off x
theorem en221 (H : AHeap) (xo yo : Operand) (a : Option Addr) : abin Tryz.prog H .eql 221 xo yo (.pointer a) (.pointer none) = some (.bool a.isNone) := abin_eq_ptrnil (e := 310) (by kernel_rfl) H xo yo a
theorem nn221 (H : AHeap) (xo yo : Operand) (a : Option Addr) : abin Tryz.prog H .neq 221 xo yo (.pointer a) (.pointer none) = some (.bool !a.isNone) := abin_ne_ptrnil (e := 310) (by kernel_rfl) H xo yo a
theorem sz234 : szT Tryz.prog 234 = some 1 := by kernel_rfl
theorem ag234 : aggT Tryz.prog 234 = some false := by kernel_rfl
theorem ze234 : zeroT Tryz.prog 234 = some (.slice none 0 0) := by kernel_rfl
theorem inf234 : ∃ i, Tryz.prog.info? 234 = some i ∧ i.zero = some (.slice none 0 0) ∧ i.size = 1 ∧ i.bytes = 24 := by
  have h : (Tryz.prog.info? 234).map (fun i => (i.zero, i.size, i.bytes)) = some (some (.slice none 0 0), 1, 24) := by kernel_rfl
  obtain ⟨i, h1, h2⟩ := Option.map_eq_some_iff.1 h
  simp only [Prod.mk.injEq] at h2
  exact ⟨i, h1, h2.1, h2.2.1, h2.2.2⟩
theorem st234 (H : AHeap) (id off : Nat) (x : Value) : astoreT Tryz.prog H 234 (.pointer (some ⟨id, off, none⟩)) x = if x.cells.size = 1 ∧ x.cells.toList.all oneCell = true then ((H[id]?).bind (rowStore off x.cells.toList)).map fun o => H.set id o else none := astore_rule sz234 H id off x
theorem un234 : Tryz.prog.underlying 234 = some (.slice 174) := by kernel_rfl
theorem el234 : elemT Tryz.prog 234 = some 174 := by kernel_rfl
theorem ln234 (H : AHeap) (a : Option Addr) (m c : Nat) : alen Tryz.prog H 234 (.slice a m c) = some (.int .i64 m) := alen_slice un234 H a m c
theorem cp234 (a : Addr) (m c : Nat) : acap Tryz.prog 234 (.slice (some a) m c) = if c = 0 then none else some (.int .i64 c) := acap_slice un234 a m c
theorem ix234 (id off m c : Nat) (ik : IntKind) (i : Int) : aindexAddr Tryz.prog 234 (.slice (some ⟨id, off, none⟩) m c) (.int ik i) = if 0 ≤ i ∧ i < m then some (.pointer (some ⟨id, off + i.toNat * 1, none⟩)) else none := aindexAddr_at un234 (by kernel_rfl) id off m c ik i
theorem en234 (H : AHeap) (xo yo : Operand) (a : Option Addr) (n c m q : Nat) : abin Tryz.prog H .eql 234 xo yo (.slice a n c) (.slice none m q) = some (.bool a.isNone) := abin_eq_slnil un234 H xo yo a n c m q
theorem nn234 (H : AHeap) (xo yo : Operand) (a : Option Addr) (n c m q : Nat) : abin Tryz.prog H .neq 234 xo yo (.slice a n c) (.slice none m q) = some (.bool !a.isNone) := abin_ne_slnil un234 H xo yo a n c m q
theorem sc234 (H : AHeap) (a : Option Addr) (n c : Nat) (lo hi : Option Value) : aslice Tryz.prog H 234 (.slice a n c) lo hi none = (optB hi (some n) (capOf n c)).bind fun h => (optB lo (some 0) h).bind fun l => cut H 1 a c l h := aslice_sl un234 (by kernel_rfl) H a n c lo hi
theorem sz235 : szT Tryz.prog 235 = some 3 := by kernel_rfl
theorem ag235 : aggT Tryz.prog 235 = some true := by kernel_rfl
theorem ze235 : zeroT Tryz.prog 235 = some (.agg #[.pointer none, .slice none 0 0, .slice none 0 0]) := by kernel_rfl
theorem pz235 : plainV 100 (.agg #[.pointer none, .slice none 0 0, .slice none 0 0]) = true := by kernel_rfl
theorem inf235 : ∃ i, Tryz.prog.info? 235 = some i ∧ i.zero = some (.agg #[.pointer none, .slice none 0 0, .slice none 0 0]) ∧ i.size = 3 ∧ i.bytes = 56 := by
  have h : (Tryz.prog.info? 235).map (fun i => (i.zero, i.size, i.bytes)) = some (some (.agg #[.pointer none, .slice none 0 0, .slice none 0 0]), 3, 56) := by kernel_rfl
  obtain ⟨i, h1, h2⟩ := Option.map_eq_some_iff.1 h
  simp only [Prod.mk.injEq] at h2
  exact ⟨i, h1, h2.1, h2.2.1, h2.2.2⟩
theorem st235 (H : AHeap) (id off : Nat) (x : Value) : astoreT Tryz.prog H 235 (.pointer (some ⟨id, off, none⟩)) x = if x.cells.size = 3 ∧ x.cells.toList.all oneCell = true then ((H[id]?).bind (rowStore off x.cells.toList)).map fun o => H.set id o else none := astore_rule sz235 H id off x
theorem fa235_0 (id off : Nat) : afieldAddr Tryz.prog 235 (.pointer (some ⟨id, off, none⟩)) 0 = some (.pointer (some ⟨id, off + 0, none⟩)) := afieldAddr_at (n := 0) (f := (fieldT Tryz.prog 235 0).getD default) (by kernel_rfl) (by kernel_rfl) (by kernel_rfl) id off
theorem fl235_0 (cs : List Value) : afield Tryz.prog 235 (.agg cs.toArray) 0 = cs[0]? := afield_one (f := (fieldT Tryz.prog 235 0).getD default) (by kernel_rfl) (by kernel_rfl) (by kernel_rfl) cs
theorem fa235_1 (id off : Nat) : afieldAddr Tryz.prog 235 (.pointer (some ⟨id, off, none⟩)) 1 = some (.pointer (some ⟨id, off + 1, none⟩)) := afieldAddr_at (n := 0) (f := (fieldT Tryz.prog 235 1).getD default) (by kernel_rfl) (by kernel_rfl) (by kernel_rfl) id off
theorem fl235_1 (cs : List Value) : afield Tryz.prog 235 (.agg cs.toArray) 1 = cs[1]? := afield_one (f := (fieldT Tryz.prog 235 1).getD default) (by kernel_rfl) (by kernel_rfl) (by kernel_rfl) cs
theorem fa235_2 (id off : Nat) : afieldAddr Tryz.prog 235 (.pointer (some ⟨id, off, none⟩)) 2 = some (.pointer (some ⟨id, off + 2, none⟩)) := afieldAddr_at (n := 0) (f := (fieldT Tryz.prog 235 2).getD default) (by kernel_rfl) (by kernel_rfl) (by kernel_rfl) id off
theorem fl235_2 (cs : List Value) : afield Tryz.prog 235 (.agg cs.toArray) 2 = cs[2]? := afield_one (f := (fieldT Tryz.prog 235 2).getD default) (by kernel_rfl) (by kernel_rfl) (by kernel_rfl) cs
theorem sz236 : szT Tryz.prog 236 = some 3 := by kernel_rfl
theorem ag236 : aggT Tryz.prog 236 = some true := by kernel_rfl
theorem ze236 : zeroT Tryz.prog 236 = some (.agg #[.pointer none, .slice none 0 0, .slice none 0 0]) := by kernel_rfl
theorem inf236 : ∃ i, Tryz.prog.info? 236 = some i ∧ i.zero = some (.agg #[.pointer none, .slice none 0 0, .slice none 0 0]) ∧ i.size = 3 ∧ i.bytes = 56 := by
  have h : (Tryz.prog.info? 236).map (fun i => (i.zero, i.size, i.bytes)) = some (some (.agg #[.pointer none, .slice none 0 0, .slice none 0 0]), 3, 56) := by kernel_rfl
  obtain ⟨i, h1, h2⟩ := Option.map_eq_some_iff.1 h
  simp only [Prod.mk.injEq] at h2
  exact ⟨i, h1, h2.1, h2.2.1, h2.2.2⟩
theorem st236 (H : AHeap) (id off : Nat) (x : Value) : astoreT Tryz.prog H 236 (.pointer (some ⟨id, off, none⟩)) x = if x.cells.size = 3 ∧ x.cells.toList.all oneCell = true then ((H[id]?).bind (rowStore off x.cells.toList)).map fun o => H.set id o else none := astore_rule sz236 H id off x
theorem fa236_0 (id off : Nat) : afieldAddr Tryz.prog 236 (.pointer (some ⟨id, off, none⟩)) 0 = some (.pointer (some ⟨id, off + 0, none⟩)) := afieldAddr_at (n := 0) (f := (fieldT Tryz.prog 236 0).getD default) (by kernel_rfl) (by kernel_rfl) (by kernel_rfl) id off
theorem fl236_0 (cs : List Value) : afield Tryz.prog 236 (.agg cs.toArray) 0 = cs[0]? := afield_one (f := (fieldT Tryz.prog 236 0).getD default) (by kernel_rfl) (by kernel_rfl) (by kernel_rfl) cs
theorem fa236_1 (id off : Nat) : afieldAddr Tryz.prog 236 (.pointer (some ⟨id, off, none⟩)) 1 = some (.pointer (some ⟨id, off + 1, none⟩)) := afieldAddr_at (n := 0) (f := (fieldT Tryz.prog 236 1).getD default) (by kernel_rfl) (by kernel_rfl) (by kernel_rfl) id off
theorem fl236_1 (cs : List Value) : afield Tryz.prog 236 (.agg cs.toArray) 1 = cs[1]? := afield_one (f := (fieldT Tryz.prog 236 1).getD default) (by kernel_rfl) (by kernel_rfl) (by kernel_rfl) cs
theorem fa236_2 (id off : Nat) : afieldAddr Tryz.prog 236 (.pointer (some ⟨id, off, none⟩)) 2 = some (.pointer (some ⟨id, off + 2, none⟩)) := afieldAddr_at (n := 0) (f := (fieldT Tryz.prog 236 2).getD default) (by kernel_rfl) (by kernel_rfl) (by kernel_rfl) id off
theorem fl236_2 (cs : List Value) : afield Tryz.prog 236 (.agg cs.toArray) 2 = cs[2]? := afield_one (f := (fieldT Tryz.prog 236 2).getD default) (by kernel_rfl) (by kernel_rfl) (by kernel_rfl) cs
theorem sz266 : szT Tryz.prog 266 = some 2 := by kernel_rfl
theorem ag266 : aggT Tryz.prog 266 = some true := by kernel_rfl
theorem ze266 : zeroT Tryz.prog 266 = some (.agg #[.int .i64 0, .slice none 0 0]) := by kernel_rfl
theorem pz266 : plainV 100 (.agg #[.int .i64 0, .slice none 0 0]) = true := by kernel_rfl
theorem inf266 : ∃ i, Tryz.prog.info? 266 = some i ∧ i.zero = some (.agg #[.int .i64 0, .slice none 0 0]) ∧ i.size = 2 ∧ i.bytes = 32 := by
  have h : (Tryz.prog.info? 266).map (fun i => (i.zero, i.size, i.bytes)) = some (some (.agg #[.int .i64 0, .slice none 0 0]), 2, 32) := by kernel_rfl
  obtain ⟨i, h1, h2⟩ := Option.map_eq_some_iff.1 h
  simp only [Prod.mk.injEq] at h2
  exact ⟨i, h1, h2.1, h2.2.1, h2.2.2⟩
theorem st266 (H : AHeap) (id off : Nat) (x : Value) : astoreT Tryz.prog H 266 (.pointer (some ⟨id, off, none⟩)) x = if x.cells.size = 2 ∧ x.cells.toList.all oneCell = true then ((H[id]?).bind (rowStore off x.cells.toList)).map fun o => H.set id o else none := astore_rule sz266 H id off x
theorem fa266_0 (id off : Nat) : afieldAddr Tryz.prog 266 (.pointer (some ⟨id, off, none⟩)) 0 = some (.pointer (some ⟨id, off + 0, none⟩)) := afieldAddr_at (n := 0) (f := (fieldT Tryz.prog 266 0).getD default) (by kernel_rfl) (by kernel_rfl) (by kernel_rfl) id off
theorem fl266_0 (cs : List Value) : afield Tryz.prog 266 (.agg cs.toArray) 0 = cs[0]? := afield_one (f := (fieldT Tryz.prog 266 0).getD default) (by kernel_rfl) (by kernel_rfl) (by kernel_rfl) cs
theorem fa266_1 (id off : Nat) : afieldAddr Tryz.prog 266 (.pointer (some ⟨id, off, none⟩)) 1 = some (.pointer (some ⟨id, off + 1, none⟩)) := afieldAddr_at (n := 0) (f := (fieldT Tryz.prog 266 1).getD default) (by kernel_rfl) (by kernel_rfl) (by kernel_rfl) id off
theorem fl266_1 (cs : List Value) : afield Tryz.prog 266 (.agg cs.toArray) 1 = cs[1]? := afield_one (f := (fieldT Tryz.prog 266 1).getD default) (by kernel_rfl) (by kernel_rfl) (by kernel_rfl) cs
theorem sz267 : szT Tryz.prog 267 = some 2 := by kernel_rfl
theorem ag267 : aggT Tryz.prog 267 = some true := by kernel_rfl
theorem ze267 : zeroT Tryz.prog 267 = some (.agg #[.int .i64 0, .slice none 0 0]) := by kernel_rfl
theorem inf267 : ∃ i, Tryz.prog.info? 267 = some i ∧ i.zero = some (.agg #[.int .i64 0, .slice none 0 0]) ∧ i.size = 2 ∧ i.bytes = 32 := by
  have h : (Tryz.prog.info? 267).map (fun i => (i.zero, i.size, i.bytes)) = some (some (.agg #[.int .i64 0, .slice none 0 0]), 2, 32) := by kernel_rfl
  obtain ⟨i, h1, h2⟩ := Option.map_eq_some_iff.1 h
  simp only [Prod.mk.injEq] at h2
  exact ⟨i, h1, h2.1, h2.2.1, h2.2.2⟩
theorem st267 (H : AHeap) (id off : Nat) (x : Value) : astoreT Tryz.prog H 267 (.pointer (some ⟨id, off, none⟩)) x = if x.cells.size = 2 ∧ x.cells.toList.all oneCell = true then ((H[id]?).bind (rowStore off x.cells.toList)).map fun o => H.set id o else none := astore_rule sz267 H id off x
theorem fa267_0 (id off : Nat) : afieldAddr Tryz.prog 267 (.pointer (some ⟨id, off, none⟩)) 0 = some (.pointer (some ⟨id, off + 0, none⟩)) := afieldAddr_at (n := 0) (f := (fieldT Tryz.prog 267 0).getD default) (by kernel_rfl) (by kernel_rfl) (by kernel_rfl) id off
theorem fl267_0 (cs : List Value) : afield Tryz.prog 267 (.agg cs.toArray) 0 = cs[0]? := afield_one (f := (fieldT Tryz.prog 267 0).getD default) (by kernel_rfl) (by kernel_rfl) (by kernel_rfl) cs
theorem fa267_1 (id off : Nat) : afieldAddr Tryz.prog 267 (.pointer (some ⟨id, off, none⟩)) 1 = some (.pointer (some ⟨id, off + 1, none⟩)) := afieldAddr_at (n := 0) (f := (fieldT Tryz.prog 267 1).getD default) (by kernel_rfl) (by kernel_rfl) (by kernel_rfl) id off
theorem fl267_1 (cs : List Value) : afield Tryz.prog 267 (.agg cs.toArray) 1 = cs[1]? := afield_one (f := (fieldT Tryz.prog 267 1).getD default) (by kernel_rfl) (by kernel_rfl) (by kernel_rfl) cs
theorem sz282 : szT Tryz.prog 282 = some 1 := by kernel_rfl
theorem ag282 : aggT Tryz.prog 282 = some false := by kernel_rfl
theorem ze282 : zeroT Tryz.prog 282 = some (.slice none 0 0) := by kernel_rfl
theorem inf282 : ∃ i, Tryz.prog.info? 282 = some i ∧ i.zero = some (.slice none 0 0) ∧ i.size = 1 ∧ i.bytes = 24 := by
  have h : (Tryz.prog.info? 282).map (fun i => (i.zero, i.size, i.bytes)) = some (some (.slice none 0 0), 1, 24) := by kernel_rfl
  obtain ⟨i, h1, h2⟩ := Option.map_eq_some_iff.1 h
  simp only [Prod.mk.injEq] at h2
  exact ⟨i, h1, h2.1, h2.2.1, h2.2.2⟩
theorem st282 (H : AHeap) (id off : Nat) (x : Value) : astoreT Tryz.prog H 282 (.pointer (some ⟨id, off, none⟩)) x = if x.cells.size = 1 ∧ x.cells.toList.all oneCell = true then ((H[id]?).bind (rowStore off x.cells.toList)).map fun o => H.set id o else none := astore_rule sz282 H id off x
theorem un282 : Tryz.prog.underlying 282 = some (.slice 284) := by kernel_rfl
theorem el282 : elemT Tryz.prog 282 = some 284 := by kernel_rfl
theorem ln282 (H : AHeap) (a : Option Addr) (m c : Nat) : alen Tryz.prog H 282 (.slice a m c) = some (.int .i64 m) := alen_slice un282 H a m c
theorem cp282 (a : Addr) (m c : Nat) : acap Tryz.prog 282 (.slice (some a) m c) = if c = 0 then none else some (.int .i64 c) := acap_slice un282 a m c
theorem ix282 (id off m c : Nat) (ik : IntKind) (i : Int) : aindexAddr Tryz.prog 282 (.slice (some ⟨id, off, none⟩) m c) (.int ik i) = if 0 ≤ i ∧ i < m then some (.pointer (some ⟨id, off + i.toNat * 3, none⟩)) else none := aindexAddr_at un282 (by kernel_rfl) id off m c ik i
theorem en282 (H : AHeap) (xo yo : Operand) (a : Option Addr) (n c m q : Nat) : abin Tryz.prog H .eql 282 xo yo (.slice a n c) (.slice none m q) = some (.bool a.isNone) := abin_eq_slnil un282 H xo yo a n c m q
theorem nn282 (H : AHeap) (xo yo : Operand) (a : Option Addr) (n c m q : Nat) : abin Tryz.prog H .neq 282 xo yo (.slice a n c) (.slice none m q) = some (.bool !a.isNone) := abin_ne_slnil un282 H xo yo a n c m q
theorem sc282 (H : AHeap) (a : Option Addr) (n c : Nat) (lo hi : Option Value) : aslice Tryz.prog H 282 (.slice a n c) lo hi none = (optB hi (some n) (capOf n c)).bind fun h => (optB lo (some 0) h).bind fun l => cut H 3 a c l h := aslice_sl un282 (by kernel_rfl) H a n c lo hi
theorem sz283 : szT Tryz.prog 283 = some 3 := by kernel_rfl
theorem ag283 : aggT Tryz.prog 283 = some true := by kernel_rfl
theorem ze283 : zeroT Tryz.prog 283 = some (.agg #[.int .u64 0, .int .i64 0, .slice none 0 0]) := by kernel_rfl
theorem pz283 : plainV 100 (.agg #[.int .u64 0, .int .i64 0, .slice none 0 0]) = true := by kernel_rfl
theorem inf283 : ∃ i, Tryz.prog.info? 283 = some i ∧ i.zero = some (.agg #[.int .u64 0, .int .i64 0, .slice none 0 0]) ∧ i.size = 3 ∧ i.bytes = 40 := by
  have h : (Tryz.prog.info? 283).map (fun i => (i.zero, i.size, i.bytes)) = some (some (.agg #[.int .u64 0, .int .i64 0, .slice none 0 0]), 3, 40) := by kernel_rfl
  obtain ⟨i, h1, h2⟩ := Option.map_eq_some_iff.1 h
  simp only [Prod.mk.injEq] at h2
  exact ⟨i, h1, h2.1, h2.2.1, h2.2.2⟩
theorem st283 (H : AHeap) (id off : Nat) (x : Value) : astoreT Tryz.prog H 283 (.pointer (some ⟨id, off, none⟩)) x = if x.cells.size = 3 ∧ x.cells.toList.all oneCell = true then ((H[id]?).bind (rowStore off x.cells.toList)).map fun o => H.set id o else none := astore_rule sz283 H id off x
theorem fa283_0 (id off : Nat) : afieldAddr Tryz.prog 283 (.pointer (some ⟨id, off, none⟩)) 0 = some (.pointer (some ⟨id, off + 0, none⟩)) := afieldAddr_at (n := 0) (f := (fieldT Tryz.prog 283 0).getD default) (by kernel_rfl) (by kernel_rfl) (by kernel_rfl) id off
theorem fl283_0 (cs : List Value) : afield Tryz.prog 283 (.agg cs.toArray) 0 = cs[0]? := afield_one (f := (fieldT Tryz.prog 283 0).getD default) (by kernel_rfl) (by kernel_rfl) (by kernel_rfl) cs
theorem fa283_1 (id off : Nat) : afieldAddr Tryz.prog 283 (.pointer (some ⟨id, off, none⟩)) 1 = some (.pointer (some ⟨id, off + 1, none⟩)) := afieldAddr_at (n := 0) (f := (fieldT Tryz.prog 283 1).getD default) (by kernel_rfl) (by kernel_rfl) (by kernel_rfl) id off
theorem fl283_1 (cs : List Value) : afield Tryz.prog 283 (.agg cs.toArray) 1 = cs[1]? := afield_one (f := (fieldT Tryz.prog 283 1).getD default) (by kernel_rfl) (by kernel_rfl) (by kernel_rfl) cs
theorem fa283_2 (id off : Nat) : afieldAddr Tryz.prog 283 (.pointer (some ⟨id, off, none⟩)) 2 = some (.pointer (some ⟨id, off + 2, none⟩)) := afieldAddr_at (n := 0) (f := (fieldT Tryz.prog 283 2).getD default) (by kernel_rfl) (by kernel_rfl) (by kernel_rfl) id off
theorem fl283_2 (cs : List Value) : afield Tryz.prog 283 (.agg cs.toArray) 2 = cs[2]? := afield_one (f := (fieldT Tryz.prog 283 2).getD default) (by kernel_rfl) (by kernel_rfl) (by kernel_rfl) cs
theorem sz284 : szT Tryz.prog 284 = some 3 := by kernel_rfl
theorem ag284 : aggT Tryz.prog 284 = some true := by kernel_rfl
theorem ze284 : zeroT Tryz.prog 284 = some (.agg #[.int .u64 0, .int .i64 0, .slice none 0 0]) := by kernel_rfl
theorem inf284 : ∃ i, Tryz.prog.info? 284 = some i ∧ i.zero = some (.agg #[.int .u64 0, .int .i64 0, .slice none 0 0]) ∧ i.size = 3 ∧ i.bytes = 40 := by
  have h : (Tryz.prog.info? 284).map (fun i => (i.zero, i.size, i.bytes)) = some (some (.agg #[.int .u64 0, .int .i64 0, .slice none 0 0]), 3, 40) := by kernel_rfl
  obtain ⟨i, h1, h2⟩ := Option.map_eq_some_iff.1 h
  simp only [Prod.mk.injEq] at h2
  exact ⟨i, h1, h2.1, h2.2.1, h2.2.2⟩
theorem st284 (H : AHeap) (id off : Nat) (x : Value) : astoreT Tryz.prog H 284 (.pointer (some ⟨id, off, none⟩)) x = if x.cells.size = 3 ∧ x.cells.toList.all oneCell = true then ((H[id]?).bind (rowStore off x.cells.toList)).map fun o => H.set id o else none := astore_rule sz284 H id off x
theorem fa284_0 (id off : Nat) : afieldAddr Tryz.prog 284 (.pointer (some ⟨id, off, none⟩)) 0 = some (.pointer (some ⟨id, off + 0, none⟩)) := afieldAddr_at (n := 0) (f := (fieldT Tryz.prog 284 0).getD default) (by kernel_rfl) (by kernel_rfl) (by kernel_rfl) id off
theorem fl284_0 (cs : List Value) : afield Tryz.prog 284 (.agg cs.toArray) 0 = cs[0]? := afield_one (f := (fieldT Tryz.prog 284 0).getD default) (by kernel_rfl) (by kernel_rfl) (by kernel_rfl) cs
theorem fa284_1 (id off : Nat) : afieldAddr Tryz.prog 284 (.pointer (some ⟨id, off, none⟩)) 1 = some (.pointer (some ⟨id, off + 1, none⟩)) := afieldAddr_at (n := 0) (f := (fieldT Tryz.prog 284 1).getD default) (by kernel_rfl) (by kernel_rfl) (by kernel_rfl) id off
theorem fl284_1 (cs : List Value) : afield Tryz.prog 284 (.agg cs.toArray) 1 = cs[1]? := afield_one (f := (fieldT Tryz.prog 284 1).getD default) (by kernel_rfl) (by kernel_rfl) (by kernel_rfl) cs
theorem fa284_2 (id off : Nat) : afieldAddr Tryz.prog 284 (.pointer (some ⟨id, off, none⟩)) 2 = some (.pointer (some ⟨id, off + 2, none⟩)) := afieldAddr_at (n := 0) (f := (fieldT Tryz.prog 284 2).getD default) (by kernel_rfl) (by kernel_rfl) (by kernel_rfl) id off
theorem fl284_2 (cs : List Value) : afield Tryz.prog 284 (.agg cs.toArray) 2 = cs[2]? := afield_one (f := (fieldT Tryz.prog 284 2).getD default) (by kernel_rfl) (by kernel_rfl) (by kernel_rfl) cs
theorem sz287 : szT Tryz.prog 287 = some 3 := by kernel_rfl
theorem ag287 : aggT Tryz.prog 287 = some true := by kernel_rfl
theorem ze287 : zeroT Tryz.prog 287 = some (.agg #[.int .i64 0, .int .i64 0, .slice none 0 0]) := by kernel_rfl
theorem pz287 : plainV 100 (.agg #[.int .i64 0, .int .i64 0, .slice none 0 0]) = true := by kernel_rfl
theorem inf287 : ∃ i, Tryz.prog.info? 287 = some i ∧ i.zero = some (.agg #[.int .i64 0, .int .i64 0, .slice none 0 0]) ∧ i.size = 3 ∧ i.bytes = 40 := by
  have h : (Tryz.prog.info? 287).map (fun i => (i.zero, i.size, i.bytes)) = some (some (.agg #[.int .i64 0, .int .i64 0, .slice none 0 0]), 3, 40) := by kernel_rfl
  obtain ⟨i, h1, h2⟩ := Option.map_eq_some_iff.1 h
  simp only [Prod.mk.injEq] at h2
  exact ⟨i, h1, h2.1, h2.2.1, h2.2.2⟩
theorem st287 (H : AHeap) (id off : Nat) (x : Value) : astoreT Tryz.prog H 287 (.pointer (some ⟨id, off, none⟩)) x = if x.cells.size = 3 ∧ x.cells.toList.all oneCell = true then ((H[id]?).bind (rowStore off x.cells.toList)).map fun o => H.set id o else none := astore_rule sz287 H id off x
theorem fa287_0 (id off : Nat) : afieldAddr Tryz.prog 287 (.pointer (some ⟨id, off, none⟩)) 0 = some (.pointer (some ⟨id, off + 0, none⟩)) := afieldAddr_at (n := 0) (f := (fieldT Tryz.prog 287 0).getD default) (by kernel_rfl) (by kernel_rfl) (by kernel_rfl) id off
theorem fl287_0 (cs : List Value) : afield Tryz.prog 287 (.agg cs.toArray) 0 = cs[0]? := afield_one (f := (fieldT Tryz.prog 287 0).getD default) (by kernel_rfl) (by kernel_rfl) (by kernel_rfl) cs
theorem fa287_1 (id off : Nat) : afieldAddr Tryz.prog 287 (.pointer (some ⟨id, off, none⟩)) 1 = some (.pointer (some ⟨id, off + 1, none⟩)) := afieldAddr_at (n := 0) (f := (fieldT Tryz.prog 287 1).getD default) (by kernel_rfl) (by kernel_rfl) (by kernel_rfl) id off
theorem fl287_1 (cs : List Value) : afield Tryz.prog 287 (.agg cs.toArray) 1 = cs[1]? := afield_one (f := (fieldT Tryz.prog 287 1).getD default) (by kernel_rfl) (by kernel_rfl) (by kernel_rfl) cs
theorem fa287_2 (id off : Nat) : afieldAddr Tryz.prog 287 (.pointer (some ⟨id, off, none⟩)) 2 = some (.pointer (some ⟨id, off + 2, none⟩)) := afieldAddr_at (n := 0) (f := (fieldT Tryz.prog 287 2).getD default) (by kernel_rfl) (by kernel_rfl) (by kernel_rfl) id off
theorem fl287_2 (cs : List Value) : afield Tryz.prog 287 (.agg cs.toArray) 2 = cs[2]? := afield_one (f := (fieldT Tryz.prog 287 2).getD default) (by kernel_rfl) (by kernel_rfl) (by kernel_rfl) cs
theorem sz288 : szT Tryz.prog 288 = some 3 := by kernel_rfl
theorem ag288 : aggT Tryz.prog 288 = some true := by kernel_rfl
theorem ze288 : zeroT Tryz.prog 288 = some (.agg #[.int .i64 0, .int .i64 0, .slice none 0 0]) := by kernel_rfl
theorem inf288 : ∃ i, Tryz.prog.info? 288 = some i ∧ i.zero = some (.agg #[.int .i64 0, .int .i64 0, .slice none 0 0]) ∧ i.size = 3 ∧ i.bytes = 40 := by
  have h : (Tryz.prog.info? 288).map (fun i => (i.zero, i.size, i.bytes)) = some (some (.agg #[.int .i64 0, .int .i64 0, .slice none 0 0]), 3, 40) := by kernel_rfl
  obtain ⟨i, h1, h2⟩ := Option.map_eq_some_iff.1 h
  simp only [Prod.mk.injEq] at h2
  exact ⟨i, h1, h2.1, h2.2.1, h2.2.2⟩
theorem st288 (H : AHeap) (id off : Nat) (x : Value) : astoreT Tryz.prog H 288 (.pointer (some ⟨id, off, none⟩)) x = if x.cells.size = 3 ∧ x.cells.toList.all oneCell = true then ((H[id]?).bind (rowStore off x.cells.toList)).map fun o => H.set id o else none := astore_rule sz288 H id off x
theorem fa288_0 (id off : Nat) : afieldAddr Tryz.prog 288 (.pointer (some ⟨id, off, none⟩)) 0 = some (.pointer (some ⟨id, off + 0, none⟩)) := afieldAddr_at (n := 0) (f := (fieldT Tryz.prog 288 0).getD default) (by kernel_rfl) (by kernel_rfl) (by kernel_rfl) id off
theorem fl288_0 (cs : List Value) : afield Tryz.prog 288 (.agg cs.toArray) 0 = cs[0]? := afield_one (f := (fieldT Tryz.prog 288 0).getD default) (by kernel_rfl) (by kernel_rfl) (by kernel_rfl) cs
theorem fa288_1 (id off : Nat) : afieldAddr Tryz.prog 288 (.pointer (some ⟨id, off, none⟩)) 1 = some (.pointer (some ⟨id, off + 1, none⟩)) := afieldAddr_at (n := 0) (f := (fieldT Tryz.prog 288 1).getD default) (by kernel_rfl) (by kernel_rfl) (by kernel_rfl) id off
theorem fl288_1 (cs : List Value) : afield Tryz.prog 288 (.agg cs.toArray) 1 = cs[1]? := afield_one (f := (fieldT Tryz.prog 288 1).getD default) (by kernel_rfl) (by kernel_rfl) (by kernel_rfl) cs
theorem fa288_2 (id off : Nat) : afieldAddr Tryz.prog 288 (.pointer (some ⟨id, off, none⟩)) 2 = some (.pointer (some ⟨id, off + 2, none⟩)) := afieldAddr_at (n := 0) (f := (fieldT Tryz.prog 288 2).getD default) (by kernel_rfl) (by kernel_rfl) (by kernel_rfl) id off
theorem fl288_2 (cs : List Value) : afield Tryz.prog 288 (.agg cs.toArray) 2 = cs[2]? := afield_one (f := (fieldT Tryz.prog 288 2).getD default) (by kernel_rfl) (by kernel_rfl) (by kernel_rfl) cs
theorem sz293 : szT Tryz.prog 293 = some 4 := by kernel_rfl
theorem ag293 : aggT Tryz.prog 293 = some true := by kernel_rfl
theorem ze293 : zeroT Tryz.prog 293 = some (.agg #[.int .i64 0, .int .i64 0, .slice none 0 0, .slice none 0 0]) := by kernel_rfl
theorem inf293 : ∃ i, Tryz.prog.info? 293 = some i ∧ i.zero = some (.agg #[.int .i64 0, .int .i64 0, .slice none 0 0, .slice none 0 0]) ∧ i.size = 4 ∧ i.bytes = 64 := by
  have h : (Tryz.prog.info? 293).map (fun i => (i.zero, i.size, i.bytes)) = some (some (.agg #[.int .i64 0, .int .i64 0, .slice none 0 0, .slice none 0 0]), 4, 64) := by kernel_rfl
  obtain ⟨i, h1, h2⟩ := Option.map_eq_some_iff.1 h
  simp only [Prod.mk.injEq] at h2
  exact ⟨i, h1, h2.1, h2.2.1, h2.2.2⟩
theorem st293 (H : AHeap) (id off : Nat) (x : Value) : astoreT Tryz.prog H 293 (.pointer (some ⟨id, off, none⟩)) x = if x.cells.size = 4 ∧ x.cells.toList.all oneCell = true then ((H[id]?).bind (rowStore off x.cells.toList)).map fun o => H.set id o else none := astore_rule sz293 H id off x
theorem fa293_0 (id off : Nat) : afieldAddr Tryz.prog 293 (.pointer (some ⟨id, off, none⟩)) 0 = some (.pointer (some ⟨id, off + 0, none⟩)) := afieldAddr_at (n := 2) (f := (fieldT Tryz.prog 293 0).getD default) (by kernel_rfl) (by kernel_rfl) (by kernel_rfl) id off
theorem fl293_0 (cs : List Value) : afield Tryz.prog 293 (.agg cs.toArray) 0 = some (.agg ((cs.drop 0).take 3).toArray) := afield_agg (f := (fieldT Tryz.prog 293 0).getD default) (by kernel_rfl) (by kernel_rfl) (by kernel_rfl) (by kernel_rfl) cs
theorem fa293_1 (id off : Nat) : afieldAddr Tryz.prog 293 (.pointer (some ⟨id, off, none⟩)) 1 = some (.pointer (some ⟨id, off + 3, none⟩)) := afieldAddr_at (n := 0) (f := (fieldT Tryz.prog 293 1).getD default) (by kernel_rfl) (by kernel_rfl) (by kernel_rfl) id off
theorem fl293_1 (cs : List Value) : afield Tryz.prog 293 (.agg cs.toArray) 1 = cs[3]? := afield_one (f := (fieldT Tryz.prog 293 1).getD default) (by kernel_rfl) (by kernel_rfl) (by kernel_rfl) cs
theorem sz294 : szT Tryz.prog 294 = some 4 := by kernel_rfl
theorem ag294 : aggT Tryz.prog 294 = some true := by kernel_rfl
theorem ze294 : zeroT Tryz.prog 294 = some (.agg #[.int .i64 0, .int .i64 0, .slice none 0 0, .slice none 0 0]) := by kernel_rfl
theorem inf294 : ∃ i, Tryz.prog.info? 294 = some i ∧ i.zero = some (.agg #[.int .i64 0, .int .i64 0, .slice none 0 0, .slice none 0 0]) ∧ i.size = 4 ∧ i.bytes = 64 := by
  have h : (Tryz.prog.info? 294).map (fun i => (i.zero, i.size, i.bytes)) = some (some (.agg #[.int .i64 0, .int .i64 0, .slice none 0 0, .slice none 0 0]), 4, 64) := by kernel_rfl
  obtain ⟨i, h1, h2⟩ := Option.map_eq_some_iff.1 h
  simp only [Prod.mk.injEq] at h2
  exact ⟨i, h1, h2.1, h2.2.1, h2.2.2⟩
theorem st294 (H : AHeap) (id off : Nat) (x : Value) : astoreT Tryz.prog H 294 (.pointer (some ⟨id, off, none⟩)) x = if x.cells.size = 4 ∧ x.cells.toList.all oneCell = true then ((H[id]?).bind (rowStore off x.cells.toList)).map fun o => H.set id o else none := astore_rule sz294 H id off x
theorem fa294_0 (id off : Nat) : afieldAddr Tryz.prog 294 (.pointer (some ⟨id, off, none⟩)) 0 = some (.pointer (some ⟨id, off + 0, none⟩)) := afieldAddr_at (n := 2) (f := (fieldT Tryz.prog 294 0).getD default) (by kernel_rfl) (by kernel_rfl) (by kernel_rfl) id off
theorem fl294_0 (cs : List Value) : afield Tryz.prog 294 (.agg cs.toArray) 0 = some (.agg ((cs.drop 0).take 3).toArray) := afield_agg (f := (fieldT Tryz.prog 294 0).getD default) (by kernel_rfl) (by kernel_rfl) (by kernel_rfl) (by kernel_rfl) cs
theorem fa294_1 (id off : Nat) : afieldAddr Tryz.prog 294 (.pointer (some ⟨id, off, none⟩)) 1 = some (.pointer (some ⟨id, off + 3, none⟩)) := afieldAddr_at (n := 0) (f := (fieldT Tryz.prog 294 1).getD default) (by kernel_rfl) (by kernel_rfl) (by kernel_rfl) id off
theorem fl294_1 (cs : List Value) : afield Tryz.prog 294 (.agg cs.toArray) 1 = cs[3]? := afield_one (f := (fieldT Tryz.prog 294 1).getD default) (by kernel_rfl) (by kernel_rfl) (by kernel_rfl) cs
theorem sz309 : szT Tryz.prog 309 = some 1 := by kernel_rfl
theorem ag309 : aggT Tryz.prog 309 = some true := by kernel_rfl
theorem ze309 : zeroT Tryz.prog 309 = some (.agg #[.slice none 0 0]) := by kernel_rfl
theorem pz309 : plainV 100 (.agg #[.slice none 0 0]) = true := by kernel_rfl
theorem inf309 : ∃ i, Tryz.prog.info? 309 = some i ∧ i.zero = some (.agg #[.slice none 0 0]) ∧ i.size = 1 ∧ i.bytes = 24 := by
  have h : (Tryz.prog.info? 309).map (fun i => (i.zero, i.size, i.bytes)) = some (some (.agg #[.slice none 0 0]), 1, 24) := by kernel_rfl
  obtain ⟨i, h1, h2⟩ := Option.map_eq_some_iff.1 h
  simp only [Prod.mk.injEq] at h2
  exact ⟨i, h1, h2.1, h2.2.1, h2.2.2⟩
theorem st309 (H : AHeap) (id off : Nat) (x : Value) : astoreT Tryz.prog H 309 (.pointer (some ⟨id, off, none⟩)) x = if x.cells.size = 1 ∧ x.cells.toList.all oneCell = true then ((H[id]?).bind (rowStore off x.cells.toList)).map fun o => H.set id o else none := astore_rule sz309 H id off x
theorem fa309_0 (id off : Nat) : afieldAddr Tryz.prog 309 (.pointer (some ⟨id, off, none⟩)) 0 = some (.pointer (some ⟨id, off + 0, none⟩)) := afieldAddr_at (n := 0) (f := (fieldT Tryz.prog 309 0).getD default) (by kernel_rfl) (by kernel_rfl) (by kernel_rfl) id off
theorem fl309_0 (cs : List Value) : afield Tryz.prog 309 (.agg cs.toArray) 0 = cs[0]? := afield_one (f := (fieldT Tryz.prog 309 0).getD default) (by kernel_rfl) (by kernel_rfl) (by kernel_rfl) cs
theorem sz310 : szT Tryz.prog 310 = some 1 := by kernel_rfl
theorem ag310 : aggT Tryz.prog 310 = some true := by kernel_rfl
theorem ze310 : zeroT Tryz.prog 310 = some (.agg #[.slice none 0 0]) := by kernel_rfl
theorem inf310 : ∃ i, Tryz.prog.info? 310 = some i ∧ i.zero = some (.agg #[.slice none 0 0]) ∧ i.size = 1 ∧ i.bytes = 24 := by
  have h : (Tryz.prog.info? 310).map (fun i => (i.zero, i.size, i.bytes)) = some (some (.agg #[.slice none 0 0]), 1, 24) := by kernel_rfl
  obtain ⟨i, h1, h2⟩ := Option.map_eq_some_iff.1 h
  simp only [Prod.mk.injEq] at h2
  exact ⟨i, h1, h2.1, h2.2.1, h2.2.2⟩
theorem st310 (H : AHeap) (id off : Nat) (x : Value) : astoreT Tryz.prog H 310 (.pointer (some ⟨id, off, none⟩)) x = if x.cells.size = 1 ∧ x.cells.toList.all oneCell = true then ((H[id]?).bind (rowStore off x.cells.toList)).map fun o => H.set id o else none := astore_rule sz310 H id off x
theorem fa310_0 (id off : Nat) : afieldAddr Tryz.prog 310 (.pointer (some ⟨id, off, none⟩)) 0 = some (.pointer (some ⟨id, off + 0, none⟩)) := afieldAddr_at (n := 0) (f := (fieldT Tryz.prog 310 0).getD default) (by kernel_rfl) (by kernel_rfl) (by kernel_rfl) id off
theorem fl310_0 (cs : List Value) : afield Tryz.prog 310 (.agg cs.toArray) 0 = cs[0]? := afield_one (f := (fieldT Tryz.prog 310 0).getD default) (by kernel_rfl) (by kernel_rfl) (by kernel_rfl) cs
theorem sz432 : szT Tryz.prog 432 = some 4 := by kernel_rfl
theorem ag432 : aggT Tryz.prog 432 = some true := by kernel_rfl
theorem ze432 : zeroT Tryz.prog 432 = some (.agg #[.int .i64 0, .slice none 0 0, .int .i64 0, .int .i64 0]) := by kernel_rfl
theorem pz432 : plainV 100 (.agg #[.int .i64 0, .slice none 0 0, .int .i64 0, .int .i64 0]) = true := by kernel_rfl
theorem inf432 : ∃ i, Tryz.prog.info? 432 = some i ∧ i.zero = some (.agg #[.int .i64 0, .slice none 0 0, .int .i64 0, .int .i64 0]) ∧ i.size = 4 ∧ i.bytes = 48 := by
  have h : (Tryz.prog.info? 432).map (fun i => (i.zero, i.size, i.bytes)) = some (some (.agg #[.int .i64 0, .slice none 0 0, .int .i64 0, .int .i64 0]), 4, 48) := by kernel_rfl
  obtain ⟨i, h1, h2⟩ := Option.map_eq_some_iff.1 h
  simp only [Prod.mk.injEq] at h2
  exact ⟨i, h1, h2.1, h2.2.1, h2.2.2⟩
theorem st432 (H : AHeap) (id off : Nat) (x : Value) : astoreT Tryz.prog H 432 (.pointer (some ⟨id, off, none⟩)) x = if x.cells.size = 4 ∧ x.cells.toList.all oneCell = true then ((H[id]?).bind (rowStore off x.cells.toList)).map fun o => H.set id o else none := astore_rule sz432 H id off x
theorem fa432_0 (id off : Nat) : afieldAddr Tryz.prog 432 (.pointer (some ⟨id, off, none⟩)) 0 = some (.pointer (some ⟨id, off + 0, none⟩)) := afieldAddr_at (n := 0) (f := (fieldT Tryz.prog 432 0).getD default) (by kernel_rfl) (by kernel_rfl) (by kernel_rfl) id off
theorem fl432_0 (cs : List Value) : afield Tryz.prog 432 (.agg cs.toArray) 0 = cs[0]? := afield_one (f := (fieldT Tryz.prog 432 0).getD default) (by kernel_rfl) (by kernel_rfl) (by kernel_rfl) cs
theorem fa432_1 (id off : Nat) : afieldAddr Tryz.prog 432 (.pointer (some ⟨id, off, none⟩)) 1 = some (.pointer (some ⟨id, off + 1, none⟩)) := afieldAddr_at (n := 0) (f := (fieldT Tryz.prog 432 1).getD default) (by kernel_rfl) (by kernel_rfl) (by kernel_rfl) id off
theorem fl432_1 (cs : List Value) : afield Tryz.prog 432 (.agg cs.toArray) 1 = cs[1]? := afield_one (f := (fieldT Tryz.prog 432 1).getD default) (by kernel_rfl) (by kernel_rfl) (by kernel_rfl) cs
theorem fa432_2 (id off : Nat) : afieldAddr Tryz.prog 432 (.pointer (some ⟨id, off, none⟩)) 2 = some (.pointer (some ⟨id, off + 2, none⟩)) := afieldAddr_at (n := 1) (f := (fieldT Tryz.prog 432 2).getD default) (by kernel_rfl) (by kernel_rfl) (by kernel_rfl) id off
theorem fl432_2 (cs : List Value) : afield Tryz.prog 432 (.agg cs.toArray) 2 = some (.agg ((cs.drop 2).take 2).toArray) := afield_agg (f := (fieldT Tryz.prog 432 2).getD default) (by kernel_rfl) (by kernel_rfl) (by kernel_rfl) (by kernel_rfl) cs
theorem sz433 : szT Tryz.prog 433 = some 4 := by kernel_rfl
theorem ag433 : aggT Tryz.prog 433 = some true := by kernel_rfl
theorem ze433 : zeroT Tryz.prog 433 = some (.agg #[.int .i64 0, .slice none 0 0, .int .i64 0, .int .i64 0]) := by kernel_rfl
theorem inf433 : ∃ i, Tryz.prog.info? 433 = some i ∧ i.zero = some (.agg #[.int .i64 0, .slice none 0 0, .int .i64 0, .int .i64 0]) ∧ i.size = 4 ∧ i.bytes = 48 := by
  have h : (Tryz.prog.info? 433).map (fun i => (i.zero, i.size, i.bytes)) = some (some (.agg #[.int .i64 0, .slice none 0 0, .int .i64 0, .int .i64 0]), 4, 48) := by kernel_rfl
  obtain ⟨i, h1, h2⟩ := Option.map_eq_some_iff.1 h
  simp only [Prod.mk.injEq] at h2
  exact ⟨i, h1, h2.1, h2.2.1, h2.2.2⟩
theorem st433 (H : AHeap) (id off : Nat) (x : Value) : astoreT Tryz.prog H 433 (.pointer (some ⟨id, off, none⟩)) x = if x.cells.size = 4 ∧ x.cells.toList.all oneCell = true then ((H[id]?).bind (rowStore off x.cells.toList)).map fun o => H.set id o else none := astore_rule sz433 H id off x
theorem fa433_0 (id off : Nat) : afieldAddr Tryz.prog 433 (.pointer (some ⟨id, off, none⟩)) 0 = some (.pointer (some ⟨id, off + 0, none⟩)) := afieldAddr_at (n := 0) (f := (fieldT Tryz.prog 433 0).getD default) (by kernel_rfl) (by kernel_rfl) (by kernel_rfl) id off
theorem fl433_0 (cs : List Value) : afield Tryz.prog 433 (.agg cs.toArray) 0 = cs[0]? := afield_one (f := (fieldT Tryz.prog 433 0).getD default) (by kernel_rfl) (by kernel_rfl) (by kernel_rfl) cs
theorem fa433_1 (id off : Nat) : afieldAddr Tryz.prog 433 (.pointer (some ⟨id, off, none⟩)) 1 = some (.pointer (some ⟨id, off + 1, none⟩)) := afieldAddr_at (n := 0) (f := (fieldT Tryz.prog 433 1).getD default) (by kernel_rfl) (by kernel_rfl) (by kernel_rfl) id off
theorem fl433_1 (cs : List Value) : afield Tryz.prog 433 (.agg cs.toArray) 1 = cs[1]? := afield_one (f := (fieldT Tryz.prog 433 1).getD default) (by kernel_rfl) (by kernel_rfl) (by kernel_rfl) cs
theorem fa433_2 (id off : Nat) : afieldAddr Tryz.prog 433 (.pointer (some ⟨id, off, none⟩)) 2 = some (.pointer (some ⟨id, off + 2, none⟩)) := afieldAddr_at (n := 1) (f := (fieldT Tryz.prog 433 2).getD default) (by kernel_rfl) (by kernel_rfl) (by kernel_rfl) id off
theorem fl433_2 (cs : List Value) : afield Tryz.prog 433 (.agg cs.toArray) 2 = some (.agg ((cs.drop 2).take 2).toArray) := afield_agg (f := (fieldT Tryz.prog 433 2).getD default) (by kernel_rfl) (by kernel_rfl) (by kernel_rfl) (by kernel_rfl) cs
theorem sz434 : szT Tryz.prog 434 = some 2 := by kernel_rfl
theorem ag434 : aggT Tryz.prog 434 = some true := by kernel_rfl
theorem ze434 : zeroT Tryz.prog 434 = some (.agg #[.string ByteArray.empty, .slice none 0 0]) := by kernel_rfl
theorem pz434 : plainV 100 (.agg #[.string ByteArray.empty, .slice none 0 0]) = true := by kernel_rfl
theorem inf434 : ∃ i, Tryz.prog.info? 434 = some i ∧ i.zero = some (.agg #[.string ByteArray.empty, .slice none 0 0]) ∧ i.size = 2 ∧ i.bytes = 40 := by
  have h : (Tryz.prog.info? 434).map (fun i => (i.zero, i.size, i.bytes)) = some (some (.agg #[.string ByteArray.empty, .slice none 0 0]), 2, 40) := by kernel_rfl
  obtain ⟨i, h1, h2⟩ := Option.map_eq_some_iff.1 h
  simp only [Prod.mk.injEq] at h2
  exact ⟨i, h1, h2.1, h2.2.1, h2.2.2⟩
theorem st434 (H : AHeap) (id off : Nat) (x : Value) : astoreT Tryz.prog H 434 (.pointer (some ⟨id, off, none⟩)) x = if x.cells.size = 2 ∧ x.cells.toList.all oneCell = true then ((H[id]?).bind (rowStore off x.cells.toList)).map fun o => H.set id o else none := astore_rule sz434 H id off x
theorem fa434_0 (id off : Nat) : afieldAddr Tryz.prog 434 (.pointer (some ⟨id, off, none⟩)) 0 = some (.pointer (some ⟨id, off + 0, none⟩)) := afieldAddr_at (n := 0) (f := (fieldT Tryz.prog 434 0).getD default) (by kernel_rfl) (by kernel_rfl) (by kernel_rfl) id off
theorem fl434_0 (cs : List Value) : afield Tryz.prog 434 (.agg cs.toArray) 0 = cs[0]? := afield_one (f := (fieldT Tryz.prog 434 0).getD default) (by kernel_rfl) (by kernel_rfl) (by kernel_rfl) cs
theorem fa434_1 (id off : Nat) : afieldAddr Tryz.prog 434 (.pointer (some ⟨id, off, none⟩)) 1 = some (.pointer (some ⟨id, off + 1, none⟩)) := afieldAddr_at (n := 0) (f := (fieldT Tryz.prog 434 1).getD default) (by kernel_rfl) (by kernel_rfl) (by kernel_rfl) id off
theorem fl434_1 (cs : List Value) : afield Tryz.prog 434 (.agg cs.toArray) 1 = cs[1]? := afield_one (f := (fieldT Tryz.prog 434 1).getD default) (by kernel_rfl) (by kernel_rfl) (by kernel_rfl) cs
theorem sz435 : szT Tryz.prog 435 = some 2 := by kernel_rfl
theorem ag435 : aggT Tryz.prog 435 = some true := by kernel_rfl
theorem ze435 : zeroT Tryz.prog 435 = some (.agg #[.string ByteArray.empty, .slice none 0 0]) := by kernel_rfl
theorem inf435 : ∃ i, Tryz.prog.info? 435 = some i ∧ i.zero = some (.agg #[.string ByteArray.empty, .slice none 0 0]) ∧ i.size = 2 ∧ i.bytes = 40 := by
  have h : (Tryz.prog.info? 435).map (fun i => (i.zero, i.size, i.bytes)) = some (some (.agg #[.string ByteArray.empty, .slice none 0 0]), 2, 40) := by kernel_rfl
  obtain ⟨i, h1, h2⟩ := Option.map_eq_some_iff.1 h
  simp only [Prod.mk.injEq] at h2
  exact ⟨i, h1, h2.1, h2.2.1, h2.2.2⟩
theorem st435 (H : AHeap) (id off : Nat) (x : Value) : astoreT Tryz.prog H 435 (.pointer (some ⟨id, off, none⟩)) x = if x.cells.size = 2 ∧ x.cells.toList.all oneCell = true then ((H[id]?).bind (rowStore off x.cells.toList)).map fun o => H.set id o else none := astore_rule sz435 H id off x
theorem fa435_0 (id off : Nat) : afieldAddr Tryz.prog 435 (.pointer (some ⟨id, off, none⟩)) 0 = some (.pointer (some ⟨id, off + 0, none⟩)) := afieldAddr_at (n := 0) (f := (fieldT Tryz.prog 435 0).getD default) (by kernel_rfl) (by kernel_rfl) (by kernel_rfl) id off
theorem fl435_0 (cs : List Value) : afield Tryz.prog 435 (.agg cs.toArray) 0 = cs[0]? := afield_one (f := (fieldT Tryz.prog 435 0).getD default) (by kernel_rfl) (by kernel_rfl) (by kernel_rfl) cs
theorem fa435_1 (id off : Nat) : afieldAddr Tryz.prog 435 (.pointer (some ⟨id, off, none⟩)) 1 = some (.pointer (some ⟨id, off + 1, none⟩)) := afieldAddr_at (n := 0) (f := (fieldT Tryz.prog 435 1).getD default) (by kernel_rfl) (by kernel_rfl) (by kernel_rfl) id off
theorem fl435_1 (cs : List Value) : afield Tryz.prog 435 (.agg cs.toArray) 1 = cs[1]? := afield_one (f := (fieldT Tryz.prog 435 1).getD default) (by kernel_rfl) (by kernel_rfl) (by kernel_rfl) cs
end Go.Proofs.YtahopobanopkfaaGreatDoor
