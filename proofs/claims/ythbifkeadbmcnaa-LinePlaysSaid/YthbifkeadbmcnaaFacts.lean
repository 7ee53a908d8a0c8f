/-
  The seat's types, as walks ask for them: written by program (gen/seat.py).
-/
import Derived.Test.YthbifkeadbmcnaaAwMore
import Derived.Test.YthbifkeadbmcnaaProg
set_option linter.unusedVariables false
set_option linter.unusedSimpArgs false
namespace Go.Proofs.Ythbifkeadbmcnaa
open Go Go.AW
set_option linter.unusedSimpArgs false
theorem mixed : Try.prog.follows .mixedOrders = true := by kernel_rfl
theorem sz2 : szT Try.prog 2 = some 1 := by kernel_rfl
theorem ag2 : aggT Try.prog 2 = some false := by kernel_rfl
theorem ze2 : zeroT Try.prog 2 = some (.int .i64 0) := by kernel_rfl
theorem pz2 : plainV 100 (.int .i64 0) = true := by kernel_rfl
theorem inf2 : ∃ i, Try.prog.info? 2 = some i ∧ i.zero = some (.int .i64 0) ∧ i.size = 1 ∧ i.bytes = 8 := by
  have h : (Try.prog.info? 2).map (fun i => (i.zero, i.size, i.bytes)) = some (some (.int .i64 0), 1, 8) := by kernel_rfl
  obtain ⟨i, h1, h2⟩ := Option.map_eq_some_iff.1 h
  simp only [Prod.mk.injEq] at h2
  exact ⟨i, h1, h2.1, h2.2.1, h2.2.2⟩
theorem st2 (H : AHeap) (id off : Nat) (x : Value) : astoreT Try.prog H 2 (.pointer (some ⟨id, off, none⟩)) x = if x.cells.size = 1 ∧ x.cells.toList.all oneCell = true then ((H[id]?).bind (rowStore off x.cells.toList)).map fun o => H.set id o else none := astore_rule sz2 H id off x
theorem kd2 : kindT Try.prog 2 = .int .i64 := by kernel_rfl
theorem sz3 : szT Try.prog 3 = some 1 := by kernel_rfl
theorem ag3 : aggT Try.prog 3 = some false := by kernel_rfl
theorem ze3 : zeroT Try.prog 3 = some (.int .i64 0) := by kernel_rfl
theorem inf3 : ∃ i, Try.prog.info? 3 = some i ∧ i.zero = some (.int .i64 0) ∧ i.size = 1 ∧ i.bytes = 8 := by
  have h : (Try.prog.info? 3).map (fun i => (i.zero, i.size, i.bytes)) = some (some (.int .i64 0), 1, 8) := by kernel_rfl
  obtain ⟨i, h1, h2⟩ := Option.map_eq_some_iff.1 h
  simp only [Prod.mk.injEq] at h2
  exact ⟨i, h1, h2.1, h2.2.1, h2.2.2⟩
theorem st3 (H : AHeap) (id off : Nat) (x : Value) : astoreT Try.prog H 3 (.pointer (some ⟨id, off, none⟩)) x = if x.cells.size = 1 ∧ x.cells.toList.all oneCell = true then ((H[id]?).bind (rowStore off x.cells.toList)).map fun o => H.set id o else none := astore_rule sz3 H id off x
theorem kd3 : kindT Try.prog 3 = .int .i64 := by kernel_rfl
theorem sz4 : szT Try.prog 4 = some 1 := by kernel_rfl
theorem ag4 : aggT Try.prog 4 = some false := by kernel_rfl
theorem ze4 : zeroT Try.prog 4 = some (.bool false) := by kernel_rfl
theorem pz4 : plainV 100 (.bool false) = true := by kernel_rfl
theorem inf4 : ∃ i, Try.prog.info? 4 = some i ∧ i.zero = some (.bool false) ∧ i.size = 1 ∧ i.bytes = 1 := by
  have h : (Try.prog.info? 4).map (fun i => (i.zero, i.size, i.bytes)) = some (some (.bool false), 1, 1) := by kernel_rfl
  obtain ⟨i, h1, h2⟩ := Option.map_eq_some_iff.1 h
  simp only [Prod.mk.injEq] at h2
  exact ⟨i, h1, h2.1, h2.2.1, h2.2.2⟩
theorem st4 (H : AHeap) (id off : Nat) (x : Value) : astoreT Try.prog H 4 (.pointer (some ⟨id, off, none⟩)) x = if x.cells.size = 1 ∧ x.cells.toList.all oneCell = true then ((H[id]?).bind (rowStore off x.cells.toList)).map fun o => H.set id o else none := astore_rule sz4 H id off x
theorem en4 (H : AHeap) (xo yo : Operand) (a b : Bool) : abin Try.prog H .eql 4 xo yo (.bool a) (.bool b) = some (.bool (a == b)) := abin_eq_bool (by kernel_rfl) H xo yo a b
theorem nn4 (H : AHeap) (xo yo : Operand) (a b : Bool) : abin Try.prog H .neq 4 xo yo (.bool a) (.bool b) = some (.bool !(a == b)) := abin_ne_bool (by kernel_rfl) H xo yo a b
theorem sz5 : szT Try.prog 5 = some 1 := by kernel_rfl
theorem ag5 : aggT Try.prog 5 = some false := by kernel_rfl
theorem ze5 : zeroT Try.prog 5 = some (.int .u8 0) := by kernel_rfl
theorem pz5 : plainV 100 (.int .u8 0) = true := by kernel_rfl
theorem inf5 : ∃ i, Try.prog.info? 5 = some i ∧ i.zero = some (.int .u8 0) ∧ i.size = 1 ∧ i.bytes = 1 := by
  have h : (Try.prog.info? 5).map (fun i => (i.zero, i.size, i.bytes)) = some (some (.int .u8 0), 1, 1) := by kernel_rfl
  obtain ⟨i, h1, h2⟩ := Option.map_eq_some_iff.1 h
  simp only [Prod.mk.injEq] at h2
  exact ⟨i, h1, h2.1, h2.2.1, h2.2.2⟩
theorem st5 (H : AHeap) (id off : Nat) (x : Value) : astoreT Try.prog H 5 (.pointer (some ⟨id, off, none⟩)) x = if x.cells.size = 1 ∧ x.cells.toList.all oneCell = true then ((H[id]?).bind (rowStore off x.cells.toList)).map fun o => H.set id o else none := astore_rule sz5 H id off x
theorem kd5 : kindT Try.prog 5 = .int .u8 := by kernel_rfl
theorem sz6 : szT Try.prog 6 = some 1 := by kernel_rfl
theorem ag6 : aggT Try.prog 6 = some false := by kernel_rfl
theorem ze6 : zeroT Try.prog 6 = some (.int .u8 0) := by kernel_rfl
theorem inf6 : ∃ i, Try.prog.info? 6 = some i ∧ i.zero = some (.int .u8 0) ∧ i.size = 1 ∧ i.bytes = 1 := by
  have h : (Try.prog.info? 6).map (fun i => (i.zero, i.size, i.bytes)) = some (some (.int .u8 0), 1, 1) := by kernel_rfl
  obtain ⟨i, h1, h2⟩ := Option.map_eq_some_iff.1 h
  simp only [Prod.mk.injEq] at h2
  exact ⟨i, h1, h2.1, h2.2.1, h2.2.2⟩
theorem st6 (H : AHeap) (id off : Nat) (x : Value) : astoreT Try.prog H 6 (.pointer (some ⟨id, off, none⟩)) x = if x.cells.size = 1 ∧ x.cells.toList.all oneCell = true then ((H[id]?).bind (rowStore off x.cells.toList)).map fun o => H.set id o else none := astore_rule sz6 H id off x
theorem kd6 : kindT Try.prog 6 = .int .u8 := by kernel_rfl
theorem sz7 : szT Try.prog 7 = some 4 := by kernel_rfl
theorem ag7 : aggT Try.prog 7 = some true := by kernel_rfl
theorem ze7 : zeroT Try.prog 7 = some (.agg #[.int .i64 0, .int .i64 0, .bool false, .int .u8 0]) := by kernel_rfl
theorem pz7 : plainV 100 (.agg #[.int .i64 0, .int .i64 0, .bool false, .int .u8 0]) = true := by kernel_rfl
theorem inf7 : ∃ i, Try.prog.info? 7 = some i ∧ i.zero = some (.agg #[.int .i64 0, .int .i64 0, .bool false, .int .u8 0]) ∧ i.size = 4 ∧ i.bytes = 24 := by
  have h : (Try.prog.info? 7).map (fun i => (i.zero, i.size, i.bytes)) = some (some (.agg #[.int .i64 0, .int .i64 0, .bool false, .int .u8 0]), 4, 24) := by kernel_rfl
  obtain ⟨i, h1, h2⟩ := Option.map_eq_some_iff.1 h
  simp only [Prod.mk.injEq] at h2
  exact ⟨i, h1, h2.1, h2.2.1, h2.2.2⟩
theorem st7 (H : AHeap) (id off : Nat) (x : Value) : astoreT Try.prog H 7 (.pointer (some ⟨id, off, none⟩)) x = if x.cells.size = 4 ∧ x.cells.toList.all oneCell = true then ((H[id]?).bind (rowStore off x.cells.toList)).map fun o => H.set id o else none := astore_rule sz7 H id off x
theorem fa7_0 (id off : Nat) : afieldAddr Try.prog 7 (.pointer (some ⟨id, off, none⟩)) 0 = some (.pointer (some ⟨id, off + 0, none⟩)) := afieldAddr_at (n := 0) (f := (fieldT Try.prog 7 0).getD default) (by kernel_rfl) (by kernel_rfl) (by kernel_rfl) id off
theorem fl7_0 (cs : List Value) : afield Try.prog 7 (.agg cs.toArray) 0 = cs[0]? := afield_one (f := (fieldT Try.prog 7 0).getD default) (by kernel_rfl) (by kernel_rfl) (by kernel_rfl) cs
theorem fa7_1 (id off : Nat) : afieldAddr Try.prog 7 (.pointer (some ⟨id, off, none⟩)) 1 = some (.pointer (some ⟨id, off + 1, none⟩)) := afieldAddr_at (n := 0) (f := (fieldT Try.prog 7 1).getD default) (by kernel_rfl) (by kernel_rfl) (by kernel_rfl) id off
theorem fl7_1 (cs : List Value) : afield Try.prog 7 (.agg cs.toArray) 1 = cs[1]? := afield_one (f := (fieldT Try.prog 7 1).getD default) (by kernel_rfl) (by kernel_rfl) (by kernel_rfl) cs
theorem fa7_2 (id off : Nat) : afieldAddr Try.prog 7 (.pointer (some ⟨id, off, none⟩)) 2 = some (.pointer (some ⟨id, off + 2, none⟩)) := afieldAddr_at (n := 0) (f := (fieldT Try.prog 7 2).getD default) (by kernel_rfl) (by kernel_rfl) (by kernel_rfl) id off
theorem fl7_2 (cs : List Value) : afield Try.prog 7 (.agg cs.toArray) 2 = cs[2]? := afield_one (f := (fieldT Try.prog 7 2).getD default) (by kernel_rfl) (by kernel_rfl) (by kernel_rfl) cs
theorem fa7_3 (id off : Nat) : afieldAddr Try.prog 7 (.pointer (some ⟨id, off, none⟩)) 3 = some (.pointer (some ⟨id, off + 3, none⟩)) := afieldAddr_at (n := 0) (f := (fieldT Try.prog 7 3).getD default) (by kernel_rfl) (by kernel_rfl) (by kernel_rfl) id off
theorem fl7_3 (cs : List Value) : afield Try.prog 7 (.agg cs.toArray) 3 = cs[3]? := afield_one (f := (fieldT Try.prog 7 3).getD default) (by kernel_rfl) (by kernel_rfl) (by kernel_rfl) cs
theorem sz8 : szT Try.prog 8 = some 4 := by kernel_rfl
theorem ag8 : aggT Try.prog 8 = some true := by kernel_rfl
theorem ze8 : zeroT Try.prog 8 = some (.agg #[.int .i64 0, .int .i64 0, .bool false, .int .u8 0]) := by kernel_rfl
theorem inf8 : ∃ i, Try.prog.info? 8 = some i ∧ i.zero = some (.agg #[.int .i64 0, .int .i64 0, .bool false, .int .u8 0]) ∧ i.size = 4 ∧ i.bytes = 24 := by
  have h : (Try.prog.info? 8).map (fun i => (i.zero, i.size, i.bytes)) = some (some (.agg #[.int .i64 0, .int .i64 0, .bool false, .int .u8 0]), 4, 24) := by kernel_rfl
  obtain ⟨i, h1, h2⟩ := Option.map_eq_some_iff.1 h
  simp only [Prod.mk.injEq] at h2
  exact ⟨i, h1, h2.1, h2.2.1, h2.2.2⟩
theorem st8 (H : AHeap) (id off : Nat) (x : Value) : astoreT Try.prog H 8 (.pointer (some ⟨id, off, none⟩)) x = if x.cells.size = 4 ∧ x.cells.toList.all oneCell = true then ((H[id]?).bind (rowStore off x.cells.toList)).map fun o => H.set id o else none := astore_rule sz8 H id off x
theorem fa8_0 (id off : Nat) : afieldAddr Try.prog 8 (.pointer (some ⟨id, off, none⟩)) 0 = some (.pointer (some ⟨id, off + 0, none⟩)) := afieldAddr_at (n := 0) (f := (fieldT Try.prog 8 0).getD default) (by kernel_rfl) (by kernel_rfl) (by kernel_rfl) id off
theorem fl8_0 (cs : List Value) : afield Try.prog 8 (.agg cs.toArray) 0 = cs[0]? := afield_one (f := (fieldT Try.prog 8 0).getD default) (by kernel_rfl) (by kernel_rfl) (by kernel_rfl) cs
theorem fa8_1 (id off : Nat) : afieldAddr Try.prog 8 (.pointer (some ⟨id, off, none⟩)) 1 = some (.pointer (some ⟨id, off + 1, none⟩)) := afieldAddr_at (n := 0) (f := (fieldT Try.prog 8 1).getD default) (by kernel_rfl) (by kernel_rfl) (by kernel_rfl) id off
theorem fl8_1 (cs : List Value) : afield Try.prog 8 (.agg cs.toArray) 1 = cs[1]? := afield_one (f := (fieldT Try.prog 8 1).getD default) (by kernel_rfl) (by kernel_rfl) (by kernel_rfl) cs
theorem fa8_2 (id off : Nat) : afieldAddr Try.prog 8 (.pointer (some ⟨id, off, none⟩)) 2 = some (.pointer (some ⟨id, off + 2, none⟩)) := afieldAddr_at (n := 0) (f := (fieldT Try.prog 8 2).getD default) (by kernel_rfl) (by kernel_rfl) (by kernel_rfl) id off
theorem fl8_2 (cs : List Value) : afield Try.prog 8 (.agg cs.toArray) 2 = cs[2]? := afield_one (f := (fieldT Try.prog 8 2).getD default) (by kernel_rfl) (by kernel_rfl) (by kernel_rfl) cs
theorem fa8_3 (id off : Nat) : afieldAddr Try.prog 8 (.pointer (some ⟨id, off, none⟩)) 3 = some (.pointer (some ⟨id, off + 3, none⟩)) := afieldAddr_at (n := 0) (f := (fieldT Try.prog 8 3).getD default) (by kernel_rfl) (by kernel_rfl) (by kernel_rfl) id off
theorem fl8_3 (cs : List Value) : afield Try.prog 8 (.agg cs.toArray) 3 = cs[3]? := afield_one (f := (fieldT Try.prog 8 3).getD default) (by kernel_rfl) (by kernel_rfl) (by kernel_rfl) cs
theorem sz9 : szT Try.prog 9 = some 1 := by kernel_rfl
theorem ag9 : aggT Try.prog 9 = some false := by kernel_rfl
theorem ze9 : zeroT Try.prog 9 = some (.string ByteArray.empty) := by kernel_rfl
theorem pz9 : plainV 100 (.string ByteArray.empty) = true := by kernel_rfl
theorem inf9 : ∃ i, Try.prog.info? 9 = some i ∧ i.zero = some (.string ByteArray.empty) ∧ i.size = 1 ∧ i.bytes = 16 := by
  have h : (Try.prog.info? 9).map (fun i => (i.zero, i.size, i.bytes)) = some (some (.string ByteArray.empty), 1, 16) := by kernel_rfl
  obtain ⟨i, h1, h2⟩ := Option.map_eq_some_iff.1 h
  simp only [Prod.mk.injEq] at h2
  exact ⟨i, h1, h2.1, h2.2.1, h2.2.2⟩
theorem st9 (H : AHeap) (id off : Nat) (x : Value) : astoreT Try.prog H 9 (.pointer (some ⟨id, off, none⟩)) x = if x.cells.size = 1 ∧ x.cells.toList.all oneCell = true then ((H[id]?).bind (rowStore off x.cells.toList)).map fun o => H.set id o else none := astore_rule sz9 H id off x
theorem kd9 : kindT Try.prog 9 = .str := by kernel_rfl
theorem sz10 : szT Try.prog 10 = some 1 := by kernel_rfl
theorem ag10 : aggT Try.prog 10 = some false := by kernel_rfl
theorem ze10 : zeroT Try.prog 10 = some (.string ByteArray.empty) := by kernel_rfl
theorem inf10 : ∃ i, Try.prog.info? 10 = some i ∧ i.zero = some (.string ByteArray.empty) ∧ i.size = 1 ∧ i.bytes = 16 := by
  have h : (Try.prog.info? 10).map (fun i => (i.zero, i.size, i.bytes)) = some (some (.string ByteArray.empty), 1, 16) := by kernel_rfl
  obtain ⟨i, h1, h2⟩ := Option.map_eq_some_iff.1 h
  simp only [Prod.mk.injEq] at h2
  exact ⟨i, h1, h2.1, h2.2.1, h2.2.2⟩
theorem st10 (H : AHeap) (id off : Nat) (x : Value) : astoreT Try.prog H 10 (.pointer (some ⟨id, off, none⟩)) x = if x.cells.size = 1 ∧ x.cells.toList.all oneCell = true then ((H[id]?).bind (rowStore off x.cells.toList)).map fun o => H.set id o else none := astore_rule sz10 H id off x
theorem kd10 : kindT Try.prog 10 = .str := by kernel_rfl
theorem sz11 : szT Try.prog 11 = some 1 := by kernel_rfl
theorem ag11 : aggT Try.prog 11 = some false := by kernel_rfl
theorem ze11 : zeroT Try.prog 11 = some (.string ByteArray.empty) := by kernel_rfl
theorem inf11 : ∃ i, Try.prog.info? 11 = some i ∧ i.zero = some (.string ByteArray.empty) ∧ i.size = 1 ∧ i.bytes = 16 := by
  have h : (Try.prog.info? 11).map (fun i => (i.zero, i.size, i.bytes)) = some (some (.string ByteArray.empty), 1, 16) := by kernel_rfl
  obtain ⟨i, h1, h2⟩ := Option.map_eq_some_iff.1 h
  simp only [Prod.mk.injEq] at h2
  exact ⟨i, h1, h2.1, h2.2.1, h2.2.2⟩
theorem st11 (H : AHeap) (id off : Nat) (x : Value) : astoreT Try.prog H 11 (.pointer (some ⟨id, off, none⟩)) x = if x.cells.size = 1 ∧ x.cells.toList.all oneCell = true then ((H[id]?).bind (rowStore off x.cells.toList)).map fun o => H.set id o else none := astore_rule sz11 H id off x
theorem kd11 : kindT Try.prog 11 = .str := by kernel_rfl
theorem sz12 : szT Try.prog 12 = some 1 := by kernel_rfl
theorem ag12 : aggT Try.prog 12 = some false := by kernel_rfl
theorem ze12 : zeroT Try.prog 12 = some (.int .u64 0) := by kernel_rfl
theorem pz12 : plainV 100 (.int .u64 0) = true := by kernel_rfl
theorem inf12 : ∃ i, Try.prog.info? 12 = some i ∧ i.zero = some (.int .u64 0) ∧ i.size = 1 ∧ i.bytes = 8 := by
  have h : (Try.prog.info? 12).map (fun i => (i.zero, i.size, i.bytes)) = some (some (.int .u64 0), 1, 8) := by kernel_rfl
  obtain ⟨i, h1, h2⟩ := Option.map_eq_some_iff.1 h
  simp only [Prod.mk.injEq] at h2
  exact ⟨i, h1, h2.1, h2.2.1, h2.2.2⟩
theorem st12 (H : AHeap) (id off : Nat) (x : Value) : astoreT Try.prog H 12 (.pointer (some ⟨id, off, none⟩)) x = if x.cells.size = 1 ∧ x.cells.toList.all oneCell = true then ((H[id]?).bind (rowStore off x.cells.toList)).map fun o => H.set id o else none := astore_rule sz12 H id off x
theorem kd12 : kindT Try.prog 12 = .int .u64 := by kernel_rfl
theorem sz13 : szT Try.prog 13 = some 2 := by kernel_rfl
theorem ag13 : aggT Try.prog 13 = some true := by kernel_rfl
theorem ze13 : zeroT Try.prog 13 = some (.agg #[.string ByteArray.empty, .int .u64 0]) := by kernel_rfl
theorem pz13 : plainV 100 (.agg #[.string ByteArray.empty, .int .u64 0]) = true := by kernel_rfl
theorem inf13 : ∃ i, Try.prog.info? 13 = some i ∧ i.zero = some (.agg #[.string ByteArray.empty, .int .u64 0]) ∧ i.size = 2 ∧ i.bytes = 24 := by
  have h : (Try.prog.info? 13).map (fun i => (i.zero, i.size, i.bytes)) = some (some (.agg #[.string ByteArray.empty, .int .u64 0]), 2, 24) := by kernel_rfl
  obtain ⟨i, h1, h2⟩ := Option.map_eq_some_iff.1 h
  simp only [Prod.mk.injEq] at h2
  exact ⟨i, h1, h2.1, h2.2.1, h2.2.2⟩
theorem st13 (H : AHeap) (id off : Nat) (x : Value) : astoreT Try.prog H 13 (.pointer (some ⟨id, off, none⟩)) x = if x.cells.size = 2 ∧ x.cells.toList.all oneCell = true then ((H[id]?).bind (rowStore off x.cells.toList)).map fun o => H.set id o else none := astore_rule sz13 H id off x
theorem fa13_0 (id off : Nat) : afieldAddr Try.prog 13 (.pointer (some ⟨id, off, none⟩)) 0 = some (.pointer (some ⟨id, off + 0, none⟩)) := afieldAddr_at (n := 0) (f := (fieldT Try.prog 13 0).getD default) (by kernel_rfl) (by kernel_rfl) (by kernel_rfl) id off
theorem fl13_0 (cs : List Value) : afield Try.prog 13 (.agg cs.toArray) 0 = cs[0]? := afield_one (f := (fieldT Try.prog 13 0).getD default) (by kernel_rfl) (by kernel_rfl) (by kernel_rfl) cs
theorem fa13_1 (id off : Nat) : afieldAddr Try.prog 13 (.pointer (some ⟨id, off, none⟩)) 1 = some (.pointer (some ⟨id, off + 1, none⟩)) := afieldAddr_at (n := 0) (f := (fieldT Try.prog 13 1).getD default) (by kernel_rfl) (by kernel_rfl) (by kernel_rfl) id off
theorem fl13_1 (cs : List Value) : afield Try.prog 13 (.agg cs.toArray) 1 = cs[1]? := afield_one (f := (fieldT Try.prog 13 1).getD default) (by kernel_rfl) (by kernel_rfl) (by kernel_rfl) cs
theorem sz14 : szT Try.prog 14 = some 2 := by kernel_rfl
theorem ag14 : aggT Try.prog 14 = some true := by kernel_rfl
theorem ze14 : zeroT Try.prog 14 = some (.agg #[.string ByteArray.empty, .int .u64 0]) := by kernel_rfl
theorem inf14 : ∃ i, Try.prog.info? 14 = some i ∧ i.zero = some (.agg #[.string ByteArray.empty, .int .u64 0]) ∧ i.size = 2 ∧ i.bytes = 24 := by
  have h : (Try.prog.info? 14).map (fun i => (i.zero, i.size, i.bytes)) = some (some (.agg #[.string ByteArray.empty, .int .u64 0]), 2, 24) := by kernel_rfl
  obtain ⟨i, h1, h2⟩ := Option.map_eq_some_iff.1 h
  simp only [Prod.mk.injEq] at h2
  exact ⟨i, h1, h2.1, h2.2.1, h2.2.2⟩
theorem st14 (H : AHeap) (id off : Nat) (x : Value) : astoreT Try.prog H 14 (.pointer (some ⟨id, off, none⟩)) x = if x.cells.size = 2 ∧ x.cells.toList.all oneCell = true then ((H[id]?).bind (rowStore off x.cells.toList)).map fun o => H.set id o else none := astore_rule sz14 H id off x
theorem fa14_0 (id off : Nat) : afieldAddr Try.prog 14 (.pointer (some ⟨id, off, none⟩)) 0 = some (.pointer (some ⟨id, off + 0, none⟩)) := afieldAddr_at (n := 0) (f := (fieldT Try.prog 14 0).getD default) (by kernel_rfl) (by kernel_rfl) (by kernel_rfl) id off
theorem fl14_0 (cs : List Value) : afield Try.prog 14 (.agg cs.toArray) 0 = cs[0]? := afield_one (f := (fieldT Try.prog 14 0).getD default) (by kernel_rfl) (by kernel_rfl) (by kernel_rfl) cs
theorem fa14_1 (id off : Nat) : afieldAddr Try.prog 14 (.pointer (some ⟨id, off, none⟩)) 1 = some (.pointer (some ⟨id, off + 1, none⟩)) := afieldAddr_at (n := 0) (f := (fieldT Try.prog 14 1).getD default) (by kernel_rfl) (by kernel_rfl) (by kernel_rfl) id off
theorem fl14_1 (cs : List Value) : afield Try.prog 14 (.agg cs.toArray) 1 = cs[1]? := afield_one (f := (fieldT Try.prog 14 1).getD default) (by kernel_rfl) (by kernel_rfl) (by kernel_rfl) cs
theorem sz15 : szT Try.prog 15 = some 1 := by kernel_rfl
theorem ag15 : aggT Try.prog 15 = some false := by kernel_rfl
theorem ze15 : zeroT Try.prog 15 = some (.pointer none) := by kernel_rfl
theorem pz15 : plainV 100 (.pointer none) = true := by kernel_rfl
theorem inf15 : ∃ i, Try.prog.info? 15 = some i ∧ i.zero = some (.pointer none) ∧ i.size = 1 ∧ i.bytes = 8 := by
  have h : (Try.prog.info? 15).map (fun i => (i.zero, i.size, i.bytes)) = some (some (.pointer none), 1, 8) := by kernel_rfl
  obtain ⟨i, h1, h2⟩ := Option.map_eq_some_iff.1 h
  simp only [Prod.mk.injEq] at h2
  exact ⟨i, h1, h2.1, h2.2.1, h2.2.2⟩
theorem st15 (H : AHeap) (id off : Nat) (x : Value) : astoreT Try.prog H 15 (.pointer (some ⟨id, off, none⟩)) x = if x.cells.size = 1 ∧ x.cells.toList.all oneCell = true then ((H[id]?).bind (rowStore off x.cells.toList)).map fun o => H.set id o else none := astore_rule sz15 H id off x
theorem en15 (H : AHeap) (xo yo : Operand) (a : Option Addr) : abin Try.prog H .eql 15 xo yo (.pointer a) (.pointer none) = some (.bool a.isNone) := abin_eq_ptrnil (e := 148) (by kernel_rfl) H xo yo a
theorem nn15 (H : AHeap) (xo yo : Operand) (a : Option Addr) : abin Try.prog H .neq 15 xo yo (.pointer a) (.pointer none) = some (.bool !a.isNone) := abin_ne_ptrnil (e := 148) (by kernel_rfl) H xo yo a
theorem sz16 : szT Try.prog 16 = some 1 := by kernel_rfl
theorem ag16 : aggT Try.prog 16 = some false := by kernel_rfl
theorem ze16 : zeroT Try.prog 16 = some (.pointer none) := by kernel_rfl
theorem inf16 : ∃ i, Try.prog.info? 16 = some i ∧ i.zero = some (.pointer none) ∧ i.size = 1 ∧ i.bytes = 8 := by
  have h : (Try.prog.info? 16).map (fun i => (i.zero, i.size, i.bytes)) = some (some (.pointer none), 1, 8) := by kernel_rfl
  obtain ⟨i, h1, h2⟩ := Option.map_eq_some_iff.1 h
  simp only [Prod.mk.injEq] at h2
  exact ⟨i, h1, h2.1, h2.2.1, h2.2.2⟩
theorem st16 (H : AHeap) (id off : Nat) (x : Value) : astoreT Try.prog H 16 (.pointer (some ⟨id, off, none⟩)) x = if x.cells.size = 1 ∧ x.cells.toList.all oneCell = true then ((H[id]?).bind (rowStore off x.cells.toList)).map fun o => H.set id o else none := astore_rule sz16 H id off x
theorem en16 (H : AHeap) (xo yo : Operand) (a : Option Addr) : abin Try.prog H .eql 16 xo yo (.pointer a) (.pointer none) = some (.bool a.isNone) := abin_eq_ptrnil (e := 151) (by kernel_rfl) H xo yo a
theorem nn16 (H : AHeap) (xo yo : Operand) (a : Option Addr) : abin Try.prog H .neq 16 xo yo (.pointer a) (.pointer none) = some (.bool !a.isNone) := abin_ne_ptrnil (e := 151) (by kernel_rfl) H xo yo a
theorem sz17 : szT Try.prog 17 = some 1 := by kernel_rfl
theorem ag17 : aggT Try.prog 17 = some false := by kernel_rfl
theorem ze17 : zeroT Try.prog 17 = some (.pointer none) := by kernel_rfl
theorem inf17 : ∃ i, Try.prog.info? 17 = some i ∧ i.zero = some (.pointer none) ∧ i.size = 1 ∧ i.bytes = 8 := by
  have h : (Try.prog.info? 17).map (fun i => (i.zero, i.size, i.bytes)) = some (some (.pointer none), 1, 8) := by kernel_rfl
  obtain ⟨i, h1, h2⟩ := Option.map_eq_some_iff.1 h
  simp only [Prod.mk.injEq] at h2
  exact ⟨i, h1, h2.1, h2.2.1, h2.2.2⟩
theorem st17 (H : AHeap) (id off : Nat) (x : Value) : astoreT Try.prog H 17 (.pointer (some ⟨id, off, none⟩)) x = if x.cells.size = 1 ∧ x.cells.toList.all oneCell = true then ((H[id]?).bind (rowStore off x.cells.toList)).map fun o => H.set id o else none := astore_rule sz17 H id off x
theorem en17 (H : AHeap) (xo yo : Operand) (a : Option Addr) : abin Try.prog H .eql 17 xo yo (.pointer a) (.pointer none) = some (.bool a.isNone) := abin_eq_ptrnil (e := 160) (by kernel_rfl) H xo yo a
theorem nn17 (H : AHeap) (xo yo : Operand) (a : Option Addr) : abin Try.prog H .neq 17 xo yo (.pointer a) (.pointer none) = some (.bool !a.isNone) := abin_ne_ptrnil (e := 160) (by kernel_rfl) H xo yo a
theorem sz18 : szT Try.prog 18 = some 1 := by kernel_rfl
theorem ag18 : aggT Try.prog 18 = some true := by kernel_rfl
theorem ze18 : zeroT Try.prog 18 = some (.agg #[.pointer none]) := by kernel_rfl
theorem pz18 : plainV 100 (.agg #[.pointer none]) = true := by kernel_rfl
theorem inf18 : ∃ i, Try.prog.info? 18 = some i ∧ i.zero = some (.agg #[.pointer none]) ∧ i.size = 1 ∧ i.bytes = 8 := by
  have h : (Try.prog.info? 18).map (fun i => (i.zero, i.size, i.bytes)) = some (some (.agg #[.pointer none]), 1, 8) := by kernel_rfl
  obtain ⟨i, h1, h2⟩ := Option.map_eq_some_iff.1 h
  simp only [Prod.mk.injEq] at h2
  exact ⟨i, h1, h2.1, h2.2.1, h2.2.2⟩
theorem st18 (H : AHeap) (id off : Nat) (x : Value) : astoreT Try.prog H 18 (.pointer (some ⟨id, off, none⟩)) x = if x.cells.size = 1 ∧ x.cells.toList.all oneCell = true then ((H[id]?).bind (rowStore off x.cells.toList)).map fun o => H.set id o else none := astore_rule sz18 H id off x
theorem fa18_0 (id off : Nat) : afieldAddr Try.prog 18 (.pointer (some ⟨id, off, none⟩)) 0 = some (.pointer (some ⟨id, off + 0, none⟩)) := afieldAddr_at (n := 0) (f := (fieldT Try.prog 18 0).getD default) (by kernel_rfl) (by kernel_rfl) (by kernel_rfl) id off
theorem fl18_0 (cs : List Value) : afield Try.prog 18 (.agg cs.toArray) 0 = cs[0]? := afield_one (f := (fieldT Try.prog 18 0).getD default) (by kernel_rfl) (by kernel_rfl) (by kernel_rfl) cs
theorem sz19 : szT Try.prog 19 = some 1 := by kernel_rfl
theorem ag19 : aggT Try.prog 19 = some true := by kernel_rfl
theorem ze19 : zeroT Try.prog 19 = some (.agg #[.pointer none]) := by kernel_rfl
theorem inf19 : ∃ i, Try.prog.info? 19 = some i ∧ i.zero = some (.agg #[.pointer none]) ∧ i.size = 1 ∧ i.bytes = 8 := by
  have h : (Try.prog.info? 19).map (fun i => (i.zero, i.size, i.bytes)) = some (some (.agg #[.pointer none]), 1, 8) := by kernel_rfl
  obtain ⟨i, h1, h2⟩ := Option.map_eq_some_iff.1 h
  simp only [Prod.mk.injEq] at h2
  exact ⟨i, h1, h2.1, h2.2.1, h2.2.2⟩
theorem st19 (H : AHeap) (id off : Nat) (x : Value) : astoreT Try.prog H 19 (.pointer (some ⟨id, off, none⟩)) x = if x.cells.size = 1 ∧ x.cells.toList.all oneCell = true then ((H[id]?).bind (rowStore off x.cells.toList)).map fun o => H.set id o else none := astore_rule sz19 H id off x
theorem fa19_0 (id off : Nat) : afieldAddr Try.prog 19 (.pointer (some ⟨id, off, none⟩)) 0 = some (.pointer (some ⟨id, off + 0, none⟩)) := afieldAddr_at (n := 0) (f := (fieldT Try.prog 19 0).getD default) (by kernel_rfl) (by kernel_rfl) (by kernel_rfl) id off
theorem fl19_0 (cs : List Value) : afield Try.prog 19 (.agg cs.toArray) 0 = cs[0]? := afield_one (f := (fieldT Try.prog 19 0).getD default) (by kernel_rfl) (by kernel_rfl) (by kernel_rfl) cs
theorem sz20 : szT Try.prog 20 = some 1 := by kernel_rfl
theorem ag20 : aggT Try.prog 20 = some false := by kernel_rfl
theorem ze20 : zeroT Try.prog 20 = some (.nilIface) := by kernel_rfl
theorem pz20 : plainV 100 (.nilIface) = true := by kernel_rfl
theorem inf20 : ∃ i, Try.prog.info? 20 = some i ∧ i.zero = some (.nilIface) ∧ i.size = 1 ∧ i.bytes = 16 := by
  have h : (Try.prog.info? 20).map (fun i => (i.zero, i.size, i.bytes)) = some (some (.nilIface), 1, 16) := by kernel_rfl
  obtain ⟨i, h1, h2⟩ := Option.map_eq_some_iff.1 h
  simp only [Prod.mk.injEq] at h2
  exact ⟨i, h1, h2.1, h2.2.1, h2.2.2⟩
theorem st20 (H : AHeap) (id off : Nat) (x : Value) : astoreT Try.prog H 20 (.pointer (some ⟨id, off, none⟩)) x = if x.cells.size = 1 ∧ x.cells.toList.all oneCell = true then ((H[id]?).bind (rowStore off x.cells.toList)).map fun o => H.set id o else none := astore_rule sz20 H id off x
theorem sz21 : szT Try.prog 21 = some 1 := by kernel_rfl
theorem ag21 : aggT Try.prog 21 = some false := by kernel_rfl
theorem ze21 : zeroT Try.prog 21 = some (.int .i32 0) := by kernel_rfl
theorem pz21 : plainV 100 (.int .i32 0) = true := by kernel_rfl
theorem inf21 : ∃ i, Try.prog.info? 21 = some i ∧ i.zero = some (.int .i32 0) ∧ i.size = 1 ∧ i.bytes = 4 := by
  have h : (Try.prog.info? 21).map (fun i => (i.zero, i.size, i.bytes)) = some (some (.int .i32 0), 1, 4) := by kernel_rfl
  obtain ⟨i, h1, h2⟩ := Option.map_eq_some_iff.1 h
  simp only [Prod.mk.injEq] at h2
  exact ⟨i, h1, h2.1, h2.2.1, h2.2.2⟩
theorem st21 (H : AHeap) (id off : Nat) (x : Value) : astoreT Try.prog H 21 (.pointer (some ⟨id, off, none⟩)) x = if x.cells.size = 1 ∧ x.cells.toList.all oneCell = true then ((H[id]?).bind (rowStore off x.cells.toList)).map fun o => H.set id o else none := astore_rule sz21 H id off x
theorem kd21 : kindT Try.prog 21 = .int .i32 := by kernel_rfl
theorem sz22 : szT Try.prog 22 = some 1 := by kernel_rfl
theorem ag22 : aggT Try.prog 22 = some false := by kernel_rfl
theorem ze22 : zeroT Try.prog 22 = some (.slice none 0 0) := by kernel_rfl
theorem pz22 : plainV 100 (.slice none 0 0) = true := by kernel_rfl
theorem inf22 : ∃ i, Try.prog.info? 22 = some i ∧ i.zero = some (.slice none 0 0) ∧ i.size = 1 ∧ i.bytes = 24 := by
  have h : (Try.prog.info? 22).map (fun i => (i.zero, i.size, i.bytes)) = some (some (.slice none 0 0), 1, 24) := by kernel_rfl
  obtain ⟨i, h1, h2⟩ := Option.map_eq_some_iff.1 h
  simp only [Prod.mk.injEq] at h2
  exact ⟨i, h1, h2.1, h2.2.1, h2.2.2⟩
theorem st22 (H : AHeap) (id off : Nat) (x : Value) : astoreT Try.prog H 22 (.pointer (some ⟨id, off, none⟩)) x = if x.cells.size = 1 ∧ x.cells.toList.all oneCell = true then ((H[id]?).bind (rowStore off x.cells.toList)).map fun o => H.set id o else none := astore_rule sz22 H id off x
theorem un22 : Try.prog.underlying 22 = some (.slice 32) := by kernel_rfl
theorem el22 : elemT Try.prog 22 = some 32 := by kernel_rfl
theorem ln22 (H : AHeap) (a : Option Addr) (m c : Nat) : alen Try.prog H 22 (.slice a m c) = some (.int .i64 m) := alen_slice un22 H a m c
theorem cp22 (a : Addr) (m c : Nat) : acap Try.prog 22 (.slice (some a) m c) = if c = 0 then none else some (.int .i64 c) := acap_slice un22 a m c
theorem ix22 (id off m c : Nat) (ik : IntKind) (i : Int) : aindexAddr Try.prog 22 (.slice (some ⟨id, off, none⟩) m c) (.int ik i) = if 0 ≤ i ∧ i < m then some (.pointer (some ⟨id, off + i.toNat * 5, none⟩)) else none := aindexAddr_at un22 (by kernel_rfl) id off m c ik i
theorem en22 (H : AHeap) (xo yo : Operand) (a : Option Addr) (n c m q : Nat) : abin Try.prog H .eql 22 xo yo (.slice a n c) (.slice none m q) = some (.bool a.isNone) := abin_eq_slnil un22 H xo yo a n c m q
theorem nn22 (H : AHeap) (xo yo : Operand) (a : Option Addr) (n c m q : Nat) : abin Try.prog H .neq 22 xo yo (.slice a n c) (.slice none m q) = some (.bool !a.isNone) := abin_ne_slnil un22 H xo yo a n c m q
theorem sc22 (H : AHeap) (a : Option Addr) (n c : Nat) (lo hi : Option Value) : aslice Try.prog H 22 (.slice a n c) lo hi none = (optB hi (some n) (capOf n c)).bind fun h => (optB lo (some 0) h).bind fun l => cut H 5 a c l h := aslice_sl un22 (by kernel_rfl) H a n c lo hi
theorem sz23 : szT Try.prog 23 = some 2 := by kernel_rfl
theorem ag23 : aggT Try.prog 23 = some true := by kernel_rfl
theorem ze23 : zeroT Try.prog 23 = some (.agg #[.int .i64 0, .int .i64 0]) := by kernel_rfl
theorem pz23 : plainV 100 (.agg #[.int .i64 0, .int .i64 0]) = true := by kernel_rfl
theorem inf23 : ∃ i, Try.prog.info? 23 = some i ∧ i.zero = some (.agg #[.int .i64 0, .int .i64 0]) ∧ i.size = 2 ∧ i.bytes = 16 := by
  have h : (Try.prog.info? 23).map (fun i => (i.zero, i.size, i.bytes)) = some (some (.agg #[.int .i64 0, .int .i64 0]), 2, 16) := by kernel_rfl
  obtain ⟨i, h1, h2⟩ := Option.map_eq_some_iff.1 h
  simp only [Prod.mk.injEq] at h2
  exact ⟨i, h1, h2.1, h2.2.1, h2.2.2⟩
theorem st23 (H : AHeap) (id off : Nat) (x : Value) : astoreT Try.prog H 23 (.pointer (some ⟨id, off, none⟩)) x = if x.cells.size = 2 ∧ x.cells.toList.all oneCell = true then ((H[id]?).bind (rowStore off x.cells.toList)).map fun o => H.set id o else none := astore_rule sz23 H id off x
theorem fa23_0 (id off : Nat) : afieldAddr Try.prog 23 (.pointer (some ⟨id, off, none⟩)) 0 = some (.pointer (some ⟨id, off + 0, none⟩)) := afieldAddr_at (n := 0) (f := (fieldT Try.prog 23 0).getD default) (by kernel_rfl) (by kernel_rfl) (by kernel_rfl) id off
theorem fl23_0 (cs : List Value) : afield Try.prog 23 (.agg cs.toArray) 0 = cs[0]? := afield_one (f := (fieldT Try.prog 23 0).getD default) (by kernel_rfl) (by kernel_rfl) (by kernel_rfl) cs
theorem fa23_1 (id off : Nat) : afieldAddr Try.prog 23 (.pointer (some ⟨id, off, none⟩)) 1 = some (.pointer (some ⟨id, off + 1, none⟩)) := afieldAddr_at (n := 0) (f := (fieldT Try.prog 23 1).getD default) (by kernel_rfl) (by kernel_rfl) (by kernel_rfl) id off
theorem fl23_1 (cs : List Value) : afield Try.prog 23 (.agg cs.toArray) 1 = cs[1]? := afield_one (f := (fieldT Try.prog 23 1).getD default) (by kernel_rfl) (by kernel_rfl) (by kernel_rfl) cs
theorem sz24 : szT Try.prog 24 = some 2 := by kernel_rfl
theorem ag24 : aggT Try.prog 24 = some true := by kernel_rfl
theorem ze24 : zeroT Try.prog 24 = some (.agg #[.int .i64 0, .int .i64 0]) := by kernel_rfl
theorem inf24 : ∃ i, Try.prog.info? 24 = some i ∧ i.zero = some (.agg #[.int .i64 0, .int .i64 0]) ∧ i.size = 2 ∧ i.bytes = 16 := by
  have h : (Try.prog.info? 24).map (fun i => (i.zero, i.size, i.bytes)) = some (some (.agg #[.int .i64 0, .int .i64 0]), 2, 16) := by kernel_rfl
  obtain ⟨i, h1, h2⟩ := Option.map_eq_some_iff.1 h
  simp only [Prod.mk.injEq] at h2
  exact ⟨i, h1, h2.1, h2.2.1, h2.2.2⟩
theorem st24 (H : AHeap) (id off : Nat) (x : Value) : astoreT Try.prog H 24 (.pointer (some ⟨id, off, none⟩)) x = if x.cells.size = 2 ∧ x.cells.toList.all oneCell = true then ((H[id]?).bind (rowStore off x.cells.toList)).map fun o => H.set id o else none := astore_rule sz24 H id off x
theorem fa24_0 (id off : Nat) : afieldAddr Try.prog 24 (.pointer (some ⟨id, off, none⟩)) 0 = some (.pointer (some ⟨id, off + 0, none⟩)) := afieldAddr_at (n := 0) (f := (fieldT Try.prog 24 0).getD default) (by kernel_rfl) (by kernel_rfl) (by kernel_rfl) id off
theorem fl24_0 (cs : List Value) : afield Try.prog 24 (.agg cs.toArray) 0 = cs[0]? := afield_one (f := (fieldT Try.prog 24 0).getD default) (by kernel_rfl) (by kernel_rfl) (by kernel_rfl) cs
theorem fa24_1 (id off : Nat) : afieldAddr Try.prog 24 (.pointer (some ⟨id, off, none⟩)) 1 = some (.pointer (some ⟨id, off + 1, none⟩)) := afieldAddr_at (n := 0) (f := (fieldT Try.prog 24 1).getD default) (by kernel_rfl) (by kernel_rfl) (by kernel_rfl) id off
theorem fl24_1 (cs : List Value) : afield Try.prog 24 (.agg cs.toArray) 1 = cs[1]? := afield_one (f := (fieldT Try.prog 24 1).getD default) (by kernel_rfl) (by kernel_rfl) (by kernel_rfl) cs
theorem sz26 : szT Try.prog 26 = some 1 := by kernel_rfl
theorem ag26 : aggT Try.prog 26 = some false := by kernel_rfl
theorem ze26 : zeroT Try.prog 26 = some (.pointer none) := by kernel_rfl
theorem inf26 : ∃ i, Try.prog.info? 26 = some i ∧ i.zero = some (.pointer none) ∧ i.size = 1 ∧ i.bytes = 8 := by
  have h : (Try.prog.info? 26).map (fun i => (i.zero, i.size, i.bytes)) = some (some (.pointer none), 1, 8) := by kernel_rfl
  obtain ⟨i, h1, h2⟩ := Option.map_eq_some_iff.1 h
  simp only [Prod.mk.injEq] at h2
  exact ⟨i, h1, h2.1, h2.2.1, h2.2.2⟩
theorem st26 (H : AHeap) (id off : Nat) (x : Value) : astoreT Try.prog H 26 (.pointer (some ⟨id, off, none⟩)) x = if x.cells.size = 1 ∧ x.cells.toList.all oneCell = true then ((H[id]?).bind (rowStore off x.cells.toList)).map fun o => H.set id o else none := astore_rule sz26 H id off x
theorem en26 (H : AHeap) (xo yo : Operand) (a : Option Addr) : abin Try.prog H .eql 26 xo yo (.pointer a) (.pointer none) = some (.bool a.isNone) := abin_eq_ptrnil (e := 70) (by kernel_rfl) H xo yo a
theorem nn26 (H : AHeap) (xo yo : Operand) (a : Option Addr) : abin Try.prog H .neq 26 xo yo (.pointer a) (.pointer none) = some (.bool !a.isNone) := abin_ne_ptrnil (e := 70) (by kernel_rfl) H xo yo a
theorem sz29 : szT Try.prog 29 = some 1 := by kernel_rfl
theorem ag29 : aggT Try.prog 29 = some false := by kernel_rfl
theorem ze29 : zeroT Try.prog 29 = some (.slice none 0 0) := by kernel_rfl
theorem inf29 : ∃ i, Try.prog.info? 29 = some i ∧ i.zero = some (.slice none 0 0) ∧ i.size = 1 ∧ i.bytes = 24 := by
  have h : (Try.prog.info? 29).map (fun i => (i.zero, i.size, i.bytes)) = some (some (.slice none 0 0), 1, 24) := by kernel_rfl
  obtain ⟨i, h1, h2⟩ := Option.map_eq_some_iff.1 h
  simp only [Prod.mk.injEq] at h2
  exact ⟨i, h1, h2.1, h2.2.1, h2.2.2⟩
theorem st29 (H : AHeap) (id off : Nat) (x : Value) : astoreT Try.prog H 29 (.pointer (some ⟨id, off, none⟩)) x = if x.cells.size = 1 ∧ x.cells.toList.all oneCell = true then ((H[id]?).bind (rowStore off x.cells.toList)).map fun o => H.set id o else none := astore_rule sz29 H id off x
theorem un29 : Try.prog.underlying 29 = some (.slice 34) := by kernel_rfl
theorem el29 : elemT Try.prog 29 = some 34 := by kernel_rfl
theorem ln29 (H : AHeap) (a : Option Addr) (m c : Nat) : alen Try.prog H 29 (.slice a m c) = some (.int .i64 m) := alen_slice un29 H a m c
theorem cp29 (a : Addr) (m c : Nat) : acap Try.prog 29 (.slice (some a) m c) = if c = 0 then none else some (.int .i64 c) := acap_slice un29 a m c
theorem ix29 (id off m c : Nat) (ik : IntKind) (i : Int) : aindexAddr Try.prog 29 (.slice (some ⟨id, off, none⟩) m c) (.int ik i) = if 0 ≤ i ∧ i < m then some (.pointer (some ⟨id, off + i.toNat * 7, none⟩)) else none := aindexAddr_at un29 (by kernel_rfl) id off m c ik i
theorem en29 (H : AHeap) (xo yo : Operand) (a : Option Addr) (n c m q : Nat) : abin Try.prog H .eql 29 xo yo (.slice a n c) (.slice none m q) = some (.bool a.isNone) := abin_eq_slnil un29 H xo yo a n c m q
theorem nn29 (H : AHeap) (xo yo : Operand) (a : Option Addr) (n c m q : Nat) : abin Try.prog H .neq 29 xo yo (.slice a n c) (.slice none m q) = some (.bool !a.isNone) := abin_ne_slnil un29 H xo yo a n c m q
theorem sc29 (H : AHeap) (a : Option Addr) (n c : Nat) (lo hi : Option Value) : aslice Try.prog H 29 (.slice a n c) lo hi none = (optB hi (some n) (capOf n c)).bind fun h => (optB lo (some 0) h).bind fun l => cut H 7 a c l h := aslice_sl un29 (by kernel_rfl) H a n c lo hi
theorem sz31 : szT Try.prog 31 = some 5 := by kernel_rfl
theorem ag31 : aggT Try.prog 31 = some true := by kernel_rfl
theorem ze31 : zeroT Try.prog 31 = some (.agg #[.int .i64 0, .int .i64 0, .int .i64 0, .int .i64 0, .int .i64 0]) := by kernel_rfl
theorem pz31 : plainV 100 (.agg #[.int .i64 0, .int .i64 0, .int .i64 0, .int .i64 0, .int .i64 0]) = true := by kernel_rfl
theorem inf31 : ∃ i, Try.prog.info? 31 = some i ∧ i.zero = some (.agg #[.int .i64 0, .int .i64 0, .int .i64 0, .int .i64 0, .int .i64 0]) ∧ i.size = 5 ∧ i.bytes = 40 := by
  have h : (Try.prog.info? 31).map (fun i => (i.zero, i.size, i.bytes)) = some (some (.agg #[.int .i64 0, .int .i64 0, .int .i64 0, .int .i64 0, .int .i64 0]), 5, 40) := by kernel_rfl
  obtain ⟨i, h1, h2⟩ := Option.map_eq_some_iff.1 h
  simp only [Prod.mk.injEq] at h2
  exact ⟨i, h1, h2.1, h2.2.1, h2.2.2⟩
theorem st31 (H : AHeap) (id off : Nat) (x : Value) : astoreT Try.prog H 31 (.pointer (some ⟨id, off, none⟩)) x = if x.cells.size = 5 ∧ x.cells.toList.all oneCell = true then ((H[id]?).bind (rowStore off x.cells.toList)).map fun o => H.set id o else none := astore_rule sz31 H id off x
theorem fa31_0 (id off : Nat) : afieldAddr Try.prog 31 (.pointer (some ⟨id, off, none⟩)) 0 = some (.pointer (some ⟨id, off + 0, none⟩)) := afieldAddr_at (n := 1) (f := (fieldT Try.prog 31 0).getD default) (by kernel_rfl) (by kernel_rfl) (by kernel_rfl) id off
theorem fl31_0 (cs : List Value) : afield Try.prog 31 (.agg cs.toArray) 0 = some (.agg ((cs.drop 0).take 2).toArray) := afield_agg (f := (fieldT Try.prog 31 0).getD default) (by kernel_rfl) (by kernel_rfl) (by kernel_rfl) (by kernel_rfl) cs
theorem fa31_1 (id off : Nat) : afieldAddr Try.prog 31 (.pointer (some ⟨id, off, none⟩)) 1 = some (.pointer (some ⟨id, off + 2, none⟩)) := afieldAddr_at (n := 0) (f := (fieldT Try.prog 31 1).getD default) (by kernel_rfl) (by kernel_rfl) (by kernel_rfl) id off
theorem fl31_1 (cs : List Value) : afield Try.prog 31 (.agg cs.toArray) 1 = cs[2]? := afield_one (f := (fieldT Try.prog 31 1).getD default) (by kernel_rfl) (by kernel_rfl) (by kernel_rfl) cs
theorem fa31_2 (id off : Nat) : afieldAddr Try.prog 31 (.pointer (some ⟨id, off, none⟩)) 2 = some (.pointer (some ⟨id, off + 3, none⟩)) := afieldAddr_at (n := 0) (f := (fieldT Try.prog 31 2).getD default) (by kernel_rfl) (by kernel_rfl) (by kernel_rfl) id off
theorem fl31_2 (cs : List Value) : afield Try.prog 31 (.agg cs.toArray) 2 = cs[3]? := afield_one (f := (fieldT Try.prog 31 2).getD default) (by kernel_rfl) (by kernel_rfl) (by kernel_rfl) cs
theorem fa31_3 (id off : Nat) : afieldAddr Try.prog 31 (.pointer (some ⟨id, off, none⟩)) 3 = some (.pointer (some ⟨id, off + 4, none⟩)) := afieldAddr_at (n := 0) (f := (fieldT Try.prog 31 3).getD default) (by kernel_rfl) (by kernel_rfl) (by kernel_rfl) id off
theorem fl31_3 (cs : List Value) : afield Try.prog 31 (.agg cs.toArray) 3 = cs[4]? := afield_one (f := (fieldT Try.prog 31 3).getD default) (by kernel_rfl) (by kernel_rfl) (by kernel_rfl) cs
theorem sz32 : szT Try.prog 32 = some 5 := by kernel_rfl
theorem ag32 : aggT Try.prog 32 = some true := by kernel_rfl
theorem ze32 : zeroT Try.prog 32 = some (.agg #[.int .i64 0, .int .i64 0, .int .i64 0, .int .i64 0, .int .i64 0]) := by kernel_rfl
theorem inf32 : ∃ i, Try.prog.info? 32 = some i ∧ i.zero = some (.agg #[.int .i64 0, .int .i64 0, .int .i64 0, .int .i64 0, .int .i64 0]) ∧ i.size = 5 ∧ i.bytes = 40 := by
  have h : (Try.prog.info? 32).map (fun i => (i.zero, i.size, i.bytes)) = some (some (.agg #[.int .i64 0, .int .i64 0, .int .i64 0, .int .i64 0, .int .i64 0]), 5, 40) := by kernel_rfl
  obtain ⟨i, h1, h2⟩ := Option.map_eq_some_iff.1 h
  simp only [Prod.mk.injEq] at h2
  exact ⟨i, h1, h2.1, h2.2.1, h2.2.2⟩
theorem st32 (H : AHeap) (id off : Nat) (x : Value) : astoreT Try.prog H 32 (.pointer (some ⟨id, off, none⟩)) x = if x.cells.size = 5 ∧ x.cells.toList.all oneCell = true then ((H[id]?).bind (rowStore off x.cells.toList)).map fun o => H.set id o else none := astore_rule sz32 H id off x
theorem fa32_0 (id off : Nat) : afieldAddr Try.prog 32 (.pointer (some ⟨id, off, none⟩)) 0 = some (.pointer (some ⟨id, off + 0, none⟩)) := afieldAddr_at (n := 1) (f := (fieldT Try.prog 32 0).getD default) (by kernel_rfl) (by kernel_rfl) (by kernel_rfl) id off
theorem fl32_0 (cs : List Value) : afield Try.prog 32 (.agg cs.toArray) 0 = some (.agg ((cs.drop 0).take 2).toArray) := afield_agg (f := (fieldT Try.prog 32 0).getD default) (by kernel_rfl) (by kernel_rfl) (by kernel_rfl) (by kernel_rfl) cs
theorem fa32_1 (id off : Nat) : afieldAddr Try.prog 32 (.pointer (some ⟨id, off, none⟩)) 1 = some (.pointer (some ⟨id, off + 2, none⟩)) := afieldAddr_at (n := 0) (f := (fieldT Try.prog 32 1).getD default) (by kernel_rfl) (by kernel_rfl) (by kernel_rfl) id off
theorem fl32_1 (cs : List Value) : afield Try.prog 32 (.agg cs.toArray) 1 = cs[2]? := afield_one (f := (fieldT Try.prog 32 1).getD default) (by kernel_rfl) (by kernel_rfl) (by kernel_rfl) cs
theorem fa32_2 (id off : Nat) : afieldAddr Try.prog 32 (.pointer (some ⟨id, off, none⟩)) 2 = some (.pointer (some ⟨id, off + 3, none⟩)) := afieldAddr_at (n := 0) (f := (fieldT Try.prog 32 2).getD default) (by kernel_rfl) (by kernel_rfl) (by kernel_rfl) id off
theorem fl32_2 (cs : List Value) : afield Try.prog 32 (.agg cs.toArray) 2 = cs[3]? := afield_one (f := (fieldT Try.prog 32 2).getD default) (by kernel_rfl) (by kernel_rfl) (by kernel_rfl) cs
theorem fa32_3 (id off : Nat) : afieldAddr Try.prog 32 (.pointer (some ⟨id, off, none⟩)) 3 = some (.pointer (some ⟨id, off + 4, none⟩)) := afieldAddr_at (n := 0) (f := (fieldT Try.prog 32 3).getD default) (by kernel_rfl) (by kernel_rfl) (by kernel_rfl) id off
theorem fl32_3 (cs : List Value) : afield Try.prog 32 (.agg cs.toArray) 3 = cs[4]? := afield_one (f := (fieldT Try.prog 32 3).getD default) (by kernel_rfl) (by kernel_rfl) (by kernel_rfl) cs
theorem sz33 : szT Try.prog 33 = some 7 := by kernel_rfl
theorem ag33 : aggT Try.prog 33 = some true := by kernel_rfl
theorem ze33 : zeroT Try.prog 33 = some (.agg #[.int .i64 0, .int .i64 0, .int .i64 0, .int .i64 0, .int .i64 0, .int .i64 0, .int .i64 0]) := by kernel_rfl
theorem pz33 : plainV 100 (.agg #[.int .i64 0, .int .i64 0, .int .i64 0, .int .i64 0, .int .i64 0, .int .i64 0, .int .i64 0]) = true := by kernel_rfl
theorem inf33 : ∃ i, Try.prog.info? 33 = some i ∧ i.zero = some (.agg #[.int .i64 0, .int .i64 0, .int .i64 0, .int .i64 0, .int .i64 0, .int .i64 0, .int .i64 0]) ∧ i.size = 7 ∧ i.bytes = 56 := by
  have h : (Try.prog.info? 33).map (fun i => (i.zero, i.size, i.bytes)) = some (some (.agg #[.int .i64 0, .int .i64 0, .int .i64 0, .int .i64 0, .int .i64 0, .int .i64 0, .int .i64 0]), 7, 56) := by kernel_rfl
  obtain ⟨i, h1, h2⟩ := Option.map_eq_some_iff.1 h
  simp only [Prod.mk.injEq] at h2
  exact ⟨i, h1, h2.1, h2.2.1, h2.2.2⟩
theorem st33 (H : AHeap) (id off : Nat) (x : Value) : astoreT Try.prog H 33 (.pointer (some ⟨id, off, none⟩)) x = if x.cells.size = 7 ∧ x.cells.toList.all oneCell = true then ((H[id]?).bind (rowStore off x.cells.toList)).map fun o => H.set id o else none := astore_rule sz33 H id off x
theorem fa33_0 (id off : Nat) : afieldAddr Try.prog 33 (.pointer (some ⟨id, off, none⟩)) 0 = some (.pointer (some ⟨id, off + 0, none⟩)) := afieldAddr_at (n := 4) (f := (fieldT Try.prog 33 0).getD default) (by kernel_rfl) (by kernel_rfl) (by kernel_rfl) id off
theorem fl33_0 (cs : List Value) : afield Try.prog 33 (.agg cs.toArray) 0 = some (.agg ((cs.drop 0).take 5).toArray) := afield_agg (f := (fieldT Try.prog 33 0).getD default) (by kernel_rfl) (by kernel_rfl) (by kernel_rfl) (by kernel_rfl) cs
theorem fa33_1 (id off : Nat) : afieldAddr Try.prog 33 (.pointer (some ⟨id, off, none⟩)) 1 = some (.pointer (some ⟨id, off + 5, none⟩)) := afieldAddr_at (n := 1) (f := (fieldT Try.prog 33 1).getD default) (by kernel_rfl) (by kernel_rfl) (by kernel_rfl) id off
theorem fl33_1 (cs : List Value) : afield Try.prog 33 (.agg cs.toArray) 1 = some (.agg ((cs.drop 5).take 2).toArray) := afield_agg (f := (fieldT Try.prog 33 1).getD default) (by kernel_rfl) (by kernel_rfl) (by kernel_rfl) (by kernel_rfl) cs
theorem sz34 : szT Try.prog 34 = some 7 := by kernel_rfl
theorem ag34 : aggT Try.prog 34 = some true := by kernel_rfl
theorem ze34 : zeroT Try.prog 34 = some (.agg #[.int .i64 0, .int .i64 0, .int .i64 0, .int .i64 0, .int .i64 0, .int .i64 0, .int .i64 0]) := by kernel_rfl
theorem inf34 : ∃ i, Try.prog.info? 34 = some i ∧ i.zero = some (.agg #[.int .i64 0, .int .i64 0, .int .i64 0, .int .i64 0, .int .i64 0, .int .i64 0, .int .i64 0]) ∧ i.size = 7 ∧ i.bytes = 56 := by
  have h : (Try.prog.info? 34).map (fun i => (i.zero, i.size, i.bytes)) = some (some (.agg #[.int .i64 0, .int .i64 0, .int .i64 0, .int .i64 0, .int .i64 0, .int .i64 0, .int .i64 0]), 7, 56) := by kernel_rfl
  obtain ⟨i, h1, h2⟩ := Option.map_eq_some_iff.1 h
  simp only [Prod.mk.injEq] at h2
  exact ⟨i, h1, h2.1, h2.2.1, h2.2.2⟩
theorem st34 (H : AHeap) (id off : Nat) (x : Value) : astoreT Try.prog H 34 (.pointer (some ⟨id, off, none⟩)) x = if x.cells.size = 7 ∧ x.cells.toList.all oneCell = true then ((H[id]?).bind (rowStore off x.cells.toList)).map fun o => H.set id o else none := astore_rule sz34 H id off x
theorem fa34_0 (id off : Nat) : afieldAddr Try.prog 34 (.pointer (some ⟨id, off, none⟩)) 0 = some (.pointer (some ⟨id, off + 0, none⟩)) := afieldAddr_at (n := 4) (f := (fieldT Try.prog 34 0).getD default) (by kernel_rfl) (by kernel_rfl) (by kernel_rfl) id off
theorem fl34_0 (cs : List Value) : afield Try.prog 34 (.agg cs.toArray) 0 = some (.agg ((cs.drop 0).take 5).toArray) := afield_agg (f := (fieldT Try.prog 34 0).getD default) (by kernel_rfl) (by kernel_rfl) (by kernel_rfl) (by kernel_rfl) cs
theorem fa34_1 (id off : Nat) : afieldAddr Try.prog 34 (.pointer (some ⟨id, off, none⟩)) 1 = some (.pointer (some ⟨id, off + 5, none⟩)) := afieldAddr_at (n := 1) (f := (fieldT Try.prog 34 1).getD default) (by kernel_rfl) (by kernel_rfl) (by kernel_rfl) id off
theorem fl34_1 (cs : List Value) : afield Try.prog 34 (.agg cs.toArray) 1 = some (.agg ((cs.drop 5).take 2).toArray) := afield_agg (f := (fieldT Try.prog 34 1).getD default) (by kernel_rfl) (by kernel_rfl) (by kernel_rfl) (by kernel_rfl) cs
theorem sz41 : szT Try.prog 41 = some 1 := by kernel_rfl
theorem ag41 : aggT Try.prog 41 = some false := by kernel_rfl
theorem ze41 : zeroT Try.prog 41 = some (.int .i64 0) := by kernel_rfl
theorem inf41 : ∃ i, Try.prog.info? 41 = some i ∧ i.zero = some (.int .i64 0) ∧ i.size = 1 ∧ i.bytes = 8 := by
  have h : (Try.prog.info? 41).map (fun i => (i.zero, i.size, i.bytes)) = some (some (.int .i64 0), 1, 8) := by kernel_rfl
  obtain ⟨i, h1, h2⟩ := Option.map_eq_some_iff.1 h
  simp only [Prod.mk.injEq] at h2
  exact ⟨i, h1, h2.1, h2.2.1, h2.2.2⟩
theorem st41 (H : AHeap) (id off : Nat) (x : Value) : astoreT Try.prog H 41 (.pointer (some ⟨id, off, none⟩)) x = if x.cells.size = 1 ∧ x.cells.toList.all oneCell = true then ((H[id]?).bind (rowStore off x.cells.toList)).map fun o => H.set id o else none := astore_rule sz41 H id off x
theorem kd41 : kindT Try.prog 41 = .int .i64 := by kernel_rfl
theorem sz44 : szT Try.prog 44 = some 1 := by kernel_rfl
theorem ag44 : aggT Try.prog 44 = some false := by kernel_rfl
theorem ze44 : zeroT Try.prog 44 = some (.slice none 0 0) := by kernel_rfl
theorem inf44 : ∃ i, Try.prog.info? 44 = some i ∧ i.zero = some (.slice none 0 0) ∧ i.size = 1 ∧ i.bytes = 24 := by
  have h : (Try.prog.info? 44).map (fun i => (i.zero, i.size, i.bytes)) = some (some (.slice none 0 0), 1, 24) := by kernel_rfl
  obtain ⟨i, h1, h2⟩ := Option.map_eq_some_iff.1 h
  simp only [Prod.mk.injEq] at h2
  exact ⟨i, h1, h2.1, h2.2.1, h2.2.2⟩
theorem st44 (H : AHeap) (id off : Nat) (x : Value) : astoreT Try.prog H 44 (.pointer (some ⟨id, off, none⟩)) x = if x.cells.size = 1 ∧ x.cells.toList.all oneCell = true then ((H[id]?).bind (rowStore off x.cells.toList)).map fun o => H.set id o else none := astore_rule sz44 H id off x
theorem un44 : Try.prog.underlying 44 = some (.slice 51) := by kernel_rfl
theorem el44 : elemT Try.prog 44 = some 51 := by kernel_rfl
theorem ln44 (H : AHeap) (a : Option Addr) (m c : Nat) : alen Try.prog H 44 (.slice a m c) = some (.int .i64 m) := alen_slice un44 H a m c
theorem cp44 (a : Addr) (m c : Nat) : acap Try.prog 44 (.slice (some a) m c) = if c = 0 then none else some (.int .i64 c) := acap_slice un44 a m c
theorem ix44 (id off m c : Nat) (ik : IntKind) (i : Int) : aindexAddr Try.prog 44 (.slice (some ⟨id, off, none⟩) m c) (.int ik i) = if 0 ≤ i ∧ i < m then some (.pointer (some ⟨id, off + i.toNat * 8, none⟩)) else none := aindexAddr_at un44 (by kernel_rfl) id off m c ik i
theorem en44 (H : AHeap) (xo yo : Operand) (a : Option Addr) (n c m q : Nat) : abin Try.prog H .eql 44 xo yo (.slice a n c) (.slice none m q) = some (.bool a.isNone) := abin_eq_slnil un44 H xo yo a n c m q
theorem nn44 (H : AHeap) (xo yo : Operand) (a : Option Addr) (n c m q : Nat) : abin Try.prog H .neq 44 xo yo (.slice a n c) (.slice none m q) = some (.bool !a.isNone) := abin_ne_slnil un44 H xo yo a n c m q
theorem sc44 (H : AHeap) (a : Option Addr) (n c : Nat) (lo hi : Option Value) : aslice Try.prog H 44 (.slice a n c) lo hi none = (optB hi (some n) (capOf n c)).bind fun h => (optB lo (some 0) h).bind fun l => cut H 8 a c l h := aslice_sl un44 (by kernel_rfl) H a n c lo hi
theorem sz46 : szT Try.prog 46 = some 1 := by kernel_rfl
theorem ag46 : aggT Try.prog 46 = some false := by kernel_rfl
theorem ze46 : zeroT Try.prog 46 = some (.pointer none) := by kernel_rfl
theorem inf46 : ∃ i, Try.prog.info? 46 = some i ∧ i.zero = some (.pointer none) ∧ i.size = 1 ∧ i.bytes = 8 := by
  have h : (Try.prog.info? 46).map (fun i => (i.zero, i.size, i.bytes)) = some (some (.pointer none), 1, 8) := by kernel_rfl
  obtain ⟨i, h1, h2⟩ := Option.map_eq_some_iff.1 h
  simp only [Prod.mk.injEq] at h2
  exact ⟨i, h1, h2.1, h2.2.1, h2.2.2⟩
theorem st46 (H : AHeap) (id off : Nat) (x : Value) : astoreT Try.prog H 46 (.pointer (some ⟨id, off, none⟩)) x = if x.cells.size = 1 ∧ x.cells.toList.all oneCell = true then ((H[id]?).bind (rowStore off x.cells.toList)).map fun o => H.set id o else none := astore_rule sz46 H id off x
theorem en46 (H : AHeap) (xo yo : Operand) (a : Option Addr) : abin Try.prog H .eql 46 xo yo (.pointer a) (.pointer none) = some (.bool a.isNone) := abin_eq_ptrnil (e := 48) (by kernel_rfl) H xo yo a
theorem nn46 (H : AHeap) (xo yo : Operand) (a : Option Addr) : abin Try.prog H .neq 46 xo yo (.pointer a) (.pointer none) = some (.bool !a.isNone) := abin_ne_ptrnil (e := 48) (by kernel_rfl) H xo yo a
theorem sz47 : szT Try.prog 47 = some 1 := by kernel_rfl
theorem ag47 : aggT Try.prog 47 = some true := by kernel_rfl
theorem ze47 : zeroT Try.prog 47 = some (.agg #[.slice none 0 0]) := by kernel_rfl
theorem pz47 : plainV 100 (.agg #[.slice none 0 0]) = true := by kernel_rfl
theorem inf47 : ∃ i, Try.prog.info? 47 = some i ∧ i.zero = some (.agg #[.slice none 0 0]) ∧ i.size = 1 ∧ i.bytes = 24 := by
  have h : (Try.prog.info? 47).map (fun i => (i.zero, i.size, i.bytes)) = some (some (.agg #[.slice none 0 0]), 1, 24) := by kernel_rfl
  obtain ⟨i, h1, h2⟩ := Option.map_eq_some_iff.1 h
  simp only [Prod.mk.injEq] at h2
  exact ⟨i, h1, h2.1, h2.2.1, h2.2.2⟩
theorem st47 (H : AHeap) (id off : Nat) (x : Value) : astoreT Try.prog H 47 (.pointer (some ⟨id, off, none⟩)) x = if x.cells.size = 1 ∧ x.cells.toList.all oneCell = true then ((H[id]?).bind (rowStore off x.cells.toList)).map fun o => H.set id o else none := astore_rule sz47 H id off x
theorem fa47_0 (id off : Nat) : afieldAddr Try.prog 47 (.pointer (some ⟨id, off, none⟩)) 0 = some (.pointer (some ⟨id, off + 0, none⟩)) := afieldAddr_at (n := 0) (f := (fieldT Try.prog 47 0).getD default) (by kernel_rfl) (by kernel_rfl) (by kernel_rfl) id off
theorem fl47_0 (cs : List Value) : afield Try.prog 47 (.agg cs.toArray) 0 = cs[0]? := afield_one (f := (fieldT Try.prog 47 0).getD default) (by kernel_rfl) (by kernel_rfl) (by kernel_rfl) cs
theorem sz48 : szT Try.prog 48 = some 1 := by kernel_rfl
theorem ag48 : aggT Try.prog 48 = some true := by kernel_rfl
theorem ze48 : zeroT Try.prog 48 = some (.agg #[.slice none 0 0]) := by kernel_rfl
theorem inf48 : ∃ i, Try.prog.info? 48 = some i ∧ i.zero = some (.agg #[.slice none 0 0]) ∧ i.size = 1 ∧ i.bytes = 24 := by
  have h : (Try.prog.info? 48).map (fun i => (i.zero, i.size, i.bytes)) = some (some (.agg #[.slice none 0 0]), 1, 24) := by kernel_rfl
  obtain ⟨i, h1, h2⟩ := Option.map_eq_some_iff.1 h
  simp only [Prod.mk.injEq] at h2
  exact ⟨i, h1, h2.1, h2.2.1, h2.2.2⟩
theorem st48 (H : AHeap) (id off : Nat) (x : Value) : astoreT Try.prog H 48 (.pointer (some ⟨id, off, none⟩)) x = if x.cells.size = 1 ∧ x.cells.toList.all oneCell = true then ((H[id]?).bind (rowStore off x.cells.toList)).map fun o => H.set id o else none := astore_rule sz48 H id off x
theorem fa48_0 (id off : Nat) : afieldAddr Try.prog 48 (.pointer (some ⟨id, off, none⟩)) 0 = some (.pointer (some ⟨id, off + 0, none⟩)) := afieldAddr_at (n := 0) (f := (fieldT Try.prog 48 0).getD default) (by kernel_rfl) (by kernel_rfl) (by kernel_rfl) id off
theorem fl48_0 (cs : List Value) : afield Try.prog 48 (.agg cs.toArray) 0 = cs[0]? := afield_one (f := (fieldT Try.prog 48 0).getD default) (by kernel_rfl) (by kernel_rfl) (by kernel_rfl) cs
theorem sz50 : szT Try.prog 50 = some 8 := by kernel_rfl
theorem ag50 : aggT Try.prog 50 = some true := by kernel_rfl
theorem ze50 : zeroT Try.prog 50 = some (.agg #[.int .i64 0, .int .i64 0, .int .i64 0, .int .i64 0, .int .i64 0, .int .i64 0, .int .i64 0, .int .i64 0]) := by kernel_rfl
theorem pz50 : plainV 100 (.agg #[.int .i64 0, .int .i64 0, .int .i64 0, .int .i64 0, .int .i64 0, .int .i64 0, .int .i64 0, .int .i64 0]) = true := by kernel_rfl
theorem inf50 : ∃ i, Try.prog.info? 50 = some i ∧ i.zero = some (.agg #[.int .i64 0, .int .i64 0, .int .i64 0, .int .i64 0, .int .i64 0, .int .i64 0, .int .i64 0, .int .i64 0]) ∧ i.size = 8 ∧ i.bytes = 64 := by
  have h : (Try.prog.info? 50).map (fun i => (i.zero, i.size, i.bytes)) = some (some (.agg #[.int .i64 0, .int .i64 0, .int .i64 0, .int .i64 0, .int .i64 0, .int .i64 0, .int .i64 0, .int .i64 0]), 8, 64) := by kernel_rfl
  obtain ⟨i, h1, h2⟩ := Option.map_eq_some_iff.1 h
  simp only [Prod.mk.injEq] at h2
  exact ⟨i, h1, h2.1, h2.2.1, h2.2.2⟩
theorem st50 (H : AHeap) (id off : Nat) (x : Value) : astoreT Try.prog H 50 (.pointer (some ⟨id, off, none⟩)) x = if x.cells.size = 8 ∧ x.cells.toList.all oneCell = true then ((H[id]?).bind (rowStore off x.cells.toList)).map fun o => H.set id o else none := astore_rule sz50 H id off x
theorem fa50_0 (id off : Nat) : afieldAddr Try.prog 50 (.pointer (some ⟨id, off, none⟩)) 0 = some (.pointer (some ⟨id, off + 0, none⟩)) := afieldAddr_at (n := 0) (f := (fieldT Try.prog 50 0).getD default) (by kernel_rfl) (by kernel_rfl) (by kernel_rfl) id off
theorem fl50_0 (cs : List Value) : afield Try.prog 50 (.agg cs.toArray) 0 = cs[0]? := afield_one (f := (fieldT Try.prog 50 0).getD default) (by kernel_rfl) (by kernel_rfl) (by kernel_rfl) cs
theorem fa50_1 (id off : Nat) : afieldAddr Try.prog 50 (.pointer (some ⟨id, off, none⟩)) 1 = some (.pointer (some ⟨id, off + 1, none⟩)) := afieldAddr_at (n := 4) (f := (fieldT Try.prog 50 1).getD default) (by kernel_rfl) (by kernel_rfl) (by kernel_rfl) id off
theorem fl50_1 (cs : List Value) : afield Try.prog 50 (.agg cs.toArray) 1 = some (.agg ((cs.drop 1).take 5).toArray) := afield_agg (f := (fieldT Try.prog 50 1).getD default) (by kernel_rfl) (by kernel_rfl) (by kernel_rfl) (by kernel_rfl) cs
theorem fa50_2 (id off : Nat) : afieldAddr Try.prog 50 (.pointer (some ⟨id, off, none⟩)) 2 = some (.pointer (some ⟨id, off + 6, none⟩)) := afieldAddr_at (n := 1) (f := (fieldT Try.prog 50 2).getD default) (by kernel_rfl) (by kernel_rfl) (by kernel_rfl) id off
theorem fl50_2 (cs : List Value) : afield Try.prog 50 (.agg cs.toArray) 2 = some (.agg ((cs.drop 6).take 2).toArray) := afield_agg (f := (fieldT Try.prog 50 2).getD default) (by kernel_rfl) (by kernel_rfl) (by kernel_rfl) (by kernel_rfl) cs
theorem sz51 : szT Try.prog 51 = some 8 := by kernel_rfl
theorem ag51 : aggT Try.prog 51 = some true := by kernel_rfl
theorem ze51 : zeroT Try.prog 51 = some (.agg #[.int .i64 0, .int .i64 0, .int .i64 0, .int .i64 0, .int .i64 0, .int .i64 0, .int .i64 0, .int .i64 0]) := by kernel_rfl
theorem inf51 : ∃ i, Try.prog.info? 51 = some i ∧ i.zero = some (.agg #[.int .i64 0, .int .i64 0, .int .i64 0, .int .i64 0, .int .i64 0, .int .i64 0, .int .i64 0, .int .i64 0]) ∧ i.size = 8 ∧ i.bytes = 64 := by
  have h : (Try.prog.info? 51).map (fun i => (i.zero, i.size, i.bytes)) = some (some (.agg #[.int .i64 0, .int .i64 0, .int .i64 0, .int .i64 0, .int .i64 0, .int .i64 0, .int .i64 0, .int .i64 0]), 8, 64) := by kernel_rfl
  obtain ⟨i, h1, h2⟩ := Option.map_eq_some_iff.1 h
  simp only [Prod.mk.injEq] at h2
  exact ⟨i, h1, h2.1, h2.2.1, h2.2.2⟩
theorem st51 (H : AHeap) (id off : Nat) (x : Value) : astoreT Try.prog H 51 (.pointer (some ⟨id, off, none⟩)) x = if x.cells.size = 8 ∧ x.cells.toList.all oneCell = true then ((H[id]?).bind (rowStore off x.cells.toList)).map fun o => H.set id o else none := astore_rule sz51 H id off x
theorem fa51_0 (id off : Nat) : afieldAddr Try.prog 51 (.pointer (some ⟨id, off, none⟩)) 0 = some (.pointer (some ⟨id, off + 0, none⟩)) := afieldAddr_at (n := 0) (f := (fieldT Try.prog 51 0).getD default) (by kernel_rfl) (by kernel_rfl) (by kernel_rfl) id off
theorem fl51_0 (cs : List Value) : afield Try.prog 51 (.agg cs.toArray) 0 = cs[0]? := afield_one (f := (fieldT Try.prog 51 0).getD default) (by kernel_rfl) (by kernel_rfl) (by kernel_rfl) cs
theorem fa51_1 (id off : Nat) : afieldAddr Try.prog 51 (.pointer (some ⟨id, off, none⟩)) 1 = some (.pointer (some ⟨id, off + 1, none⟩)) := afieldAddr_at (n := 4) (f := (fieldT Try.prog 51 1).getD default) (by kernel_rfl) (by kernel_rfl) (by kernel_rfl) id off
theorem fl51_1 (cs : List Value) : afield Try.prog 51 (.agg cs.toArray) 1 = some (.agg ((cs.drop 1).take 5).toArray) := afield_agg (f := (fieldT Try.prog 51 1).getD default) (by kernel_rfl) (by kernel_rfl) (by kernel_rfl) (by kernel_rfl) cs
theorem fa51_2 (id off : Nat) : afieldAddr Try.prog 51 (.pointer (some ⟨id, off, none⟩)) 2 = some (.pointer (some ⟨id, off + 6, none⟩)) := afieldAddr_at (n := 1) (f := (fieldT Try.prog 51 2).getD default) (by kernel_rfl) (by kernel_rfl) (by kernel_rfl) id off
theorem fl51_2 (cs : List Value) : afield Try.prog 51 (.agg cs.toArray) 2 = some (.agg ((cs.drop 6).take 2).toArray) := afield_agg (f := (fieldT Try.prog 51 2).getD default) (by kernel_rfl) (by kernel_rfl) (by kernel_rfl) (by kernel_rfl) cs
theorem sz58 : szT Try.prog 58 = some 1 := by kernel_rfl
theorem ag58 : aggT Try.prog 58 = some false := by kernel_rfl
theorem ze58 : zeroT Try.prog 58 = some (.slice none 0 0) := by kernel_rfl
theorem inf58 : ∃ i, Try.prog.info? 58 = some i ∧ i.zero = some (.slice none 0 0) ∧ i.size = 1 ∧ i.bytes = 24 := by
  have h : (Try.prog.info? 58).map (fun i => (i.zero, i.size, i.bytes)) = some (some (.slice none 0 0), 1, 24) := by kernel_rfl
  obtain ⟨i, h1, h2⟩ := Option.map_eq_some_iff.1 h
  simp only [Prod.mk.injEq] at h2
  exact ⟨i, h1, h2.1, h2.2.1, h2.2.2⟩
theorem st58 (H : AHeap) (id off : Nat) (x : Value) : astoreT Try.prog H 58 (.pointer (some ⟨id, off, none⟩)) x = if x.cells.size = 1 ∧ x.cells.toList.all oneCell = true then ((H[id]?).bind (rowStore off x.cells.toList)).map fun o => H.set id o else none := astore_rule sz58 H id off x
theorem un58 : Try.prog.underlying 58 = some (.slice 62) := by kernel_rfl
theorem el58 : elemT Try.prog 58 = some 62 := by kernel_rfl
theorem ln58 (H : AHeap) (a : Option Addr) (m c : Nat) : alen Try.prog H 58 (.slice a m c) = some (.int .i64 m) := alen_slice un58 H a m c
theorem cp58 (a : Addr) (m c : Nat) : acap Try.prog 58 (.slice (some a) m c) = if c = 0 then none else some (.int .i64 c) := acap_slice un58 a m c
theorem ix58 (id off m c : Nat) (ik : IntKind) (i : Int) : aindexAddr Try.prog 58 (.slice (some ⟨id, off, none⟩) m c) (.int ik i) = if 0 ≤ i ∧ i < m then some (.pointer (some ⟨id, off + i.toNat * 3, none⟩)) else none := aindexAddr_at un58 (by kernel_rfl) id off m c ik i
theorem en58 (H : AHeap) (xo yo : Operand) (a : Option Addr) (n c m q : Nat) : abin Try.prog H .eql 58 xo yo (.slice a n c) (.slice none m q) = some (.bool a.isNone) := abin_eq_slnil un58 H xo yo a n c m q
theorem nn58 (H : AHeap) (xo yo : Operand) (a : Option Addr) (n c m q : Nat) : abin Try.prog H .neq 58 xo yo (.slice a n c) (.slice none m q) = some (.bool !a.isNone) := abin_ne_slnil un58 H xo yo a n c m q
theorem sc58 (H : AHeap) (a : Option Addr) (n c : Nat) (lo hi : Option Value) : aslice Try.prog H 58 (.slice a n c) lo hi none = (optB hi (some n) (capOf n c)).bind fun h => (optB lo (some 0) h).bind fun l => cut H 3 a c l h := aslice_sl un58 (by kernel_rfl) H a n c lo hi
theorem sz60 : szT Try.prog 60 = some 1 := by kernel_rfl
theorem ag60 : aggT Try.prog 60 = some false := by kernel_rfl
theorem ze60 : zeroT Try.prog 60 = some (.pointer none) := by kernel_rfl
theorem inf60 : ∃ i, Try.prog.info? 60 = some i ∧ i.zero = some (.pointer none) ∧ i.size = 1 ∧ i.bytes = 8 := by
  have h : (Try.prog.info? 60).map (fun i => (i.zero, i.size, i.bytes)) = some (some (.pointer none), 1, 8) := by kernel_rfl
  obtain ⟨i, h1, h2⟩ := Option.map_eq_some_iff.1 h
  simp only [Prod.mk.injEq] at h2
  exact ⟨i, h1, h2.1, h2.2.1, h2.2.2⟩
theorem st60 (H : AHeap) (id off : Nat) (x : Value) : astoreT Try.prog H 60 (.pointer (some ⟨id, off, none⟩)) x = if x.cells.size = 1 ∧ x.cells.toList.all oneCell = true then ((H[id]?).bind (rowStore off x.cells.toList)).map fun o => H.set id o else none := astore_rule sz60 H id off x
theorem en60 (H : AHeap) (xo yo : Operand) (a : Option Addr) : abin Try.prog H .eql 60 xo yo (.pointer a) (.pointer none) = some (.bool a.isNone) := abin_eq_ptrnil (e := 66) (by kernel_rfl) H xo yo a
theorem nn60 (H : AHeap) (xo yo : Operand) (a : Option Addr) : abin Try.prog H .neq 60 xo yo (.pointer a) (.pointer none) = some (.bool !a.isNone) := abin_ne_ptrnil (e := 66) (by kernel_rfl) H xo yo a
theorem sz61 : szT Try.prog 61 = some 3 := by kernel_rfl
theorem ag61 : aggT Try.prog 61 = some true := by kernel_rfl
theorem ze61 : zeroT Try.prog 61 = some (.agg #[.pointer none, .int .i64 0, .int .i64 0]) := by kernel_rfl
theorem pz61 : plainV 100 (.agg #[.pointer none, .int .i64 0, .int .i64 0]) = true := by kernel_rfl
theorem inf61 : ∃ i, Try.prog.info? 61 = some i ∧ i.zero = some (.agg #[.pointer none, .int .i64 0, .int .i64 0]) ∧ i.size = 3 ∧ i.bytes = 24 := by
  have h : (Try.prog.info? 61).map (fun i => (i.zero, i.size, i.bytes)) = some (some (.agg #[.pointer none, .int .i64 0, .int .i64 0]), 3, 24) := by kernel_rfl
  obtain ⟨i, h1, h2⟩ := Option.map_eq_some_iff.1 h
  simp only [Prod.mk.injEq] at h2
  exact ⟨i, h1, h2.1, h2.2.1, h2.2.2⟩
theorem st61 (H : AHeap) (id off : Nat) (x : Value) : astoreT Try.prog H 61 (.pointer (some ⟨id, off, none⟩)) x = if x.cells.size = 3 ∧ x.cells.toList.all oneCell = true then ((H[id]?).bind (rowStore off x.cells.toList)).map fun o => H.set id o else none := astore_rule sz61 H id off x
theorem fa61_0 (id off : Nat) : afieldAddr Try.prog 61 (.pointer (some ⟨id, off, none⟩)) 0 = some (.pointer (some ⟨id, off + 0, none⟩)) := afieldAddr_at (n := 0) (f := (fieldT Try.prog 61 0).getD default) (by kernel_rfl) (by kernel_rfl) (by kernel_rfl) id off
theorem fl61_0 (cs : List Value) : afield Try.prog 61 (.agg cs.toArray) 0 = cs[0]? := afield_one (f := (fieldT Try.prog 61 0).getD default) (by kernel_rfl) (by kernel_rfl) (by kernel_rfl) cs
theorem fa61_1 (id off : Nat) : afieldAddr Try.prog 61 (.pointer (some ⟨id, off, none⟩)) 1 = some (.pointer (some ⟨id, off + 1, none⟩)) := afieldAddr_at (n := 1) (f := (fieldT Try.prog 61 1).getD default) (by kernel_rfl) (by kernel_rfl) (by kernel_rfl) id off
theorem fl61_1 (cs : List Value) : afield Try.prog 61 (.agg cs.toArray) 1 = some (.agg ((cs.drop 1).take 2).toArray) := afield_agg (f := (fieldT Try.prog 61 1).getD default) (by kernel_rfl) (by kernel_rfl) (by kernel_rfl) (by kernel_rfl) cs
theorem sz62 : szT Try.prog 62 = some 3 := by kernel_rfl
theorem ag62 : aggT Try.prog 62 = some true := by kernel_rfl
theorem ze62 : zeroT Try.prog 62 = some (.agg #[.pointer none, .int .i64 0, .int .i64 0]) := by kernel_rfl
theorem inf62 : ∃ i, Try.prog.info? 62 = some i ∧ i.zero = some (.agg #[.pointer none, .int .i64 0, .int .i64 0]) ∧ i.size = 3 ∧ i.bytes = 24 := by
  have h : (Try.prog.info? 62).map (fun i => (i.zero, i.size, i.bytes)) = some (some (.agg #[.pointer none, .int .i64 0, .int .i64 0]), 3, 24) := by kernel_rfl
  obtain ⟨i, h1, h2⟩ := Option.map_eq_some_iff.1 h
  simp only [Prod.mk.injEq] at h2
  exact ⟨i, h1, h2.1, h2.2.1, h2.2.2⟩
theorem st62 (H : AHeap) (id off : Nat) (x : Value) : astoreT Try.prog H 62 (.pointer (some ⟨id, off, none⟩)) x = if x.cells.size = 3 ∧ x.cells.toList.all oneCell = true then ((H[id]?).bind (rowStore off x.cells.toList)).map fun o => H.set id o else none := astore_rule sz62 H id off x
theorem fa62_0 (id off : Nat) : afieldAddr Try.prog 62 (.pointer (some ⟨id, off, none⟩)) 0 = some (.pointer (some ⟨id, off + 0, none⟩)) := afieldAddr_at (n := 0) (f := (fieldT Try.prog 62 0).getD default) (by kernel_rfl) (by kernel_rfl) (by kernel_rfl) id off
theorem fl62_0 (cs : List Value) : afield Try.prog 62 (.agg cs.toArray) 0 = cs[0]? := afield_one (f := (fieldT Try.prog 62 0).getD default) (by kernel_rfl) (by kernel_rfl) (by kernel_rfl) cs
theorem fa62_1 (id off : Nat) : afieldAddr Try.prog 62 (.pointer (some ⟨id, off, none⟩)) 1 = some (.pointer (some ⟨id, off + 1, none⟩)) := afieldAddr_at (n := 1) (f := (fieldT Try.prog 62 1).getD default) (by kernel_rfl) (by kernel_rfl) (by kernel_rfl) id off
theorem fl62_1 (cs : List Value) : afield Try.prog 62 (.agg cs.toArray) 1 = some (.agg ((cs.drop 1).take 2).toArray) := afield_agg (f := (fieldT Try.prog 62 1).getD default) (by kernel_rfl) (by kernel_rfl) (by kernel_rfl) (by kernel_rfl) cs
theorem sz63 : szT Try.prog 63 = some 3 := by kernel_rfl
theorem ag63 : aggT Try.prog 63 = some true := by kernel_rfl
theorem ze63 : zeroT Try.prog 63 = some (.agg #[.int .i64 0, .int .i64 0, .int .i64 0]) := by kernel_rfl
theorem pz63 : plainV 100 (.agg #[.int .i64 0, .int .i64 0, .int .i64 0]) = true := by kernel_rfl
theorem inf63 : ∃ i, Try.prog.info? 63 = some i ∧ i.zero = some (.agg #[.int .i64 0, .int .i64 0, .int .i64 0]) ∧ i.size = 3 ∧ i.bytes = 24 := by
  have h : (Try.prog.info? 63).map (fun i => (i.zero, i.size, i.bytes)) = some (some (.agg #[.int .i64 0, .int .i64 0, .int .i64 0]), 3, 24) := by kernel_rfl
  obtain ⟨i, h1, h2⟩ := Option.map_eq_some_iff.1 h
  simp only [Prod.mk.injEq] at h2
  exact ⟨i, h1, h2.1, h2.2.1, h2.2.2⟩
theorem st63 (H : AHeap) (id off : Nat) (x : Value) : astoreT Try.prog H 63 (.pointer (some ⟨id, off, none⟩)) x = if x.cells.size = 3 ∧ x.cells.toList.all oneCell = true then ((H[id]?).bind (rowStore off x.cells.toList)).map fun o => H.set id o else none := astore_rule sz63 H id off x
theorem fa63_0 (id off : Nat) : afieldAddr Try.prog 63 (.pointer (some ⟨id, off, none⟩)) 0 = some (.pointer (some ⟨id, off + 0, none⟩)) := afieldAddr_at (n := 1) (f := (fieldT Try.prog 63 0).getD default) (by kernel_rfl) (by kernel_rfl) (by kernel_rfl) id off
theorem fl63_0 (cs : List Value) : afield Try.prog 63 (.agg cs.toArray) 0 = some (.agg ((cs.drop 0).take 2).toArray) := afield_agg (f := (fieldT Try.prog 63 0).getD default) (by kernel_rfl) (by kernel_rfl) (by kernel_rfl) (by kernel_rfl) cs
theorem fa63_1 (id off : Nat) : afieldAddr Try.prog 63 (.pointer (some ⟨id, off, none⟩)) 1 = some (.pointer (some ⟨id, off + 2, none⟩)) := afieldAddr_at (n := 0) (f := (fieldT Try.prog 63 1).getD default) (by kernel_rfl) (by kernel_rfl) (by kernel_rfl) id off
theorem fl63_1 (cs : List Value) : afield Try.prog 63 (.agg cs.toArray) 1 = cs[2]? := afield_one (f := (fieldT Try.prog 63 1).getD default) (by kernel_rfl) (by kernel_rfl) (by kernel_rfl) cs
theorem sz64 : szT Try.prog 64 = some 3 := by kernel_rfl
theorem ag64 : aggT Try.prog 64 = some true := by kernel_rfl
theorem ze64 : zeroT Try.prog 64 = some (.agg #[.int .i64 0, .int .i64 0, .int .i64 0]) := by kernel_rfl
theorem inf64 : ∃ i, Try.prog.info? 64 = some i ∧ i.zero = some (.agg #[.int .i64 0, .int .i64 0, .int .i64 0]) ∧ i.size = 3 ∧ i.bytes = 24 := by
  have h : (Try.prog.info? 64).map (fun i => (i.zero, i.size, i.bytes)) = some (some (.agg #[.int .i64 0, .int .i64 0, .int .i64 0]), 3, 24) := by kernel_rfl
  obtain ⟨i, h1, h2⟩ := Option.map_eq_some_iff.1 h
  simp only [Prod.mk.injEq] at h2
  exact ⟨i, h1, h2.1, h2.2.1, h2.2.2⟩
theorem st64 (H : AHeap) (id off : Nat) (x : Value) : astoreT Try.prog H 64 (.pointer (some ⟨id, off, none⟩)) x = if x.cells.size = 3 ∧ x.cells.toList.all oneCell = true then ((H[id]?).bind (rowStore off x.cells.toList)).map fun o => H.set id o else none := astore_rule sz64 H id off x
theorem fa64_0 (id off : Nat) : afieldAddr Try.prog 64 (.pointer (some ⟨id, off, none⟩)) 0 = some (.pointer (some ⟨id, off + 0, none⟩)) := afieldAddr_at (n := 1) (f := (fieldT Try.prog 64 0).getD default) (by kernel_rfl) (by kernel_rfl) (by kernel_rfl) id off
theorem fl64_0 (cs : List Value) : afield Try.prog 64 (.agg cs.toArray) 0 = some (.agg ((cs.drop 0).take 2).toArray) := afield_agg (f := (fieldT Try.prog 64 0).getD default) (by kernel_rfl) (by kernel_rfl) (by kernel_rfl) (by kernel_rfl) cs
theorem fa64_1 (id off : Nat) : afieldAddr Try.prog 64 (.pointer (some ⟨id, off, none⟩)) 1 = some (.pointer (some ⟨id, off + 2, none⟩)) := afieldAddr_at (n := 0) (f := (fieldT Try.prog 64 1).getD default) (by kernel_rfl) (by kernel_rfl) (by kernel_rfl) id off
theorem fl64_1 (cs : List Value) : afield Try.prog 64 (.agg cs.toArray) 1 = cs[2]? := afield_one (f := (fieldT Try.prog 64 1).getD default) (by kernel_rfl) (by kernel_rfl) (by kernel_rfl) cs
theorem sz65 : szT Try.prog 65 = some 4 := by kernel_rfl
theorem ag65 : aggT Try.prog 65 = some true := by kernel_rfl
theorem ze65 : zeroT Try.prog 65 = some (.agg #[.int .i64 0, .int .i64 0, .int .i64 0, .slice none 0 0]) := by kernel_rfl
theorem pz65 : plainV 100 (.agg #[.int .i64 0, .int .i64 0, .int .i64 0, .slice none 0 0]) = true := by kernel_rfl
theorem inf65 : ∃ i, Try.prog.info? 65 = some i ∧ i.zero = some (.agg #[.int .i64 0, .int .i64 0, .int .i64 0, .slice none 0 0]) ∧ i.size = 4 ∧ i.bytes = 48 := by
  have h : (Try.prog.info? 65).map (fun i => (i.zero, i.size, i.bytes)) = some (some (.agg #[.int .i64 0, .int .i64 0, .int .i64 0, .slice none 0 0]), 4, 48) := by kernel_rfl
  obtain ⟨i, h1, h2⟩ := Option.map_eq_some_iff.1 h
  simp only [Prod.mk.injEq] at h2
  exact ⟨i, h1, h2.1, h2.2.1, h2.2.2⟩
theorem st65 (H : AHeap) (id off : Nat) (x : Value) : astoreT Try.prog H 65 (.pointer (some ⟨id, off, none⟩)) x = if x.cells.size = 4 ∧ x.cells.toList.all oneCell = true then ((H[id]?).bind (rowStore off x.cells.toList)).map fun o => H.set id o else none := astore_rule sz65 H id off x
theorem fa65_0 (id off : Nat) : afieldAddr Try.prog 65 (.pointer (some ⟨id, off, none⟩)) 0 = some (.pointer (some ⟨id, off + 0, none⟩)) := afieldAddr_at (n := 2) (f := (fieldT Try.prog 65 0).getD default) (by kernel_rfl) (by kernel_rfl) (by kernel_rfl) id off
theorem fl65_0 (cs : List Value) : afield Try.prog 65 (.agg cs.toArray) 0 = some (.agg ((cs.drop 0).take 3).toArray) := afield_agg (f := (fieldT Try.prog 65 0).getD default) (by kernel_rfl) (by kernel_rfl) (by kernel_rfl) (by kernel_rfl) cs
theorem fa65_1 (id off : Nat) : afieldAddr Try.prog 65 (.pointer (some ⟨id, off, none⟩)) 1 = some (.pointer (some ⟨id, off + 3, none⟩)) := afieldAddr_at (n := 0) (f := (fieldT Try.prog 65 1).getD default) (by kernel_rfl) (by kernel_rfl) (by kernel_rfl) id off
theorem fl65_1 (cs : List Value) : afield Try.prog 65 (.agg cs.toArray) 1 = cs[3]? := afield_one (f := (fieldT Try.prog 65 1).getD default) (by kernel_rfl) (by kernel_rfl) (by kernel_rfl) cs
theorem sz66 : szT Try.prog 66 = some 4 := by kernel_rfl
theorem ag66 : aggT Try.prog 66 = some true := by kernel_rfl
theorem ze66 : zeroT Try.prog 66 = some (.agg #[.int .i64 0, .int .i64 0, .int .i64 0, .slice none 0 0]) := by kernel_rfl
theorem inf66 : ∃ i, Try.prog.info? 66 = some i ∧ i.zero = some (.agg #[.int .i64 0, .int .i64 0, .int .i64 0, .slice none 0 0]) ∧ i.size = 4 ∧ i.bytes = 48 := by
  have h : (Try.prog.info? 66).map (fun i => (i.zero, i.size, i.bytes)) = some (some (.agg #[.int .i64 0, .int .i64 0, .int .i64 0, .slice none 0 0]), 4, 48) := by kernel_rfl
  obtain ⟨i, h1, h2⟩ := Option.map_eq_some_iff.1 h
  simp only [Prod.mk.injEq] at h2
  exact ⟨i, h1, h2.1, h2.2.1, h2.2.2⟩
theorem st66 (H : AHeap) (id off : Nat) (x : Value) : astoreT Try.prog H 66 (.pointer (some ⟨id, off, none⟩)) x = if x.cells.size = 4 ∧ x.cells.toList.all oneCell = true then ((H[id]?).bind (rowStore off x.cells.toList)).map fun o => H.set id o else none := astore_rule sz66 H id off x
theorem fa66_0 (id off : Nat) : afieldAddr Try.prog 66 (.pointer (some ⟨id, off, none⟩)) 0 = some (.pointer (some ⟨id, off + 0, none⟩)) := afieldAddr_at (n := 2) (f := (fieldT Try.prog 66 0).getD default) (by kernel_rfl) (by kernel_rfl) (by kernel_rfl) id off
theorem fl66_0 (cs : List Value) : afield Try.prog 66 (.agg cs.toArray) 0 = some (.agg ((cs.drop 0).take 3).toArray) := afield_agg (f := (fieldT Try.prog 66 0).getD default) (by kernel_rfl) (by kernel_rfl) (by kernel_rfl) (by kernel_rfl) cs
theorem fa66_1 (id off : Nat) : afieldAddr Try.prog 66 (.pointer (some ⟨id, off, none⟩)) 1 = some (.pointer (some ⟨id, off + 3, none⟩)) := afieldAddr_at (n := 0) (f := (fieldT Try.prog 66 1).getD default) (by kernel_rfl) (by kernel_rfl) (by kernel_rfl) id off
theorem fl66_1 (cs : List Value) : afield Try.prog 66 (.agg cs.toArray) 1 = cs[3]? := afield_one (f := (fieldT Try.prog 66 1).getD default) (by kernel_rfl) (by kernel_rfl) (by kernel_rfl) cs
theorem sz68 : szT Try.prog 68 = some 1 := by kernel_rfl
theorem ag68 : aggT Try.prog 68 = some false := by kernel_rfl
theorem ze68 : zeroT Try.prog 68 = some (.map none) := by kernel_rfl
theorem pz68 : plainV 100 (.map none) = true := by kernel_rfl
theorem inf68 : ∃ i, Try.prog.info? 68 = some i ∧ i.zero = some (.map none) ∧ i.size = 1 ∧ i.bytes = 8 := by
  have h : (Try.prog.info? 68).map (fun i => (i.zero, i.size, i.bytes)) = some (some (.map none), 1, 8) := by kernel_rfl
  obtain ⟨i, h1, h2⟩ := Option.map_eq_some_iff.1 h
  simp only [Prod.mk.injEq] at h2
  exact ⟨i, h1, h2.1, h2.2.1, h2.2.2⟩
theorem st68 (H : AHeap) (id off : Nat) (x : Value) : astoreT Try.prog H 68 (.pointer (some ⟨id, off, none⟩)) x = if x.cells.size = 1 ∧ x.cells.toList.all oneCell = true then ((H[id]?).bind (rowStore off x.cells.toList)).map fun o => H.set id o else none := astore_rule sz68 H id off x
theorem en68 (H : AHeap) (xo yo : Operand) (a : Option Nat) : abin Try.prog H .eql 68 xo yo (.map a) (.map none) = some (.bool a.isNone) := abin_eq_mapnil (k := 64) (e := 60) (by kernel_rfl) H xo yo a
theorem nn68 (H : AHeap) (xo yo : Operand) (a : Option Nat) : abin Try.prog H .neq 68 xo yo (.map a) (.map none) = some (.bool !a.isNone) := abin_ne_mapnil (k := 64) (e := 60) (by kernel_rfl) H xo yo a
theorem un68 : Try.prog.underlying 68 = some (.map 64 60) := by kernel_rfl
theorem mt68 : mapT Try.prog 68 = some (64, 60) := by kernel_rfl
theorem sz69 : szT Try.prog 69 = some 1 := by kernel_rfl
theorem ag69 : aggT Try.prog 69 = some true := by kernel_rfl
theorem ze69 : zeroT Try.prog 69 = some (.agg #[.map none]) := by kernel_rfl
theorem pz69 : plainV 100 (.agg #[.map none]) = true := by kernel_rfl
theorem inf69 : ∃ i, Try.prog.info? 69 = some i ∧ i.zero = some (.agg #[.map none]) ∧ i.size = 1 ∧ i.bytes = 8 := by
  have h : (Try.prog.info? 69).map (fun i => (i.zero, i.size, i.bytes)) = some (some (.agg #[.map none]), 1, 8) := by kernel_rfl
  obtain ⟨i, h1, h2⟩ := Option.map_eq_some_iff.1 h
  simp only [Prod.mk.injEq] at h2
  exact ⟨i, h1, h2.1, h2.2.1, h2.2.2⟩
theorem st69 (H : AHeap) (id off : Nat) (x : Value) : astoreT Try.prog H 69 (.pointer (some ⟨id, off, none⟩)) x = if x.cells.size = 1 ∧ x.cells.toList.all oneCell = true then ((H[id]?).bind (rowStore off x.cells.toList)).map fun o => H.set id o else none := astore_rule sz69 H id off x
theorem fa69_0 (id off : Nat) : afieldAddr Try.prog 69 (.pointer (some ⟨id, off, none⟩)) 0 = some (.pointer (some ⟨id, off + 0, none⟩)) := afieldAddr_at (n := 0) (f := (fieldT Try.prog 69 0).getD default) (by kernel_rfl) (by kernel_rfl) (by kernel_rfl) id off
theorem fl69_0 (cs : List Value) : afield Try.prog 69 (.agg cs.toArray) 0 = cs[0]? := afield_one (f := (fieldT Try.prog 69 0).getD default) (by kernel_rfl) (by kernel_rfl) (by kernel_rfl) cs
theorem sz70 : szT Try.prog 70 = some 1 := by kernel_rfl
theorem ag70 : aggT Try.prog 70 = some true := by kernel_rfl
theorem ze70 : zeroT Try.prog 70 = some (.agg #[.map none]) := by kernel_rfl
theorem inf70 : ∃ i, Try.prog.info? 70 = some i ∧ i.zero = some (.agg #[.map none]) ∧ i.size = 1 ∧ i.bytes = 8 := by
  have h : (Try.prog.info? 70).map (fun i => (i.zero, i.size, i.bytes)) = some (some (.agg #[.map none]), 1, 8) := by kernel_rfl
  obtain ⟨i, h1, h2⟩ := Option.map_eq_some_iff.1 h
  simp only [Prod.mk.injEq] at h2
  exact ⟨i, h1, h2.1, h2.2.1, h2.2.2⟩
theorem st70 (H : AHeap) (id off : Nat) (x : Value) : astoreT Try.prog H 70 (.pointer (some ⟨id, off, none⟩)) x = if x.cells.size = 1 ∧ x.cells.toList.all oneCell = true then ((H[id]?).bind (rowStore off x.cells.toList)).map fun o => H.set id o else none := astore_rule sz70 H id off x
theorem fa70_0 (id off : Nat) : afieldAddr Try.prog 70 (.pointer (some ⟨id, off, none⟩)) 0 = some (.pointer (some ⟨id, off + 0, none⟩)) := afieldAddr_at (n := 0) (f := (fieldT Try.prog 70 0).getD default) (by kernel_rfl) (by kernel_rfl) (by kernel_rfl) id off
theorem fl70_0 (cs : List Value) : afield Try.prog 70 (.agg cs.toArray) 0 = cs[0]? := afield_one (f := (fieldT Try.prog 70 0).getD default) (by kernel_rfl) (by kernel_rfl) (by kernel_rfl) cs
theorem sz84 : szT Try.prog 84 = some 1 := by kernel_rfl
theorem ag84 : aggT Try.prog 84 = some false := by kernel_rfl
theorem ze84 : zeroT Try.prog 84 = some (.slice none 0 0) := by kernel_rfl
theorem inf84 : ∃ i, Try.prog.info? 84 = some i ∧ i.zero = some (.slice none 0 0) ∧ i.size = 1 ∧ i.bytes = 24 := by
  have h : (Try.prog.info? 84).map (fun i => (i.zero, i.size, i.bytes)) = some (some (.slice none 0 0), 1, 24) := by kernel_rfl
  obtain ⟨i, h1, h2⟩ := Option.map_eq_some_iff.1 h
  simp only [Prod.mk.injEq] at h2
  exact ⟨i, h1, h2.1, h2.2.1, h2.2.2⟩
theorem st84 (H : AHeap) (id off : Nat) (x : Value) : astoreT Try.prog H 84 (.pointer (some ⟨id, off, none⟩)) x = if x.cells.size = 1 ∧ x.cells.toList.all oneCell = true then ((H[id]?).bind (rowStore off x.cells.toList)).map fun o => H.set id o else none := astore_rule sz84 H id off x
theorem un84 : Try.prog.underlying 84 = some (.slice 60) := by kernel_rfl
theorem el84 : elemT Try.prog 84 = some 60 := by kernel_rfl
theorem ln84 (H : AHeap) (a : Option Addr) (m c : Nat) : alen Try.prog H 84 (.slice a m c) = some (.int .i64 m) := alen_slice un84 H a m c
theorem cp84 (a : Addr) (m c : Nat) : acap Try.prog 84 (.slice (some a) m c) = if c = 0 then none else some (.int .i64 c) := acap_slice un84 a m c
theorem ix84 (id off m c : Nat) (ik : IntKind) (i : Int) : aindexAddr Try.prog 84 (.slice (some ⟨id, off, none⟩) m c) (.int ik i) = if 0 ≤ i ∧ i < m then some (.pointer (some ⟨id, off + i.toNat * 1, none⟩)) else none := aindexAddr_at un84 (by kernel_rfl) id off m c ik i
theorem en84 (H : AHeap) (xo yo : Operand) (a : Option Addr) (n c m q : Nat) : abin Try.prog H .eql 84 xo yo (.slice a n c) (.slice none m q) = some (.bool a.isNone) := abin_eq_slnil un84 H xo yo a n c m q
theorem nn84 (H : AHeap) (xo yo : Operand) (a : Option Addr) (n c m q : Nat) : abin Try.prog H .neq 84 xo yo (.slice a n c) (.slice none m q) = some (.bool !a.isNone) := abin_ne_slnil un84 H xo yo a n c m q
theorem sc84 (H : AHeap) (a : Option Addr) (n c : Nat) (lo hi : Option Value) : aslice Try.prog H 84 (.slice a n c) lo hi none = (optB hi (some n) (capOf n c)).bind fun h => (optB lo (some 0) h).bind fun l => cut H 1 a c l h := aslice_sl un84 (by kernel_rfl) H a n c lo hi
theorem sz85 : szT Try.prog 85 = some 1 := by kernel_rfl
theorem ag85 : aggT Try.prog 85 = some false := by kernel_rfl
theorem ze85 : zeroT Try.prog 85 = some (.slice none 0 0) := by kernel_rfl
theorem inf85 : ∃ i, Try.prog.info? 85 = some i ∧ i.zero = some (.slice none 0 0) ∧ i.size = 1 ∧ i.bytes = 24 := by
  have h : (Try.prog.info? 85).map (fun i => (i.zero, i.size, i.bytes)) = some (some (.slice none 0 0), 1, 24) := by kernel_rfl
  obtain ⟨i, h1, h2⟩ := Option.map_eq_some_iff.1 h
  simp only [Prod.mk.injEq] at h2
  exact ⟨i, h1, h2.1, h2.2.1, h2.2.2⟩
theorem st85 (H : AHeap) (id off : Nat) (x : Value) : astoreT Try.prog H 85 (.pointer (some ⟨id, off, none⟩)) x = if x.cells.size = 1 ∧ x.cells.toList.all oneCell = true then ((H[id]?).bind (rowStore off x.cells.toList)).map fun o => H.set id o else none := astore_rule sz85 H id off x
theorem un85 : Try.prog.underlying 85 = some (.slice 2) := by kernel_rfl
theorem el85 : elemT Try.prog 85 = some 2 := by kernel_rfl
theorem ln85 (H : AHeap) (a : Option Addr) (m c : Nat) : alen Try.prog H 85 (.slice a m c) = some (.int .i64 m) := alen_slice un85 H a m c
theorem cp85 (a : Addr) (m c : Nat) : acap Try.prog 85 (.slice (some a) m c) = if c = 0 then none else some (.int .i64 c) := acap_slice un85 a m c
theorem ix85 (id off m c : Nat) (ik : IntKind) (i : Int) : aindexAddr Try.prog 85 (.slice (some ⟨id, off, none⟩) m c) (.int ik i) = if 0 ≤ i ∧ i < m then some (.pointer (some ⟨id, off + i.toNat * 1, none⟩)) else none := aindexAddr_at un85 (by kernel_rfl) id off m c ik i
theorem en85 (H : AHeap) (xo yo : Operand) (a : Option Addr) (n c m q : Nat) : abin Try.prog H .eql 85 xo yo (.slice a n c) (.slice none m q) = some (.bool a.isNone) := abin_eq_slnil un85 H xo yo a n c m q
theorem nn85 (H : AHeap) (xo yo : Operand) (a : Option Addr) (n c m q : Nat) : abin Try.prog H .neq 85 xo yo (.slice a n c) (.slice none m q) = some (.bool !a.isNone) := abin_ne_slnil un85 H xo yo a n c m q
theorem sc85 (H : AHeap) (a : Option Addr) (n c : Nat) (lo hi : Option Value) : aslice Try.prog H 85 (.slice a n c) lo hi none = (optB hi (some n) (capOf n c)).bind fun h => (optB lo (some 0) h).bind fun l => cut H 1 a c l h := aslice_sl un85 (by kernel_rfl) H a n c lo hi
theorem sz99 : szT Try.prog 99 = some 1 := by kernel_rfl
theorem ag99 : aggT Try.prog 99 = some false := by kernel_rfl
theorem ze99 : zeroT Try.prog 99 = some (.int .u64 0) := by kernel_rfl
theorem inf99 : ∃ i, Try.prog.info? 99 = some i ∧ i.zero = some (.int .u64 0) ∧ i.size = 1 ∧ i.bytes = 8 := by
  have h : (Try.prog.info? 99).map (fun i => (i.zero, i.size, i.bytes)) = some (some (.int .u64 0), 1, 8) := by kernel_rfl
  obtain ⟨i, h1, h2⟩ := Option.map_eq_some_iff.1 h
  simp only [Prod.mk.injEq] at h2
  exact ⟨i, h1, h2.1, h2.2.1, h2.2.2⟩
theorem st99 (H : AHeap) (id off : Nat) (x : Value) : astoreT Try.prog H 99 (.pointer (some ⟨id, off, none⟩)) x = if x.cells.size = 1 ∧ x.cells.toList.all oneCell = true then ((H[id]?).bind (rowStore off x.cells.toList)).map fun o => H.set id o else none := astore_rule sz99 H id off x
theorem kd99 : kindT Try.prog 99 = .int .u64 := by kernel_rfl
theorem sz107 : szT Try.prog 107 = some 1 := by kernel_rfl
theorem ag107 : aggT Try.prog 107 = some false := by kernel_rfl
theorem ze107 : zeroT Try.prog 107 = some (.int .i64 0) := by kernel_rfl
theorem inf107 : ∃ i, Try.prog.info? 107 = some i ∧ i.zero = some (.int .i64 0) ∧ i.size = 1 ∧ i.bytes = 8 := by
  have h : (Try.prog.info? 107).map (fun i => (i.zero, i.size, i.bytes)) = some (some (.int .i64 0), 1, 8) := by kernel_rfl
  obtain ⟨i, h1, h2⟩ := Option.map_eq_some_iff.1 h
  simp only [Prod.mk.injEq] at h2
  exact ⟨i, h1, h2.1, h2.2.1, h2.2.2⟩
theorem st107 (H : AHeap) (id off : Nat) (x : Value) : astoreT Try.prog H 107 (.pointer (some ⟨id, off, none⟩)) x = if x.cells.size = 1 ∧ x.cells.toList.all oneCell = true then ((H[id]?).bind (rowStore off x.cells.toList)).map fun o => H.set id o else none := astore_rule sz107 H id off x
theorem kd107 : kindT Try.prog 107 = .int .i64 := by kernel_rfl
theorem sz114 : szT Try.prog 114 = some 1 := by kernel_rfl
theorem ag114 : aggT Try.prog 114 = some false := by kernel_rfl
theorem ze114 : zeroT Try.prog 114 = some (.int .u32 0) := by kernel_rfl
theorem pz114 : plainV 100 (.int .u32 0) = true := by kernel_rfl
theorem inf114 : ∃ i, Try.prog.info? 114 = some i ∧ i.zero = some (.int .u32 0) ∧ i.size = 1 ∧ i.bytes = 4 := by
  have h : (Try.prog.info? 114).map (fun i => (i.zero, i.size, i.bytes)) = some (some (.int .u32 0), 1, 4) := by kernel_rfl
  obtain ⟨i, h1, h2⟩ := Option.map_eq_some_iff.1 h
  simp only [Prod.mk.injEq] at h2
  exact ⟨i, h1, h2.1, h2.2.1, h2.2.2⟩
theorem st114 (H : AHeap) (id off : Nat) (x : Value) : astoreT Try.prog H 114 (.pointer (some ⟨id, off, none⟩)) x = if x.cells.size = 1 ∧ x.cells.toList.all oneCell = true then ((H[id]?).bind (rowStore off x.cells.toList)).map fun o => H.set id o else none := astore_rule sz114 H id off x
theorem kd114 : kindT Try.prog 114 = .int .u32 := by kernel_rfl
theorem sz116 : szT Try.prog 116 = some 1 := by kernel_rfl
theorem ag116 : aggT Try.prog 116 = some false := by kernel_rfl
theorem ze116 : zeroT Try.prog 116 = some (.int .u64 0) := by kernel_rfl
theorem inf116 : ∃ i, Try.prog.info? 116 = some i ∧ i.zero = some (.int .u64 0) ∧ i.size = 1 ∧ i.bytes = 8 := by
  have h : (Try.prog.info? 116).map (fun i => (i.zero, i.size, i.bytes)) = some (some (.int .u64 0), 1, 8) := by kernel_rfl
  obtain ⟨i, h1, h2⟩ := Option.map_eq_some_iff.1 h
  simp only [Prod.mk.injEq] at h2
  exact ⟨i, h1, h2.1, h2.2.1, h2.2.2⟩
theorem st116 (H : AHeap) (id off : Nat) (x : Value) : astoreT Try.prog H 116 (.pointer (some ⟨id, off, none⟩)) x = if x.cells.size = 1 ∧ x.cells.toList.all oneCell = true then ((H[id]?).bind (rowStore off x.cells.toList)).map fun o => H.set id o else none := astore_rule sz116 H id off x
theorem kd116 : kindT Try.prog 116 = .int .u64 := by kernel_rfl
theorem sz117 : szT Try.prog 117 = some 1 := by kernel_rfl
theorem ag117 : aggT Try.prog 117 = some false := by kernel_rfl
theorem ze117 : zeroT Try.prog 117 = some (.slice none 0 0) := by kernel_rfl
theorem inf117 : ∃ i, Try.prog.info? 117 = some i ∧ i.zero = some (.slice none 0 0) ∧ i.size = 1 ∧ i.bytes = 24 := by
  have h : (Try.prog.info? 117).map (fun i => (i.zero, i.size, i.bytes)) = some (some (.slice none 0 0), 1, 24) := by kernel_rfl
  obtain ⟨i, h1, h2⟩ := Option.map_eq_some_iff.1 h
  simp only [Prod.mk.injEq] at h2
  exact ⟨i, h1, h2.1, h2.2.1, h2.2.2⟩
theorem st117 (H : AHeap) (id off : Nat) (x : Value) : astoreT Try.prog H 117 (.pointer (some ⟨id, off, none⟩)) x = if x.cells.size = 1 ∧ x.cells.toList.all oneCell = true then ((H[id]?).bind (rowStore off x.cells.toList)).map fun o => H.set id o else none := astore_rule sz117 H id off x
theorem un117 : Try.prog.underlying 117 = some (.slice 3) := by kernel_rfl
theorem el117 : elemT Try.prog 117 = some 3 := by kernel_rfl
theorem ln117 (H : AHeap) (a : Option Addr) (m c : Nat) : alen Try.prog H 117 (.slice a m c) = some (.int .i64 m) := alen_slice un117 H a m c
theorem cp117 (a : Addr) (m c : Nat) : acap Try.prog 117 (.slice (some a) m c) = if c = 0 then none else some (.int .i64 c) := acap_slice un117 a m c
theorem ix117 (id off m c : Nat) (ik : IntKind) (i : Int) : aindexAddr Try.prog 117 (.slice (some ⟨id, off, none⟩) m c) (.int ik i) = if 0 ≤ i ∧ i < m then some (.pointer (some ⟨id, off + i.toNat * 1, none⟩)) else none := aindexAddr_at un117 (by kernel_rfl) id off m c ik i
theorem en117 (H : AHeap) (xo yo : Operand) (a : Option Addr) (n c m q : Nat) : abin Try.prog H .eql 117 xo yo (.slice a n c) (.slice none m q) = some (.bool a.isNone) := abin_eq_slnil un117 H xo yo a n c m q
theorem nn117 (H : AHeap) (xo yo : Operand) (a : Option Addr) (n c m q : Nat) : abin Try.prog H .neq 117 xo yo (.slice a n c) (.slice none m q) = some (.bool !a.isNone) := abin_ne_slnil un117 H xo yo a n c m q
theorem sc117 (H : AHeap) (a : Option Addr) (n c : Nat) (lo hi : Option Value) : aslice Try.prog H 117 (.slice a n c) lo hi none = (optB hi (some n) (capOf n c)).bind fun h => (optB lo (some 0) h).bind fun l => cut H 1 a c l h := aslice_sl un117 (by kernel_rfl) H a n c lo hi
theorem sz131 : szT Try.prog 131 = some 1 := by kernel_rfl
theorem ag131 : aggT Try.prog 131 = some false := by kernel_rfl
theorem ze131 : zeroT Try.prog 131 = some (.int .u64 0) := by kernel_rfl
theorem inf131 : ∃ i, Try.prog.info? 131 = some i ∧ i.zero = some (.int .u64 0) ∧ i.size = 1 ∧ i.bytes = 8 := by
  have h : (Try.prog.info? 131).map (fun i => (i.zero, i.size, i.bytes)) = some (some (.int .u64 0), 1, 8) := by kernel_rfl
  obtain ⟨i, h1, h2⟩ := Option.map_eq_some_iff.1 h
  simp only [Prod.mk.injEq] at h2
  exact ⟨i, h1, h2.1, h2.2.1, h2.2.2⟩
theorem st131 (H : AHeap) (id off : Nat) (x : Value) : astoreT Try.prog H 131 (.pointer (some ⟨id, off, none⟩)) x = if x.cells.size = 1 ∧ x.cells.toList.all oneCell = true then ((H[id]?).bind (rowStore off x.cells.toList)).map fun o => H.set id o else none := astore_rule sz131 H id off x
theorem kd131 : kindT Try.prog 131 = .int .u64 := by kernel_rfl
theorem sz135 : szT Try.prog 135 = some 1 := by kernel_rfl
theorem ag135 : aggT Try.prog 135 = some false := by kernel_rfl
theorem ze135 : zeroT Try.prog 135 = some (.pointer none) := by kernel_rfl
theorem inf135 : ∃ i, Try.prog.info? 135 = some i ∧ i.zero = some (.pointer none) ∧ i.size = 1 ∧ i.bytes = 8 := by
  have h : (Try.prog.info? 135).map (fun i => (i.zero, i.size, i.bytes)) = some (some (.pointer none), 1, 8) := by kernel_rfl
  obtain ⟨i, h1, h2⟩ := Option.map_eq_some_iff.1 h
  simp only [Prod.mk.injEq] at h2
  exact ⟨i, h1, h2.1, h2.2.1, h2.2.2⟩
theorem st135 (H : AHeap) (id off : Nat) (x : Value) : astoreT Try.prog H 135 (.pointer (some ⟨id, off, none⟩)) x = if x.cells.size = 1 ∧ x.cells.toList.all oneCell = true then ((H[id]?).bind (rowStore off x.cells.toList)).map fun o => H.set id o else none := astore_rule sz135 H id off x
theorem en135 (H : AHeap) (xo yo : Operand) (a : Option Addr) : abin Try.prog H .eql 135 xo yo (.pointer a) (.pointer none) = some (.bool a.isNone) := abin_eq_ptrnil (e := 3) (by kernel_rfl) H xo yo a
theorem nn135 (H : AHeap) (xo yo : Operand) (a : Option Addr) : abin Try.prog H .neq 135 xo yo (.pointer a) (.pointer none) = some (.bool !a.isNone) := abin_ne_ptrnil (e := 3) (by kernel_rfl) H xo yo a
theorem sz141 : szT Try.prog 141 = some 1 := by kernel_rfl
theorem ag141 : aggT Try.prog 141 = some false := by kernel_rfl
theorem ze141 : zeroT Try.prog 141 = some (.pointer none) := by kernel_rfl
theorem inf141 : ∃ i, Try.prog.info? 141 = some i ∧ i.zero = some (.pointer none) ∧ i.size = 1 ∧ i.bytes = 8 := by
  have h : (Try.prog.info? 141).map (fun i => (i.zero, i.size, i.bytes)) = some (some (.pointer none), 1, 8) := by kernel_rfl
  obtain ⟨i, h1, h2⟩ := Option.map_eq_some_iff.1 h
  simp only [Prod.mk.injEq] at h2
  exact ⟨i, h1, h2.1, h2.2.1, h2.2.2⟩
theorem st141 (H : AHeap) (id off : Nat) (x : Value) : astoreT Try.prog H 141 (.pointer (some ⟨id, off, none⟩)) x = if x.cells.size = 1 ∧ x.cells.toList.all oneCell = true then ((H[id]?).bind (rowStore off x.cells.toList)).map fun o => H.set id o else none := astore_rule sz141 H id off x
theorem en141 (H : AHeap) (xo yo : Operand) (a : Option Addr) : abin Try.prog H .eql 141 xo yo (.pointer a) (.pointer none) = some (.bool a.isNone) := abin_eq_ptrnil (e := 131) (by kernel_rfl) H xo yo a
theorem nn141 (H : AHeap) (xo yo : Operand) (a : Option Addr) : abin Try.prog H .neq 141 xo yo (.pointer a) (.pointer none) = some (.bool !a.isNone) := abin_ne_ptrnil (e := 131) (by kernel_rfl) H xo yo a
theorem sz147 : szT Try.prog 147 = some 4 := by kernel_rfl
theorem ag147 : aggT Try.prog 147 = some true := by kernel_rfl
theorem ze147 : zeroT Try.prog 147 = some (.agg #[.pointer none, .pointer none, .pointer none, .string ByteArray.empty]) := by kernel_rfl
theorem pz147 : plainV 100 (.agg #[.pointer none, .pointer none, .pointer none, .string ByteArray.empty]) = true := by kernel_rfl
theorem inf147 : ∃ i, Try.prog.info? 147 = some i ∧ i.zero = some (.agg #[.pointer none, .pointer none, .pointer none, .string ByteArray.empty]) ∧ i.size = 4 ∧ i.bytes = 40 := by
  have h : (Try.prog.info? 147).map (fun i => (i.zero, i.size, i.bytes)) = some (some (.agg #[.pointer none, .pointer none, .pointer none, .string ByteArray.empty]), 4, 40) := by kernel_rfl
  obtain ⟨i, h1, h2⟩ := Option.map_eq_some_iff.1 h
  simp only [Prod.mk.injEq] at h2
  exact ⟨i, h1, h2.1, h2.2.1, h2.2.2⟩
theorem st147 (H : AHeap) (id off : Nat) (x : Value) : astoreT Try.prog H 147 (.pointer (some ⟨id, off, none⟩)) x = if x.cells.size = 4 ∧ x.cells.toList.all oneCell = true then ((H[id]?).bind (rowStore off x.cells.toList)).map fun o => H.set id o else none := astore_rule sz147 H id off x
theorem fa147_0 (id off : Nat) : afieldAddr Try.prog 147 (.pointer (some ⟨id, off, none⟩)) 0 = some (.pointer (some ⟨id, off + 0, none⟩)) := afieldAddr_at (n := 0) (f := (fieldT Try.prog 147 0).getD default) (by kernel_rfl) (by kernel_rfl) (by kernel_rfl) id off
theorem fl147_0 (cs : List Value) : afield Try.prog 147 (.agg cs.toArray) 0 = cs[0]? := afield_one (f := (fieldT Try.prog 147 0).getD default) (by kernel_rfl) (by kernel_rfl) (by kernel_rfl) cs
theorem fa147_1 (id off : Nat) : afieldAddr Try.prog 147 (.pointer (some ⟨id, off, none⟩)) 1 = some (.pointer (some ⟨id, off + 1, none⟩)) := afieldAddr_at (n := 0) (f := (fieldT Try.prog 147 1).getD default) (by kernel_rfl) (by kernel_rfl) (by kernel_rfl) id off
theorem fl147_1 (cs : List Value) : afield Try.prog 147 (.agg cs.toArray) 1 = cs[1]? := afield_one (f := (fieldT Try.prog 147 1).getD default) (by kernel_rfl) (by kernel_rfl) (by kernel_rfl) cs
theorem fa147_2 (id off : Nat) : afieldAddr Try.prog 147 (.pointer (some ⟨id, off, none⟩)) 2 = some (.pointer (some ⟨id, off + 2, none⟩)) := afieldAddr_at (n := 0) (f := (fieldT Try.prog 147 2).getD default) (by kernel_rfl) (by kernel_rfl) (by kernel_rfl) id off
theorem fl147_2 (cs : List Value) : afield Try.prog 147 (.agg cs.toArray) 2 = cs[2]? := afield_one (f := (fieldT Try.prog 147 2).getD default) (by kernel_rfl) (by kernel_rfl) (by kernel_rfl) cs
theorem fa147_3 (id off : Nat) : afieldAddr Try.prog 147 (.pointer (some ⟨id, off, none⟩)) 3 = some (.pointer (some ⟨id, off + 3, none⟩)) := afieldAddr_at (n := 0) (f := (fieldT Try.prog 147 3).getD default) (by kernel_rfl) (by kernel_rfl) (by kernel_rfl) id off
theorem fl147_3 (cs : List Value) : afield Try.prog 147 (.agg cs.toArray) 3 = cs[3]? := afield_one (f := (fieldT Try.prog 147 3).getD default) (by kernel_rfl) (by kernel_rfl) (by kernel_rfl) cs
theorem sz148 : szT Try.prog 148 = some 4 := by kernel_rfl
theorem ag148 : aggT Try.prog 148 = some true := by kernel_rfl
theorem ze148 : zeroT Try.prog 148 = some (.agg #[.pointer none, .pointer none, .pointer none, .string ByteArray.empty]) := by kernel_rfl
theorem inf148 : ∃ i, Try.prog.info? 148 = some i ∧ i.zero = some (.agg #[.pointer none, .pointer none, .pointer none, .string ByteArray.empty]) ∧ i.size = 4 ∧ i.bytes = 40 := by
  have h : (Try.prog.info? 148).map (fun i => (i.zero, i.size, i.bytes)) = some (some (.agg #[.pointer none, .pointer none, .pointer none, .string ByteArray.empty]), 4, 40) := by kernel_rfl
  obtain ⟨i, h1, h2⟩ := Option.map_eq_some_iff.1 h
  simp only [Prod.mk.injEq] at h2
  exact ⟨i, h1, h2.1, h2.2.1, h2.2.2⟩
theorem st148 (H : AHeap) (id off : Nat) (x : Value) : astoreT Try.prog H 148 (.pointer (some ⟨id, off, none⟩)) x = if x.cells.size = 4 ∧ x.cells.toList.all oneCell = true then ((H[id]?).bind (rowStore off x.cells.toList)).map fun o => H.set id o else none := astore_rule sz148 H id off x
theorem fa148_0 (id off : Nat) : afieldAddr Try.prog 148 (.pointer (some ⟨id, off, none⟩)) 0 = some (.pointer (some ⟨id, off + 0, none⟩)) := afieldAddr_at (n := 0) (f := (fieldT Try.prog 148 0).getD default) (by kernel_rfl) (by kernel_rfl) (by kernel_rfl) id off
theorem fl148_0 (cs : List Value) : afield Try.prog 148 (.agg cs.toArray) 0 = cs[0]? := afield_one (f := (fieldT Try.prog 148 0).getD default) (by kernel_rfl) (by kernel_rfl) (by kernel_rfl) cs
theorem fa148_1 (id off : Nat) : afieldAddr Try.prog 148 (.pointer (some ⟨id, off, none⟩)) 1 = some (.pointer (some ⟨id, off + 1, none⟩)) := afieldAddr_at (n := 0) (f := (fieldT Try.prog 148 1).getD default) (by kernel_rfl) (by kernel_rfl) (by kernel_rfl) id off
theorem fl148_1 (cs : List Value) : afield Try.prog 148 (.agg cs.toArray) 1 = cs[1]? := afield_one (f := (fieldT Try.prog 148 1).getD default) (by kernel_rfl) (by kernel_rfl) (by kernel_rfl) cs
theorem fa148_2 (id off : Nat) : afieldAddr Try.prog 148 (.pointer (some ⟨id, off, none⟩)) 2 = some (.pointer (some ⟨id, off + 2, none⟩)) := afieldAddr_at (n := 0) (f := (fieldT Try.prog 148 2).getD default) (by kernel_rfl) (by kernel_rfl) (by kernel_rfl) id off
theorem fl148_2 (cs : List Value) : afield Try.prog 148 (.agg cs.toArray) 2 = cs[2]? := afield_one (f := (fieldT Try.prog 148 2).getD default) (by kernel_rfl) (by kernel_rfl) (by kernel_rfl) cs
theorem fa148_3 (id off : Nat) : afieldAddr Try.prog 148 (.pointer (some ⟨id, off, none⟩)) 3 = some (.pointer (some ⟨id, off + 3, none⟩)) := afieldAddr_at (n := 0) (f := (fieldT Try.prog 148 3).getD default) (by kernel_rfl) (by kernel_rfl) (by kernel_rfl) id off
theorem fl148_3 (cs : List Value) : afield Try.prog 148 (.agg cs.toArray) 3 = cs[3]? := afield_one (f := (fieldT Try.prog 148 3).getD default) (by kernel_rfl) (by kernel_rfl) (by kernel_rfl) cs
theorem sz149 : szT Try.prog 149 = some 0 := by kernel_rfl
theorem ag149 : aggT Try.prog 149 = some true := by kernel_rfl
theorem ze149 : zeroT Try.prog 149 = some (.agg #[]) := by kernel_rfl
theorem pz149 : plainV 100 (.agg #[]) = true := by kernel_rfl
theorem inf149 : ∃ i, Try.prog.info? 149 = some i ∧ i.zero = some (.agg #[]) ∧ i.size = 0 ∧ i.bytes = 0 := by
  have h : (Try.prog.info? 149).map (fun i => (i.zero, i.size, i.bytes)) = some (some (.agg #[]), 0, 0) := by kernel_rfl
  obtain ⟨i, h1, h2⟩ := Option.map_eq_some_iff.1 h
  simp only [Prod.mk.injEq] at h2
  exact ⟨i, h1, h2.1, h2.2.1, h2.2.2⟩
theorem st149 (H : AHeap) (id off : Nat) (x : Value) : astoreT Try.prog H 149 (.pointer (some ⟨id, off, none⟩)) x = if x.cells.size = 0 ∧ x.cells.toList.all oneCell = true then ((H[id]?).bind (rowStore off x.cells.toList)).map fun o => H.set id o else none := astore_rule sz149 H id off x
theorem sz150 : szT Try.prog 150 = some 0 := by kernel_rfl
theorem ag150 : aggT Try.prog 150 = some true := by kernel_rfl
theorem ze150 : zeroT Try.prog 150 = some (.agg #[]) := by kernel_rfl
theorem inf150 : ∃ i, Try.prog.info? 150 = some i ∧ i.zero = some (.agg #[]) ∧ i.size = 0 ∧ i.bytes = 0 := by
  have h : (Try.prog.info? 150).map (fun i => (i.zero, i.size, i.bytes)) = some (some (.agg #[]), 0, 0) := by kernel_rfl
  obtain ⟨i, h1, h2⟩ := Option.map_eq_some_iff.1 h
  simp only [Prod.mk.injEq] at h2
  exact ⟨i, h1, h2.1, h2.2.1, h2.2.2⟩
theorem st150 (H : AHeap) (id off : Nat) (x : Value) : astoreT Try.prog H 150 (.pointer (some ⟨id, off, none⟩)) x = if x.cells.size = 0 ∧ x.cells.toList.all oneCell = true then ((H[id]?).bind (rowStore off x.cells.toList)).map fun o => H.set id o else none := astore_rule sz150 H id off x
theorem sz151 : szT Try.prog 151 = some 0 := by kernel_rfl
theorem ag151 : aggT Try.prog 151 = some true := by kernel_rfl
theorem ze151 : zeroT Try.prog 151 = some (.agg #[]) := by kernel_rfl
theorem inf151 : ∃ i, Try.prog.info? 151 = some i ∧ i.zero = some (.agg #[]) ∧ i.size = 0 ∧ i.bytes = 0 := by
  have h : (Try.prog.info? 151).map (fun i => (i.zero, i.size, i.bytes)) = some (some (.agg #[]), 0, 0) := by kernel_rfl
  obtain ⟨i, h1, h2⟩ := Option.map_eq_some_iff.1 h
  simp only [Prod.mk.injEq] at h2
  exact ⟨i, h1, h2.1, h2.2.1, h2.2.2⟩
theorem st151 (H : AHeap) (id off : Nat) (x : Value) : astoreT Try.prog H 151 (.pointer (some ⟨id, off, none⟩)) x = if x.cells.size = 0 ∧ x.cells.toList.all oneCell = true then ((H[id]?).bind (rowStore off x.cells.toList)).map fun o => H.set id o else none := astore_rule sz151 H id off x
theorem sz153 : szT Try.prog 153 = some 1 := by kernel_rfl
theorem ag153 : aggT Try.prog 153 = some false := by kernel_rfl
theorem ze153 : zeroT Try.prog 153 = some (.int .u8 0) := by kernel_rfl
theorem inf153 : ∃ i, Try.prog.info? 153 = some i ∧ i.zero = some (.int .u8 0) ∧ i.size = 1 ∧ i.bytes = 1 := by
  have h : (Try.prog.info? 153).map (fun i => (i.zero, i.size, i.bytes)) = some (some (.int .u8 0), 1, 1) := by kernel_rfl
  obtain ⟨i, h1, h2⟩ := Option.map_eq_some_iff.1 h
  simp only [Prod.mk.injEq] at h2
  exact ⟨i, h1, h2.1, h2.2.1, h2.2.2⟩
theorem st153 (H : AHeap) (id off : Nat) (x : Value) : astoreT Try.prog H 153 (.pointer (some ⟨id, off, none⟩)) x = if x.cells.size = 1 ∧ x.cells.toList.all oneCell = true then ((H[id]?).bind (rowStore off x.cells.toList)).map fun o => H.set id o else none := astore_rule sz153 H id off x
theorem kd153 : kindT Try.prog 153 = .int .u8 := by kernel_rfl
theorem sz154 : szT Try.prog 154 = some 1 := by kernel_rfl
theorem ag154 : aggT Try.prog 154 = some false := by kernel_rfl
theorem ze154 : zeroT Try.prog 154 = some (.int .u8 0) := by kernel_rfl
theorem inf154 : ∃ i, Try.prog.info? 154 = some i ∧ i.zero = some (.int .u8 0) ∧ i.size = 1 ∧ i.bytes = 1 := by
  have h : (Try.prog.info? 154).map (fun i => (i.zero, i.size, i.bytes)) = some (some (.int .u8 0), 1, 1) := by kernel_rfl
  obtain ⟨i, h1, h2⟩ := Option.map_eq_some_iff.1 h
  simp only [Prod.mk.injEq] at h2
  exact ⟨i, h1, h2.1, h2.2.1, h2.2.2⟩
theorem st154 (H : AHeap) (id off : Nat) (x : Value) : astoreT Try.prog H 154 (.pointer (some ⟨id, off, none⟩)) x = if x.cells.size = 1 ∧ x.cells.toList.all oneCell = true then ((H[id]?).bind (rowStore off x.cells.toList)).map fun o => H.set id o else none := astore_rule sz154 H id off x
theorem kd154 : kindT Try.prog 154 = .int .u8 := by kernel_rfl
theorem sz156 : szT Try.prog 156 = some 1 := by kernel_rfl
theorem ag156 : aggT Try.prog 156 = some false := by kernel_rfl
theorem ze156 : zeroT Try.prog 156 = some (.pointer none) := by kernel_rfl
theorem inf156 : ∃ i, Try.prog.info? 156 = some i ∧ i.zero = some (.pointer none) ∧ i.size = 1 ∧ i.bytes = 8 := by
  have h : (Try.prog.info? 156).map (fun i => (i.zero, i.size, i.bytes)) = some (some (.pointer none), 1, 8) := by kernel_rfl
  obtain ⟨i, h1, h2⟩ := Option.map_eq_some_iff.1 h
  simp only [Prod.mk.injEq] at h2
  exact ⟨i, h1, h2.1, h2.2.1, h2.2.2⟩
theorem st156 (H : AHeap) (id off : Nat) (x : Value) : astoreT Try.prog H 156 (.pointer (some ⟨id, off, none⟩)) x = if x.cells.size = 1 ∧ x.cells.toList.all oneCell = true then ((H[id]?).bind (rowStore off x.cells.toList)).map fun o => H.set id o else none := astore_rule sz156 H id off x
theorem en156 (H : AHeap) (xo yo : Operand) (a : Option Addr) : abin Try.prog H .eql 156 xo yo (.pointer a) (.pointer none) = some (.bool a.isNone) := abin_eq_ptrnil (e := 5) (by kernel_rfl) H xo yo a
theorem nn156 (H : AHeap) (xo yo : Operand) (a : Option Addr) : abin Try.prog H .neq 156 xo yo (.pointer a) (.pointer none) = some (.bool !a.isNone) := abin_ne_ptrnil (e := 5) (by kernel_rfl) H xo yo a
theorem sz157 : szT Try.prog 157 = some 1 := by kernel_rfl
theorem ag157 : aggT Try.prog 157 = some false := by kernel_rfl
theorem ze157 : zeroT Try.prog 157 = some (.int .i32 0) := by kernel_rfl
theorem inf157 : ∃ i, Try.prog.info? 157 = some i ∧ i.zero = some (.int .i32 0) ∧ i.size = 1 ∧ i.bytes = 4 := by
  have h : (Try.prog.info? 157).map (fun i => (i.zero, i.size, i.bytes)) = some (some (.int .i32 0), 1, 4) := by kernel_rfl
  obtain ⟨i, h1, h2⟩ := Option.map_eq_some_iff.1 h
  simp only [Prod.mk.injEq] at h2
  exact ⟨i, h1, h2.1, h2.2.1, h2.2.2⟩
theorem st157 (H : AHeap) (id off : Nat) (x : Value) : astoreT Try.prog H 157 (.pointer (some ⟨id, off, none⟩)) x = if x.cells.size = 1 ∧ x.cells.toList.all oneCell = true then ((H[id]?).bind (rowStore off x.cells.toList)).map fun o => H.set id o else none := astore_rule sz157 H id off x
theorem kd157 : kindT Try.prog 157 = .int .i32 := by kernel_rfl
theorem sz158 : szT Try.prog 158 = some 1 := by kernel_rfl
theorem ag158 : aggT Try.prog 158 = some false := by kernel_rfl
theorem ze158 : zeroT Try.prog 158 = some (.int .i32 0) := by kernel_rfl
theorem inf158 : ∃ i, Try.prog.info? 158 = some i ∧ i.zero = some (.int .i32 0) ∧ i.size = 1 ∧ i.bytes = 4 := by
  have h : (Try.prog.info? 158).map (fun i => (i.zero, i.size, i.bytes)) = some (some (.int .i32 0), 1, 4) := by kernel_rfl
  obtain ⟨i, h1, h2⟩ := Option.map_eq_some_iff.1 h
  simp only [Prod.mk.injEq] at h2
  exact ⟨i, h1, h2.1, h2.2.1, h2.2.2⟩
theorem st158 (H : AHeap) (id off : Nat) (x : Value) : astoreT Try.prog H 158 (.pointer (some ⟨id, off, none⟩)) x = if x.cells.size = 1 ∧ x.cells.toList.all oneCell = true then ((H[id]?).bind (rowStore off x.cells.toList)).map fun o => H.set id o else none := astore_rule sz158 H id off x
theorem kd158 : kindT Try.prog 158 = .int .i32 := by kernel_rfl
theorem sz159 : szT Try.prog 159 = some 11 := by kernel_rfl
theorem ag159 : aggT Try.prog 159 = some true := by kernel_rfl
theorem ze159 : zeroT Try.prog 159 = some (.agg #[.int .u64 0, .int .u64 0, .int .u32 0, .int .u8 0, .int .u8 0, .int .u8 0, .int .u8 0, .nilFunc, .pointer none, .int .i32 0, .int .i32 0]) := by kernel_rfl
theorem pz159 : plainV 100 (.agg #[.int .u64 0, .int .u64 0, .int .u32 0, .int .u8 0, .int .u8 0, .int .u8 0, .int .u8 0, .nilFunc, .pointer none, .int .i32 0, .int .i32 0]) = true := by kernel_rfl
theorem inf159 : ∃ i, Try.prog.info? 159 = some i ∧ i.zero = some (.agg #[.int .u64 0, .int .u64 0, .int .u32 0, .int .u8 0, .int .u8 0, .int .u8 0, .int .u8 0, .nilFunc, .pointer none, .int .i32 0, .int .i32 0]) ∧ i.size = 11 ∧ i.bytes = 48 := by
  have h : (Try.prog.info? 159).map (fun i => (i.zero, i.size, i.bytes)) = some (some (.agg #[.int .u64 0, .int .u64 0, .int .u32 0, .int .u8 0, .int .u8 0, .int .u8 0, .int .u8 0, .nilFunc, .pointer none, .int .i32 0, .int .i32 0]), 11, 48) := by kernel_rfl
  obtain ⟨i, h1, h2⟩ := Option.map_eq_some_iff.1 h
  simp only [Prod.mk.injEq] at h2
  exact ⟨i, h1, h2.1, h2.2.1, h2.2.2⟩
theorem st159 (H : AHeap) (id off : Nat) (x : Value) : astoreT Try.prog H 159 (.pointer (some ⟨id, off, none⟩)) x = if x.cells.size = 11 ∧ x.cells.toList.all oneCell = true then ((H[id]?).bind (rowStore off x.cells.toList)).map fun o => H.set id o else none := astore_rule sz159 H id off x
theorem fa159_0 (id off : Nat) : afieldAddr Try.prog 159 (.pointer (some ⟨id, off, none⟩)) 0 = some (.pointer (some ⟨id, off + 0, none⟩)) := afieldAddr_at (n := 0) (f := (fieldT Try.prog 159 0).getD default) (by kernel_rfl) (by kernel_rfl) (by kernel_rfl) id off
theorem fl159_0 (cs : List Value) : afield Try.prog 159 (.agg cs.toArray) 0 = cs[0]? := afield_one (f := (fieldT Try.prog 159 0).getD default) (by kernel_rfl) (by kernel_rfl) (by kernel_rfl) cs
theorem fa159_1 (id off : Nat) : afieldAddr Try.prog 159 (.pointer (some ⟨id, off, none⟩)) 1 = some (.pointer (some ⟨id, off + 1, none⟩)) := afieldAddr_at (n := 0) (f := (fieldT Try.prog 159 1).getD default) (by kernel_rfl) (by kernel_rfl) (by kernel_rfl) id off
theorem fl159_1 (cs : List Value) : afield Try.prog 159 (.agg cs.toArray) 1 = cs[1]? := afield_one (f := (fieldT Try.prog 159 1).getD default) (by kernel_rfl) (by kernel_rfl) (by kernel_rfl) cs
theorem fa159_2 (id off : Nat) : afieldAddr Try.prog 159 (.pointer (some ⟨id, off, none⟩)) 2 = some (.pointer (some ⟨id, off + 2, none⟩)) := afieldAddr_at (n := 0) (f := (fieldT Try.prog 159 2).getD default) (by kernel_rfl) (by kernel_rfl) (by kernel_rfl) id off
theorem fl159_2 (cs : List Value) : afield Try.prog 159 (.agg cs.toArray) 2 = cs[2]? := afield_one (f := (fieldT Try.prog 159 2).getD default) (by kernel_rfl) (by kernel_rfl) (by kernel_rfl) cs
theorem fa159_3 (id off : Nat) : afieldAddr Try.prog 159 (.pointer (some ⟨id, off, none⟩)) 3 = some (.pointer (some ⟨id, off + 3, none⟩)) := afieldAddr_at (n := 0) (f := (fieldT Try.prog 159 3).getD default) (by kernel_rfl) (by kernel_rfl) (by kernel_rfl) id off
theorem fl159_3 (cs : List Value) : afield Try.prog 159 (.agg cs.toArray) 3 = cs[3]? := afield_one (f := (fieldT Try.prog 159 3).getD default) (by kernel_rfl) (by kernel_rfl) (by kernel_rfl) cs
theorem fa159_4 (id off : Nat) : afieldAddr Try.prog 159 (.pointer (some ⟨id, off, none⟩)) 4 = some (.pointer (some ⟨id, off + 4, none⟩)) := afieldAddr_at (n := 0) (f := (fieldT Try.prog 159 4).getD default) (by kernel_rfl) (by kernel_rfl) (by kernel_rfl) id off
theorem fl159_4 (cs : List Value) : afield Try.prog 159 (.agg cs.toArray) 4 = cs[4]? := afield_one (f := (fieldT Try.prog 159 4).getD default) (by kernel_rfl) (by kernel_rfl) (by kernel_rfl) cs
theorem fa159_5 (id off : Nat) : afieldAddr Try.prog 159 (.pointer (some ⟨id, off, none⟩)) 5 = some (.pointer (some ⟨id, off + 5, none⟩)) := afieldAddr_at (n := 0) (f := (fieldT Try.prog 159 5).getD default) (by kernel_rfl) (by kernel_rfl) (by kernel_rfl) id off
theorem fl159_5 (cs : List Value) : afield Try.prog 159 (.agg cs.toArray) 5 = cs[5]? := afield_one (f := (fieldT Try.prog 159 5).getD default) (by kernel_rfl) (by kernel_rfl) (by kernel_rfl) cs
theorem fa159_6 (id off : Nat) : afieldAddr Try.prog 159 (.pointer (some ⟨id, off, none⟩)) 6 = some (.pointer (some ⟨id, off + 6, none⟩)) := afieldAddr_at (n := 0) (f := (fieldT Try.prog 159 6).getD default) (by kernel_rfl) (by kernel_rfl) (by kernel_rfl) id off
theorem fl159_6 (cs : List Value) : afield Try.prog 159 (.agg cs.toArray) 6 = cs[6]? := afield_one (f := (fieldT Try.prog 159 6).getD default) (by kernel_rfl) (by kernel_rfl) (by kernel_rfl) cs
theorem fa159_7 (id off : Nat) : afieldAddr Try.prog 159 (.pointer (some ⟨id, off, none⟩)) 7 = some (.pointer (some ⟨id, off + 7, none⟩)) := afieldAddr_at (n := 0) (f := (fieldT Try.prog 159 7).getD default) (by kernel_rfl) (by kernel_rfl) (by kernel_rfl) id off
theorem fl159_7 (cs : List Value) : afield Try.prog 159 (.agg cs.toArray) 7 = cs[7]? := afield_one (f := (fieldT Try.prog 159 7).getD default) (by kernel_rfl) (by kernel_rfl) (by kernel_rfl) cs
theorem fa159_8 (id off : Nat) : afieldAddr Try.prog 159 (.pointer (some ⟨id, off, none⟩)) 8 = some (.pointer (some ⟨id, off + 8, none⟩)) := afieldAddr_at (n := 0) (f := (fieldT Try.prog 159 8).getD default) (by kernel_rfl) (by kernel_rfl) (by kernel_rfl) id off
theorem fl159_8 (cs : List Value) : afield Try.prog 159 (.agg cs.toArray) 8 = cs[8]? := afield_one (f := (fieldT Try.prog 159 8).getD default) (by kernel_rfl) (by kernel_rfl) (by kernel_rfl) cs
theorem fa159_9 (id off : Nat) : afieldAddr Try.prog 159 (.pointer (some ⟨id, off, none⟩)) 9 = some (.pointer (some ⟨id, off + 9, none⟩)) := afieldAddr_at (n := 0) (f := (fieldT Try.prog 159 9).getD default) (by kernel_rfl) (by kernel_rfl) (by kernel_rfl) id off
theorem fl159_9 (cs : List Value) : afield Try.prog 159 (.agg cs.toArray) 9 = cs[9]? := afield_one (f := (fieldT Try.prog 159 9).getD default) (by kernel_rfl) (by kernel_rfl) (by kernel_rfl) cs
theorem fa159_10 (id off : Nat) : afieldAddr Try.prog 159 (.pointer (some ⟨id, off, none⟩)) 10 = some (.pointer (some ⟨id, off + 10, none⟩)) := afieldAddr_at (n := 0) (f := (fieldT Try.prog 159 10).getD default) (by kernel_rfl) (by kernel_rfl) (by kernel_rfl) id off
theorem fl159_10 (cs : List Value) : afield Try.prog 159 (.agg cs.toArray) 10 = cs[10]? := afield_one (f := (fieldT Try.prog 159 10).getD default) (by kernel_rfl) (by kernel_rfl) (by kernel_rfl) cs
theorem sz160 : szT Try.prog 160 = some 11 := by kernel_rfl
theorem ag160 : aggT Try.prog 160 = some true := by kernel_rfl
theorem ze160 : zeroT Try.prog 160 = some (.agg #[.int .u64 0, .int .u64 0, .int .u32 0, .int .u8 0, .int .u8 0, .int .u8 0, .int .u8 0, .nilFunc, .pointer none, .int .i32 0, .int .i32 0]) := by kernel_rfl
theorem inf160 : ∃ i, Try.prog.info? 160 = some i ∧ i.zero = some (.agg #[.int .u64 0, .int .u64 0, .int .u32 0, .int .u8 0, .int .u8 0, .int .u8 0, .int .u8 0, .nilFunc, .pointer none, .int .i32 0, .int .i32 0]) ∧ i.size = 11 ∧ i.bytes = 48 := by
  have h : (Try.prog.info? 160).map (fun i => (i.zero, i.size, i.bytes)) = some (some (.agg #[.int .u64 0, .int .u64 0, .int .u32 0, .int .u8 0, .int .u8 0, .int .u8 0, .int .u8 0, .nilFunc, .pointer none, .int .i32 0, .int .i32 0]), 11, 48) := by kernel_rfl
  obtain ⟨i, h1, h2⟩ := Option.map_eq_some_iff.1 h
  simp only [Prod.mk.injEq] at h2
  exact ⟨i, h1, h2.1, h2.2.1, h2.2.2⟩
theorem st160 (H : AHeap) (id off : Nat) (x : Value) : astoreT Try.prog H 160 (.pointer (some ⟨id, off, none⟩)) x = if x.cells.size = 11 ∧ x.cells.toList.all oneCell = true then ((H[id]?).bind (rowStore off x.cells.toList)).map fun o => H.set id o else none := astore_rule sz160 H id off x
theorem fa160_0 (id off : Nat) : afieldAddr Try.prog 160 (.pointer (some ⟨id, off, none⟩)) 0 = some (.pointer (some ⟨id, off + 0, none⟩)) := afieldAddr_at (n := 0) (f := (fieldT Try.prog 160 0).getD default) (by kernel_rfl) (by kernel_rfl) (by kernel_rfl) id off
theorem fl160_0 (cs : List Value) : afield Try.prog 160 (.agg cs.toArray) 0 = cs[0]? := afield_one (f := (fieldT Try.prog 160 0).getD default) (by kernel_rfl) (by kernel_rfl) (by kernel_rfl) cs
theorem fa160_1 (id off : Nat) : afieldAddr Try.prog 160 (.pointer (some ⟨id, off, none⟩)) 1 = some (.pointer (some ⟨id, off + 1, none⟩)) := afieldAddr_at (n := 0) (f := (fieldT Try.prog 160 1).getD default) (by kernel_rfl) (by kernel_rfl) (by kernel_rfl) id off
theorem fl160_1 (cs : List Value) : afield Try.prog 160 (.agg cs.toArray) 1 = cs[1]? := afield_one (f := (fieldT Try.prog 160 1).getD default) (by kernel_rfl) (by kernel_rfl) (by kernel_rfl) cs
theorem fa160_2 (id off : Nat) : afieldAddr Try.prog 160 (.pointer (some ⟨id, off, none⟩)) 2 = some (.pointer (some ⟨id, off + 2, none⟩)) := afieldAddr_at (n := 0) (f := (fieldT Try.prog 160 2).getD default) (by kernel_rfl) (by kernel_rfl) (by kernel_rfl) id off
theorem fl160_2 (cs : List Value) : afield Try.prog 160 (.agg cs.toArray) 2 = cs[2]? := afield_one (f := (fieldT Try.prog 160 2).getD default) (by kernel_rfl) (by kernel_rfl) (by kernel_rfl) cs
theorem fa160_3 (id off : Nat) : afieldAddr Try.prog 160 (.pointer (some ⟨id, off, none⟩)) 3 = some (.pointer (some ⟨id, off + 3, none⟩)) := afieldAddr_at (n := 0) (f := (fieldT Try.prog 160 3).getD default) (by kernel_rfl) (by kernel_rfl) (by kernel_rfl) id off
theorem fl160_3 (cs : List Value) : afield Try.prog 160 (.agg cs.toArray) 3 = cs[3]? := afield_one (f := (fieldT Try.prog 160 3).getD default) (by kernel_rfl) (by kernel_rfl) (by kernel_rfl) cs
theorem fa160_4 (id off : Nat) : afieldAddr Try.prog 160 (.pointer (some ⟨id, off, none⟩)) 4 = some (.pointer (some ⟨id, off + 4, none⟩)) := afieldAddr_at (n := 0) (f := (fieldT Try.prog 160 4).getD default) (by kernel_rfl) (by kernel_rfl) (by kernel_rfl) id off
theorem fl160_4 (cs : List Value) : afield Try.prog 160 (.agg cs.toArray) 4 = cs[4]? := afield_one (f := (fieldT Try.prog 160 4).getD default) (by kernel_rfl) (by kernel_rfl) (by kernel_rfl) cs
theorem fa160_5 (id off : Nat) : afieldAddr Try.prog 160 (.pointer (some ⟨id, off, none⟩)) 5 = some (.pointer (some ⟨id, off + 5, none⟩)) := afieldAddr_at (n := 0) (f := (fieldT Try.prog 160 5).getD default) (by kernel_rfl) (by kernel_rfl) (by kernel_rfl) id off
theorem fl160_5 (cs : List Value) : afield Try.prog 160 (.agg cs.toArray) 5 = cs[5]? := afield_one (f := (fieldT Try.prog 160 5).getD default) (by kernel_rfl) (by kernel_rfl) (by kernel_rfl) cs
theorem fa160_6 (id off : Nat) : afieldAddr Try.prog 160 (.pointer (some ⟨id, off, none⟩)) 6 = some (.pointer (some ⟨id, off + 6, none⟩)) := afieldAddr_at (n := 0) (f := (fieldT Try.prog 160 6).getD default) (by kernel_rfl) (by kernel_rfl) (by kernel_rfl) id off
theorem fl160_6 (cs : List Value) : afield Try.prog 160 (.agg cs.toArray) 6 = cs[6]? := afield_one (f := (fieldT Try.prog 160 6).getD default) (by kernel_rfl) (by kernel_rfl) (by kernel_rfl) cs
theorem fa160_7 (id off : Nat) : afieldAddr Try.prog 160 (.pointer (some ⟨id, off, none⟩)) 7 = some (.pointer (some ⟨id, off + 7, none⟩)) := afieldAddr_at (n := 0) (f := (fieldT Try.prog 160 7).getD default) (by kernel_rfl) (by kernel_rfl) (by kernel_rfl) id off
theorem fl160_7 (cs : List Value) : afield Try.prog 160 (.agg cs.toArray) 7 = cs[7]? := afield_one (f := (fieldT Try.prog 160 7).getD default) (by kernel_rfl) (by kernel_rfl) (by kernel_rfl) cs
theorem fa160_8 (id off : Nat) : afieldAddr Try.prog 160 (.pointer (some ⟨id, off, none⟩)) 8 = some (.pointer (some ⟨id, off + 8, none⟩)) := afieldAddr_at (n := 0) (f := (fieldT Try.prog 160 8).getD default) (by kernel_rfl) (by kernel_rfl) (by kernel_rfl) id off
theorem fl160_8 (cs : List Value) : afield Try.prog 160 (.agg cs.toArray) 8 = cs[8]? := afield_one (f := (fieldT Try.prog 160 8).getD default) (by kernel_rfl) (by kernel_rfl) (by kernel_rfl) cs
theorem fa160_9 (id off : Nat) : afieldAddr Try.prog 160 (.pointer (some ⟨id, off, none⟩)) 9 = some (.pointer (some ⟨id, off + 9, none⟩)) := afieldAddr_at (n := 0) (f := (fieldT Try.prog 160 9).getD default) (by kernel_rfl) (by kernel_rfl) (by kernel_rfl) id off
theorem fl160_9 (cs : List Value) : afield Try.prog 160 (.agg cs.toArray) 9 = cs[9]? := afield_one (f := (fieldT Try.prog 160 9).getD default) (by kernel_rfl) (by kernel_rfl) (by kernel_rfl) cs
theorem fa160_10 (id off : Nat) : afieldAddr Try.prog 160 (.pointer (some ⟨id, off, none⟩)) 10 = some (.pointer (some ⟨id, off + 10, none⟩)) := afieldAddr_at (n := 0) (f := (fieldT Try.prog 160 10).getD default) (by kernel_rfl) (by kernel_rfl) (by kernel_rfl) id off
theorem fl160_10 (cs : List Value) : afield Try.prog 160 (.agg cs.toArray) 10 = cs[10]? := afield_one (f := (fieldT Try.prog 160 10).getD default) (by kernel_rfl) (by kernel_rfl) (by kernel_rfl) cs
theorem sz161 : szT Try.prog 161 = some 1 := by kernel_rfl
theorem ag161 : aggT Try.prog 161 = some false := by kernel_rfl
theorem ze161 : zeroT Try.prog 161 = some (.pointer none) := by kernel_rfl
theorem inf161 : ∃ i, Try.prog.info? 161 = some i ∧ i.zero = some (.pointer none) ∧ i.size = 1 ∧ i.bytes = 8 := by
  have h : (Try.prog.info? 161).map (fun i => (i.zero, i.size, i.bytes)) = some (some (.pointer none), 1, 8) := by kernel_rfl
  obtain ⟨i, h1, h2⟩ := Option.map_eq_some_iff.1 h
  simp only [Prod.mk.injEq] at h2
  exact ⟨i, h1, h2.1, h2.2.1, h2.2.2⟩
theorem st161 (H : AHeap) (id off : Nat) (x : Value) : astoreT Try.prog H 161 (.pointer (some ⟨id, off, none⟩)) x = if x.cells.size = 1 ∧ x.cells.toList.all oneCell = true then ((H[id]?).bind (rowStore off x.cells.toList)).map fun o => H.set id o else none := astore_rule sz161 H id off x
theorem bd7 (ps : List (Nat × Value)) : abuild Try.prog 7 ps = (fillF (fun i => [(0, 1), (1, 1), (2, 1), (3, 1)][i]?) [.int .i64 0, .int .i64 0, .bool false, .int .u8 0] ps).map fun cs => .agg cs.toArray := bd_eq ze7 (by kernel_rfl) Try.underlying7 (by kernel_rfl) ps
theorem bd8 (ps : List (Nat × Value)) : abuild Try.prog 8 ps = (fillF (fun i => [(0, 1), (1, 1), (2, 1), (3, 1)][i]?) [.int .i64 0, .int .i64 0, .bool false, .int .u8 0] ps).map fun cs => .agg cs.toArray := bd_eq ze8 (by kernel_rfl) Try.underlying8 (by kernel_rfl) ps
theorem bd13 (ps : List (Nat × Value)) : abuild Try.prog 13 ps = (fillF (fun i => [(0, 1), (1, 1)][i]?) [.string ByteArray.empty, .int .u64 0] ps).map fun cs => .agg cs.toArray := bd_eq ze13 (by kernel_rfl) Try.underlying13 (by kernel_rfl) ps
theorem bd14 (ps : List (Nat × Value)) : abuild Try.prog 14 ps = (fillF (fun i => [(0, 1), (1, 1)][i]?) [.string ByteArray.empty, .int .u64 0] ps).map fun cs => .agg cs.toArray := bd_eq ze14 (by kernel_rfl) Try.underlying14 (by kernel_rfl) ps
theorem bd18 (ps : List (Nat × Value)) : abuild Try.prog 18 ps = (fillF (fun i => [(0, 1)][i]?) [.pointer none] ps).map fun cs => .agg cs.toArray := bd_eq ze18 (by kernel_rfl) Try.underlying18 (by kernel_rfl) ps
theorem bd19 (ps : List (Nat × Value)) : abuild Try.prog 19 ps = (fillF (fun i => [(0, 1)][i]?) [.pointer none] ps).map fun cs => .agg cs.toArray := bd_eq ze19 (by kernel_rfl) Try.underlying19 (by kernel_rfl) ps
theorem bs22 {T : Tm} {d : Option Tmp} {ty : TypeId} {pos : String} {aft : Array Edge} {gd : Option (Nat × Bool)} (n : Nat) (ps : Array (Nat × Operand)) : aalloc Try.prog T ⟨d, .buildSlice 22 n ps, ty, pos, aft, gd⟩ = (bsRow [.int .i64 0, .int .i64 0, .int .i64 0, .int .i64 0, .int .i64 0] 5 n (ps.toList.map fun p => (p.1, aev T p.2))).map fun o => (o, fun id => .slice (some ⟨id, 0, none⟩) n n) := bs_eq el22 sz32 ze32 (by kernel_rfl) rfl (by decide) n ps
theorem bd23 (ps : List (Nat × Value)) : abuild Try.prog 23 ps = (fillF (fun i => [(0, 1), (1, 1)][i]?) [.int .i64 0, .int .i64 0] ps).map fun cs => .agg cs.toArray := bd_eq ze23 (by kernel_rfl) Try.underlying23 (by kernel_rfl) ps
theorem bd24 (ps : List (Nat × Value)) : abuild Try.prog 24 ps = (fillF (fun i => [(0, 1), (1, 1)][i]?) [.int .i64 0, .int .i64 0] ps).map fun cs => .agg cs.toArray := bd_eq ze24 (by kernel_rfl) Try.underlying24 (by kernel_rfl) ps
theorem bs29 {T : Tm} {d : Option Tmp} {ty : TypeId} {pos : String} {aft : Array Edge} {gd : Option (Nat × Bool)} (n : Nat) (ps : Array (Nat × Operand)) : aalloc Try.prog T ⟨d, .buildSlice 29 n ps, ty, pos, aft, gd⟩ = (bsRow [.int .i64 0, .int .i64 0, .int .i64 0, .int .i64 0, .int .i64 0, .int .i64 0, .int .i64 0] 7 n (ps.toList.map fun p => (p.1, aev T p.2))).map fun o => (o, fun id => .slice (some ⟨id, 0, none⟩) n n) := bs_eq el29 sz34 ze34 (by kernel_rfl) rfl (by decide) n ps
theorem bd31 (ps : List (Nat × Value)) : abuild Try.prog 31 ps = (fillF (fun i => [(0, 2), (2, 1), (3, 1), (4, 1)][i]?) [.int .i64 0, .int .i64 0, .int .i64 0, .int .i64 0, .int .i64 0] ps).map fun cs => .agg cs.toArray := bd_eq ze31 (by kernel_rfl) Try.underlying31 (by kernel_rfl) ps
theorem bd32 (ps : List (Nat × Value)) : abuild Try.prog 32 ps = (fillF (fun i => [(0, 2), (2, 1), (3, 1), (4, 1)][i]?) [.int .i64 0, .int .i64 0, .int .i64 0, .int .i64 0, .int .i64 0] ps).map fun cs => .agg cs.toArray := bd_eq ze32 (by kernel_rfl) Try.underlying32 (by kernel_rfl) ps
theorem bd33 (ps : List (Nat × Value)) : abuild Try.prog 33 ps = (fillF (fun i => [(0, 5), (5, 2)][i]?) [.int .i64 0, .int .i64 0, .int .i64 0, .int .i64 0, .int .i64 0, .int .i64 0, .int .i64 0] ps).map fun cs => .agg cs.toArray := bd_eq ze33 (by kernel_rfl) Try.underlying33 (by kernel_rfl) ps
theorem bd34 (ps : List (Nat × Value)) : abuild Try.prog 34 ps = (fillF (fun i => [(0, 5), (5, 2)][i]?) [.int .i64 0, .int .i64 0, .int .i64 0, .int .i64 0, .int .i64 0, .int .i64 0, .int .i64 0] ps).map fun cs => .agg cs.toArray := bd_eq ze34 (by kernel_rfl) Try.underlying34 (by kernel_rfl) ps
theorem bs44 {T : Tm} {d : Option Tmp} {ty : TypeId} {pos : String} {aft : Array Edge} {gd : Option (Nat × Bool)} (n : Nat) (ps : Array (Nat × Operand)) : aalloc Try.prog T ⟨d, .buildSlice 44 n ps, ty, pos, aft, gd⟩ = (bsRow [.int .i64 0, .int .i64 0, .int .i64 0, .int .i64 0, .int .i64 0, .int .i64 0, .int .i64 0, .int .i64 0] 8 n (ps.toList.map fun p => (p.1, aev T p.2))).map fun o => (o, fun id => .slice (some ⟨id, 0, none⟩) n n) := bs_eq el44 sz51 ze51 (by kernel_rfl) rfl (by decide) n ps
theorem bd47 (ps : List (Nat × Value)) : abuild Try.prog 47 ps = (fillF (fun i => [(0, 1)][i]?) [.slice none 0 0] ps).map fun cs => .agg cs.toArray := bd_eq ze47 (by kernel_rfl) Try.underlying47 (by kernel_rfl) ps
theorem bd48 (ps : List (Nat × Value)) : abuild Try.prog 48 ps = (fillF (fun i => [(0, 1)][i]?) [.slice none 0 0] ps).map fun cs => .agg cs.toArray := bd_eq ze48 (by kernel_rfl) Try.underlying48 (by kernel_rfl) ps
theorem bd50 (ps : List (Nat × Value)) : abuild Try.prog 50 ps = (fillF (fun i => [(0, 1), (1, 5), (6, 2)][i]?) [.int .i64 0, .int .i64 0, .int .i64 0, .int .i64 0, .int .i64 0, .int .i64 0, .int .i64 0, .int .i64 0] ps).map fun cs => .agg cs.toArray := bd_eq ze50 (by kernel_rfl) Try.underlying50 (by kernel_rfl) ps
theorem bd51 (ps : List (Nat × Value)) : abuild Try.prog 51 ps = (fillF (fun i => [(0, 1), (1, 5), (6, 2)][i]?) [.int .i64 0, .int .i64 0, .int .i64 0, .int .i64 0, .int .i64 0, .int .i64 0, .int .i64 0, .int .i64 0] ps).map fun cs => .agg cs.toArray := bd_eq ze51 (by kernel_rfl) Try.underlying51 (by kernel_rfl) ps
theorem bs58 {T : Tm} {d : Option Tmp} {ty : TypeId} {pos : String} {aft : Array Edge} {gd : Option (Nat × Bool)} (n : Nat) (ps : Array (Nat × Operand)) : aalloc Try.prog T ⟨d, .buildSlice 58 n ps, ty, pos, aft, gd⟩ = (bsRow [.pointer none, .int .i64 0, .int .i64 0] 3 n (ps.toList.map fun p => (p.1, aev T p.2))).map fun o => (o, fun id => .slice (some ⟨id, 0, none⟩) n n) := bs_eq el58 sz62 ze62 (by kernel_rfl) rfl (by decide) n ps
theorem bd61 (ps : List (Nat × Value)) : abuild Try.prog 61 ps = (fillF (fun i => [(0, 1), (1, 2)][i]?) [.pointer none, .int .i64 0, .int .i64 0] ps).map fun cs => .agg cs.toArray := bd_eq ze61 (by kernel_rfl) Try.underlying61 (by kernel_rfl) ps
theorem bd62 (ps : List (Nat × Value)) : abuild Try.prog 62 ps = (fillF (fun i => [(0, 1), (1, 2)][i]?) [.pointer none, .int .i64 0, .int .i64 0] ps).map fun cs => .agg cs.toArray := bd_eq ze62 (by kernel_rfl) Try.underlying62 (by kernel_rfl) ps
theorem bd63 (ps : List (Nat × Value)) : abuild Try.prog 63 ps = (fillF (fun i => [(0, 2), (2, 1)][i]?) [.int .i64 0, .int .i64 0, .int .i64 0] ps).map fun cs => .agg cs.toArray := bd_eq ze63 (by kernel_rfl) Try.underlying63 (by kernel_rfl) ps
theorem bd64 (ps : List (Nat × Value)) : abuild Try.prog 64 ps = (fillF (fun i => [(0, 2), (2, 1)][i]?) [.int .i64 0, .int .i64 0, .int .i64 0] ps).map fun cs => .agg cs.toArray := bd_eq ze64 (by kernel_rfl) Try.underlying64 (by kernel_rfl) ps
theorem bd65 (ps : List (Nat × Value)) : abuild Try.prog 65 ps = (fillF (fun i => [(0, 3), (3, 1)][i]?) [.int .i64 0, .int .i64 0, .int .i64 0, .slice none 0 0] ps).map fun cs => .agg cs.toArray := bd_eq ze65 (by kernel_rfl) Try.underlying65 (by kernel_rfl) ps
theorem bd66 (ps : List (Nat × Value)) : abuild Try.prog 66 ps = (fillF (fun i => [(0, 3), (3, 1)][i]?) [.int .i64 0, .int .i64 0, .int .i64 0, .slice none 0 0] ps).map fun cs => .agg cs.toArray := bd_eq ze66 (by kernel_rfl) Try.underlying66 (by kernel_rfl) ps
theorem bd69 (ps : List (Nat × Value)) : abuild Try.prog 69 ps = (fillF (fun i => [(0, 1)][i]?) [.map none] ps).map fun cs => .agg cs.toArray := bd_eq ze69 (by kernel_rfl) Try.underlying69 (by kernel_rfl) ps
theorem bd70 (ps : List (Nat × Value)) : abuild Try.prog 70 ps = (fillF (fun i => [(0, 1)][i]?) [.map none] ps).map fun cs => .agg cs.toArray := bd_eq ze70 (by kernel_rfl) Try.underlying70 (by kernel_rfl) ps
theorem bs84 {T : Tm} {d : Option Tmp} {ty : TypeId} {pos : String} {aft : Array Edge} {gd : Option (Nat × Bool)} (n : Nat) (ps : Array (Nat × Operand)) : aalloc Try.prog T ⟨d, .buildSlice 84 n ps, ty, pos, aft, gd⟩ = (bsRow [.pointer none] 1 n (ps.toList.map fun p => (p.1, aev T p.2))).map fun o => (o, fun id => .slice (some ⟨id, 0, none⟩) n n) := bs_eq el84 sz60 ze60 (by kernel_rfl) rfl (by decide) n ps
theorem bs85 {T : Tm} {d : Option Tmp} {ty : TypeId} {pos : String} {aft : Array Edge} {gd : Option (Nat × Bool)} (n : Nat) (ps : Array (Nat × Operand)) : aalloc Try.prog T ⟨d, .buildSlice 85 n ps, ty, pos, aft, gd⟩ = (bsRow [.int .i64 0] 1 n (ps.toList.map fun p => (p.1, aev T p.2))).map fun o => (o, fun id => .slice (some ⟨id, 0, none⟩) n n) := bs_eq el85 sz2 ze2 (by kernel_rfl) rfl (by decide) n ps
theorem bs117 {T : Tm} {d : Option Tmp} {ty : TypeId} {pos : String} {aft : Array Edge} {gd : Option (Nat × Bool)} (n : Nat) (ps : Array (Nat × Operand)) : aalloc Try.prog T ⟨d, .buildSlice 117 n ps, ty, pos, aft, gd⟩ = (bsRow [.int .i64 0] 1 n (ps.toList.map fun p => (p.1, aev T p.2))).map fun o => (o, fun id => .slice (some ⟨id, 0, none⟩) n n) := bs_eq el117 sz3 ze3 (by kernel_rfl) rfl (by decide) n ps
theorem bd147 (ps : List (Nat × Value)) : abuild Try.prog 147 ps = (fillF (fun i => [(0, 1), (1, 1), (2, 1), (3, 1)][i]?) [.pointer none, .pointer none, .pointer none, .string ByteArray.empty] ps).map fun cs => .agg cs.toArray := bd_eq ze147 (by kernel_rfl) Try.underlying147 (by kernel_rfl) ps
theorem bd148 (ps : List (Nat × Value)) : abuild Try.prog 148 ps = (fillF (fun i => [(0, 1), (1, 1), (2, 1), (3, 1)][i]?) [.pointer none, .pointer none, .pointer none, .string ByteArray.empty] ps).map fun cs => .agg cs.toArray := bd_eq ze148 (by kernel_rfl) Try.underlying148 (by kernel_rfl) ps
theorem bd159 (ps : List (Nat × Value)) : abuild Try.prog 159 ps = (fillF (fun i => [(0, 1), (1, 1), (2, 1), (3, 1), (4, 1), (5, 1), (6, 1), (7, 1), (8, 1), (9, 1), (10, 1)][i]?) [.int .u64 0, .int .u64 0, .int .u32 0, .int .u8 0, .int .u8 0, .int .u8 0, .int .u8 0, .nilFunc, .pointer none, .int .i32 0, .int .i32 0] ps).map fun cs => .agg cs.toArray := bd_eq ze159 (by kernel_rfl) Try.underlying159 (by kernel_rfl) ps
theorem bd160 (ps : List (Nat × Value)) : abuild Try.prog 160 ps = (fillF (fun i => [(0, 1), (1, 1), (2, 1), (3, 1), (4, 1), (5, 1), (6, 1), (7, 1), (8, 1), (9, 1), (10, 1)][i]?) [.int .u64 0, .int .u64 0, .int .u32 0, .int .u8 0, .int .u8 0, .int .u8 0, .int .u8 0, .nilFunc, .pointer none, .int .i32 0, .int .i32 0] ps).map fun cs => .agg cs.toArray := bd_eq ze160 (by kernel_rfl) Try.underlying160 (by kernel_rfl) ps
theorem eq2 (H : AHeap) (d : Nat) (x y : Int) : aeq Try.prog H (d + 1) 2 (.int .i64 x) (.int .i64 y) = some (x == y) := aeq_int (by kernel_rfl) H d x y
theorem ck2 (d : Nat) (v : Value) : acheck Try.prog (d + 1) 2 v = true := acheck_leaf (by kernel_rfl) d v
theorem key2 (x : Int) : keyOk Try.prog 2 (.int .i64 x) = true := keyOk_of (ck2 _ _) (plainV_of1 rfl _)
theorem eq3 (H : AHeap) (d : Nat) (x y : Int) : aeq Try.prog H (d + 1) 3 (.int .i64 x) (.int .i64 y) = some (x == y) := aeq_int (by kernel_rfl) H d x y
theorem ck3 (d : Nat) (v : Value) : acheck Try.prog (d + 1) 3 v = true := acheck_leaf (by kernel_rfl) d v
theorem key3 (x : Int) : keyOk Try.prog 3 (.int .i64 x) = true := keyOk_of (ck3 _ _) (plainV_of1 rfl _)
theorem eq4 (H : AHeap) (d : Nat) (x y : Bool) : aeq Try.prog H (d + 1) 4 (.bool x) (.bool y) = some (x == y) := aeq_bool (by kernel_rfl) H d x y
theorem ck4 (d : Nat) (v : Value) : acheck Try.prog (d + 1) 4 v = true := acheck_leaf (by kernel_rfl) d v
theorem key4 (x : Bool) : keyOk Try.prog 4 (.bool x) = true := keyOk_of (ck4 _ _) (plainV_of1 rfl _)
theorem eq5 (H : AHeap) (d : Nat) (x y : Int) : aeq Try.prog H (d + 1) 5 (.int .u8 x) (.int .u8 y) = some (x == y) := aeq_int (by kernel_rfl) H d x y
theorem ck5 (d : Nat) (v : Value) : acheck Try.prog (d + 1) 5 v = true := acheck_leaf (by kernel_rfl) d v
theorem key5 (x : Int) : keyOk Try.prog 5 (.int .u8 x) = true := keyOk_of (ck5 _ _) (plainV_of1 rfl _)
theorem eq6 (H : AHeap) (d : Nat) (x y : Int) : aeq Try.prog H (d + 1) 6 (.int .u8 x) (.int .u8 y) = some (x == y) := aeq_int (by kernel_rfl) H d x y
theorem ck6 (d : Nat) (v : Value) : acheck Try.prog (d + 1) 6 v = true := acheck_leaf (by kernel_rfl) d v
theorem key6 (x : Int) : keyOk Try.prog 6 (.int .u8 x) = true := keyOk_of (ck6 _ _) (plainV_of1 rfl _)
theorem eq9 (H : AHeap) (d : Nat) (x y : ByteArray) : aeq Try.prog H (d + 1) 9 (.string x) (.string y) = some (x == y) := aeq_string (by kernel_rfl) H d x y
theorem ck9 (d : Nat) (v : Value) : acheck Try.prog (d + 1) 9 v = true := acheck_leaf (by kernel_rfl) d v
theorem key9 (x : ByteArray) : keyOk Try.prog 9 (.string x) = true := keyOk_of (ck9 _ _) (plainV_of1 rfl _)
theorem eq10 (H : AHeap) (d : Nat) (x y : ByteArray) : aeq Try.prog H (d + 1) 10 (.string x) (.string y) = some (x == y) := aeq_string (by kernel_rfl) H d x y
theorem ck10 (d : Nat) (v : Value) : acheck Try.prog (d + 1) 10 v = true := acheck_leaf (by kernel_rfl) d v
theorem key10 (x : ByteArray) : keyOk Try.prog 10 (.string x) = true := keyOk_of (ck10 _ _) (plainV_of1 rfl _)
theorem eq11 (H : AHeap) (d : Nat) (x y : ByteArray) : aeq Try.prog H (d + 1) 11 (.string x) (.string y) = some (x == y) := aeq_string (by kernel_rfl) H d x y
theorem ck11 (d : Nat) (v : Value) : acheck Try.prog (d + 1) 11 v = true := acheck_leaf (by kernel_rfl) d v
theorem key11 (x : ByteArray) : keyOk Try.prog 11 (.string x) = true := keyOk_of (ck11 _ _) (plainV_of1 rfl _)
theorem eq12 (H : AHeap) (d : Nat) (x y : Int) : aeq Try.prog H (d + 1) 12 (.int .u64 x) (.int .u64 y) = some (x == y) := aeq_int (by kernel_rfl) H d x y
theorem ck12 (d : Nat) (v : Value) : acheck Try.prog (d + 1) 12 v = true := acheck_leaf (by kernel_rfl) d v
theorem key12 (x : Int) : keyOk Try.prog 12 (.int .u64 x) = true := keyOk_of (ck12 _ _) (plainV_of1 rfl _)
theorem eq21 (H : AHeap) (d : Nat) (x y : Int) : aeq Try.prog H (d + 1) 21 (.int .i32 x) (.int .i32 y) = some (x == y) := aeq_int (by kernel_rfl) H d x y
theorem ck21 (d : Nat) (v : Value) : acheck Try.prog (d + 1) 21 v = true := acheck_leaf (by kernel_rfl) d v
theorem key21 (x : Int) : keyOk Try.prog 21 (.int .i32 x) = true := keyOk_of (ck21 _ _) (plainV_of1 rfl _)
theorem eq24 (H : AHeap) (d : Nat) (x0 : Int) (x1 : Int) (y0 : Int) (y1 : Int) : aeq Try.prog H (d + 2) 24 (.agg [.int .i64 x0, .int .i64 x1].toArray) (.agg [.int .i64 y0, .int .i64 y1].toArray) = some ((x0 == y0) && ((x1 == y1) && true)) := by
  rw [aeq_struct Try.underlying24 (by kernel_rfl) (ps := [(2, 0), (2, 1)]) (by kernel_rfl)]
  simp only [eqParts_cons, eqParts_nil, eqPart_eq, apart_one ag2, List.take_zero, List.take_succ_cons, List.drop_zero, List.drop_succ_cons, List.getElem?_cons_zero, List.getElem?_cons_succ, Option.bind_some, eq2, andO_some]
theorem ck24 (d : Nat) (x0 : Int) (x1 : Int) : acheck Try.prog (d + 2) 24 (.agg [.int .i64 x0, .int .i64 x1].toArray) = true := by
  rw [acheck_struct Try.underlying24 (ps := [(2, 0), (2, 1)]) (by kernel_rfl)]
  exact chkParts_one (u := _) (apart_one ag2 _ _) (ck2 _ _) (chkParts_one (u := _) (apart_one ag2 _ _) (ck2 _ _) (chkParts_nil _ _))
theorem key24 (x0 : Int) (x1 : Int) : keyOk Try.prog 24 (.agg [.int .i64 x0, .int .i64 x1].toArray) = true := keyOk_of (ck24 98 x0 x1) (plainV_agg rfl _)
theorem be24 (H : AHeap) (xo yo : Operand) (x0 : Int) (x1 : Int) (y0 : Int) (y1 : Int) : abin Try.prog H .eql 24 xo yo (.agg [.int .i64 x0, .int .i64 x1].toArray) (.agg [.int .i64 y0, .int .i64 y1].toArray) = some (.bool ((x0 == y0) && ((x1 == y1) && true))) := abin_agg (by kernel_rfl) H xo yo (eq24 H 9998 x0 x1 y0 y1)
theorem bn24 (H : AHeap) (xo yo : Operand) (x0 : Int) (x1 : Int) (y0 : Int) (y1 : Int) : abin Try.prog H .neq 24 xo yo (.agg [.int .i64 x0, .int .i64 x1].toArray) (.agg [.int .i64 y0, .int .i64 y1].toArray) = some (.bool !((x0 == y0) && ((x1 == y1) && true))) := abin_agg_ne (by kernel_rfl) H xo yo (eq24 H 9998 x0 x1 y0 y1)
theorem eq32 (H : AHeap) (d : Nat) (x0 : Int) (x1 : Int) (x2 : Int) (x3 : Int) (x4 : Int) (y0 : Int) (y1 : Int) (y2 : Int) (y3 : Int) (y4 : Int) : aeq Try.prog H (d + 3) 32 (.agg [.int .i64 x0, .int .i64 x1, .int .i64 x2, .int .i64 x3, .int .i64 x4].toArray) (.agg [.int .i64 y0, .int .i64 y1, .int .i64 y2, .int .i64 y3, .int .i64 y4].toArray) = some ((((x0 == y0) && ((x1 == y1) && true))) && ((x2 == y2) && ((x3 == y3) && ((x4 == y4) && true)))) := by
  rw [aeq_struct Try.underlying32 (by kernel_rfl) (ps := [(24, 0), (3, 2), (3, 3), (3, 4)]) (by kernel_rfl)]
  simp only [eqParts_cons, eqParts_nil, eqPart_eq, apart_one ag3, apart_agg ag24 sz24, List.take_zero, List.take_succ_cons, List.drop_zero, List.drop_succ_cons, List.getElem?_cons_zero, List.getElem?_cons_succ, Option.bind_some, eq3, eq24, andO_some]
theorem ck32 (d : Nat) (x0 : Int) (x1 : Int) (x2 : Int) (x3 : Int) (x4 : Int) : acheck Try.prog (d + 3) 32 (.agg [.int .i64 x0, .int .i64 x1, .int .i64 x2, .int .i64 x3, .int .i64 x4].toArray) = true := by
  rw [acheck_struct Try.underlying32 (ps := [(24, 0), (3, 2), (3, 3), (3, 4)]) (by kernel_rfl)]
  exact chkParts_one (u := _) (apart_agg ag24 sz24 _ _) (ck24 _ _ _) (chkParts_one (u := _) (apart_one ag3 _ _) (ck3 _ _) (chkParts_one (u := _) (apart_one ag3 _ _) (ck3 _ _) (chkParts_one (u := _) (apart_one ag3 _ _) (ck3 _ _) (chkParts_nil _ _))))
theorem key32 (x0 : Int) (x1 : Int) (x2 : Int) (x3 : Int) (x4 : Int) : keyOk Try.prog 32 (.agg [.int .i64 x0, .int .i64 x1, .int .i64 x2, .int .i64 x3, .int .i64 x4].toArray) = true := keyOk_of (ck32 97 x0 x1 x2 x3 x4) (plainV_agg rfl _)
theorem be32 (H : AHeap) (xo yo : Operand) (x0 : Int) (x1 : Int) (x2 : Int) (x3 : Int) (x4 : Int) (y0 : Int) (y1 : Int) (y2 : Int) (y3 : Int) (y4 : Int) : abin Try.prog H .eql 32 xo yo (.agg [.int .i64 x0, .int .i64 x1, .int .i64 x2, .int .i64 x3, .int .i64 x4].toArray) (.agg [.int .i64 y0, .int .i64 y1, .int .i64 y2, .int .i64 y3, .int .i64 y4].toArray) = some (.bool ((((x0 == y0) && ((x1 == y1) && true))) && ((x2 == y2) && ((x3 == y3) && ((x4 == y4) && true))))) := abin_agg (by kernel_rfl) H xo yo (eq32 H 9997 x0 x1 x2 x3 x4 y0 y1 y2 y3 y4)
theorem bn32 (H : AHeap) (xo yo : Operand) (x0 : Int) (x1 : Int) (x2 : Int) (x3 : Int) (x4 : Int) (y0 : Int) (y1 : Int) (y2 : Int) (y3 : Int) (y4 : Int) : abin Try.prog H .neq 32 xo yo (.agg [.int .i64 x0, .int .i64 x1, .int .i64 x2, .int .i64 x3, .int .i64 x4].toArray) (.agg [.int .i64 y0, .int .i64 y1, .int .i64 y2, .int .i64 y3, .int .i64 y4].toArray) = some (.bool !((((x0 == y0) && ((x1 == y1) && true))) && ((x2 == y2) && ((x3 == y3) && ((x4 == y4) && true))))) := abin_agg_ne (by kernel_rfl) H xo yo (eq32 H 9997 x0 x1 x2 x3 x4 y0 y1 y2 y3 y4)
theorem eq34 (H : AHeap) (d : Nat) (x0 : Int) (x1 : Int) (x2 : Int) (x3 : Int) (x4 : Int) (x5 : Int) (x6 : Int) (y0 : Int) (y1 : Int) (y2 : Int) (y3 : Int) (y4 : Int) (y5 : Int) (y6 : Int) : aeq Try.prog H (d + 4) 34 (.agg [.int .i64 x0, .int .i64 x1, .int .i64 x2, .int .i64 x3, .int .i64 x4, .int .i64 x5, .int .i64 x6].toArray) (.agg [.int .i64 y0, .int .i64 y1, .int .i64 y2, .int .i64 y3, .int .i64 y4, .int .i64 y5, .int .i64 y6].toArray) = some ((((((x0 == y0) && ((x1 == y1) && true))) && ((x2 == y2) && ((x3 == y3) && ((x4 == y4) && true))))) && ((((x5 == y5) && ((x6 == y6) && true))) && true)) := by
  rw [aeq_struct Try.underlying34 (by kernel_rfl) (ps := [(32, 0), (24, 5)]) (by kernel_rfl)]
  simp only [eqParts_cons, eqParts_nil, eqPart_eq, apart_agg ag24 sz24, apart_agg ag32 sz32, List.take_zero, List.take_succ_cons, List.drop_zero, List.drop_succ_cons, List.getElem?_cons_zero, List.getElem?_cons_succ, Option.bind_some, eq24, eq32, andO_some]
theorem ck34 (d : Nat) (x0 : Int) (x1 : Int) (x2 : Int) (x3 : Int) (x4 : Int) (x5 : Int) (x6 : Int) : acheck Try.prog (d + 4) 34 (.agg [.int .i64 x0, .int .i64 x1, .int .i64 x2, .int .i64 x3, .int .i64 x4, .int .i64 x5, .int .i64 x6].toArray) = true := by
  rw [acheck_struct Try.underlying34 (ps := [(32, 0), (24, 5)]) (by kernel_rfl)]
  exact chkParts_one (u := _) (apart_agg ag32 sz32 _ _) (ck32 _ _ _ _ _ _) (chkParts_one (u := _) (apart_agg ag24 sz24 _ _) (ck24 _ _ _) (chkParts_nil _ _))
theorem key34 (x0 : Int) (x1 : Int) (x2 : Int) (x3 : Int) (x4 : Int) (x5 : Int) (x6 : Int) : keyOk Try.prog 34 (.agg [.int .i64 x0, .int .i64 x1, .int .i64 x2, .int .i64 x3, .int .i64 x4, .int .i64 x5, .int .i64 x6].toArray) = true := keyOk_of (ck34 96 x0 x1 x2 x3 x4 x5 x6) (plainV_agg rfl _)
theorem be34 (H : AHeap) (xo yo : Operand) (x0 : Int) (x1 : Int) (x2 : Int) (x3 : Int) (x4 : Int) (x5 : Int) (x6 : Int) (y0 : Int) (y1 : Int) (y2 : Int) (y3 : Int) (y4 : Int) (y5 : Int) (y6 : Int) : abin Try.prog H .eql 34 xo yo (.agg [.int .i64 x0, .int .i64 x1, .int .i64 x2, .int .i64 x3, .int .i64 x4, .int .i64 x5, .int .i64 x6].toArray) (.agg [.int .i64 y0, .int .i64 y1, .int .i64 y2, .int .i64 y3, .int .i64 y4, .int .i64 y5, .int .i64 y6].toArray) = some (.bool ((((((x0 == y0) && ((x1 == y1) && true))) && ((x2 == y2) && ((x3 == y3) && ((x4 == y4) && true))))) && ((((x5 == y5) && ((x6 == y6) && true))) && true))) := abin_agg (by kernel_rfl) H xo yo (eq34 H 9996 x0 x1 x2 x3 x4 x5 x6 y0 y1 y2 y3 y4 y5 y6)
theorem bn34 (H : AHeap) (xo yo : Operand) (x0 : Int) (x1 : Int) (x2 : Int) (x3 : Int) (x4 : Int) (x5 : Int) (x6 : Int) (y0 : Int) (y1 : Int) (y2 : Int) (y3 : Int) (y4 : Int) (y5 : Int) (y6 : Int) : abin Try.prog H .neq 34 xo yo (.agg [.int .i64 x0, .int .i64 x1, .int .i64 x2, .int .i64 x3, .int .i64 x4, .int .i64 x5, .int .i64 x6].toArray) (.agg [.int .i64 y0, .int .i64 y1, .int .i64 y2, .int .i64 y3, .int .i64 y4, .int .i64 y5, .int .i64 y6].toArray) = some (.bool !((((((x0 == y0) && ((x1 == y1) && true))) && ((x2 == y2) && ((x3 == y3) && ((x4 == y4) && true))))) && ((((x5 == y5) && ((x6 == y6) && true))) && true))) := abin_agg_ne (by kernel_rfl) H xo yo (eq34 H 9996 x0 x1 x2 x3 x4 x5 x6 y0 y1 y2 y3 y4 y5 y6)
theorem eq41 (H : AHeap) (d : Nat) (x y : Int) : aeq Try.prog H (d + 1) 41 (.int .i64 x) (.int .i64 y) = some (x == y) := aeq_int (by kernel_rfl) H d x y
theorem ck41 (d : Nat) (v : Value) : acheck Try.prog (d + 1) 41 v = true := acheck_leaf (by kernel_rfl) d v
theorem key41 (x : Int) : keyOk Try.prog 41 (.int .i64 x) = true := keyOk_of (ck41 _ _) (plainV_of1 rfl _)
theorem eq51 (H : AHeap) (d : Nat) (x0 : Int) (x1 : Int) (x2 : Int) (x3 : Int) (x4 : Int) (x5 : Int) (x6 : Int) (x7 : Int) (y0 : Int) (y1 : Int) (y2 : Int) (y3 : Int) (y4 : Int) (y5 : Int) (y6 : Int) (y7 : Int) : aeq Try.prog H (d + 4) 51 (.agg [.int .i64 x0, .int .i64 x1, .int .i64 x2, .int .i64 x3, .int .i64 x4, .int .i64 x5, .int .i64 x6, .int .i64 x7].toArray) (.agg [.int .i64 y0, .int .i64 y1, .int .i64 y2, .int .i64 y3, .int .i64 y4, .int .i64 y5, .int .i64 y6, .int .i64 y7].toArray) = some ((x0 == y0) && ((((((x1 == y1) && ((x2 == y2) && true))) && ((x3 == y3) && ((x4 == y4) && ((x5 == y5) && true))))) && ((((x6 == y6) && ((x7 == y7) && true))) && true))) := by
  rw [aeq_struct Try.underlying51 (by kernel_rfl) (ps := [(3, 0), (32, 1), (24, 6)]) (by kernel_rfl)]
  simp only [eqParts_cons, eqParts_nil, eqPart_eq, apart_one ag3, apart_agg ag24 sz24, apart_agg ag32 sz32, List.take_zero, List.take_succ_cons, List.drop_zero, List.drop_succ_cons, List.getElem?_cons_zero, List.getElem?_cons_succ, Option.bind_some, eq3, eq24, eq32, andO_some]
theorem ck51 (d : Nat) (x0 : Int) (x1 : Int) (x2 : Int) (x3 : Int) (x4 : Int) (x5 : Int) (x6 : Int) (x7 : Int) : acheck Try.prog (d + 4) 51 (.agg [.int .i64 x0, .int .i64 x1, .int .i64 x2, .int .i64 x3, .int .i64 x4, .int .i64 x5, .int .i64 x6, .int .i64 x7].toArray) = true := by
  rw [acheck_struct Try.underlying51 (ps := [(3, 0), (32, 1), (24, 6)]) (by kernel_rfl)]
  exact chkParts_one (u := _) (apart_one ag3 _ _) (ck3 _ _) (chkParts_one (u := _) (apart_agg ag32 sz32 _ _) (ck32 _ _ _ _ _ _) (chkParts_one (u := _) (apart_agg ag24 sz24 _ _) (ck24 _ _ _) (chkParts_nil _ _)))
theorem key51 (x0 : Int) (x1 : Int) (x2 : Int) (x3 : Int) (x4 : Int) (x5 : Int) (x6 : Int) (x7 : Int) : keyOk Try.prog 51 (.agg [.int .i64 x0, .int .i64 x1, .int .i64 x2, .int .i64 x3, .int .i64 x4, .int .i64 x5, .int .i64 x6, .int .i64 x7].toArray) = true := keyOk_of (ck51 96 x0 x1 x2 x3 x4 x5 x6 x7) (plainV_agg rfl _)
theorem be51 (H : AHeap) (xo yo : Operand) (x0 : Int) (x1 : Int) (x2 : Int) (x3 : Int) (x4 : Int) (x5 : Int) (x6 : Int) (x7 : Int) (y0 : Int) (y1 : Int) (y2 : Int) (y3 : Int) (y4 : Int) (y5 : Int) (y6 : Int) (y7 : Int) : abin Try.prog H .eql 51 xo yo (.agg [.int .i64 x0, .int .i64 x1, .int .i64 x2, .int .i64 x3, .int .i64 x4, .int .i64 x5, .int .i64 x6, .int .i64 x7].toArray) (.agg [.int .i64 y0, .int .i64 y1, .int .i64 y2, .int .i64 y3, .int .i64 y4, .int .i64 y5, .int .i64 y6, .int .i64 y7].toArray) = some (.bool ((x0 == y0) && ((((((x1 == y1) && ((x2 == y2) && true))) && ((x3 == y3) && ((x4 == y4) && ((x5 == y5) && true))))) && ((((x6 == y6) && ((x7 == y7) && true))) && true)))) := abin_agg (by kernel_rfl) H xo yo (eq51 H 9996 x0 x1 x2 x3 x4 x5 x6 x7 y0 y1 y2 y3 y4 y5 y6 y7)
theorem bn51 (H : AHeap) (xo yo : Operand) (x0 : Int) (x1 : Int) (x2 : Int) (x3 : Int) (x4 : Int) (x5 : Int) (x6 : Int) (x7 : Int) (y0 : Int) (y1 : Int) (y2 : Int) (y3 : Int) (y4 : Int) (y5 : Int) (y6 : Int) (y7 : Int) : abin Try.prog H .neq 51 xo yo (.agg [.int .i64 x0, .int .i64 x1, .int .i64 x2, .int .i64 x3, .int .i64 x4, .int .i64 x5, .int .i64 x6, .int .i64 x7].toArray) (.agg [.int .i64 y0, .int .i64 y1, .int .i64 y2, .int .i64 y3, .int .i64 y4, .int .i64 y5, .int .i64 y6, .int .i64 y7].toArray) = some (.bool !((x0 == y0) && ((((((x1 == y1) && ((x2 == y2) && true))) && ((x3 == y3) && ((x4 == y4) && ((x5 == y5) && true))))) && ((((x6 == y6) && ((x7 == y7) && true))) && true)))) := abin_agg_ne (by kernel_rfl) H xo yo (eq51 H 9996 x0 x1 x2 x3 x4 x5 x6 x7 y0 y1 y2 y3 y4 y5 y6 y7)
theorem eq64 (H : AHeap) (d : Nat) (x0 : Int) (x1 : Int) (x2 : Int) (y0 : Int) (y1 : Int) (y2 : Int) : aeq Try.prog H (d + 3) 64 (.agg [.int .i64 x0, .int .i64 x1, .int .i64 x2].toArray) (.agg [.int .i64 y0, .int .i64 y1, .int .i64 y2].toArray) = some ((((x0 == y0) && ((x1 == y1) && true))) && ((x2 == y2) && true)) := by
  rw [aeq_struct Try.underlying64 (by kernel_rfl) (ps := [(24, 0), (3, 2)]) (by kernel_rfl)]
  simp only [eqParts_cons, eqParts_nil, eqPart_eq, apart_one ag3, apart_agg ag24 sz24, List.take_zero, List.take_succ_cons, List.drop_zero, List.drop_succ_cons, List.getElem?_cons_zero, List.getElem?_cons_succ, Option.bind_some, eq3, eq24, andO_some]
theorem ck64 (d : Nat) (x0 : Int) (x1 : Int) (x2 : Int) : acheck Try.prog (d + 3) 64 (.agg [.int .i64 x0, .int .i64 x1, .int .i64 x2].toArray) = true := by
  rw [acheck_struct Try.underlying64 (ps := [(24, 0), (3, 2)]) (by kernel_rfl)]
  exact chkParts_one (u := _) (apart_agg ag24 sz24 _ _) (ck24 _ _ _) (chkParts_one (u := _) (apart_one ag3 _ _) (ck3 _ _) (chkParts_nil _ _))
theorem key64 (x0 : Int) (x1 : Int) (x2 : Int) : keyOk Try.prog 64 (.agg [.int .i64 x0, .int .i64 x1, .int .i64 x2].toArray) = true := keyOk_of (ck64 97 x0 x1 x2) (plainV_agg rfl _)
theorem be64 (H : AHeap) (xo yo : Operand) (x0 : Int) (x1 : Int) (x2 : Int) (y0 : Int) (y1 : Int) (y2 : Int) : abin Try.prog H .eql 64 xo yo (.agg [.int .i64 x0, .int .i64 x1, .int .i64 x2].toArray) (.agg [.int .i64 y0, .int .i64 y1, .int .i64 y2].toArray) = some (.bool ((((x0 == y0) && ((x1 == y1) && true))) && ((x2 == y2) && true))) := abin_agg (by kernel_rfl) H xo yo (eq64 H 9997 x0 x1 x2 y0 y1 y2)
theorem bn64 (H : AHeap) (xo yo : Operand) (x0 : Int) (x1 : Int) (x2 : Int) (y0 : Int) (y1 : Int) (y2 : Int) : abin Try.prog H .neq 64 xo yo (.agg [.int .i64 x0, .int .i64 x1, .int .i64 x2].toArray) (.agg [.int .i64 y0, .int .i64 y1, .int .i64 y2].toArray) = some (.bool !((((x0 == y0) && ((x1 == y1) && true))) && ((x2 == y2) && true))) := abin_agg_ne (by kernel_rfl) H xo yo (eq64 H 9997 x0 x1 x2 y0 y1 y2)
theorem eq99 (H : AHeap) (d : Nat) (x y : Int) : aeq Try.prog H (d + 1) 99 (.int .u64 x) (.int .u64 y) = some (x == y) := aeq_int (by kernel_rfl) H d x y
theorem ck99 (d : Nat) (v : Value) : acheck Try.prog (d + 1) 99 v = true := acheck_leaf (by kernel_rfl) d v
theorem key99 (x : Int) : keyOk Try.prog 99 (.int .u64 x) = true := keyOk_of (ck99 _ _) (plainV_of1 rfl _)
theorem eq107 (H : AHeap) (d : Nat) (x y : Int) : aeq Try.prog H (d + 1) 107 (.int .i64 x) (.int .i64 y) = some (x == y) := aeq_int (by kernel_rfl) H d x y
theorem ck107 (d : Nat) (v : Value) : acheck Try.prog (d + 1) 107 v = true := acheck_leaf (by kernel_rfl) d v
theorem key107 (x : Int) : keyOk Try.prog 107 (.int .i64 x) = true := keyOk_of (ck107 _ _) (plainV_of1 rfl _)
theorem eq114 (H : AHeap) (d : Nat) (x y : Int) : aeq Try.prog H (d + 1) 114 (.int .u32 x) (.int .u32 y) = some (x == y) := aeq_int (by kernel_rfl) H d x y
theorem ck114 (d : Nat) (v : Value) : acheck Try.prog (d + 1) 114 v = true := acheck_leaf (by kernel_rfl) d v
theorem key114 (x : Int) : keyOk Try.prog 114 (.int .u32 x) = true := keyOk_of (ck114 _ _) (plainV_of1 rfl _)
theorem eq116 (H : AHeap) (d : Nat) (x y : Int) : aeq Try.prog H (d + 1) 116 (.int .u64 x) (.int .u64 y) = some (x == y) := aeq_int (by kernel_rfl) H d x y
theorem ck116 (d : Nat) (v : Value) : acheck Try.prog (d + 1) 116 v = true := acheck_leaf (by kernel_rfl) d v
theorem key116 (x : Int) : keyOk Try.prog 116 (.int .u64 x) = true := keyOk_of (ck116 _ _) (plainV_of1 rfl _)
theorem eq131 (H : AHeap) (d : Nat) (x y : Int) : aeq Try.prog H (d + 1) 131 (.int .u64 x) (.int .u64 y) = some (x == y) := aeq_int (by kernel_rfl) H d x y
theorem ck131 (d : Nat) (v : Value) : acheck Try.prog (d + 1) 131 v = true := acheck_leaf (by kernel_rfl) d v
theorem key131 (x : Int) : keyOk Try.prog 131 (.int .u64 x) = true := keyOk_of (ck131 _ _) (plainV_of1 rfl _)
theorem eq153 (H : AHeap) (d : Nat) (x y : Int) : aeq Try.prog H (d + 1) 153 (.int .u8 x) (.int .u8 y) = some (x == y) := aeq_int (by kernel_rfl) H d x y
theorem ck153 (d : Nat) (v : Value) : acheck Try.prog (d + 1) 153 v = true := acheck_leaf (by kernel_rfl) d v
theorem key153 (x : Int) : keyOk Try.prog 153 (.int .u8 x) = true := keyOk_of (ck153 _ _) (plainV_of1 rfl _)
theorem eq154 (H : AHeap) (d : Nat) (x y : Int) : aeq Try.prog H (d + 1) 154 (.int .u8 x) (.int .u8 y) = some (x == y) := aeq_int (by kernel_rfl) H d x y
theorem ck154 (d : Nat) (v : Value) : acheck Try.prog (d + 1) 154 v = true := acheck_leaf (by kernel_rfl) d v
theorem key154 (x : Int) : keyOk Try.prog 154 (.int .u8 x) = true := keyOk_of (ck154 _ _) (plainV_of1 rfl _)
theorem eq157 (H : AHeap) (d : Nat) (x y : Int) : aeq Try.prog H (d + 1) 157 (.int .i32 x) (.int .i32 y) = some (x == y) := aeq_int (by kernel_rfl) H d x y
theorem ck157 (d : Nat) (v : Value) : acheck Try.prog (d + 1) 157 v = true := acheck_leaf (by kernel_rfl) d v
theorem key157 (x : Int) : keyOk Try.prog 157 (.int .i32 x) = true := keyOk_of (ck157 _ _) (plainV_of1 rfl _)
theorem eq158 (H : AHeap) (d : Nat) (x y : Int) : aeq Try.prog H (d + 1) 158 (.int .i32 x) (.int .i32 y) = some (x == y) := aeq_int (by kernel_rfl) H d x y
theorem ck158 (d : Nat) (v : Value) : acheck Try.prog (d + 1) 158 v = true := acheck_leaf (by kernel_rfl) d v
theorem key158 (x : Int) : keyOk Try.prog 158 (.int .i32 x) = true := keyOk_of (ck158 _ _) (plainV_of1 rfl _)
attribute [go_sem] sz2 ag2 ze2 pz2 st2 kd2 sz3 ag3 ze3 st3 kd3 sz4 ag4 ze4 pz4 st4 en4 nn4 sz5 ag5 ze5 pz5 st5 kd5 sz6 ag6 ze6 st6 kd6 sz7 ag7 ze7 pz7 st7 bd7 fa7_0 fl7_0 fa7_1 fl7_1 fa7_2 fl7_2 fa7_3 fl7_3 sz8 ag8 ze8 st8 bd8 fa8_0 fl8_0 fa8_1 fl8_1 fa8_2 fl8_2 fa8_3 fl8_3 sz9 ag9 ze9 pz9 st9 kd9 sz10 ag10 ze10 st10 kd10 sz11 ag11 ze11 st11 kd11 sz12 ag12 ze12 pz12 st12 kd12 sz13 ag13 ze13 pz13 st13 bd13 fa13_0 fl13_0 fa13_1 fl13_1 sz14 ag14 ze14 st14 bd14 fa14_0 fl14_0 fa14_1 fl14_1 sz15 ag15 ze15 pz15 st15 en15 nn15 sz16 ag16 ze16 st16 en16 nn16 sz17 ag17 ze17 st17 en17 nn17 sz18 ag18 ze18 pz18 st18 bd18 fa18_0 fl18_0 sz19 ag19 ze19 st19 bd19 fa19_0 fl19_0 sz20 ag20 ze20 pz20 st20 sz21 ag21 ze21 pz21 st21 kd21 sz22 ag22 ze22 pz22 st22 el22 ln22 cp22 ix22 bs22 en22 nn22 sc22 sz23 ag23 ze23 pz23 st23 bd23 fa23_0 fl23_0 fa23_1 fl23_1 sz24 ag24 ze24 st24 bd24 fa24_0 fl24_0 fa24_1 fl24_1 sz26 ag26 ze26 st26 en26 nn26 sz29 ag29 ze29 st29 el29 ln29 cp29 ix29 bs29 en29 nn29 sc29 sz31 ag31 ze31 pz31 st31 bd31 fa31_0 fl31_0 fa31_1 fl31_1 fa31_2 fl31_2 fa31_3 fl31_3 sz32 ag32 ze32 st32 bd32 fa32_0 fl32_0 fa32_1 fl32_1 fa32_2 fl32_2 fa32_3 fl32_3 sz33 ag33 ze33 pz33 st33 bd33 fa33_0 fl33_0 fa33_1 fl33_1 sz34 ag34 ze34 st34 bd34 fa34_0 fl34_0 fa34_1 fl34_1 sz41 ag41 ze41 st41 kd41 sz44 ag44 ze44 st44 el44 ln44 cp44 ix44 bs44 en44 nn44 sc44 sz46 ag46 ze46 st46 en46 nn46 sz47 ag47 ze47 pz47 st47 bd47 fa47_0 fl47_0 sz48 ag48 ze48 st48 bd48 fa48_0 fl48_0 sz50 ag50 ze50 pz50 st50 bd50 fa50_0 fl50_0 fa50_1 fl50_1 fa50_2 fl50_2 sz51 ag51 ze51 st51 bd51 fa51_0 fl51_0 fa51_1 fl51_1 fa51_2 fl51_2 sz58 ag58 ze58 st58 el58 ln58 cp58 ix58 bs58 en58 nn58 sc58 sz60 ag60 ze60 st60 en60 nn60 sz61 ag61 ze61 pz61 st61 bd61 fa61_0 fl61_0 fa61_1 fl61_1 sz62 ag62 ze62 st62 bd62 fa62_0 fl62_0 fa62_1 fl62_1 sz63 ag63 ze63 pz63 st63 bd63 fa63_0 fl63_0 fa63_1 fl63_1 sz64 ag64 ze64 st64 bd64 fa64_0 fl64_0 fa64_1 fl64_1 sz65 ag65 ze65 pz65 st65 bd65 fa65_0 fl65_0 fa65_1 fl65_1 sz66 ag66 ze66 st66 bd66 fa66_0 fl66_0 fa66_1 fl66_1 sz68 ag68 ze68 pz68 st68 en68 nn68 mt68 sz69 ag69 ze69 pz69 st69 bd69 fa69_0 fl69_0 sz70 ag70 ze70 st70 bd70 fa70_0 fl70_0 sz84 ag84 ze84 st84 el84 ln84 cp84 ix84 bs84 en84 nn84 sc84 sz85 ag85 ze85 st85 el85 ln85 cp85 ix85 bs85 en85 nn85 sc85 sz99 ag99 ze99 st99 kd99 sz107 ag107 ze107 st107 kd107 sz114 ag114 ze114 pz114 st114 kd114 sz116 ag116 ze116 st116 kd116 sz117 ag117 ze117 st117 el117 ln117 cp117 ix117 bs117 en117 nn117 sc117 sz131 ag131 ze131 st131 kd131 sz135 ag135 ze135 st135 en135 nn135 sz141 ag141 ze141 st141 en141 nn141 sz147 ag147 ze147 pz147 st147 bd147 fa147_0 fl147_0 fa147_1 fl147_1 fa147_2 fl147_2 fa147_3 fl147_3 sz148 ag148 ze148 st148 bd148 fa148_0 fl148_0 fa148_1 fl148_1 fa148_2 fl148_2 fa148_3 fl148_3 sz149 ag149 ze149 pz149 st149 sz150 ag150 ze150 st150 sz151 ag151 ze151 st151 sz153 ag153 ze153 st153 kd153 sz154 ag154 ze154 st154 kd154 sz156 ag156 ze156 st156 en156 nn156 sz157 ag157 ze157 st157 kd157 sz158 ag158 ze158 st158 kd158 sz159 ag159 ze159 pz159 st159 bd159 fa159_0 fl159_0 fa159_1 fl159_1 fa159_2 fl159_2 fa159_3 fl159_3 fa159_4 fl159_4 fa159_5 fl159_5 fa159_6 fl159_6 fa159_7 fl159_7 fa159_8 fl159_8 fa159_9 fl159_9 fa159_10 fl159_10 sz160 ag160 ze160 st160 bd160 fa160_0 fl160_0 fa160_1 fl160_1 fa160_2 fl160_2 fa160_3 fl160_3 fa160_4 fl160_4 fa160_5 fl160_5 fa160_6 fl160_6 fa160_7 fl160_7 fa160_8 fl160_8 fa160_9 fl160_9 fa160_10 fl160_10 sz161 ag161 ze161 st161 key2 key3 key4 key5 key6 key9 key10 key11 key12 key21 key24 be24 bn24 key32 be32 bn32 key34 be34 bn34 key41 key51 be51 bn51 key64 be64 bn64 key99 key107 key114 key116 key131 key153 key154 key157 key158
end Go.Proofs.Ythbifkeadbmcnaa
