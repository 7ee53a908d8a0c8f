/-
  The seat's types, as walks ask for them: written by program (gen/seat.py).
-/
import Derived.Test.YtangfnommhmpeaaAwMore
import Derived.Test.YtangfnommhmpeaaProg
set_option linter.unusedVariables false
set_option linter.unusedSimpArgs false
namespace Go.Proofs.Ytangfnommhmpeaa
open Go Go.AW
set_option linter.unusedSimpArgs false
theorem mixed : Try.prog.follows .mixedOrders = true := by kernel_rfl
theorem sz2 : szT Try.prog 2 = some 1 := by kernel_rfl
theorem ag2 : aggT Try.prog 2 = some false := by kernel_rfl
theorem ze2 : zeroT Try.prog 2 = some (.int .i64 0) := by kernel_rfl
theorem pz2 : plainV 100 (.int .i64 0) = true := by kernel_rfl
theorem inf2 : ∃ i, Try.prog.info? 2 = some i ∧ i.zero = some (.int .i64 0) ∧ i.size = 1 ∧ i.bytes = 8 := by
  have h : (Try.prog.info? 2).map (fun i => (i.zero, i.size, i.bytes)) = some (some (.int .i64 0), 1, 8) := by kernel_rfl
  obtain ⟨i, h1, h2⟩ := Option.map_eq_some_iff.1 h
  simp only [Prod.mk.injEq] at h2
  exact ⟨i, h1, h2.1, h2.2.1, h2.2.2⟩
theorem st2 (H : AHeap) (id off : Nat) (x : Value) : astoreT Try.prog H 2 (.pointer (some ⟨id, off, none⟩)) x = if x.cells.size = 1 ∧ x.cells.toList.all oneCell = true then ((H[id]?).bind (rowStore off x.cells.toList)).map fun o => H.set id o else none := astore_rule sz2 H id off x
theorem kd2 : kindT Try.prog 2 = .int .i64 := by kernel_rfl
theorem sz3 : szT Try.prog 3 = some 1 := by kernel_rfl
theorem ag3 : aggT Try.prog 3 = some false := by kernel_rfl
theorem ze3 : zeroT Try.prog 3 = some (.int .i64 0) := by kernel_rfl
theorem inf3 : ∃ i, Try.prog.info? 3 = some i ∧ i.zero = some (.int .i64 0) ∧ i.size = 1 ∧ i.bytes = 8 := by
  have h : (Try.prog.info? 3).map (fun i => (i.zero, i.size, i.bytes)) = some (some (.int .i64 0), 1, 8) := by kernel_rfl
  obtain ⟨i, h1, h2⟩ := Option.map_eq_some_iff.1 h
  simp only [Prod.mk.injEq] at h2
  exact ⟨i, h1, h2.1, h2.2.1, h2.2.2⟩
theorem st3 (H : AHeap) (id off : Nat) (x : Value) : astoreT Try.prog H 3 (.pointer (some ⟨id, off, none⟩)) x = if x.cells.size = 1 ∧ x.cells.toList.all oneCell = true then ((H[id]?).bind (rowStore off x.cells.toList)).map fun o => H.set id o else none := astore_rule sz3 H id off x
theorem kd3 : kindT Try.prog 3 = .int .i64 := by kernel_rfl
theorem sz4 : szT Try.prog 4 = some 1 := by kernel_rfl
theorem ag4 : aggT Try.prog 4 = some false := by kernel_rfl
theorem ze4 : zeroT Try.prog 4 = some (.bool false) := by kernel_rfl
theorem pz4 : plainV 100 (.bool false) = true := by kernel_rfl
theorem inf4 : ∃ i, Try.prog.info? 4 = some i ∧ i.zero = some (.bool false) ∧ i.size = 1 ∧ i.bytes = 1 := by
  have h : (Try.prog.info? 4).map (fun i => (i.zero, i.size, i.bytes)) = some (some (.bool false), 1, 1) := by kernel_rfl
  obtain ⟨i, h1, h2⟩ := Option.map_eq_some_iff.1 h
  simp only [Prod.mk.injEq] at h2
  exact ⟨i, h1, h2.1, h2.2.1, h2.2.2⟩
theorem st4 (H : AHeap) (id off : Nat) (x : Value) : astoreT Try.prog H 4 (.pointer (some ⟨id, off, none⟩)) x = if x.cells.size = 1 ∧ x.cells.toList.all oneCell = true then ((H[id]?).bind (rowStore off x.cells.toList)).map fun o => H.set id o else none := astore_rule sz4 H id off x
theorem en4 (H : AHeap) (xo yo : Operand) (a b : Bool) : abin Try.prog H .eql 4 xo yo (.bool a) (.bool b) = some (.bool (a == b)) := abin_eq_bool (by kernel_rfl) H xo yo a b
theorem nn4 (H : AHeap) (xo yo : Operand) (a b : Bool) : abin Try.prog H .neq 4 xo yo (.bool a) (.bool b) = some (.bool !(a == b)) := abin_ne_bool (by kernel_rfl) H xo yo a b
theorem sz5 : szT Try.prog 5 = some 1 := by kernel_rfl
theorem ag5 : aggT Try.prog 5 = some false := by kernel_rfl
theorem ze5 : zeroT Try.prog 5 = some (.int .u8 0) := by kernel_rfl
theorem pz5 : plainV 100 (.int .u8 0) = true := by kernel_rfl
theorem inf5 : ∃ i, Try.prog.info? 5 = some i ∧ i.zero = some (.int .u8 0) ∧ i.size = 1 ∧ i.bytes = 1 := by
  have h : (Try.prog.info? 5).map (fun i => (i.zero, i.size, i.bytes)) = some (some (.int .u8 0), 1, 1) := by kernel_rfl
  obtain ⟨i, h1, h2⟩ := Option.map_eq_some_iff.1 h
  simp only [Prod.mk.injEq] at h2
  exact ⟨i, h1, h2.1, h2.2.1, h2.2.2⟩
theorem st5 (H : AHeap) (id off : Nat) (x : Value) : astoreT Try.prog H 5 (.pointer (some ⟨id, off, none⟩)) x = if x.cells.size = 1 ∧ x.cells.toList.all oneCell = true then ((H[id]?).bind (rowStore off x.cells.toList)).map fun o => H.set id o else none := astore_rule sz5 H id off x
theorem kd5 : kindT Try.prog 5 = .int .u8 := by kernel_rfl
theorem sz6 : szT Try.prog 6 = some 1 := by kernel_rfl
theorem ag6 : aggT Try.prog 6 = some false := by kernel_rfl
theorem ze6 : zeroT Try.prog 6 = some (.int .u8 0) := by kernel_rfl
theorem inf6 : ∃ i, Try.prog.info? 6 = some i ∧ i.zero = some (.int .u8 0) ∧ i.size = 1 ∧ i.bytes = 1 := by
  have h : (Try.prog.info? 6).map (fun i => (i.zero, i.size, i.bytes)) = some (some (.int .u8 0), 1, 1) := by kernel_rfl
  obtain ⟨i, h1, h2⟩ := Option.map_eq_some_iff.1 h
  simp only [Prod.mk.injEq] at h2
  exact ⟨i, h1, h2.1, h2.2.1, h2.2.2⟩
theorem st6 (H : AHeap) (id off : Nat) (x : Value) : astoreT Try.prog H 6 (.pointer (some ⟨id, off, none⟩)) x = if x.cells.size = 1 ∧ x.cells.toList.all oneCell = true then ((H[id]?).bind (rowStore off x.cells.toList)).map fun o => H.set id o else none := astore_rule sz6 H id off x
theorem kd6 : kindT Try.prog 6 = .int .u8 := by kernel_rfl
theorem sz7 : szT Try.prog 7 = some 4 := by kernel_rfl
theorem ag7 : aggT Try.prog 7 = some true := by kernel_rfl
theorem ze7 : zeroT Try.prog 7 = some (.agg #[.int .i64 0, .int .i64 0, .bool false, .int .u8 0]) := by kernel_rfl
theorem pz7 : plainV 100 (.agg #[.int .i64 0, .int .i64 0, .bool false, .int .u8 0]) = true := by kernel_rfl
theorem inf7 : ∃ i, Try.prog.info? 7 = some i ∧ i.zero = some (.agg #[.int .i64 0, .int .i64 0, .bool false, .int .u8 0]) ∧ i.size = 4 ∧ i.bytes = 24 := by
  have h : (Try.prog.info? 7).map (fun i => (i.zero, i.size, i.bytes)) = some (some (.agg #[.int .i64 0, .int .i64 0, .bool false, .int .u8 0]), 4, 24) := by kernel_rfl
  obtain ⟨i, h1, h2⟩ := Option.map_eq_some_iff.1 h
  simp only [Prod.mk.injEq] at h2
  exact ⟨i, h1, h2.1, h2.2.1, h2.2.2⟩
theorem st7 (H : AHeap) (id off : Nat) (x : Value) : astoreT Try.prog H 7 (.pointer (some ⟨id, off, none⟩)) x = if x.cells.size = 4 ∧ x.cells.toList.all oneCell = true then ((H[id]?).bind (rowStore off x.cells.toList)).map fun o => H.set id o else none := astore_rule sz7 H id off x
theorem fa7_0 (id off : Nat) : afieldAddr Try.prog 7 (.pointer (some ⟨id, off, none⟩)) 0 = some (.pointer (some ⟨id, off + 0, none⟩)) := afieldAddr_at (n := 0) (f := (fieldT Try.prog 7 0).getD default) (by kernel_rfl) (by kernel_rfl) (by kernel_rfl) id off
theorem fl7_0 (cs : List Value) : afield Try.prog 7 (.agg cs.toArray) 0 = cs[0]? := afield_one (f := (fieldT Try.prog 7 0).getD default) (by kernel_rfl) (by kernel_rfl) (by kernel_rfl) cs
theorem fa7_1 (id off : Nat) : afieldAddr Try.prog 7 (.pointer (some ⟨id, off, none⟩)) 1 = some (.pointer (some ⟨id, off + 1, none⟩)) := afieldAddr_at (n := 0) (f := (fieldT Try.prog 7 1).getD default) (by kernel_rfl) (by kernel_rfl) (by kernel_rfl) id off
theorem fl7_1 (cs : List Value) : afield Try.prog 7 (.agg cs.toArray) 1 = cs[1]? := afield_one (f := (fieldT Try.prog 7 1).getD default) (by kernel_rfl) (by kernel_rfl) (by kernel_rfl) cs
theorem fa7_2 (id off : Nat) : afieldAddr Try.prog 7 (.pointer (some ⟨id, off, none⟩)) 2 = some (.pointer (some ⟨id, off + 2, none⟩)) := afieldAddr_at (n := 0) (f := (fieldT Try.prog 7 2).getD default) (by kernel_rfl) (by kernel_rfl) (by kernel_rfl) id off
theorem fl7_2 (cs : List Value) : afield Try.prog 7 (.agg cs.toArray) 2 = cs[2]? := afield_one (f := (fieldT Try.prog 7 2).getD default) (by kernel_rfl) (by kernel_rfl) (by kernel_rfl) cs
theorem fa7_3 (id off : Nat) : afieldAddr Try.prog 7 (.pointer (some ⟨id, off, none⟩)) 3 = some (.pointer (some ⟨id, off + 3, none⟩)) := afieldAddr_at (n := 0) (f := (fieldT Try.prog 7 3).getD default) (by kernel_rfl) (by kernel_rfl) (by kernel_rfl) id off
theorem fl7_3 (cs : List Value) : afield Try.prog 7 (.agg cs.toArray) 3 = cs[3]? := afield_one (f := (fieldT Try.prog 7 3).getD default) (by kernel_rfl) (by kernel_rfl) (by kernel_rfl) cs
theorem sz8 : szT Try.prog 8 = some 4 := by kernel_rfl
theorem ag8 : aggT Try.prog 8 = some true := by kernel_rfl
theorem ze8 : zeroT Try.prog 8 = some (.agg #[.int .i64 0, .int .i64 0, .bool false, .int .u8 0]) := by kernel_rfl
theorem inf8 : ∃ i, Try.prog.info? 8 = some i ∧ i.zero = some (.agg #[.int .i64 0, .int .i64 0, .bool false, .int .u8 0]) ∧ i.size = 4 ∧ i.bytes = 24 := by
  have h : (Try.prog.info? 8).map (fun i => (i.zero, i.size, i.bytes)) = some (some (.agg #[.int .i64 0, .int .i64 0, .bool false, .int .u8 0]), 4, 24) := by kernel_rfl
  obtain ⟨i, h1, h2⟩ := Option.map_eq_some_iff.1 h
  simp only [Prod.mk.injEq] at h2
  exact ⟨i, h1, h2.1, h2.2.1, h2.2.2⟩
theorem st8 (H : AHeap) (id off : Nat) (x : Value) : astoreT Try.prog H 8 (.pointer (some ⟨id, off, none⟩)) x = if x.cells.size = 4 ∧ x.cells.toList.all oneCell = true then ((H[id]?).bind (rowStore off x.cells.toList)).map fun o => H.set id o else none := astore_rule sz8 H id off x
theorem fa8_0 (id off : Nat) : afieldAddr Try.prog 8 (.pointer (some ⟨id, off, none⟩)) 0 = some (.pointer (some ⟨id, off + 0, none⟩)) := afieldAddr_at (n := 0) (f := (fieldT Try.prog 8 0).getD default) (by kernel_rfl) (by kernel_rfl) (by kernel_rfl) id off
theorem fl8_0 (cs : List Value) : afield Try.prog 8 (.agg cs.toArray) 0 = cs[0]? := afield_one (f := (fieldT Try.prog 8 0).getD default) (by kernel_rfl) (by kernel_rfl) (by kernel_rfl) cs
theorem fa8_1 (id off : Nat) : afieldAddr Try.prog 8 (.pointer (some ⟨id, off, none⟩)) 1 = some (.pointer (some ⟨id, off + 1, none⟩)) := afieldAddr_at (n := 0) (f := (fieldT Try.prog 8 1).getD default) (by kernel_rfl) (by kernel_rfl) (by kernel_rfl) id off
theorem fl8_1 (cs : List Value) : afield Try.prog 8 (.agg cs.toArray) 1 = cs[1]? := afield_one (f := (fieldT Try.prog 8 1).getD default) (by kernel_rfl) (by kernel_rfl) (by kernel_rfl) cs
theorem fa8_2 (id off : Nat) : afieldAddr Try.prog 8 (.pointer (some ⟨id, off, none⟩)) 2 = some (.pointer (some ⟨id, off + 2, none⟩)) := afieldAddr_at (n := 0) (f := (fieldT Try.prog 8 2).getD default) (by kernel_rfl) (by kernel_rfl) (by kernel_rfl) id off
theorem fl8_2 (cs : List Value) : afield Try.prog 8 (.agg cs.toArray) 2 = cs[2]? := afield_one (f := (fieldT Try.prog 8 2).getD default) (by kernel_rfl) (by kernel_rfl) (by kernel_rfl) cs
theorem fa8_3 (id off : Nat) : afieldAddr Try.prog 8 (.pointer (some ⟨id, off, none⟩)) 3 = some (.pointer (some ⟨id, off + 3, none⟩)) := afieldAddr_at (n := 0) (f := (fieldT Try.prog 8 3).getD default) (by kernel_rfl) (by kernel_rfl) (by kernel_rfl) id off
theorem fl8_3 (cs : List Value) : afield Try.prog 8 (.agg cs.toArray) 3 = cs[3]? := afield_one (f := (fieldT Try.prog 8 3).getD default) (by kernel_rfl) (by kernel_rfl) (by kernel_rfl) cs
theorem sz9 : szT Try.prog 9 = some 1 := by kernel_rfl
theorem ag9 : aggT Try.prog 9 = some false := by kernel_rfl
theorem ze9 : zeroT Try.prog 9 = some (.string ByteArray.empty) := by kernel_rfl
theorem pz9 : plainV 100 (.string ByteArray.empty) = true := by kernel_rfl
theorem inf9 : ∃ i, Try.prog.info? 9 = some i ∧ i.zero = some (.string ByteArray.empty) ∧ i.size = 1 ∧ i.bytes = 16 := by
  have h : (Try.prog.info? 9).map (fun i => (i.zero, i.size, i.bytes)) = some (some (.string ByteArray.empty), 1, 16) := by kernel_rfl
  obtain ⟨i, h1, h2⟩ := Option.map_eq_some_iff.1 h
  simp only [Prod.mk.injEq] at h2
  exact ⟨i, h1, h2.1, h2.2.1, h2.2.2⟩
theorem st9 (H : AHeap) (id off : Nat) (x : Value) : astoreT Try.prog H 9 (.pointer (some ⟨id, off, none⟩)) x = if x.cells.size = 1 ∧ x.cells.toList.all oneCell = true then ((H[id]?).bind (rowStore off x.cells.toList)).map fun o => H.set id o else none := astore_rule sz9 H id off x
theorem kd9 : kindT Try.prog 9 = .str := by kernel_rfl
theorem sz10 : szT Try.prog 10 = some 1 := by kernel_rfl
theorem ag10 : aggT Try.prog 10 = some false := by kernel_rfl
theorem ze10 : zeroT Try.prog 10 = some (.string ByteArray.empty) := by kernel_rfl
theorem inf10 : ∃ i, Try.prog.info? 10 = some i ∧ i.zero = some (.string ByteArray.empty) ∧ i.size = 1 ∧ i.bytes = 16 := by
  have h : (Try.prog.info? 10).map (fun i => (i.zero, i.size, i.bytes)) = some (some (.string ByteArray.empty), 1, 16) := by kernel_rfl
  obtain ⟨i, h1, h2⟩ := Option.map_eq_some_iff.1 h
  simp only [Prod.mk.injEq] at h2
  exact ⟨i, h1, h2.1, h2.2.1, h2.2.2⟩
theorem st10 (H : AHeap) (id off : Nat) (x : Value) : astoreT Try.prog H 10 (.pointer (some ⟨id, off, none⟩)) x = if x.cells.size = 1 ∧ x.cells.toList.all oneCell = true then ((H[id]?).bind (rowStore off x.cells.toList)).map fun o => H.set id o else none := astore_rule sz10 H id off x
theorem kd10 : kindT Try.prog 10 = .str := by kernel_rfl
theorem sz11 : szT Try.prog 11 = some 1 := by kernel_rfl
theorem ag11 : aggT Try.prog 11 = some false := by kernel_rfl
theorem ze11 : zeroT Try.prog 11 = some (.string ByteArray.empty) := by kernel_rfl
theorem inf11 : ∃ i, Try.prog.info? 11 = some i ∧ i.zero = some (.string ByteArray.empty) ∧ i.size = 1 ∧ i.bytes = 16 := by
  have h : (Try.prog.info? 11).map (fun i => (i.zero, i.size, i.bytes)) = some (some (.string ByteArray.empty), 1, 16) := by kernel_rfl
  obtain ⟨i, h1, h2⟩ := Option.map_eq_some_iff.1 h
  simp only [Prod.mk.injEq] at h2
  exact ⟨i, h1, h2.1, h2.2.1, h2.2.2⟩
theorem st11 (H : AHeap) (id off : Nat) (x : Value) : astoreT Try.prog H 11 (.pointer (some ⟨id, off, none⟩)) x = if x.cells.size = 1 ∧ x.cells.toList.all oneCell = true then ((H[id]?).bind (rowStore off x.cells.toList)).map fun o => H.set id o else none := astore_rule sz11 H id off x
theorem kd11 : kindT Try.prog 11 = .str := by kernel_rfl
theorem sz12 : szT Try.prog 12 = some 1 := by kernel_rfl
theorem ag12 : aggT Try.prog 12 = some false := by kernel_rfl
theorem ze12 : zeroT Try.prog 12 = some (.int .u64 0) := by kernel_rfl
theorem pz12 : plainV 100 (.int .u64 0) = true := by kernel_rfl
theorem inf12 : ∃ i, Try.prog.info? 12 = some i ∧ i.zero = some (.int .u64 0) ∧ i.size = 1 ∧ i.bytes = 8 := by
  have h : (Try.prog.info? 12).map (fun i => (i.zero, i.size, i.bytes)) = some (some (.int .u64 0), 1, 8) := by kernel_rfl
  obtain ⟨i, h1, h2⟩ := Option.map_eq_some_iff.1 h
  simp only [Prod.mk.injEq] at h2
  exact ⟨i, h1, h2.1, h2.2.1, h2.2.2⟩
theorem st12 (H : AHeap) (id off : Nat) (x : Value) : astoreT Try.prog H 12 (.pointer (some ⟨id, off, none⟩)) x = if x.cells.size = 1 ∧ x.cells.toList.all oneCell = true then ((H[id]?).bind (rowStore off x.cells.toList)).map fun o => H.set id o else none := astore_rule sz12 H id off x
theorem kd12 : kindT Try.prog 12 = .int .u64 := by kernel_rfl
theorem sz13 : szT Try.prog 13 = some 2 := by kernel_rfl
theorem ag13 : aggT Try.prog 13 = some true := by kernel_rfl
theorem ze13 : zeroT Try.prog 13 = some (.agg #[.string ByteArray.empty, .int .u64 0]) := by kernel_rfl
theorem pz13 : plainV 100 (.agg #[.string ByteArray.empty, .int .u64 0]) = true := by kernel_rfl
theorem inf13 : ∃ i, Try.prog.info? 13 = some i ∧ i.zero = some (.agg #[.string ByteArray.empty, .int .u64 0]) ∧ i.size = 2 ∧ i.bytes = 24 := by
  have h : (Try.prog.info? 13).map (fun i => (i.zero, i.size, i.bytes)) = some (some (.agg #[.string ByteArray.empty, .int .u64 0]), 2, 24) := by kernel_rfl
  obtain ⟨i, h1, h2⟩ := Option.map_eq_some_iff.1 h
  simp only [Prod.mk.injEq] at h2
  exact ⟨i, h1, h2.1, h2.2.1, h2.2.2⟩
theorem st13 (H : AHeap) (id off : Nat) (x : Value) : astoreT Try.prog H 13 (.pointer (some ⟨id, off, none⟩)) x = if x.cells.size = 2 ∧ x.cells.toList.all oneCell = true then ((H[id]?).bind (rowStore off x.cells.toList)).map fun o => H.set id o else none := astore_rule sz13 H id off x
theorem fa13_0 (id off : Nat) : afieldAddr Try.prog 13 (.pointer (some ⟨id, off, none⟩)) 0 = some (.pointer (some ⟨id, off + 0, none⟩)) := afieldAddr_at (n := 0) (f := (fieldT Try.prog 13 0).getD default) (by kernel_rfl) (by kernel_rfl) (by kernel_rfl) id off
theorem fl13_0 (cs : List Value) : afield Try.prog 13 (.agg cs.toArray) 0 = cs[0]? := afield_one (f := (fieldT Try.prog 13 0).getD default) (by kernel_rfl) (by kernel_rfl) (by kernel_rfl) cs
theorem fa13_1 (id off : Nat) : afieldAddr Try.prog 13 (.pointer (some ⟨id, off, none⟩)) 1 = some (.pointer (some ⟨id, off + 1, none⟩)) := afieldAddr_at (n := 0) (f := (fieldT Try.prog 13 1).getD default) (by kernel_rfl) (by kernel_rfl) (by kernel_rfl) id off
theorem fl13_1 (cs : List Value) : afield Try.prog 13 (.agg cs.toArray) 1 = cs[1]? := afield_one (f := (fieldT Try.prog 13 1).getD default) (by kernel_rfl) (by kernel_rfl) (by kernel_rfl) cs
theorem sz14 : szT Try.prog 14 = some 2 := by kernel_rfl
theorem ag14 : aggT Try.prog 14 = some true := by kernel_rfl
theorem ze14 : zeroT Try.prog 14 = some (.agg #[.string ByteArray.empty, .int .u64 0]) := by kernel_rfl
theorem inf14 : ∃ i, Try.prog.info? 14 = some i ∧ i.zero = some (.agg #[.string ByteArray.empty, .int .u64 0]) ∧ i.size = 2 ∧ i.bytes = 24 := by
  have h : (Try.prog.info? 14).map (fun i => (i.zero, i.size, i.bytes)) = some (some (.agg #[.string ByteArray.empty, .int .u64 0]), 2, 24) := by kernel_rfl
  obtain ⟨i, h1, h2⟩ := Option.map_eq_some_iff.1 h
  simp only [Prod.mk.injEq] at h2
  exact ⟨i, h1, h2.1, h2.2.1, h2.2.2⟩
theorem st14 (H : AHeap) (id off : Nat) (x : Value) : astoreT Try.prog H 14 (.pointer (some ⟨id, off, none⟩)) x = if x.cells.size = 2 ∧ x.cells.toList.all oneCell = true then ((H[id]?).bind (rowStore off x.cells.toList)).map fun o => H.set id o else none := astore_rule sz14 H id off x
theorem fa14_0 (id off : Nat) : afieldAddr Try.prog 14 (.pointer (some ⟨id, off, none⟩)) 0 = some (.pointer (some ⟨id, off + 0, none⟩)) := afieldAddr_at (n := 0) (f := (fieldT Try.prog 14 0).getD default) (by kernel_rfl) (by kernel_rfl) (by kernel_rfl) id off
theorem fl14_0 (cs : List Value) : afield Try.prog 14 (.agg cs.toArray) 0 = cs[0]? := afield_one (f := (fieldT Try.prog 14 0).getD default) (by kernel_rfl) (by kernel_rfl) (by kernel_rfl) cs
theorem fa14_1 (id off : Nat) : afieldAddr Try.prog 14 (.pointer (some ⟨id, off, none⟩)) 1 = some (.pointer (some ⟨id, off + 1, none⟩)) := afieldAddr_at (n := 0) (f := (fieldT Try.prog 14 1).getD default) (by kernel_rfl) (by kernel_rfl) (by kernel_rfl) id off
theorem fl14_1 (cs : List Value) : afield Try.prog 14 (.agg cs.toArray) 1 = cs[1]? := afield_one (f := (fieldT Try.prog 14 1).getD default) (by kernel_rfl) (by kernel_rfl) (by kernel_rfl) cs
theorem sz15 : szT Try.prog 15 = some 1 := by kernel_rfl
theorem ag15 : aggT Try.prog 15 = some false := by kernel_rfl
theorem ze15 : zeroT Try.prog 15 = some (.pointer none) := by kernel_rfl
theorem pz15 : plainV 100 (.pointer none) = true := by kernel_rfl
theorem inf15 : ∃ i, Try.prog.info? 15 = some i ∧ i.zero = some (.pointer none) ∧ i.size = 1 ∧ i.bytes = 8 := by
  have h : (Try.prog.info? 15).map (fun i => (i.zero, i.size, i.bytes)) = some (some (.pointer none), 1, 8) := by kernel_rfl
  obtain ⟨i, h1, h2⟩ := Option.map_eq_some_iff.1 h
  simp only [Prod.mk.injEq] at h2
  exact ⟨i, h1, h2.1, h2.2.1, h2.2.2⟩
theorem st15 (H : AHeap) (id off : Nat) (x : Value) : astoreT Try.prog H 15 (.pointer (some ⟨id, off, none⟩)) x = if x.cells.size = 1 ∧ x.cells.toList.all oneCell = true then ((H[id]?).bind (rowStore off x.cells.toList)).map fun o => H.set id o else none := astore_rule sz15 H id off x
theorem en15 (H : AHeap) (xo yo : Operand) (a : Option Addr) : abin Try.prog H .eql 15 xo yo (.pointer a) (.pointer none) = some (.bool a.isNone) := abin_eq_ptrnil (e := 121) (by kernel_rfl) H xo yo a
theorem nn15 (H : AHeap) (xo yo : Operand) (a : Option Addr) : abin Try.prog H .neq 15 xo yo (.pointer a) (.pointer none) = some (.bool !a.isNone) := abin_ne_ptrnil (e := 121) (by kernel_rfl) H xo yo a
theorem sz16 : szT Try.prog 16 = some 1 := by kernel_rfl
theorem ag16 : aggT Try.prog 16 = some false := by kernel_rfl
theorem ze16 : zeroT Try.prog 16 = some (.pointer none) := by kernel_rfl
theorem inf16 : ∃ i, Try.prog.info? 16 = some i ∧ i.zero = some (.pointer none) ∧ i.size = 1 ∧ i.bytes = 8 := by
  have h : (Try.prog.info? 16).map (fun i => (i.zero, i.size, i.bytes)) = some (some (.pointer none), 1, 8) := by kernel_rfl
  obtain ⟨i, h1, h2⟩ := Option.map_eq_some_iff.1 h
  simp only [Prod.mk.injEq] at h2
  exact ⟨i, h1, h2.1, h2.2.1, h2.2.2⟩
theorem st16 (H : AHeap) (id off : Nat) (x : Value) : astoreT Try.prog H 16 (.pointer (some ⟨id, off, none⟩)) x = if x.cells.size = 1 ∧ x.cells.toList.all oneCell = true then ((H[id]?).bind (rowStore off x.cells.toList)).map fun o => H.set id o else none := astore_rule sz16 H id off x
theorem en16 (H : AHeap) (xo yo : Operand) (a : Option Addr) : abin Try.prog H .eql 16 xo yo (.pointer a) (.pointer none) = some (.bool a.isNone) := abin_eq_ptrnil (e := 124) (by kernel_rfl) H xo yo a
theorem nn16 (H : AHeap) (xo yo : Operand) (a : Option Addr) : abin Try.prog H .neq 16 xo yo (.pointer a) (.pointer none) = some (.bool !a.isNone) := abin_ne_ptrnil (e := 124) (by kernel_rfl) H xo yo a
theorem sz17 : szT Try.prog 17 = some 1 := by kernel_rfl
theorem ag17 : aggT Try.prog 17 = some false := by kernel_rfl
theorem ze17 : zeroT Try.prog 17 = some (.pointer none) := by kernel_rfl
theorem inf17 : ∃ i, Try.prog.info? 17 = some i ∧ i.zero = some (.pointer none) ∧ i.size = 1 ∧ i.bytes = 8 := by
  have h : (Try.prog.info? 17).map (fun i => (i.zero, i.size, i.bytes)) = some (some (.pointer none), 1, 8) := by kernel_rfl
  obtain ⟨i, h1, h2⟩ := Option.map_eq_some_iff.1 h
  simp only [Prod.mk.injEq] at h2
  exact ⟨i, h1, h2.1, h2.2.1, h2.2.2⟩
theorem st17 (H : AHeap) (id off : Nat) (x : Value) : astoreT Try.prog H 17 (.pointer (some ⟨id, off, none⟩)) x = if x.cells.size = 1 ∧ x.cells.toList.all oneCell = true then ((H[id]?).bind (rowStore off x.cells.toList)).map fun o => H.set id o else none := astore_rule sz17 H id off x
theorem en17 (H : AHeap) (xo yo : Operand) (a : Option Addr) : abin Try.prog H .eql 17 xo yo (.pointer a) (.pointer none) = some (.bool a.isNone) := abin_eq_ptrnil (e := 133) (by kernel_rfl) H xo yo a
theorem nn17 (H : AHeap) (xo yo : Operand) (a : Option Addr) : abin Try.prog H .neq 17 xo yo (.pointer a) (.pointer none) = some (.bool !a.isNone) := abin_ne_ptrnil (e := 133) (by kernel_rfl) H xo yo a
theorem sz18 : szT Try.prog 18 = some 1 := by kernel_rfl
theorem ag18 : aggT Try.prog 18 = some true := by kernel_rfl
theorem ze18 : zeroT Try.prog 18 = some (.agg #[.pointer none]) := by kernel_rfl
theorem pz18 : plainV 100 (.agg #[.pointer none]) = true := by kernel_rfl
theorem inf18 : ∃ i, Try.prog.info? 18 = some i ∧ i.zero = some (.agg #[.pointer none]) ∧ i.size = 1 ∧ i.bytes = 8 := by
  have h : (Try.prog.info? 18).map (fun i => (i.zero, i.size, i.bytes)) = some (some (.agg #[.pointer none]), 1, 8) := by kernel_rfl
  obtain ⟨i, h1, h2⟩ := Option.map_eq_some_iff.1 h
  simp only [Prod.mk.injEq] at h2
  exact ⟨i, h1, h2.1, h2.2.1, h2.2.2⟩
theorem st18 (H : AHeap) (id off : Nat) (x : Value) : astoreT Try.prog H 18 (.pointer (some ⟨id, off, none⟩)) x = if x.cells.size = 1 ∧ x.cells.toList.all oneCell = true then ((H[id]?).bind (rowStore off x.cells.toList)).map fun o => H.set id o else none := astore_rule sz18 H id off x
theorem fa18_0 (id off : Nat) : afieldAddr Try.prog 18 (.pointer (some ⟨id, off, none⟩)) 0 = some (.pointer (some ⟨id, off + 0, none⟩)) := afieldAddr_at (n := 0) (f := (fieldT Try.prog 18 0).getD default) (by kernel_rfl) (by kernel_rfl) (by kernel_rfl) id off
theorem fl18_0 (cs : List Value) : afield Try.prog 18 (.agg cs.toArray) 0 = cs[0]? := afield_one (f := (fieldT Try.prog 18 0).getD default) (by kernel_rfl) (by kernel_rfl) (by kernel_rfl) cs
theorem sz19 : szT Try.prog 19 = some 1 := by kernel_rfl
theorem ag19 : aggT Try.prog 19 = some true := by kernel_rfl
theorem ze19 : zeroT Try.prog 19 = some (.agg #[.pointer none]) := by kernel_rfl
theorem inf19 : ∃ i, Try.prog.info? 19 = some i ∧ i.zero = some (.agg #[.pointer none]) ∧ i.size = 1 ∧ i.bytes = 8 := by
  have h : (Try.prog.info? 19).map (fun i => (i.zero, i.size, i.bytes)) = some (some (.agg #[.pointer none]), 1, 8) := by kernel_rfl
  obtain ⟨i, h1, h2⟩ := Option.map_eq_some_iff.1 h
  simp only [Prod.mk.injEq] at h2
  exact ⟨i, h1, h2.1, h2.2.1, h2.2.2⟩
theorem st19 (H : AHeap) (id off : Nat) (x : Value) : astoreT Try.prog H 19 (.pointer (some ⟨id, off, none⟩)) x = if x.cells.size = 1 ∧ x.cells.toList.all oneCell = true then ((H[id]?).bind (rowStore off x.cells.toList)).map fun o => H.set id o else none := astore_rule sz19 H id off x
theorem fa19_0 (id off : Nat) : afieldAddr Try.prog 19 (.pointer (some ⟨id, off, none⟩)) 0 = some (.pointer (some ⟨id, off + 0, none⟩)) := afieldAddr_at (n := 0) (f := (fieldT Try.prog 19 0).getD default) (by kernel_rfl) (by kernel_rfl) (by kernel_rfl) id off
theorem fl19_0 (cs : List Value) : afield Try.prog 19 (.agg cs.toArray) 0 = cs[0]? := afield_one (f := (fieldT Try.prog 19 0).getD default) (by kernel_rfl) (by kernel_rfl) (by kernel_rfl) cs
theorem sz20 : szT Try.prog 20 = some 1 := by kernel_rfl
theorem ag20 : aggT Try.prog 20 = some false := by kernel_rfl
theorem ze20 : zeroT Try.prog 20 = some (.nilIface) := by kernel_rfl
theorem pz20 : plainV 100 (.nilIface) = true := by kernel_rfl
theorem inf20 : ∃ i, Try.prog.info? 20 = some i ∧ i.zero = some (.nilIface) ∧ i.size = 1 ∧ i.bytes = 16 := by
  have h : (Try.prog.info? 20).map (fun i => (i.zero, i.size, i.bytes)) = some (some (.nilIface), 1, 16) := by kernel_rfl
  obtain ⟨i, h1, h2⟩ := Option.map_eq_some_iff.1 h
  simp only [Prod.mk.injEq] at h2
  exact ⟨i, h1, h2.1, h2.2.1, h2.2.2⟩
theorem st20 (H : AHeap) (id off : Nat) (x : Value) : astoreT Try.prog H 20 (.pointer (some ⟨id, off, none⟩)) x = if x.cells.size = 1 ∧ x.cells.toList.all oneCell = true then ((H[id]?).bind (rowStore off x.cells.toList)).map fun o => H.set id o else none := astore_rule sz20 H id off x
theorem sz21 : szT Try.prog 21 = some 1 := by kernel_rfl
theorem ag21 : aggT Try.prog 21 = some false := by kernel_rfl
theorem ze21 : zeroT Try.prog 21 = some (.int .i32 0) := by kernel_rfl
theorem pz21 : plainV 100 (.int .i32 0) = true := by kernel_rfl
theorem inf21 : ∃ i, Try.prog.info? 21 = some i ∧ i.zero = some (.int .i32 0) ∧ i.size = 1 ∧ i.bytes = 4 := by
  have h : (Try.prog.info? 21).map (fun i => (i.zero, i.size, i.bytes)) = some (some (.int .i32 0), 1, 4) := by kernel_rfl
  obtain ⟨i, h1, h2⟩ := Option.map_eq_some_iff.1 h
  simp only [Prod.mk.injEq] at h2
  exact ⟨i, h1, h2.1, h2.2.1, h2.2.2⟩
theorem st21 (H : AHeap) (id off : Nat) (x : Value) : astoreT Try.prog H 21 (.pointer (some ⟨id, off, none⟩)) x = if x.cells.size = 1 ∧ x.cells.toList.all oneCell = true then ((H[id]?).bind (rowStore off x.cells.toList)).map fun o => H.set id o else none := astore_rule sz21 H id off x
theorem kd21 : kindT Try.prog 21 = .int .i32 := by kernel_rfl
theorem sz22 : szT Try.prog 22 = some 1 := by kernel_rfl
theorem ag22 : aggT Try.prog 22 = some false := by kernel_rfl
theorem ze22 : zeroT Try.prog 22 = some (.slice none 0 0) := by kernel_rfl
theorem pz22 : plainV 100 (.slice none 0 0) = true := by kernel_rfl
theorem inf22 : ∃ i, Try.prog.info? 22 = some i ∧ i.zero = some (.slice none 0 0) ∧ i.size = 1 ∧ i.bytes = 24 := by
  have h : (Try.prog.info? 22).map (fun i => (i.zero, i.size, i.bytes)) = some (some (.slice none 0 0), 1, 24) := by kernel_rfl
  obtain ⟨i, h1, h2⟩ := Option.map_eq_some_iff.1 h
  simp only [Prod.mk.injEq] at h2
  exact ⟨i, h1, h2.1, h2.2.1, h2.2.2⟩
theorem st22 (H : AHeap) (id off : Nat) (x : Value) : astoreT Try.prog H 22 (.pointer (some ⟨id, off, none⟩)) x = if x.cells.size = 1 ∧ x.cells.toList.all oneCell = true then ((H[id]?).bind (rowStore off x.cells.toList)).map fun o => H.set id o else none := astore_rule sz22 H id off x
theorem un22 : Try.prog.underlying 22 = some (.slice 40) := by kernel_rfl
theorem el22 : elemT Try.prog 22 = some 40 := by kernel_rfl
theorem ln22 (H : AHeap) (a : Option Addr) (m c : Nat) : alen Try.prog H 22 (.slice a m c) = some (.int .i64 m) := alen_slice un22 H a m c
theorem ix22 (id off m c : Nat) (ik : IntKind) (i : Int) : aindexAddr Try.prog 22 (.slice (some ⟨id, off, none⟩) m c) (.int ik i) = if 0 ≤ i ∧ i < m then some (.pointer (some ⟨id, off + i.toNat * 5, none⟩)) else none := aindexAddr_at un22 (by kernel_rfl) id off m c ik i
theorem en22 (H : AHeap) (xo yo : Operand) (a : Option Addr) (n c m q : Nat) : abin Try.prog H .eql 22 xo yo (.slice a n c) (.slice none m q) = some (.bool a.isNone) := abin_eq_slnil un22 H xo yo a n c m q
theorem nn22 (H : AHeap) (xo yo : Operand) (a : Option Addr) (n c m q : Nat) : abin Try.prog H .neq 22 xo yo (.slice a n c) (.slice none m q) = some (.bool !a.isNone) := abin_ne_slnil un22 H xo yo a n c m q
theorem sc22 (H : AHeap) (a : Option Addr) (n c : Nat) (lo hi : Option Value) : aslice Try.prog H 22 (.slice a n c) lo hi none = (optB hi (some n) (capOf n c)).bind fun h => (optB lo (some 0) h).bind fun l => cut H 5 a c l h := aslice_sl un22 (by kernel_rfl) H a n c lo hi
theorem sz23 : szT Try.prog 23 = some 1 := by kernel_rfl
theorem ag23 : aggT Try.prog 23 = some false := by kernel_rfl
theorem ze23 : zeroT Try.prog 23 = some (.slice none 0 0) := by kernel_rfl
theorem inf23 : ∃ i, Try.prog.info? 23 = some i ∧ i.zero = some (.slice none 0 0) ∧ i.size = 1 ∧ i.bytes = 24 := by
  have h : (Try.prog.info? 23).map (fun i => (i.zero, i.size, i.bytes)) = some (some (.slice none 0 0), 1, 24) := by kernel_rfl
  obtain ⟨i, h1, h2⟩ := Option.map_eq_some_iff.1 h
  simp only [Prod.mk.injEq] at h2
  exact ⟨i, h1, h2.1, h2.2.1, h2.2.2⟩
theorem st23 (H : AHeap) (id off : Nat) (x : Value) : astoreT Try.prog H 23 (.pointer (some ⟨id, off, none⟩)) x = if x.cells.size = 1 ∧ x.cells.toList.all oneCell = true then ((H[id]?).bind (rowStore off x.cells.toList)).map fun o => H.set id o else none := astore_rule sz23 H id off x
theorem un23 : Try.prog.underlying 23 = some (.slice 42) := by kernel_rfl
theorem el23 : elemT Try.prog 23 = some 42 := by kernel_rfl
theorem ln23 (H : AHeap) (a : Option Addr) (m c : Nat) : alen Try.prog H 23 (.slice a m c) = some (.int .i64 m) := alen_slice un23 H a m c
theorem ix23 (id off m c : Nat) (ik : IntKind) (i : Int) : aindexAddr Try.prog 23 (.slice (some ⟨id, off, none⟩) m c) (.int ik i) = if 0 ≤ i ∧ i < m then some (.pointer (some ⟨id, off + i.toNat * 7, none⟩)) else none := aindexAddr_at un23 (by kernel_rfl) id off m c ik i
theorem en23 (H : AHeap) (xo yo : Operand) (a : Option Addr) (n c m q : Nat) : abin Try.prog H .eql 23 xo yo (.slice a n c) (.slice none m q) = some (.bool a.isNone) := abin_eq_slnil un23 H xo yo a n c m q
theorem nn23 (H : AHeap) (xo yo : Operand) (a : Option Addr) (n c m q : Nat) : abin Try.prog H .neq 23 xo yo (.slice a n c) (.slice none m q) = some (.bool !a.isNone) := abin_ne_slnil un23 H xo yo a n c m q
theorem sc23 (H : AHeap) (a : Option Addr) (n c : Nat) (lo hi : Option Value) : aslice Try.prog H 23 (.slice a n c) lo hi none = (optB hi (some n) (capOf n c)).bind fun h => (optB lo (some 0) h).bind fun l => cut H 7 a c l h := aslice_sl un23 (by kernel_rfl) H a n c lo hi
theorem sz24 : szT Try.prog 24 = some 1 := by kernel_rfl
theorem ag24 : aggT Try.prog 24 = some false := by kernel_rfl
theorem ze24 : zeroT Try.prog 24 = some (.slice none 0 0) := by kernel_rfl
theorem inf24 : ∃ i, Try.prog.info? 24 = some i ∧ i.zero = some (.slice none 0 0) ∧ i.size = 1 ∧ i.bytes = 24 := by
  have h : (Try.prog.info? 24).map (fun i => (i.zero, i.size, i.bytes)) = some (some (.slice none 0 0), 1, 24) := by kernel_rfl
  obtain ⟨i, h1, h2⟩ := Option.map_eq_some_iff.1 h
  simp only [Prod.mk.injEq] at h2
  exact ⟨i, h1, h2.1, h2.2.1, h2.2.2⟩
theorem st24 (H : AHeap) (id off : Nat) (x : Value) : astoreT Try.prog H 24 (.pointer (some ⟨id, off, none⟩)) x = if x.cells.size = 1 ∧ x.cells.toList.all oneCell = true then ((H[id]?).bind (rowStore off x.cells.toList)).map fun o => H.set id o else none := astore_rule sz24 H id off x
theorem un24 : Try.prog.underlying 24 = some (.slice 3) := by kernel_rfl
theorem el24 : elemT Try.prog 24 = some 3 := by kernel_rfl
theorem ln24 (H : AHeap) (a : Option Addr) (m c : Nat) : alen Try.prog H 24 (.slice a m c) = some (.int .i64 m) := alen_slice un24 H a m c
theorem ix24 (id off m c : Nat) (ik : IntKind) (i : Int) : aindexAddr Try.prog 24 (.slice (some ⟨id, off, none⟩) m c) (.int ik i) = if 0 ≤ i ∧ i < m then some (.pointer (some ⟨id, off + i.toNat * 1, none⟩)) else none := aindexAddr_at un24 (by kernel_rfl) id off m c ik i
theorem en24 (H : AHeap) (xo yo : Operand) (a : Option Addr) (n c m q : Nat) : abin Try.prog H .eql 24 xo yo (.slice a n c) (.slice none m q) = some (.bool a.isNone) := abin_eq_slnil un24 H xo yo a n c m q
theorem nn24 (H : AHeap) (xo yo : Operand) (a : Option Addr) (n c m q : Nat) : abin Try.prog H .neq 24 xo yo (.slice a n c) (.slice none m q) = some (.bool !a.isNone) := abin_ne_slnil un24 H xo yo a n c m q
theorem sc24 (H : AHeap) (a : Option Addr) (n c : Nat) (lo hi : Option Value) : aslice Try.prog H 24 (.slice a n c) lo hi none = (optB hi (some n) (capOf n c)).bind fun h => (optB lo (some 0) h).bind fun l => cut H 1 a c l h := aslice_sl un24 (by kernel_rfl) H a n c lo hi
theorem sz37 : szT Try.prog 37 = some 2 := by kernel_rfl
theorem ag37 : aggT Try.prog 37 = some true := by kernel_rfl
theorem ze37 : zeroT Try.prog 37 = some (.agg #[.int .i64 0, .int .i64 0]) := by kernel_rfl
theorem pz37 : plainV 100 (.agg #[.int .i64 0, .int .i64 0]) = true := by kernel_rfl
theorem inf37 : ∃ i, Try.prog.info? 37 = some i ∧ i.zero = some (.agg #[.int .i64 0, .int .i64 0]) ∧ i.size = 2 ∧ i.bytes = 16 := by
  have h : (Try.prog.info? 37).map (fun i => (i.zero, i.size, i.bytes)) = some (some (.agg #[.int .i64 0, .int .i64 0]), 2, 16) := by kernel_rfl
  obtain ⟨i, h1, h2⟩ := Option.map_eq_some_iff.1 h
  simp only [Prod.mk.injEq] at h2
  exact ⟨i, h1, h2.1, h2.2.1, h2.2.2⟩
theorem st37 (H : AHeap) (id off : Nat) (x : Value) : astoreT Try.prog H 37 (.pointer (some ⟨id, off, none⟩)) x = if x.cells.size = 2 ∧ x.cells.toList.all oneCell = true then ((H[id]?).bind (rowStore off x.cells.toList)).map fun o => H.set id o else none := astore_rule sz37 H id off x
theorem fa37_0 (id off : Nat) : afieldAddr Try.prog 37 (.pointer (some ⟨id, off, none⟩)) 0 = some (.pointer (some ⟨id, off + 0, none⟩)) := afieldAddr_at (n := 0) (f := (fieldT Try.prog 37 0).getD default) (by kernel_rfl) (by kernel_rfl) (by kernel_rfl) id off
theorem fl37_0 (cs : List Value) : afield Try.prog 37 (.agg cs.toArray) 0 = cs[0]? := afield_one (f := (fieldT Try.prog 37 0).getD default) (by kernel_rfl) (by kernel_rfl) (by kernel_rfl) cs
theorem fa37_1 (id off : Nat) : afieldAddr Try.prog 37 (.pointer (some ⟨id, off, none⟩)) 1 = some (.pointer (some ⟨id, off + 1, none⟩)) := afieldAddr_at (n := 0) (f := (fieldT Try.prog 37 1).getD default) (by kernel_rfl) (by kernel_rfl) (by kernel_rfl) id off
theorem fl37_1 (cs : List Value) : afield Try.prog 37 (.agg cs.toArray) 1 = cs[1]? := afield_one (f := (fieldT Try.prog 37 1).getD default) (by kernel_rfl) (by kernel_rfl) (by kernel_rfl) cs
theorem sz38 : szT Try.prog 38 = some 2 := by kernel_rfl
theorem ag38 : aggT Try.prog 38 = some true := by kernel_rfl
theorem ze38 : zeroT Try.prog 38 = some (.agg #[.int .i64 0, .int .i64 0]) := by kernel_rfl
theorem inf38 : ∃ i, Try.prog.info? 38 = some i ∧ i.zero = some (.agg #[.int .i64 0, .int .i64 0]) ∧ i.size = 2 ∧ i.bytes = 16 := by
  have h : (Try.prog.info? 38).map (fun i => (i.zero, i.size, i.bytes)) = some (some (.agg #[.int .i64 0, .int .i64 0]), 2, 16) := by kernel_rfl
  obtain ⟨i, h1, h2⟩ := Option.map_eq_some_iff.1 h
  simp only [Prod.mk.injEq] at h2
  exact ⟨i, h1, h2.1, h2.2.1, h2.2.2⟩
theorem st38 (H : AHeap) (id off : Nat) (x : Value) : astoreT Try.prog H 38 (.pointer (some ⟨id, off, none⟩)) x = if x.cells.size = 2 ∧ x.cells.toList.all oneCell = true then ((H[id]?).bind (rowStore off x.cells.toList)).map fun o => H.set id o else none := astore_rule sz38 H id off x
theorem fa38_0 (id off : Nat) : afieldAddr Try.prog 38 (.pointer (some ⟨id, off, none⟩)) 0 = some (.pointer (some ⟨id, off + 0, none⟩)) := afieldAddr_at (n := 0) (f := (fieldT Try.prog 38 0).getD default) (by kernel_rfl) (by kernel_rfl) (by kernel_rfl) id off
theorem fl38_0 (cs : List Value) : afield Try.prog 38 (.agg cs.toArray) 0 = cs[0]? := afield_one (f := (fieldT Try.prog 38 0).getD default) (by kernel_rfl) (by kernel_rfl) (by kernel_rfl) cs
theorem fa38_1 (id off : Nat) : afieldAddr Try.prog 38 (.pointer (some ⟨id, off, none⟩)) 1 = some (.pointer (some ⟨id, off + 1, none⟩)) := afieldAddr_at (n := 0) (f := (fieldT Try.prog 38 1).getD default) (by kernel_rfl) (by kernel_rfl) (by kernel_rfl) id off
theorem fl38_1 (cs : List Value) : afield Try.prog 38 (.agg cs.toArray) 1 = cs[1]? := afield_one (f := (fieldT Try.prog 38 1).getD default) (by kernel_rfl) (by kernel_rfl) (by kernel_rfl) cs
theorem sz39 : szT Try.prog 39 = some 5 := by kernel_rfl
theorem ag39 : aggT Try.prog 39 = some true := by kernel_rfl
theorem ze39 : zeroT Try.prog 39 = some (.agg #[.int .i64 0, .int .i64 0, .int .i64 0, .int .i64 0, .int .i64 0]) := by kernel_rfl
theorem pz39 : plainV 100 (.agg #[.int .i64 0, .int .i64 0, .int .i64 0, .int .i64 0, .int .i64 0]) = true := by kernel_rfl
theorem inf39 : ∃ i, Try.prog.info? 39 = some i ∧ i.zero = some (.agg #[.int .i64 0, .int .i64 0, .int .i64 0, .int .i64 0, .int .i64 0]) ∧ i.size = 5 ∧ i.bytes = 40 := by
  have h : (Try.prog.info? 39).map (fun i => (i.zero, i.size, i.bytes)) = some (some (.agg #[.int .i64 0, .int .i64 0, .int .i64 0, .int .i64 0, .int .i64 0]), 5, 40) := by kernel_rfl
  obtain ⟨i, h1, h2⟩ := Option.map_eq_some_iff.1 h
  simp only [Prod.mk.injEq] at h2
  exact ⟨i, h1, h2.1, h2.2.1, h2.2.2⟩
theorem st39 (H : AHeap) (id off : Nat) (x : Value) : astoreT Try.prog H 39 (.pointer (some ⟨id, off, none⟩)) x = if x.cells.size = 5 ∧ x.cells.toList.all oneCell = true then ((H[id]?).bind (rowStore off x.cells.toList)).map fun o => H.set id o else none := astore_rule sz39 H id off x
theorem fa39_0 (id off : Nat) : afieldAddr Try.prog 39 (.pointer (some ⟨id, off, none⟩)) 0 = some (.pointer (some ⟨id, off + 0, none⟩)) := afieldAddr_at (n := 1) (f := (fieldT Try.prog 39 0).getD default) (by kernel_rfl) (by kernel_rfl) (by kernel_rfl) id off
theorem fl39_0 (cs : List Value) : afield Try.prog 39 (.agg cs.toArray) 0 = some (.agg ((cs.drop 0).take 2).toArray) := afield_agg (f := (fieldT Try.prog 39 0).getD default) (by kernel_rfl) (by kernel_rfl) (by kernel_rfl) (by kernel_rfl) cs
theorem fa39_1 (id off : Nat) : afieldAddr Try.prog 39 (.pointer (some ⟨id, off, none⟩)) 1 = some (.pointer (some ⟨id, off + 2, none⟩)) := afieldAddr_at (n := 0) (f := (fieldT Try.prog 39 1).getD default) (by kernel_rfl) (by kernel_rfl) (by kernel_rfl) id off
theorem fl39_1 (cs : List Value) : afield Try.prog 39 (.agg cs.toArray) 1 = cs[2]? := afield_one (f := (fieldT Try.prog 39 1).getD default) (by kernel_rfl) (by kernel_rfl) (by kernel_rfl) cs
theorem fa39_2 (id off : Nat) : afieldAddr Try.prog 39 (.pointer (some ⟨id, off, none⟩)) 2 = some (.pointer (some ⟨id, off + 3, none⟩)) := afieldAddr_at (n := 0) (f := (fieldT Try.prog 39 2).getD default) (by kernel_rfl) (by kernel_rfl) (by kernel_rfl) id off
theorem fl39_2 (cs : List Value) : afield Try.prog 39 (.agg cs.toArray) 2 = cs[3]? := afield_one (f := (fieldT Try.prog 39 2).getD default) (by kernel_rfl) (by kernel_rfl) (by kernel_rfl) cs
theorem fa39_3 (id off : Nat) : afieldAddr Try.prog 39 (.pointer (some ⟨id, off, none⟩)) 3 = some (.pointer (some ⟨id, off + 4, none⟩)) := afieldAddr_at (n := 0) (f := (fieldT Try.prog 39 3).getD default) (by kernel_rfl) (by kernel_rfl) (by kernel_rfl) id off
theorem fl39_3 (cs : List Value) : afield Try.prog 39 (.agg cs.toArray) 3 = cs[4]? := afield_one (f := (fieldT Try.prog 39 3).getD default) (by kernel_rfl) (by kernel_rfl) (by kernel_rfl) cs
theorem sz40 : szT Try.prog 40 = some 5 := by kernel_rfl
theorem ag40 : aggT Try.prog 40 = some true := by kernel_rfl
theorem ze40 : zeroT Try.prog 40 = some (.agg #[.int .i64 0, .int .i64 0, .int .i64 0, .int .i64 0, .int .i64 0]) := by kernel_rfl
theorem inf40 : ∃ i, Try.prog.info? 40 = some i ∧ i.zero = some (.agg #[.int .i64 0, .int .i64 0, .int .i64 0, .int .i64 0, .int .i64 0]) ∧ i.size = 5 ∧ i.bytes = 40 := by
  have h : (Try.prog.info? 40).map (fun i => (i.zero, i.size, i.bytes)) = some (some (.agg #[.int .i64 0, .int .i64 0, .int .i64 0, .int .i64 0, .int .i64 0]), 5, 40) := by kernel_rfl
  obtain ⟨i, h1, h2⟩ := Option.map_eq_some_iff.1 h
  simp only [Prod.mk.injEq] at h2
  exact ⟨i, h1, h2.1, h2.2.1, h2.2.2⟩
theorem st40 (H : AHeap) (id off : Nat) (x : Value) : astoreT Try.prog H 40 (.pointer (some ⟨id, off, none⟩)) x = if x.cells.size = 5 ∧ x.cells.toList.all oneCell = true then ((H[id]?).bind (rowStore off x.cells.toList)).map fun o => H.set id o else none := astore_rule sz40 H id off x
theorem fa40_0 (id off : Nat) : afieldAddr Try.prog 40 (.pointer (some ⟨id, off, none⟩)) 0 = some (.pointer (some ⟨id, off + 0, none⟩)) := afieldAddr_at (n := 1) (f := (fieldT Try.prog 40 0).getD default) (by kernel_rfl) (by kernel_rfl) (by kernel_rfl) id off
theorem fl40_0 (cs : List Value) : afield Try.prog 40 (.agg cs.toArray) 0 = some (.agg ((cs.drop 0).take 2).toArray) := afield_agg (f := (fieldT Try.prog 40 0).getD default) (by kernel_rfl) (by kernel_rfl) (by kernel_rfl) (by kernel_rfl) cs
theorem fa40_1 (id off : Nat) : afieldAddr Try.prog 40 (.pointer (some ⟨id, off, none⟩)) 1 = some (.pointer (some ⟨id, off + 2, none⟩)) := afieldAddr_at (n := 0) (f := (fieldT Try.prog 40 1).getD default) (by kernel_rfl) (by kernel_rfl) (by kernel_rfl) id off
theorem fl40_1 (cs : List Value) : afield Try.prog 40 (.agg cs.toArray) 1 = cs[2]? := afield_one (f := (fieldT Try.prog 40 1).getD default) (by kernel_rfl) (by kernel_rfl) (by kernel_rfl) cs
theorem fa40_2 (id off : Nat) : afieldAddr Try.prog 40 (.pointer (some ⟨id, off, none⟩)) 2 = some (.pointer (some ⟨id, off + 3, none⟩)) := afieldAddr_at (n := 0) (f := (fieldT Try.prog 40 2).getD default) (by kernel_rfl) (by kernel_rfl) (by kernel_rfl) id off
theorem fl40_2 (cs : List Value) : afield Try.prog 40 (.agg cs.toArray) 2 = cs[3]? := afield_one (f := (fieldT Try.prog 40 2).getD default) (by kernel_rfl) (by kernel_rfl) (by kernel_rfl) cs
theorem fa40_3 (id off : Nat) : afieldAddr Try.prog 40 (.pointer (some ⟨id, off, none⟩)) 3 = some (.pointer (some ⟨id, off + 4, none⟩)) := afieldAddr_at (n := 0) (f := (fieldT Try.prog 40 3).getD default) (by kernel_rfl) (by kernel_rfl) (by kernel_rfl) id off
theorem fl40_3 (cs : List Value) : afield Try.prog 40 (.agg cs.toArray) 3 = cs[4]? := afield_one (f := (fieldT Try.prog 40 3).getD default) (by kernel_rfl) (by kernel_rfl) (by kernel_rfl) cs
theorem sz41 : szT Try.prog 41 = some 7 := by kernel_rfl
theorem ag41 : aggT Try.prog 41 = some true := by kernel_rfl
theorem ze41 : zeroT Try.prog 41 = some (.agg #[.bool false, .int .i64 0, .int .i64 0, .int .i64 0, .int .i64 0, .int .i64 0, .int .i64 0]) := by kernel_rfl
theorem pz41 : plainV 100 (.agg #[.bool false, .int .i64 0, .int .i64 0, .int .i64 0, .int .i64 0, .int .i64 0, .int .i64 0]) = true := by kernel_rfl
theorem inf41 : ∃ i, Try.prog.info? 41 = some i ∧ i.zero = some (.agg #[.bool false, .int .i64 0, .int .i64 0, .int .i64 0, .int .i64 0, .int .i64 0, .int .i64 0]) ∧ i.size = 7 ∧ i.bytes = 56 := by
  have h : (Try.prog.info? 41).map (fun i => (i.zero, i.size, i.bytes)) = some (some (.agg #[.bool false, .int .i64 0, .int .i64 0, .int .i64 0, .int .i64 0, .int .i64 0, .int .i64 0]), 7, 56) := by kernel_rfl
  obtain ⟨i, h1, h2⟩ := Option.map_eq_some_iff.1 h
  simp only [Prod.mk.injEq] at h2
  exact ⟨i, h1, h2.1, h2.2.1, h2.2.2⟩
theorem st41 (H : AHeap) (id off : Nat) (x : Value) : astoreT Try.prog H 41 (.pointer (some ⟨id, off, none⟩)) x = if x.cells.size = 7 ∧ x.cells.toList.all oneCell = true then ((H[id]?).bind (rowStore off x.cells.toList)).map fun o => H.set id o else none := astore_rule sz41 H id off x
theorem fa41_0 (id off : Nat) : afieldAddr Try.prog 41 (.pointer (some ⟨id, off, none⟩)) 0 = some (.pointer (some ⟨id, off + 0, none⟩)) := afieldAddr_at (n := 0) (f := (fieldT Try.prog 41 0).getD default) (by kernel_rfl) (by kernel_rfl) (by kernel_rfl) id off
theorem fl41_0 (cs : List Value) : afield Try.prog 41 (.agg cs.toArray) 0 = cs[0]? := afield_one (f := (fieldT Try.prog 41 0).getD default) (by kernel_rfl) (by kernel_rfl) (by kernel_rfl) cs
theorem fa41_1 (id off : Nat) : afieldAddr Try.prog 41 (.pointer (some ⟨id, off, none⟩)) 1 = some (.pointer (some ⟨id, off + 1, none⟩)) := afieldAddr_at (n := 4) (f := (fieldT Try.prog 41 1).getD default) (by kernel_rfl) (by kernel_rfl) (by kernel_rfl) id off
theorem fl41_1 (cs : List Value) : afield Try.prog 41 (.agg cs.toArray) 1 = some (.agg ((cs.drop 1).take 5).toArray) := afield_agg (f := (fieldT Try.prog 41 1).getD default) (by kernel_rfl) (by kernel_rfl) (by kernel_rfl) (by kernel_rfl) cs
theorem fa41_2 (id off : Nat) : afieldAddr Try.prog 41 (.pointer (some ⟨id, off, none⟩)) 2 = some (.pointer (some ⟨id, off + 6, none⟩)) := afieldAddr_at (n := 0) (f := (fieldT Try.prog 41 2).getD default) (by kernel_rfl) (by kernel_rfl) (by kernel_rfl) id off
theorem fl41_2 (cs : List Value) : afield Try.prog 41 (.agg cs.toArray) 2 = cs[6]? := afield_one (f := (fieldT Try.prog 41 2).getD default) (by kernel_rfl) (by kernel_rfl) (by kernel_rfl) cs
theorem sz42 : szT Try.prog 42 = some 7 := by kernel_rfl
theorem ag42 : aggT Try.prog 42 = some true := by kernel_rfl
theorem ze42 : zeroT Try.prog 42 = some (.agg #[.bool false, .int .i64 0, .int .i64 0, .int .i64 0, .int .i64 0, .int .i64 0, .int .i64 0]) := by kernel_rfl
theorem inf42 : ∃ i, Try.prog.info? 42 = some i ∧ i.zero = some (.agg #[.bool false, .int .i64 0, .int .i64 0, .int .i64 0, .int .i64 0, .int .i64 0, .int .i64 0]) ∧ i.size = 7 ∧ i.bytes = 56 := by
  have h : (Try.prog.info? 42).map (fun i => (i.zero, i.size, i.bytes)) = some (some (.agg #[.bool false, .int .i64 0, .int .i64 0, .int .i64 0, .int .i64 0, .int .i64 0, .int .i64 0]), 7, 56) := by kernel_rfl
  obtain ⟨i, h1, h2⟩ := Option.map_eq_some_iff.1 h
  simp only [Prod.mk.injEq] at h2
  exact ⟨i, h1, h2.1, h2.2.1, h2.2.2⟩
theorem st42 (H : AHeap) (id off : Nat) (x : Value) : astoreT Try.prog H 42 (.pointer (some ⟨id, off, none⟩)) x = if x.cells.size = 7 ∧ x.cells.toList.all oneCell = true then ((H[id]?).bind (rowStore off x.cells.toList)).map fun o => H.set id o else none := astore_rule sz42 H id off x
theorem fa42_0 (id off : Nat) : afieldAddr Try.prog 42 (.pointer (some ⟨id, off, none⟩)) 0 = some (.pointer (some ⟨id, off + 0, none⟩)) := afieldAddr_at (n := 0) (f := (fieldT Try.prog 42 0).getD default) (by kernel_rfl) (by kernel_rfl) (by kernel_rfl) id off
theorem fl42_0 (cs : List Value) : afield Try.prog 42 (.agg cs.toArray) 0 = cs[0]? := afield_one (f := (fieldT Try.prog 42 0).getD default) (by kernel_rfl) (by kernel_rfl) (by kernel_rfl) cs
theorem fa42_1 (id off : Nat) : afieldAddr Try.prog 42 (.pointer (some ⟨id, off, none⟩)) 1 = some (.pointer (some ⟨id, off + 1, none⟩)) := afieldAddr_at (n := 4) (f := (fieldT Try.prog 42 1).getD default) (by kernel_rfl) (by kernel_rfl) (by kernel_rfl) id off
theorem fl42_1 (cs : List Value) : afield Try.prog 42 (.agg cs.toArray) 1 = some (.agg ((cs.drop 1).take 5).toArray) := afield_agg (f := (fieldT Try.prog 42 1).getD default) (by kernel_rfl) (by kernel_rfl) (by kernel_rfl) (by kernel_rfl) cs
theorem fa42_2 (id off : Nat) : afieldAddr Try.prog 42 (.pointer (some ⟨id, off, none⟩)) 2 = some (.pointer (some ⟨id, off + 6, none⟩)) := afieldAddr_at (n := 0) (f := (fieldT Try.prog 42 2).getD default) (by kernel_rfl) (by kernel_rfl) (by kernel_rfl) id off
theorem fl42_2 (cs : List Value) : afield Try.prog 42 (.agg cs.toArray) 2 = cs[6]? := afield_one (f := (fieldT Try.prog 42 2).getD default) (by kernel_rfl) (by kernel_rfl) (by kernel_rfl) cs
theorem sz49 : szT Try.prog 49 = some 1 := by kernel_rfl
theorem ag49 : aggT Try.prog 49 = some false := by kernel_rfl
theorem ze49 : zeroT Try.prog 49 = some (.pointer none) := by kernel_rfl
theorem inf49 : ∃ i, Try.prog.info? 49 = some i ∧ i.zero = some (.pointer none) ∧ i.size = 1 ∧ i.bytes = 8 := by
  have h : (Try.prog.info? 49).map (fun i => (i.zero, i.size, i.bytes)) = some (some (.pointer none), 1, 8) := by kernel_rfl
  obtain ⟨i, h1, h2⟩ := Option.map_eq_some_iff.1 h
  simp only [Prod.mk.injEq] at h2
  exact ⟨i, h1, h2.1, h2.2.1, h2.2.2⟩
theorem st49 (H : AHeap) (id off : Nat) (x : Value) : astoreT Try.prog H 49 (.pointer (some ⟨id, off, none⟩)) x = if x.cells.size = 1 ∧ x.cells.toList.all oneCell = true then ((H[id]?).bind (rowStore off x.cells.toList)).map fun o => H.set id o else none := astore_rule sz49 H id off x
theorem en49 (H : AHeap) (xo yo : Operand) (a : Option Addr) : abin Try.prog H .eql 49 xo yo (.pointer a) (.pointer none) = some (.bool a.isNone) := abin_eq_ptrnil (e := 54) (by kernel_rfl) H xo yo a
theorem nn49 (H : AHeap) (xo yo : Operand) (a : Option Addr) : abin Try.prog H .neq 49 xo yo (.pointer a) (.pointer none) = some (.bool !a.isNone) := abin_ne_ptrnil (e := 54) (by kernel_rfl) H xo yo a
theorem sz51 : szT Try.prog 51 = some 1 := by kernel_rfl
theorem ag51 : aggT Try.prog 51 = some false := by kernel_rfl
theorem ze51 : zeroT Try.prog 51 = some (.map none) := by kernel_rfl
theorem pz51 : plainV 100 (.map none) = true := by kernel_rfl
theorem inf51 : ∃ i, Try.prog.info? 51 = some i ∧ i.zero = some (.map none) ∧ i.size = 1 ∧ i.bytes = 8 := by
  have h : (Try.prog.info? 51).map (fun i => (i.zero, i.size, i.bytes)) = some (some (.map none), 1, 8) := by kernel_rfl
  obtain ⟨i, h1, h2⟩ := Option.map_eq_some_iff.1 h
  simp only [Prod.mk.injEq] at h2
  exact ⟨i, h1, h2.1, h2.2.1, h2.2.2⟩
theorem st51 (H : AHeap) (id off : Nat) (x : Value) : astoreT Try.prog H 51 (.pointer (some ⟨id, off, none⟩)) x = if x.cells.size = 1 ∧ x.cells.toList.all oneCell = true then ((H[id]?).bind (rowStore off x.cells.toList)).map fun o => H.set id o else none := astore_rule sz51 H id off x
theorem en51 (H : AHeap) (xo yo : Operand) (a : Option Nat) : abin Try.prog H .eql 51 xo yo (.map a) (.map none) = some (.bool a.isNone) := abin_eq_mapnil (k := 63) (e := 3) (by kernel_rfl) H xo yo a
theorem nn51 (H : AHeap) (xo yo : Operand) (a : Option Nat) : abin Try.prog H .neq 51 xo yo (.map a) (.map none) = some (.bool !a.isNone) := abin_ne_mapnil (k := 63) (e := 3) (by kernel_rfl) H xo yo a
theorem un51 : Try.prog.underlying 51 = some (.map 63 3) := by kernel_rfl
theorem mt51 : mapT Try.prog 51 = some (63, 3) := by kernel_rfl
theorem sz52 : szT Try.prog 52 = some 1 := by kernel_rfl
theorem ag52 : aggT Try.prog 52 = some false := by kernel_rfl
theorem ze52 : zeroT Try.prog 52 = some (.map none) := by kernel_rfl
theorem inf52 : ∃ i, Try.prog.info? 52 = some i ∧ i.zero = some (.map none) ∧ i.size = 1 ∧ i.bytes = 8 := by
  have h : (Try.prog.info? 52).map (fun i => (i.zero, i.size, i.bytes)) = some (some (.map none), 1, 8) := by kernel_rfl
  obtain ⟨i, h1, h2⟩ := Option.map_eq_some_iff.1 h
  simp only [Prod.mk.injEq] at h2
  exact ⟨i, h1, h2.1, h2.2.1, h2.2.2⟩
theorem st52 (H : AHeap) (id off : Nat) (x : Value) : astoreT Try.prog H 52 (.pointer (some ⟨id, off, none⟩)) x = if x.cells.size = 1 ∧ x.cells.toList.all oneCell = true then ((H[id]?).bind (rowStore off x.cells.toList)).map fun o => H.set id o else none := astore_rule sz52 H id off x
theorem en52 (H : AHeap) (xo yo : Operand) (a : Option Nat) : abin Try.prog H .eql 52 xo yo (.map a) (.map none) = some (.bool a.isNone) := abin_eq_mapnil (k := 3) (e := 3) (by kernel_rfl) H xo yo a
theorem nn52 (H : AHeap) (xo yo : Operand) (a : Option Nat) : abin Try.prog H .neq 52 xo yo (.map a) (.map none) = some (.bool !a.isNone) := abin_ne_mapnil (k := 3) (e := 3) (by kernel_rfl) H xo yo a
theorem un52 : Try.prog.underlying 52 = some (.map 3 3) := by kernel_rfl
theorem mt52 : mapT Try.prog 52 = some (3, 3) := by kernel_rfl
theorem sz53 : szT Try.prog 53 = some 5 := by kernel_rfl
theorem ag53 : aggT Try.prog 53 = some true := by kernel_rfl
theorem ze53 : zeroT Try.prog 53 = some (.agg #[.slice none 0 0, .slice none 0 0, .map none, .map none, .slice none 0 0]) := by kernel_rfl
theorem pz53 : plainV 100 (.agg #[.slice none 0 0, .slice none 0 0, .map none, .map none, .slice none 0 0]) = true := by kernel_rfl
theorem inf53 : ∃ i, Try.prog.info? 53 = some i ∧ i.zero = some (.agg #[.slice none 0 0, .slice none 0 0, .map none, .map none, .slice none 0 0]) ∧ i.size = 5 ∧ i.bytes = 88 := by
  have h : (Try.prog.info? 53).map (fun i => (i.zero, i.size, i.bytes)) = some (some (.agg #[.slice none 0 0, .slice none 0 0, .map none, .map none, .slice none 0 0]), 5, 88) := by kernel_rfl
  obtain ⟨i, h1, h2⟩ := Option.map_eq_some_iff.1 h
  simp only [Prod.mk.injEq] at h2
  exact ⟨i, h1, h2.1, h2.2.1, h2.2.2⟩
theorem st53 (H : AHeap) (id off : Nat) (x : Value) : astoreT Try.prog H 53 (.pointer (some ⟨id, off, none⟩)) x = if x.cells.size = 5 ∧ x.cells.toList.all oneCell = true then ((H[id]?).bind (rowStore off x.cells.toList)).map fun o => H.set id o else none := astore_rule sz53 H id off x
theorem fa53_0 (id off : Nat) : afieldAddr Try.prog 53 (.pointer (some ⟨id, off, none⟩)) 0 = some (.pointer (some ⟨id, off + 0, none⟩)) := afieldAddr_at (n := 0) (f := (fieldT Try.prog 53 0).getD default) (by kernel_rfl) (by kernel_rfl) (by kernel_rfl) id off
theorem fl53_0 (cs : List Value) : afield Try.prog 53 (.agg cs.toArray) 0 = cs[0]? := afield_one (f := (fieldT Try.prog 53 0).getD default) (by kernel_rfl) (by kernel_rfl) (by kernel_rfl) cs
theorem fa53_1 (id off : Nat) : afieldAddr Try.prog 53 (.pointer (some ⟨id, off, none⟩)) 1 = some (.pointer (some ⟨id, off + 1, none⟩)) := afieldAddr_at (n := 0) (f := (fieldT Try.prog 53 1).getD default) (by kernel_rfl) (by kernel_rfl) (by kernel_rfl) id off
theorem fl53_1 (cs : List Value) : afield Try.prog 53 (.agg cs.toArray) 1 = cs[1]? := afield_one (f := (fieldT Try.prog 53 1).getD default) (by kernel_rfl) (by kernel_rfl) (by kernel_rfl) cs
theorem fa53_2 (id off : Nat) : afieldAddr Try.prog 53 (.pointer (some ⟨id, off, none⟩)) 2 = some (.pointer (some ⟨id, off + 2, none⟩)) := afieldAddr_at (n := 0) (f := (fieldT Try.prog 53 2).getD default) (by kernel_rfl) (by kernel_rfl) (by kernel_rfl) id off
theorem fl53_2 (cs : List Value) : afield Try.prog 53 (.agg cs.toArray) 2 = cs[2]? := afield_one (f := (fieldT Try.prog 53 2).getD default) (by kernel_rfl) (by kernel_rfl) (by kernel_rfl) cs
theorem fa53_3 (id off : Nat) : afieldAddr Try.prog 53 (.pointer (some ⟨id, off, none⟩)) 3 = some (.pointer (some ⟨id, off + 3, none⟩)) := afieldAddr_at (n := 0) (f := (fieldT Try.prog 53 3).getD default) (by kernel_rfl) (by kernel_rfl) (by kernel_rfl) id off
theorem fl53_3 (cs : List Value) : afield Try.prog 53 (.agg cs.toArray) 3 = cs[3]? := afield_one (f := (fieldT Try.prog 53 3).getD default) (by kernel_rfl) (by kernel_rfl) (by kernel_rfl) cs
theorem fa53_4 (id off : Nat) : afieldAddr Try.prog 53 (.pointer (some ⟨id, off, none⟩)) 4 = some (.pointer (some ⟨id, off + 4, none⟩)) := afieldAddr_at (n := 0) (f := (fieldT Try.prog 53 4).getD default) (by kernel_rfl) (by kernel_rfl) (by kernel_rfl) id off
theorem fl53_4 (cs : List Value) : afield Try.prog 53 (.agg cs.toArray) 4 = cs[4]? := afield_one (f := (fieldT Try.prog 53 4).getD default) (by kernel_rfl) (by kernel_rfl) (by kernel_rfl) cs
theorem sz54 : szT Try.prog 54 = some 5 := by kernel_rfl
theorem ag54 : aggT Try.prog 54 = some true := by kernel_rfl
theorem ze54 : zeroT Try.prog 54 = some (.agg #[.slice none 0 0, .slice none 0 0, .map none, .map none, .slice none 0 0]) := by kernel_rfl
theorem inf54 : ∃ i, Try.prog.info? 54 = some i ∧ i.zero = some (.agg #[.slice none 0 0, .slice none 0 0, .map none, .map none, .slice none 0 0]) ∧ i.size = 5 ∧ i.bytes = 88 := by
  have h : (Try.prog.info? 54).map (fun i => (i.zero, i.size, i.bytes)) = some (some (.agg #[.slice none 0 0, .slice none 0 0, .map none, .map none, .slice none 0 0]), 5, 88) := by kernel_rfl
  obtain ⟨i, h1, h2⟩ := Option.map_eq_some_iff.1 h
  simp only [Prod.mk.injEq] at h2
  exact ⟨i, h1, h2.1, h2.2.1, h2.2.2⟩
theorem st54 (H : AHeap) (id off : Nat) (x : Value) : astoreT Try.prog H 54 (.pointer (some ⟨id, off, none⟩)) x = if x.cells.size = 5 ∧ x.cells.toList.all oneCell = true then ((H[id]?).bind (rowStore off x.cells.toList)).map fun o => H.set id o else none := astore_rule sz54 H id off x
theorem fa54_0 (id off : Nat) : afieldAddr Try.prog 54 (.pointer (some ⟨id, off, none⟩)) 0 = some (.pointer (some ⟨id, off + 0, none⟩)) := afieldAddr_at (n := 0) (f := (fieldT Try.prog 54 0).getD default) (by kernel_rfl) (by kernel_rfl) (by kernel_rfl) id off
theorem fl54_0 (cs : List Value) : afield Try.prog 54 (.agg cs.toArray) 0 = cs[0]? := afield_one (f := (fieldT Try.prog 54 0).getD default) (by kernel_rfl) (by kernel_rfl) (by kernel_rfl) cs
theorem fa54_1 (id off : Nat) : afieldAddr Try.prog 54 (.pointer (some ⟨id, off, none⟩)) 1 = some (.pointer (some ⟨id, off + 1, none⟩)) := afieldAddr_at (n := 0) (f := (fieldT Try.prog 54 1).getD default) (by kernel_rfl) (by kernel_rfl) (by kernel_rfl) id off
theorem fl54_1 (cs : List Value) : afield Try.prog 54 (.agg cs.toArray) 1 = cs[1]? := afield_one (f := (fieldT Try.prog 54 1).getD default) (by kernel_rfl) (by kernel_rfl) (by kernel_rfl) cs
theorem fa54_2 (id off : Nat) : afieldAddr Try.prog 54 (.pointer (some ⟨id, off, none⟩)) 2 = some (.pointer (some ⟨id, off + 2, none⟩)) := afieldAddr_at (n := 0) (f := (fieldT Try.prog 54 2).getD default) (by kernel_rfl) (by kernel_rfl) (by kernel_rfl) id off
theorem fl54_2 (cs : List Value) : afield Try.prog 54 (.agg cs.toArray) 2 = cs[2]? := afield_one (f := (fieldT Try.prog 54 2).getD default) (by kernel_rfl) (by kernel_rfl) (by kernel_rfl) cs
theorem fa54_3 (id off : Nat) : afieldAddr Try.prog 54 (.pointer (some ⟨id, off, none⟩)) 3 = some (.pointer (some ⟨id, off + 3, none⟩)) := afieldAddr_at (n := 0) (f := (fieldT Try.prog 54 3).getD default) (by kernel_rfl) (by kernel_rfl) (by kernel_rfl) id off
theorem fl54_3 (cs : List Value) : afield Try.prog 54 (.agg cs.toArray) 3 = cs[3]? := afield_one (f := (fieldT Try.prog 54 3).getD default) (by kernel_rfl) (by kernel_rfl) (by kernel_rfl) cs
theorem fa54_4 (id off : Nat) : afieldAddr Try.prog 54 (.pointer (some ⟨id, off, none⟩)) 4 = some (.pointer (some ⟨id, off + 4, none⟩)) := afieldAddr_at (n := 0) (f := (fieldT Try.prog 54 4).getD default) (by kernel_rfl) (by kernel_rfl) (by kernel_rfl) id off
theorem fl54_4 (cs : List Value) : afield Try.prog 54 (.agg cs.toArray) 4 = cs[4]? := afield_one (f := (fieldT Try.prog 54 4).getD default) (by kernel_rfl) (by kernel_rfl) (by kernel_rfl) cs
theorem sz62 : szT Try.prog 62 = some 6 := by kernel_rfl
theorem ag62 : aggT Try.prog 62 = some true := by kernel_rfl
theorem ze62 : zeroT Try.prog 62 = some (.agg #[.int .i64 0, .int .i64 0, .int .i64 0, .int .i64 0, .int .i64 0, .int .i64 0]) := by kernel_rfl
theorem pz62 : plainV 100 (.agg #[.int .i64 0, .int .i64 0, .int .i64 0, .int .i64 0, .int .i64 0, .int .i64 0]) = true := by kernel_rfl
theorem inf62 : ∃ i, Try.prog.info? 62 = some i ∧ i.zero = some (.agg #[.int .i64 0, .int .i64 0, .int .i64 0, .int .i64 0, .int .i64 0, .int .i64 0]) ∧ i.size = 6 ∧ i.bytes = 48 := by
  have h : (Try.prog.info? 62).map (fun i => (i.zero, i.size, i.bytes)) = some (some (.agg #[.int .i64 0, .int .i64 0, .int .i64 0, .int .i64 0, .int .i64 0, .int .i64 0]), 6, 48) := by kernel_rfl
  obtain ⟨i, h1, h2⟩ := Option.map_eq_some_iff.1 h
  simp only [Prod.mk.injEq] at h2
  exact ⟨i, h1, h2.1, h2.2.1, h2.2.2⟩
theorem st62 (H : AHeap) (id off : Nat) (x : Value) : astoreT Try.prog H 62 (.pointer (some ⟨id, off, none⟩)) x = if x.cells.size = 6 ∧ x.cells.toList.all oneCell = true then ((H[id]?).bind (rowStore off x.cells.toList)).map fun o => H.set id o else none := astore_rule sz62 H id off x
theorem fa62_0 (id off : Nat) : afieldAddr Try.prog 62 (.pointer (some ⟨id, off, none⟩)) 0 = some (.pointer (some ⟨id, off + 0, none⟩)) := afieldAddr_at (n := 4) (f := (fieldT Try.prog 62 0).getD default) (by kernel_rfl) (by kernel_rfl) (by kernel_rfl) id off
theorem fl62_0 (cs : List Value) : afield Try.prog 62 (.agg cs.toArray) 0 = some (.agg ((cs.drop 0).take 5).toArray) := afield_agg (f := (fieldT Try.prog 62 0).getD default) (by kernel_rfl) (by kernel_rfl) (by kernel_rfl) (by kernel_rfl) cs
theorem fa62_1 (id off : Nat) : afieldAddr Try.prog 62 (.pointer (some ⟨id, off, none⟩)) 1 = some (.pointer (some ⟨id, off + 5, none⟩)) := afieldAddr_at (n := 0) (f := (fieldT Try.prog 62 1).getD default) (by kernel_rfl) (by kernel_rfl) (by kernel_rfl) id off
theorem fl62_1 (cs : List Value) : afield Try.prog 62 (.agg cs.toArray) 1 = cs[5]? := afield_one (f := (fieldT Try.prog 62 1).getD default) (by kernel_rfl) (by kernel_rfl) (by kernel_rfl) cs
theorem sz63 : szT Try.prog 63 = some 6 := by kernel_rfl
theorem ag63 : aggT Try.prog 63 = some true := by kernel_rfl
theorem ze63 : zeroT Try.prog 63 = some (.agg #[.int .i64 0, .int .i64 0, .int .i64 0, .int .i64 0, .int .i64 0, .int .i64 0]) := by kernel_rfl
theorem inf63 : ∃ i, Try.prog.info? 63 = some i ∧ i.zero = some (.agg #[.int .i64 0, .int .i64 0, .int .i64 0, .int .i64 0, .int .i64 0, .int .i64 0]) ∧ i.size = 6 ∧ i.bytes = 48 := by
  have h : (Try.prog.info? 63).map (fun i => (i.zero, i.size, i.bytes)) = some (some (.agg #[.int .i64 0, .int .i64 0, .int .i64 0, .int .i64 0, .int .i64 0, .int .i64 0]), 6, 48) := by kernel_rfl
  obtain ⟨i, h1, h2⟩ := Option.map_eq_some_iff.1 h
  simp only [Prod.mk.injEq] at h2
  exact ⟨i, h1, h2.1, h2.2.1, h2.2.2⟩
theorem st63 (H : AHeap) (id off : Nat) (x : Value) : astoreT Try.prog H 63 (.pointer (some ⟨id, off, none⟩)) x = if x.cells.size = 6 ∧ x.cells.toList.all oneCell = true then ((H[id]?).bind (rowStore off x.cells.toList)).map fun o => H.set id o else none := astore_rule sz63 H id off x
theorem fa63_0 (id off : Nat) : afieldAddr Try.prog 63 (.pointer (some ⟨id, off, none⟩)) 0 = some (.pointer (some ⟨id, off + 0, none⟩)) := afieldAddr_at (n := 4) (f := (fieldT Try.prog 63 0).getD default) (by kernel_rfl) (by kernel_rfl) (by kernel_rfl) id off
theorem fl63_0 (cs : List Value) : afield Try.prog 63 (.agg cs.toArray) 0 = some (.agg ((cs.drop 0).take 5).toArray) := afield_agg (f := (fieldT Try.prog 63 0).getD default) (by kernel_rfl) (by kernel_rfl) (by kernel_rfl) (by kernel_rfl) cs
theorem fa63_1 (id off : Nat) : afieldAddr Try.prog 63 (.pointer (some ⟨id, off, none⟩)) 1 = some (.pointer (some ⟨id, off + 5, none⟩)) := afieldAddr_at (n := 0) (f := (fieldT Try.prog 63 1).getD default) (by kernel_rfl) (by kernel_rfl) (by kernel_rfl) id off
theorem fl63_1 (cs : List Value) : afield Try.prog 63 (.agg cs.toArray) 1 = cs[5]? := afield_one (f := (fieldT Try.prog 63 1).getD default) (by kernel_rfl) (by kernel_rfl) (by kernel_rfl) cs
theorem sz74 : szT Try.prog 74 = some 1 := by kernel_rfl
theorem ag74 : aggT Try.prog 74 = some false := by kernel_rfl
theorem ze74 : zeroT Try.prog 74 = some (.int .u64 0) := by kernel_rfl
theorem inf74 : ∃ i, Try.prog.info? 74 = some i ∧ i.zero = some (.int .u64 0) ∧ i.size = 1 ∧ i.bytes = 8 := by
  have h : (Try.prog.info? 74).map (fun i => (i.zero, i.size, i.bytes)) = some (some (.int .u64 0), 1, 8) := by kernel_rfl
  obtain ⟨i, h1, h2⟩ := Option.map_eq_some_iff.1 h
  simp only [Prod.mk.injEq] at h2
  exact ⟨i, h1, h2.1, h2.2.1, h2.2.2⟩
theorem st74 (H : AHeap) (id off : Nat) (x : Value) : astoreT Try.prog H 74 (.pointer (some ⟨id, off, none⟩)) x = if x.cells.size = 1 ∧ x.cells.toList.all oneCell = true then ((H[id]?).bind (rowStore off x.cells.toList)).map fun o => H.set id o else none := astore_rule sz74 H id off x
theorem kd74 : kindT Try.prog 74 = .int .u64 := by kernel_rfl
theorem sz82 : szT Try.prog 82 = some 1 := by kernel_rfl
theorem ag82 : aggT Try.prog 82 = some false := by kernel_rfl
theorem ze82 : zeroT Try.prog 82 = some (.int .i64 0) := by kernel_rfl
theorem inf82 : ∃ i, Try.prog.info? 82 = some i ∧ i.zero = some (.int .i64 0) ∧ i.size = 1 ∧ i.bytes = 8 := by
  have h : (Try.prog.info? 82).map (fun i => (i.zero, i.size, i.bytes)) = some (some (.int .i64 0), 1, 8) := by kernel_rfl
  obtain ⟨i, h1, h2⟩ := Option.map_eq_some_iff.1 h
  simp only [Prod.mk.injEq] at h2
  exact ⟨i, h1, h2.1, h2.2.1, h2.2.2⟩
theorem st82 (H : AHeap) (id off : Nat) (x : Value) : astoreT Try.prog H 82 (.pointer (some ⟨id, off, none⟩)) x = if x.cells.size = 1 ∧ x.cells.toList.all oneCell = true then ((H[id]?).bind (rowStore off x.cells.toList)).map fun o => H.set id o else none := astore_rule sz82 H id off x
theorem kd82 : kindT Try.prog 82 = .int .i64 := by kernel_rfl
theorem sz89 : szT Try.prog 89 = some 1 := by kernel_rfl
theorem ag89 : aggT Try.prog 89 = some false := by kernel_rfl
theorem ze89 : zeroT Try.prog 89 = some (.int .u32 0) := by kernel_rfl
theorem pz89 : plainV 100 (.int .u32 0) = true := by kernel_rfl
theorem inf89 : ∃ i, Try.prog.info? 89 = some i ∧ i.zero = some (.int .u32 0) ∧ i.size = 1 ∧ i.bytes = 4 := by
  have h : (Try.prog.info? 89).map (fun i => (i.zero, i.size, i.bytes)) = some (some (.int .u32 0), 1, 4) := by kernel_rfl
  obtain ⟨i, h1, h2⟩ := Option.map_eq_some_iff.1 h
  simp only [Prod.mk.injEq] at h2
  exact ⟨i, h1, h2.1, h2.2.1, h2.2.2⟩
theorem st89 (H : AHeap) (id off : Nat) (x : Value) : astoreT Try.prog H 89 (.pointer (some ⟨id, off, none⟩)) x = if x.cells.size = 1 ∧ x.cells.toList.all oneCell = true then ((H[id]?).bind (rowStore off x.cells.toList)).map fun o => H.set id o else none := astore_rule sz89 H id off x
theorem kd89 : kindT Try.prog 89 = .int .u32 := by kernel_rfl
theorem sz91 : szT Try.prog 91 = some 1 := by kernel_rfl
theorem ag91 : aggT Try.prog 91 = some false := by kernel_rfl
theorem ze91 : zeroT Try.prog 91 = some (.int .u64 0) := by kernel_rfl
theorem inf91 : ∃ i, Try.prog.info? 91 = some i ∧ i.zero = some (.int .u64 0) ∧ i.size = 1 ∧ i.bytes = 8 := by
  have h : (Try.prog.info? 91).map (fun i => (i.zero, i.size, i.bytes)) = some (some (.int .u64 0), 1, 8) := by kernel_rfl
  obtain ⟨i, h1, h2⟩ := Option.map_eq_some_iff.1 h
  simp only [Prod.mk.injEq] at h2
  exact ⟨i, h1, h2.1, h2.2.1, h2.2.2⟩
theorem st91 (H : AHeap) (id off : Nat) (x : Value) : astoreT Try.prog H 91 (.pointer (some ⟨id, off, none⟩)) x = if x.cells.size = 1 ∧ x.cells.toList.all oneCell = true then ((H[id]?).bind (rowStore off x.cells.toList)).map fun o => H.set id o else none := astore_rule sz91 H id off x
theorem kd91 : kindT Try.prog 91 = .int .u64 := by kernel_rfl
theorem sz104 : szT Try.prog 104 = some 1 := by kernel_rfl
theorem ag104 : aggT Try.prog 104 = some false := by kernel_rfl
theorem ze104 : zeroT Try.prog 104 = some (.int .u64 0) := by kernel_rfl
theorem inf104 : ∃ i, Try.prog.info? 104 = some i ∧ i.zero = some (.int .u64 0) ∧ i.size = 1 ∧ i.bytes = 8 := by
  have h : (Try.prog.info? 104).map (fun i => (i.zero, i.size, i.bytes)) = some (some (.int .u64 0), 1, 8) := by kernel_rfl
  obtain ⟨i, h1, h2⟩ := Option.map_eq_some_iff.1 h
  simp only [Prod.mk.injEq] at h2
  exact ⟨i, h1, h2.1, h2.2.1, h2.2.2⟩
theorem st104 (H : AHeap) (id off : Nat) (x : Value) : astoreT Try.prog H 104 (.pointer (some ⟨id, off, none⟩)) x = if x.cells.size = 1 ∧ x.cells.toList.all oneCell = true then ((H[id]?).bind (rowStore off x.cells.toList)).map fun o => H.set id o else none := astore_rule sz104 H id off x
theorem kd104 : kindT Try.prog 104 = .int .u64 := by kernel_rfl
theorem sz108 : szT Try.prog 108 = some 1 := by kernel_rfl
theorem ag108 : aggT Try.prog 108 = some false := by kernel_rfl
theorem ze108 : zeroT Try.prog 108 = some (.pointer none) := by kernel_rfl
theorem inf108 : ∃ i, Try.prog.info? 108 = some i ∧ i.zero = some (.pointer none) ∧ i.size = 1 ∧ i.bytes = 8 := by
  have h : (Try.prog.info? 108).map (fun i => (i.zero, i.size, i.bytes)) = some (some (.pointer none), 1, 8) := by kernel_rfl
  obtain ⟨i, h1, h2⟩ := Option.map_eq_some_iff.1 h
  simp only [Prod.mk.injEq] at h2
  exact ⟨i, h1, h2.1, h2.2.1, h2.2.2⟩
theorem st108 (H : AHeap) (id off : Nat) (x : Value) : astoreT Try.prog H 108 (.pointer (some ⟨id, off, none⟩)) x = if x.cells.size = 1 ∧ x.cells.toList.all oneCell = true then ((H[id]?).bind (rowStore off x.cells.toList)).map fun o => H.set id o else none := astore_rule sz108 H id off x
theorem en108 (H : AHeap) (xo yo : Operand) (a : Option Addr) : abin Try.prog H .eql 108 xo yo (.pointer a) (.pointer none) = some (.bool a.isNone) := abin_eq_ptrnil (e := 3) (by kernel_rfl) H xo yo a
theorem nn108 (H : AHeap) (xo yo : Operand) (a : Option Addr) : abin Try.prog H .neq 108 xo yo (.pointer a) (.pointer none) = some (.bool !a.isNone) := abin_ne_ptrnil (e := 3) (by kernel_rfl) H xo yo a
theorem sz114 : szT Try.prog 114 = some 1 := by kernel_rfl
theorem ag114 : aggT Try.prog 114 = some false := by kernel_rfl
theorem ze114 : zeroT Try.prog 114 = some (.pointer none) := by kernel_rfl
theorem inf114 : ∃ i, Try.prog.info? 114 = some i ∧ i.zero = some (.pointer none) ∧ i.size = 1 ∧ i.bytes = 8 := by
  have h : (Try.prog.info? 114).map (fun i => (i.zero, i.size, i.bytes)) = some (some (.pointer none), 1, 8) := by kernel_rfl
  obtain ⟨i, h1, h2⟩ := Option.map_eq_some_iff.1 h
  simp only [Prod.mk.injEq] at h2
  exact ⟨i, h1, h2.1, h2.2.1, h2.2.2⟩
theorem st114 (H : AHeap) (id off : Nat) (x : Value) : astoreT Try.prog H 114 (.pointer (some ⟨id, off, none⟩)) x = if x.cells.size = 1 ∧ x.cells.toList.all oneCell = true then ((H[id]?).bind (rowStore off x.cells.toList)).map fun o => H.set id o else none := astore_rule sz114 H id off x
theorem en114 (H : AHeap) (xo yo : Operand) (a : Option Addr) : abin Try.prog H .eql 114 xo yo (.pointer a) (.pointer none) = some (.bool a.isNone) := abin_eq_ptrnil (e := 104) (by kernel_rfl) H xo yo a
theorem nn114 (H : AHeap) (xo yo : Operand) (a : Option Addr) : abin Try.prog H .neq 114 xo yo (.pointer a) (.pointer none) = some (.bool !a.isNone) := abin_ne_ptrnil (e := 104) (by kernel_rfl) H xo yo a
theorem sz120 : szT Try.prog 120 = some 4 := by kernel_rfl
theorem ag120 : aggT Try.prog 120 = some true := by kernel_rfl
theorem ze120 : zeroT Try.prog 120 = some (.agg #[.pointer none, .pointer none, .pointer none, .string ByteArray.empty]) := by kernel_rfl
theorem pz120 : plainV 100 (.agg #[.pointer none, .pointer none, .pointer none, .string ByteArray.empty]) = true := by kernel_rfl
theorem inf120 : ∃ i, Try.prog.info? 120 = some i ∧ i.zero = some (.agg #[.pointer none, .pointer none, .pointer none, .string ByteArray.empty]) ∧ i.size = 4 ∧ i.bytes = 40 := by
  have h : (Try.prog.info? 120).map (fun i => (i.zero, i.size, i.bytes)) = some (some (.agg #[.pointer none, .pointer none, .pointer none, .string ByteArray.empty]), 4, 40) := by kernel_rfl
  obtain ⟨i, h1, h2⟩ := Option.map_eq_some_iff.1 h
  simp only [Prod.mk.injEq] at h2
  exact ⟨i, h1, h2.1, h2.2.1, h2.2.2⟩
theorem st120 (H : AHeap) (id off : Nat) (x : Value) : astoreT Try.prog H 120 (.pointer (some ⟨id, off, none⟩)) x = if x.cells.size = 4 ∧ x.cells.toList.all oneCell = true then ((H[id]?).bind (rowStore off x.cells.toList)).map fun o => H.set id o else none := astore_rule sz120 H id off x
theorem fa120_0 (id off : Nat) : afieldAddr Try.prog 120 (.pointer (some ⟨id, off, none⟩)) 0 = some (.pointer (some ⟨id, off + 0, none⟩)) := afieldAddr_at (n := 0) (f := (fieldT Try.prog 120 0).getD default) (by kernel_rfl) (by kernel_rfl) (by kernel_rfl) id off
theorem fl120_0 (cs : List Value) : afield Try.prog 120 (.agg cs.toArray) 0 = cs[0]? := afield_one (f := (fieldT Try.prog 120 0).getD default) (by kernel_rfl) (by kernel_rfl) (by kernel_rfl) cs
theorem fa120_1 (id off : Nat) : afieldAddr Try.prog 120 (.pointer (some ⟨id, off, none⟩)) 1 = some (.pointer (some ⟨id, off + 1, none⟩)) := afieldAddr_at (n := 0) (f := (fieldT Try.prog 120 1).getD default) (by kernel_rfl) (by kernel_rfl) (by kernel_rfl) id off
theorem fl120_1 (cs : List Value) : afield Try.prog 120 (.agg cs.toArray) 1 = cs[1]? := afield_one (f := (fieldT Try.prog 120 1).getD default) (by kernel_rfl) (by kernel_rfl) (by kernel_rfl) cs
theorem fa120_2 (id off : Nat) : afieldAddr Try.prog 120 (.pointer (some ⟨id, off, none⟩)) 2 = some (.pointer (some ⟨id, off + 2, none⟩)) := afieldAddr_at (n := 0) (f := (fieldT Try.prog 120 2).getD default) (by kernel_rfl) (by kernel_rfl) (by kernel_rfl) id off
theorem fl120_2 (cs : List Value) : afield Try.prog 120 (.agg cs.toArray) 2 = cs[2]? := afield_one (f := (fieldT Try.prog 120 2).getD default) (by kernel_rfl) (by kernel_rfl) (by kernel_rfl) cs
theorem fa120_3 (id off : Nat) : afieldAddr Try.prog 120 (.pointer (some ⟨id, off, none⟩)) 3 = some (.pointer (some ⟨id, off + 3, none⟩)) := afieldAddr_at (n := 0) (f := (fieldT Try.prog 120 3).getD default) (by kernel_rfl) (by kernel_rfl) (by kernel_rfl) id off
theorem fl120_3 (cs : List Value) : afield Try.prog 120 (.agg cs.toArray) 3 = cs[3]? := afield_one (f := (fieldT Try.prog 120 3).getD default) (by kernel_rfl) (by kernel_rfl) (by kernel_rfl) cs
theorem sz121 : szT Try.prog 121 = some 4 := by kernel_rfl
theorem ag121 : aggT Try.prog 121 = some true := by kernel_rfl
theorem ze121 : zeroT Try.prog 121 = some (.agg #[.pointer none, .pointer none, .pointer none, .string ByteArray.empty]) := by kernel_rfl
theorem inf121 : ∃ i, Try.prog.info? 121 = some i ∧ i.zero = some (.agg #[.pointer none, .pointer none, .pointer none, .string ByteArray.empty]) ∧ i.size = 4 ∧ i.bytes = 40 := by
  have h : (Try.prog.info? 121).map (fun i => (i.zero, i.size, i.bytes)) = some (some (.agg #[.pointer none, .pointer none, .pointer none, .string ByteArray.empty]), 4, 40) := by kernel_rfl
  obtain ⟨i, h1, h2⟩ := Option.map_eq_some_iff.1 h
  simp only [Prod.mk.injEq] at h2
  exact ⟨i, h1, h2.1, h2.2.1, h2.2.2⟩
theorem st121 (H : AHeap) (id off : Nat) (x : Value) : astoreT Try.prog H 121 (.pointer (some ⟨id, off, none⟩)) x = if x.cells.size = 4 ∧ x.cells.toList.all oneCell = true then ((H[id]?).bind (rowStore off x.cells.toList)).map fun o => H.set id o else none := astore_rule sz121 H id off x
theorem fa121_0 (id off : Nat) : afieldAddr Try.prog 121 (.pointer (some ⟨id, off, none⟩)) 0 = some (.pointer (some ⟨id, off + 0, none⟩)) := afieldAddr_at (n := 0) (f := (fieldT Try.prog 121 0).getD default) (by kernel_rfl) (by kernel_rfl) (by kernel_rfl) id off
theorem fl121_0 (cs : List Value) : afield Try.prog 121 (.agg cs.toArray) 0 = cs[0]? := afield_one (f := (fieldT Try.prog 121 0).getD default) (by kernel_rfl) (by kernel_rfl) (by kernel_rfl) cs
theorem fa121_1 (id off : Nat) : afieldAddr Try.prog 121 (.pointer (some ⟨id, off, none⟩)) 1 = some (.pointer (some ⟨id, off + 1, none⟩)) := afieldAddr_at (n := 0) (f := (fieldT Try.prog 121 1).getD default) (by kernel_rfl) (by kernel_rfl) (by kernel_rfl) id off
theorem fl121_1 (cs : List Value) : afield Try.prog 121 (.agg cs.toArray) 1 = cs[1]? := afield_one (f := (fieldT Try.prog 121 1).getD default) (by kernel_rfl) (by kernel_rfl) (by kernel_rfl) cs
theorem fa121_2 (id off : Nat) : afieldAddr Try.prog 121 (.pointer (some ⟨id, off, none⟩)) 2 = some (.pointer (some ⟨id, off + 2, none⟩)) := afieldAddr_at (n := 0) (f := (fieldT Try.prog 121 2).getD default) (by kernel_rfl) (by kernel_rfl) (by kernel_rfl) id off
theorem fl121_2 (cs : List Value) : afield Try.prog 121 (.agg cs.toArray) 2 = cs[2]? := afield_one (f := (fieldT Try.prog 121 2).getD default) (by kernel_rfl) (by kernel_rfl) (by kernel_rfl) cs
theorem fa121_3 (id off : Nat) : afieldAddr Try.prog 121 (.pointer (some ⟨id, off, none⟩)) 3 = some (.pointer (some ⟨id, off + 3, none⟩)) := afieldAddr_at (n := 0) (f := (fieldT Try.prog 121 3).getD default) (by kernel_rfl) (by kernel_rfl) (by kernel_rfl) id off
theorem fl121_3 (cs : List Value) : afield Try.prog 121 (.agg cs.toArray) 3 = cs[3]? := afield_one (f := (fieldT Try.prog 121 3).getD default) (by kernel_rfl) (by kernel_rfl) (by kernel_rfl) cs
theorem sz122 : szT Try.prog 122 = some 0 := by kernel_rfl
theorem ag122 : aggT Try.prog 122 = some true := by kernel_rfl
theorem ze122 : zeroT Try.prog 122 = some (.agg #[]) := by kernel_rfl
theorem pz122 : plainV 100 (.agg #[]) = true := by kernel_rfl
theorem inf122 : ∃ i, Try.prog.info? 122 = some i ∧ i.zero = some (.agg #[]) ∧ i.size = 0 ∧ i.bytes = 0 := by
  have h : (Try.prog.info? 122).map (fun i => (i.zero, i.size, i.bytes)) = some (some (.agg #[]), 0, 0) := by kernel_rfl
  obtain ⟨i, h1, h2⟩ := Option.map_eq_some_iff.1 h
  simp only [Prod.mk.injEq] at h2
  exact ⟨i, h1, h2.1, h2.2.1, h2.2.2⟩
theorem st122 (H : AHeap) (id off : Nat) (x : Value) : astoreT Try.prog H 122 (.pointer (some ⟨id, off, none⟩)) x = if x.cells.size = 0 ∧ x.cells.toList.all oneCell = true then ((H[id]?).bind (rowStore off x.cells.toList)).map fun o => H.set id o else none := astore_rule sz122 H id off x
theorem sz123 : szT Try.prog 123 = some 0 := by kernel_rfl
theorem ag123 : aggT Try.prog 123 = some true := by kernel_rfl
theorem ze123 : zeroT Try.prog 123 = some (.agg #[]) := by kernel_rfl
theorem inf123 : ∃ i, Try.prog.info? 123 = some i ∧ i.zero = some (.agg #[]) ∧ i.size = 0 ∧ i.bytes = 0 := by
  have h : (Try.prog.info? 123).map (fun i => (i.zero, i.size, i.bytes)) = some (some (.agg #[]), 0, 0) := by kernel_rfl
  obtain ⟨i, h1, h2⟩ := Option.map_eq_some_iff.1 h
  simp only [Prod.mk.injEq] at h2
  exact ⟨i, h1, h2.1, h2.2.1, h2.2.2⟩
theorem st123 (H : AHeap) (id off : Nat) (x : Value) : astoreT Try.prog H 123 (.pointer (some ⟨id, off, none⟩)) x = if x.cells.size = 0 ∧ x.cells.toList.all oneCell = true then ((H[id]?).bind (rowStore off x.cells.toList)).map fun o => H.set id o else none := astore_rule sz123 H id off x
theorem sz124 : szT Try.prog 124 = some 0 := by kernel_rfl
theorem ag124 : aggT Try.prog 124 = some true := by kernel_rfl
theorem ze124 : zeroT Try.prog 124 = some (.agg #[]) := by kernel_rfl
theorem inf124 : ∃ i, Try.prog.info? 124 = some i ∧ i.zero = some (.agg #[]) ∧ i.size = 0 ∧ i.bytes = 0 := by
  have h : (Try.prog.info? 124).map (fun i => (i.zero, i.size, i.bytes)) = some (some (.agg #[]), 0, 0) := by kernel_rfl
  obtain ⟨i, h1, h2⟩ := Option.map_eq_some_iff.1 h
  simp only [Prod.mk.injEq] at h2
  exact ⟨i, h1, h2.1, h2.2.1, h2.2.2⟩
theorem st124 (H : AHeap) (id off : Nat) (x : Value) : astoreT Try.prog H 124 (.pointer (some ⟨id, off, none⟩)) x = if x.cells.size = 0 ∧ x.cells.toList.all oneCell = true then ((H[id]?).bind (rowStore off x.cells.toList)).map fun o => H.set id o else none := astore_rule sz124 H id off x
theorem sz126 : szT Try.prog 126 = some 1 := by kernel_rfl
theorem ag126 : aggT Try.prog 126 = some false := by kernel_rfl
theorem ze126 : zeroT Try.prog 126 = some (.int .u8 0) := by kernel_rfl
theorem inf126 : ∃ i, Try.prog.info? 126 = some i ∧ i.zero = some (.int .u8 0) ∧ i.size = 1 ∧ i.bytes = 1 := by
  have h : (Try.prog.info? 126).map (fun i => (i.zero, i.size, i.bytes)) = some (some (.int .u8 0), 1, 1) := by kernel_rfl
  obtain ⟨i, h1, h2⟩ := Option.map_eq_some_iff.1 h
  simp only [Prod.mk.injEq] at h2
  exact ⟨i, h1, h2.1, h2.2.1, h2.2.2⟩
theorem st126 (H : AHeap) (id off : Nat) (x : Value) : astoreT Try.prog H 126 (.pointer (some ⟨id, off, none⟩)) x = if x.cells.size = 1 ∧ x.cells.toList.all oneCell = true then ((H[id]?).bind (rowStore off x.cells.toList)).map fun o => H.set id o else none := astore_rule sz126 H id off x
theorem kd126 : kindT Try.prog 126 = .int .u8 := by kernel_rfl
theorem sz127 : szT Try.prog 127 = some 1 := by kernel_rfl
theorem ag127 : aggT Try.prog 127 = some false := by kernel_rfl
theorem ze127 : zeroT Try.prog 127 = some (.int .u8 0) := by kernel_rfl
theorem inf127 : ∃ i, Try.prog.info? 127 = some i ∧ i.zero = some (.int .u8 0) ∧ i.size = 1 ∧ i.bytes = 1 := by
  have h : (Try.prog.info? 127).map (fun i => (i.zero, i.size, i.bytes)) = some (some (.int .u8 0), 1, 1) := by kernel_rfl
  obtain ⟨i, h1, h2⟩ := Option.map_eq_some_iff.1 h
  simp only [Prod.mk.injEq] at h2
  exact ⟨i, h1, h2.1, h2.2.1, h2.2.2⟩
theorem st127 (H : AHeap) (id off : Nat) (x : Value) : astoreT Try.prog H 127 (.pointer (some ⟨id, off, none⟩)) x = if x.cells.size = 1 ∧ x.cells.toList.all oneCell = true then ((H[id]?).bind (rowStore off x.cells.toList)).map fun o => H.set id o else none := astore_rule sz127 H id off x
theorem kd127 : kindT Try.prog 127 = .int .u8 := by kernel_rfl
theorem sz129 : szT Try.prog 129 = some 1 := by kernel_rfl
theorem ag129 : aggT Try.prog 129 = some false := by kernel_rfl
theorem ze129 : zeroT Try.prog 129 = some (.pointer none) := by kernel_rfl
theorem inf129 : ∃ i, Try.prog.info? 129 = some i ∧ i.zero = some (.pointer none) ∧ i.size = 1 ∧ i.bytes = 8 := by
  have h : (Try.prog.info? 129).map (fun i => (i.zero, i.size, i.bytes)) = some (some (.pointer none), 1, 8) := by kernel_rfl
  obtain ⟨i, h1, h2⟩ := Option.map_eq_some_iff.1 h
  simp only [Prod.mk.injEq] at h2
  exact ⟨i, h1, h2.1, h2.2.1, h2.2.2⟩
theorem st129 (H : AHeap) (id off : Nat) (x : Value) : astoreT Try.prog H 129 (.pointer (some ⟨id, off, none⟩)) x = if x.cells.size = 1 ∧ x.cells.toList.all oneCell = true then ((H[id]?).bind (rowStore off x.cells.toList)).map fun o => H.set id o else none := astore_rule sz129 H id off x
theorem en129 (H : AHeap) (xo yo : Operand) (a : Option Addr) : abin Try.prog H .eql 129 xo yo (.pointer a) (.pointer none) = some (.bool a.isNone) := abin_eq_ptrnil (e := 5) (by kernel_rfl) H xo yo a
theorem nn129 (H : AHeap) (xo yo : Operand) (a : Option Addr) : abin Try.prog H .neq 129 xo yo (.pointer a) (.pointer none) = some (.bool !a.isNone) := abin_ne_ptrnil (e := 5) (by kernel_rfl) H xo yo a
theorem sz130 : szT Try.prog 130 = some 1 := by kernel_rfl
theorem ag130 : aggT Try.prog 130 = some false := by kernel_rfl
theorem ze130 : zeroT Try.prog 130 = some (.int .i32 0) := by kernel_rfl
theorem inf130 : ∃ i, Try.prog.info? 130 = some i ∧ i.zero = some (.int .i32 0) ∧ i.size = 1 ∧ i.bytes = 4 := by
  have h : (Try.prog.info? 130).map (fun i => (i.zero, i.size, i.bytes)) = some (some (.int .i32 0), 1, 4) := by kernel_rfl
  obtain ⟨i, h1, h2⟩ := Option.map_eq_some_iff.1 h
  simp only [Prod.mk.injEq] at h2
  exact ⟨i, h1, h2.1, h2.2.1, h2.2.2⟩
theorem st130 (H : AHeap) (id off : Nat) (x : Value) : astoreT Try.prog H 130 (.pointer (some ⟨id, off, none⟩)) x = if x.cells.size = 1 ∧ x.cells.toList.all oneCell = true then ((H[id]?).bind (rowStore off x.cells.toList)).map fun o => H.set id o else none := astore_rule sz130 H id off x
theorem kd130 : kindT Try.prog 130 = .int .i32 := by kernel_rfl
theorem sz131 : szT Try.prog 131 = some 1 := by kernel_rfl
theorem ag131 : aggT Try.prog 131 = some false := by kernel_rfl
theorem ze131 : zeroT Try.prog 131 = some (.int .i32 0) := by kernel_rfl
theorem inf131 : ∃ i, Try.prog.info? 131 = some i ∧ i.zero = some (.int .i32 0) ∧ i.size = 1 ∧ i.bytes = 4 := by
  have h : (Try.prog.info? 131).map (fun i => (i.zero, i.size, i.bytes)) = some (some (.int .i32 0), 1, 4) := by kernel_rfl
  obtain ⟨i, h1, h2⟩ := Option.map_eq_some_iff.1 h
  simp only [Prod.mk.injEq] at h2
  exact ⟨i, h1, h2.1, h2.2.1, h2.2.2⟩
theorem st131 (H : AHeap) (id off : Nat) (x : Value) : astoreT Try.prog H 131 (.pointer (some ⟨id, off, none⟩)) x = if x.cells.size = 1 ∧ x.cells.toList.all oneCell = true then ((H[id]?).bind (rowStore off x.cells.toList)).map fun o => H.set id o else none := astore_rule sz131 H id off x
theorem kd131 : kindT Try.prog 131 = .int .i32 := by kernel_rfl
theorem sz132 : szT Try.prog 132 = some 11 := by kernel_rfl
theorem ag132 : aggT Try.prog 132 = some true := by kernel_rfl
theorem ze132 : zeroT Try.prog 132 = some (.agg #[.int .u64 0, .int .u64 0, .int .u32 0, .int .u8 0, .int .u8 0, .int .u8 0, .int .u8 0, .nilFunc, .pointer none, .int .i32 0, .int .i32 0]) := by kernel_rfl
theorem pz132 : plainV 100 (.agg #[.int .u64 0, .int .u64 0, .int .u32 0, .int .u8 0, .int .u8 0, .int .u8 0, .int .u8 0, .nilFunc, .pointer none, .int .i32 0, .int .i32 0]) = true := by kernel_rfl
theorem inf132 : ∃ i, Try.prog.info? 132 = some i ∧ i.zero = some (.agg #[.int .u64 0, .int .u64 0, .int .u32 0, .int .u8 0, .int .u8 0, .int .u8 0, .int .u8 0, .nilFunc, .pointer none, .int .i32 0, .int .i32 0]) ∧ i.size = 11 ∧ i.bytes = 48 := by
  have h : (Try.prog.info? 132).map (fun i => (i.zero, i.size, i.bytes)) = some (some (.agg #[.int .u64 0, .int .u64 0, .int .u32 0, .int .u8 0, .int .u8 0, .int .u8 0, .int .u8 0, .nilFunc, .pointer none, .int .i32 0, .int .i32 0]), 11, 48) := by kernel_rfl
  obtain ⟨i, h1, h2⟩ := Option.map_eq_some_iff.1 h
  simp only [Prod.mk.injEq] at h2
  exact ⟨i, h1, h2.1, h2.2.1, h2.2.2⟩
theorem st132 (H : AHeap) (id off : Nat) (x : Value) : astoreT Try.prog H 132 (.pointer (some ⟨id, off, none⟩)) x = if x.cells.size = 11 ∧ x.cells.toList.all oneCell = true then ((H[id]?).bind (rowStore off x.cells.toList)).map fun o => H.set id o else none := astore_rule sz132 H id off x
theorem fa132_0 (id off : Nat) : afieldAddr Try.prog 132 (.pointer (some ⟨id, off, none⟩)) 0 = some (.pointer (some ⟨id, off + 0, none⟩)) := afieldAddr_at (n := 0) (f := (fieldT Try.prog 132 0).getD default) (by kernel_rfl) (by kernel_rfl) (by kernel_rfl) id off
theorem fl132_0 (cs : List Value) : afield Try.prog 132 (.agg cs.toArray) 0 = cs[0]? := afield_one (f := (fieldT Try.prog 132 0).getD default) (by kernel_rfl) (by kernel_rfl) (by kernel_rfl) cs
theorem fa132_1 (id off : Nat) : afieldAddr Try.prog 132 (.pointer (some ⟨id, off, none⟩)) 1 = some (.pointer (some ⟨id, off + 1, none⟩)) := afieldAddr_at (n := 0) (f := (fieldT Try.prog 132 1).getD default) (by kernel_rfl) (by kernel_rfl) (by kernel_rfl) id off
theorem fl132_1 (cs : List Value) : afield Try.prog 132 (.agg cs.toArray) 1 = cs[1]? := afield_one (f := (fieldT Try.prog 132 1).getD default) (by kernel_rfl) (by kernel_rfl) (by kernel_rfl) cs
theorem fa132_2 (id off : Nat) : afieldAddr Try.prog 132 (.pointer (some ⟨id, off, none⟩)) 2 = some (.pointer (some ⟨id, off + 2, none⟩)) := afieldAddr_at (n := 0) (f := (fieldT Try.prog 132 2).getD default) (by kernel_rfl) (by kernel_rfl) (by kernel_rfl) id off
theorem fl132_2 (cs : List Value) : afield Try.prog 132 (.agg cs.toArray) 2 = cs[2]? := afield_one (f := (fieldT Try.prog 132 2).getD default) (by kernel_rfl) (by kernel_rfl) (by kernel_rfl) cs
theorem fa132_3 (id off : Nat) : afieldAddr Try.prog 132 (.pointer (some ⟨id, off, none⟩)) 3 = some (.pointer (some ⟨id, off + 3, none⟩)) := afieldAddr_at (n := 0) (f := (fieldT Try.prog 132 3).getD default) (by kernel_rfl) (by kernel_rfl) (by kernel_rfl) id off
theorem fl132_3 (cs : List Value) : afield Try.prog 132 (.agg cs.toArray) 3 = cs[3]? := afield_one (f := (fieldT Try.prog 132 3).getD default) (by kernel_rfl) (by kernel_rfl) (by kernel_rfl) cs
theorem fa132_4 (id off : Nat) : afieldAddr Try.prog 132 (.pointer (some ⟨id, off, none⟩)) 4 = some (.pointer (some ⟨id, off + 4, none⟩)) := afieldAddr_at (n := 0) (f := (fieldT Try.prog 132 4).getD default) (by kernel_rfl) (by kernel_rfl) (by kernel_rfl) id off
theorem fl132_4 (cs : List Value) : afield Try.prog 132 (.agg cs.toArray) 4 = cs[4]? := afield_one (f := (fieldT Try.prog 132 4).getD default) (by kernel_rfl) (by kernel_rfl) (by kernel_rfl) cs
theorem fa132_5 (id off : Nat) : afieldAddr Try.prog 132 (.pointer (some ⟨id, off, none⟩)) 5 = some (.pointer (some ⟨id, off + 5, none⟩)) := afieldAddr_at (n := 0) (f := (fieldT Try.prog 132 5).getD default) (by kernel_rfl) (by kernel_rfl) (by kernel_rfl) id off
theorem fl132_5 (cs : List Value) : afield Try.prog 132 (.agg cs.toArray) 5 = cs[5]? := afield_one (f := (fieldT Try.prog 132 5).getD default) (by kernel_rfl) (by kernel_rfl) (by kernel_rfl) cs
theorem fa132_6 (id off : Nat) : afieldAddr Try.prog 132 (.pointer (some ⟨id, off, none⟩)) 6 = some (.pointer (some ⟨id, off + 6, none⟩)) := afieldAddr_at (n := 0) (f := (fieldT Try.prog 132 6).getD default) (by kernel_rfl) (by kernel_rfl) (by kernel_rfl) id off
theorem fl132_6 (cs : List Value) : afield Try.prog 132 (.agg cs.toArray) 6 = cs[6]? := afield_one (f := (fieldT Try.prog 132 6).getD default) (by kernel_rfl) (by kernel_rfl) (by kernel_rfl) cs
theorem fa132_7 (id off : Nat) : afieldAddr Try.prog 132 (.pointer (some ⟨id, off, none⟩)) 7 = some (.pointer (some ⟨id, off + 7, none⟩)) := afieldAddr_at (n := 0) (f := (fieldT Try.prog 132 7).getD default) (by kernel_rfl) (by kernel_rfl) (by kernel_rfl) id off
theorem fl132_7 (cs : List Value) : afield Try.prog 132 (.agg cs.toArray) 7 = cs[7]? := afield_one (f := (fieldT Try.prog 132 7).getD default) (by kernel_rfl) (by kernel_rfl) (by kernel_rfl) cs
theorem fa132_8 (id off : Nat) : afieldAddr Try.prog 132 (.pointer (some ⟨id, off, none⟩)) 8 = some (.pointer (some ⟨id, off + 8, none⟩)) := afieldAddr_at (n := 0) (f := (fieldT Try.prog 132 8).getD default) (by kernel_rfl) (by kernel_rfl) (by kernel_rfl) id off
theorem fl132_8 (cs : List Value) : afield Try.prog 132 (.agg cs.toArray) 8 = cs[8]? := afield_one (f := (fieldT Try.prog 132 8).getD default) (by kernel_rfl) (by kernel_rfl) (by kernel_rfl) cs
theorem fa132_9 (id off : Nat) : afieldAddr Try.prog 132 (.pointer (some ⟨id, off, none⟩)) 9 = some (.pointer (some ⟨id, off + 9, none⟩)) := afieldAddr_at (n := 0) (f := (fieldT Try.prog 132 9).getD default) (by kernel_rfl) (by kernel_rfl) (by kernel_rfl) id off
theorem fl132_9 (cs : List Value) : afield Try.prog 132 (.agg cs.toArray) 9 = cs[9]? := afield_one (f := (fieldT Try.prog 132 9).getD default) (by kernel_rfl) (by kernel_rfl) (by kernel_rfl) cs
theorem fa132_10 (id off : Nat) : afieldAddr Try.prog 132 (.pointer (some ⟨id, off, none⟩)) 10 = some (.pointer (some ⟨id, off + 10, none⟩)) := afieldAddr_at (n := 0) (f := (fieldT Try.prog 132 10).getD default) (by kernel_rfl) (by kernel_rfl) (by kernel_rfl) id off
theorem fl132_10 (cs : List Value) : afield Try.prog 132 (.agg cs.toArray) 10 = cs[10]? := afield_one (f := (fieldT Try.prog 132 10).getD default) (by kernel_rfl) (by kernel_rfl) (by kernel_rfl) cs
theorem sz133 : szT Try.prog 133 = some 11 := by kernel_rfl
theorem ag133 : aggT Try.prog 133 = some true := by kernel_rfl
theorem ze133 : zeroT Try.prog 133 = some (.agg #[.int .u64 0, .int .u64 0, .int .u32 0, .int .u8 0, .int .u8 0, .int .u8 0, .int .u8 0, .nilFunc, .pointer none, .int .i32 0, .int .i32 0]) := by kernel_rfl
theorem inf133 : ∃ i, Try.prog.info? 133 = some i ∧ i.zero = some (.agg #[.int .u64 0, .int .u64 0, .int .u32 0, .int .u8 0, .int .u8 0, .int .u8 0, .int .u8 0, .nilFunc, .pointer none, .int .i32 0, .int .i32 0]) ∧ i.size = 11 ∧ i.bytes = 48 := by
  have h : (Try.prog.info? 133).map (fun i => (i.zero, i.size, i.bytes)) = some (some (.agg #[.int .u64 0, .int .u64 0, .int .u32 0, .int .u8 0, .int .u8 0, .int .u8 0, .int .u8 0, .nilFunc, .pointer none, .int .i32 0, .int .i32 0]), 11, 48) := by kernel_rfl
  obtain ⟨i, h1, h2⟩ := Option.map_eq_some_iff.1 h
  simp only [Prod.mk.injEq] at h2
  exact ⟨i, h1, h2.1, h2.2.1, h2.2.2⟩
theorem st133 (H : AHeap) (id off : Nat) (x : Value) : astoreT Try.prog H 133 (.pointer (some ⟨id, off, none⟩)) x = if x.cells.size = 11 ∧ x.cells.toList.all oneCell = true then ((H[id]?).bind (rowStore off x.cells.toList)).map fun o => H.set id o else none := astore_rule sz133 H id off x
theorem fa133_0 (id off : Nat) : afieldAddr Try.prog 133 (.pointer (some ⟨id, off, none⟩)) 0 = some (.pointer (some ⟨id, off + 0, none⟩)) := afieldAddr_at (n := 0) (f := (fieldT Try.prog 133 0).getD default) (by kernel_rfl) (by kernel_rfl) (by kernel_rfl) id off
theorem fl133_0 (cs : List Value) : afield Try.prog 133 (.agg cs.toArray) 0 = cs[0]? := afield_one (f := (fieldT Try.prog 133 0).getD default) (by kernel_rfl) (by kernel_rfl) (by kernel_rfl) cs
theorem fa133_1 (id off : Nat) : afieldAddr Try.prog 133 (.pointer (some ⟨id, off, none⟩)) 1 = some (.pointer (some ⟨id, off + 1, none⟩)) := afieldAddr_at (n := 0) (f := (fieldT Try.prog 133 1).getD default) (by kernel_rfl) (by kernel_rfl) (by kernel_rfl) id off
theorem fl133_1 (cs : List Value) : afield Try.prog 133 (.agg cs.toArray) 1 = cs[1]? := afield_one (f := (fieldT Try.prog 133 1).getD default) (by kernel_rfl) (by kernel_rfl) (by kernel_rfl) cs
theorem fa133_2 (id off : Nat) : afieldAddr Try.prog 133 (.pointer (some ⟨id, off, none⟩)) 2 = some (.pointer (some ⟨id, off + 2, none⟩)) := afieldAddr_at (n := 0) (f := (fieldT Try.prog 133 2).getD default) (by kernel_rfl) (by kernel_rfl) (by kernel_rfl) id off
theorem fl133_2 (cs : List Value) : afield Try.prog 133 (.agg cs.toArray) 2 = cs[2]? := afield_one (f := (fieldT Try.prog 133 2).getD default) (by kernel_rfl) (by kernel_rfl) (by kernel_rfl) cs
theorem fa133_3 (id off : Nat) : afieldAddr Try.prog 133 (.pointer (some ⟨id, off, none⟩)) 3 = some (.pointer (some ⟨id, off + 3, none⟩)) := afieldAddr_at (n := 0) (f := (fieldT Try.prog 133 3).getD default) (by kernel_rfl) (by kernel_rfl) (by kernel_rfl) id off
theorem fl133_3 (cs : List Value) : afield Try.prog 133 (.agg cs.toArray) 3 = cs[3]? := afield_one (f := (fieldT Try.prog 133 3).getD default) (by kernel_rfl) (by kernel_rfl) (by kernel_rfl) cs
theorem fa133_4 (id off : Nat) : afieldAddr Try.prog 133 (.pointer (some ⟨id, off, none⟩)) 4 = some (.pointer (some ⟨id, off + 4, none⟩)) := afieldAddr_at (n := 0) (f := (fieldT Try.prog 133 4).getD default) (by kernel_rfl) (by kernel_rfl) (by kernel_rfl) id off
theorem fl133_4 (cs : List Value) : afield Try.prog 133 (.agg cs.toArray) 4 = cs[4]? := afield_one (f := (fieldT Try.prog 133 4).getD default) (by kernel_rfl) (by kernel_rfl) (by kernel_rfl) cs
theorem fa133_5 (id off : Nat) : afieldAddr Try.prog 133 (.pointer (some ⟨id, off, none⟩)) 5 = some (.pointer (some ⟨id, off + 5, none⟩)) := afieldAddr_at (n := 0) (f := (fieldT Try.prog 133 5).getD default) (by kernel_rfl) (by kernel_rfl) (by kernel_rfl) id off
theorem fl133_5 (cs : List Value) : afield Try.prog 133 (.agg cs.toArray) 5 = cs[5]? := afield_one (f := (fieldT Try.prog 133 5).getD default) (by kernel_rfl) (by kernel_rfl) (by kernel_rfl) cs
theorem fa133_6 (id off : Nat) : afieldAddr Try.prog 133 (.pointer (some ⟨id, off, none⟩)) 6 = some (.pointer (some ⟨id, off + 6, none⟩)) := afieldAddr_at (n := 0) (f := (fieldT Try.prog 133 6).getD default) (by kernel_rfl) (by kernel_rfl) (by kernel_rfl) id off
theorem fl133_6 (cs : List Value) : afield Try.prog 133 (.agg cs.toArray) 6 = cs[6]? := afield_one (f := (fieldT Try.prog 133 6).getD default) (by kernel_rfl) (by kernel_rfl) (by kernel_rfl) cs
theorem fa133_7 (id off : Nat) : afieldAddr Try.prog 133 (.pointer (some ⟨id, off, none⟩)) 7 = some (.pointer (some ⟨id, off + 7, none⟩)) := afieldAddr_at (n := 0) (f := (fieldT Try.prog 133 7).getD default) (by kernel_rfl) (by kernel_rfl) (by kernel_rfl) id off
theorem fl133_7 (cs : List Value) : afield Try.prog 133 (.agg cs.toArray) 7 = cs[7]? := afield_one (f := (fieldT Try.prog 133 7).getD default) (by kernel_rfl) (by kernel_rfl) (by kernel_rfl) cs
theorem fa133_8 (id off : Nat) : afieldAddr Try.prog 133 (.pointer (some ⟨id, off, none⟩)) 8 = some (.pointer (some ⟨id, off + 8, none⟩)) := afieldAddr_at (n := 0) (f := (fieldT Try.prog 133 8).getD default) (by kernel_rfl) (by kernel_rfl) (by kernel_rfl) id off
theorem fl133_8 (cs : List Value) : afield Try.prog 133 (.agg cs.toArray) 8 = cs[8]? := afield_one (f := (fieldT Try.prog 133 8).getD default) (by kernel_rfl) (by kernel_rfl) (by kernel_rfl) cs
theorem fa133_9 (id off : Nat) : afieldAddr Try.prog 133 (.pointer (some ⟨id, off, none⟩)) 9 = some (.pointer (some ⟨id, off + 9, none⟩)) := afieldAddr_at (n := 0) (f := (fieldT Try.prog 133 9).getD default) (by kernel_rfl) (by kernel_rfl) (by kernel_rfl) id off
theorem fl133_9 (cs : List Value) : afield Try.prog 133 (.agg cs.toArray) 9 = cs[9]? := afield_one (f := (fieldT Try.prog 133 9).getD default) (by kernel_rfl) (by kernel_rfl) (by kernel_rfl) cs
theorem fa133_10 (id off : Nat) : afieldAddr Try.prog 133 (.pointer (some ⟨id, off, none⟩)) 10 = some (.pointer (some ⟨id, off + 10, none⟩)) := afieldAddr_at (n := 0) (f := (fieldT Try.prog 133 10).getD default) (by kernel_rfl) (by kernel_rfl) (by kernel_rfl) id off
theorem fl133_10 (cs : List Value) : afield Try.prog 133 (.agg cs.toArray) 10 = cs[10]? := afield_one (f := (fieldT Try.prog 133 10).getD default) (by kernel_rfl) (by kernel_rfl) (by kernel_rfl) cs
theorem sz134 : szT Try.prog 134 = some 1 := by kernel_rfl
theorem ag134 : aggT Try.prog 134 = some false := by kernel_rfl
theorem ze134 : zeroT Try.prog 134 = some (.pointer none) := by kernel_rfl
theorem inf134 : ∃ i, Try.prog.info? 134 = some i ∧ i.zero = some (.pointer none) ∧ i.size = 1 ∧ i.bytes = 8 := by
  have h : (Try.prog.info? 134).map (fun i => (i.zero, i.size, i.bytes)) = some (some (.pointer none), 1, 8) := by kernel_rfl
  obtain ⟨i, h1, h2⟩ := Option.map_eq_some_iff.1 h
  simp only [Prod.mk.injEq] at h2
  exact ⟨i, h1, h2.1, h2.2.1, h2.2.2⟩
theorem st134 (H : AHeap) (id off : Nat) (x : Value) : astoreT Try.prog H 134 (.pointer (some ⟨id, off, none⟩)) x = if x.cells.size = 1 ∧ x.cells.toList.all oneCell = true then ((H[id]?).bind (rowStore off x.cells.toList)).map fun o => H.set id o else none := astore_rule sz134 H id off x
theorem bd7 (ps : List (Nat × Value)) : abuild Try.prog 7 ps = (fillF (fun i => [(0, 1), (1, 1), (2, 1), (3, 1)][i]?) [.int .i64 0, .int .i64 0, .bool false, .int .u8 0] ps).map fun cs => .agg cs.toArray := bd_eq ze7 (by kernel_rfl) Try.underlying7 (by kernel_rfl) ps
theorem bd8 (ps : List (Nat × Value)) : abuild Try.prog 8 ps = (fillF (fun i => [(0, 1), (1, 1), (2, 1), (3, 1)][i]?) [.int .i64 0, .int .i64 0, .bool false, .int .u8 0] ps).map fun cs => .agg cs.toArray := bd_eq ze8 (by kernel_rfl) Try.underlying8 (by kernel_rfl) ps
theorem bd13 (ps : List (Nat × Value)) : abuild Try.prog 13 ps = (fillF (fun i => [(0, 1), (1, 1)][i]?) [.string ByteArray.empty, .int .u64 0] ps).map fun cs => .agg cs.toArray := bd_eq ze13 (by kernel_rfl) Try.underlying13 (by kernel_rfl) ps
theorem bd14 (ps : List (Nat × Value)) : abuild Try.prog 14 ps = (fillF (fun i => [(0, 1), (1, 1)][i]?) [.string ByteArray.empty, .int .u64 0] ps).map fun cs => .agg cs.toArray := bd_eq ze14 (by kernel_rfl) Try.underlying14 (by kernel_rfl) ps
theorem bd18 (ps : List (Nat × Value)) : abuild Try.prog 18 ps = (fillF (fun i => [(0, 1)][i]?) [.pointer none] ps).map fun cs => .agg cs.toArray := bd_eq ze18 (by kernel_rfl) Try.underlying18 (by kernel_rfl) ps
theorem bd19 (ps : List (Nat × Value)) : abuild Try.prog 19 ps = (fillF (fun i => [(0, 1)][i]?) [.pointer none] ps).map fun cs => .agg cs.toArray := bd_eq ze19 (by kernel_rfl) Try.underlying19 (by kernel_rfl) ps
theorem bs22 {T : Tm} {d : Option Tmp} {ty : TypeId} {pos : String} {aft : Array Edge} {gd : Option (Nat × Bool)} (n : Nat) (ps : Array (Nat × Operand)) : aalloc Try.prog T ⟨d, .buildSlice 22 n ps, ty, pos, aft, gd⟩ = (bsRow [.int .i64 0, .int .i64 0, .int .i64 0, .int .i64 0, .int .i64 0] 5 n (ps.toList.map fun p => (p.1, aev T p.2))).map fun o => (o, fun id => .slice (some ⟨id, 0, none⟩) n n) := bs_eq el22 sz40 ze40 (by kernel_rfl) rfl (by decide) n ps
theorem bs23 {T : Tm} {d : Option Tmp} {ty : TypeId} {pos : String} {aft : Array Edge} {gd : Option (Nat × Bool)} (n : Nat) (ps : Array (Nat × Operand)) : aalloc Try.prog T ⟨d, .buildSlice 23 n ps, ty, pos, aft, gd⟩ = (bsRow [.bool false, .int .i64 0, .int .i64 0, .int .i64 0, .int .i64 0, .int .i64 0, .int .i64 0] 7 n (ps.toList.map fun p => (p.1, aev T p.2))).map fun o => (o, fun id => .slice (some ⟨id, 0, none⟩) n n) := bs_eq el23 sz42 ze42 (by kernel_rfl) rfl (by decide) n ps
theorem bs24 {T : Tm} {d : Option Tmp} {ty : TypeId} {pos : String} {aft : Array Edge} {gd : Option (Nat × Bool)} (n : Nat) (ps : Array (Nat × Operand)) : aalloc Try.prog T ⟨d, .buildSlice 24 n ps, ty, pos, aft, gd⟩ = (bsRow [.int .i64 0] 1 n (ps.toList.map fun p => (p.1, aev T p.2))).map fun o => (o, fun id => .slice (some ⟨id, 0, none⟩) n n) := bs_eq el24 sz3 ze3 (by kernel_rfl) rfl (by decide) n ps
theorem bd37 (ps : List (Nat × Value)) : abuild Try.prog 37 ps = (fillF (fun i => [(0, 1), (1, 1)][i]?) [.int .i64 0, .int .i64 0] ps).map fun cs => .agg cs.toArray := bd_eq ze37 (by kernel_rfl) Try.underlying37 (by kernel_rfl) ps
theorem bd38 (ps : List (Nat × Value)) : abuild Try.prog 38 ps = (fillF (fun i => [(0, 1), (1, 1)][i]?) [.int .i64 0, .int .i64 0] ps).map fun cs => .agg cs.toArray := bd_eq ze38 (by kernel_rfl) Try.underlying38 (by kernel_rfl) ps
theorem bd39 (ps : List (Nat × Value)) : abuild Try.prog 39 ps = (fillF (fun i => [(0, 2), (2, 1), (3, 1), (4, 1)][i]?) [.int .i64 0, .int .i64 0, .int .i64 0, .int .i64 0, .int .i64 0] ps).map fun cs => .agg cs.toArray := bd_eq ze39 (by kernel_rfl) Try.underlying39 (by kernel_rfl) ps
theorem bd40 (ps : List (Nat × Value)) : abuild Try.prog 40 ps = (fillF (fun i => [(0, 2), (2, 1), (3, 1), (4, 1)][i]?) [.int .i64 0, .int .i64 0, .int .i64 0, .int .i64 0, .int .i64 0] ps).map fun cs => .agg cs.toArray := bd_eq ze40 (by kernel_rfl) Try.underlying40 (by kernel_rfl) ps
theorem bd41 (ps : List (Nat × Value)) : abuild Try.prog 41 ps = (fillF (fun i => [(0, 1), (1, 5), (6, 1)][i]?) [.bool false, .int .i64 0, .int .i64 0, .int .i64 0, .int .i64 0, .int .i64 0, .int .i64 0] ps).map fun cs => .agg cs.toArray := bd_eq ze41 (by kernel_rfl) Try.underlying41 (by kernel_rfl) ps
theorem bd42 (ps : List (Nat × Value)) : abuild Try.prog 42 ps = (fillF (fun i => [(0, 1), (1, 5), (6, 1)][i]?) [.bool false, .int .i64 0, .int .i64 0, .int .i64 0, .int .i64 0, .int .i64 0, .int .i64 0] ps).map fun cs => .agg cs.toArray := bd_eq ze42 (by kernel_rfl) Try.underlying42 (by kernel_rfl) ps
theorem bd53 (ps : List (Nat × Value)) : abuild Try.prog 53 ps = (fillF (fun i => [(0, 1), (1, 1), (2, 1), (3, 1), (4, 1)][i]?) [.slice none 0 0, .slice none 0 0, .map none, .map none, .slice none 0 0] ps).map fun cs => .agg cs.toArray := bd_eq ze53 (by kernel_rfl) Try.underlying53 (by kernel_rfl) ps
theorem bd54 (ps : List (Nat × Value)) : abuild Try.prog 54 ps = (fillF (fun i => [(0, 1), (1, 1), (2, 1), (3, 1), (4, 1)][i]?) [.slice none 0 0, .slice none 0 0, .map none, .map none, .slice none 0 0] ps).map fun cs => .agg cs.toArray := bd_eq ze54 (by kernel_rfl) Try.underlying54 (by kernel_rfl) ps
theorem bd62 (ps : List (Nat × Value)) : abuild Try.prog 62 ps = (fillF (fun i => [(0, 5), (5, 1)][i]?) [.int .i64 0, .int .i64 0, .int .i64 0, .int .i64 0, .int .i64 0, .int .i64 0] ps).map fun cs => .agg cs.toArray := bd_eq ze62 (by kernel_rfl) Try.underlying62 (by kernel_rfl) ps
theorem bd63 (ps : List (Nat × Value)) : abuild Try.prog 63 ps = (fillF (fun i => [(0, 5), (5, 1)][i]?) [.int .i64 0, .int .i64 0, .int .i64 0, .int .i64 0, .int .i64 0, .int .i64 0] ps).map fun cs => .agg cs.toArray := bd_eq ze63 (by kernel_rfl) Try.underlying63 (by kernel_rfl) ps
theorem bd120 (ps : List (Nat × Value)) : abuild Try.prog 120 ps = (fillF (fun i => [(0, 1), (1, 1), (2, 1), (3, 1)][i]?) [.pointer none, .pointer none, .pointer none, .string ByteArray.empty] ps).map fun cs => .agg cs.toArray := bd_eq ze120 (by kernel_rfl) Try.underlying120 (by kernel_rfl) ps
theorem bd121 (ps : List (Nat × Value)) : abuild Try.prog 121 ps = (fillF (fun i => [(0, 1), (1, 1), (2, 1), (3, 1)][i]?) [.pointer none, .pointer none, .pointer none, .string ByteArray.empty] ps).map fun cs => .agg cs.toArray := bd_eq ze121 (by kernel_rfl) Try.underlying121 (by kernel_rfl) ps
theorem bd132 (ps : List (Nat × Value)) : abuild Try.prog 132 ps = (fillF (fun i => [(0, 1), (1, 1), (2, 1), (3, 1), (4, 1), (5, 1), (6, 1), (7, 1), (8, 1), (9, 1), (10, 1)][i]?) [.int .u64 0, .int .u64 0, .int .u32 0, .int .u8 0, .int .u8 0, .int .u8 0, .int .u8 0, .nilFunc, .pointer none, .int .i32 0, .int .i32 0] ps).map fun cs => .agg cs.toArray := bd_eq ze132 (by kernel_rfl) Try.underlying132 (by kernel_rfl) ps
theorem bd133 (ps : List (Nat × Value)) : abuild Try.prog 133 ps = (fillF (fun i => [(0, 1), (1, 1), (2, 1), (3, 1), (4, 1), (5, 1), (6, 1), (7, 1), (8, 1), (9, 1), (10, 1)][i]?) [.int .u64 0, .int .u64 0, .int .u32 0, .int .u8 0, .int .u8 0, .int .u8 0, .int .u8 0, .nilFunc, .pointer none, .int .i32 0, .int .i32 0] ps).map fun cs => .agg cs.toArray := bd_eq ze133 (by kernel_rfl) Try.underlying133 (by kernel_rfl) ps
theorem eq2 (H : AHeap) (d : Nat) (x y : Int) : aeq Try.prog H (d + 1) 2 (.int .i64 x) (.int .i64 y) = some (x == y) := aeq_int (by kernel_rfl) H d x y
theorem ck2 (d : Nat) (v : Value) : acheck Try.prog (d + 1) 2 v = true := acheck_leaf (by kernel_rfl) d v
theorem key2 (x : Int) : keyOk Try.prog 2 (.int .i64 x) = true := keyOk_of (ck2 _ _) (plainV_of1 rfl _)
theorem eq3 (H : AHeap) (d : Nat) (x y : Int) : aeq Try.prog H (d + 1) 3 (.int .i64 x) (.int .i64 y) = some (x == y) := aeq_int (by kernel_rfl) H d x y
theorem ck3 (d : Nat) (v : Value) : acheck Try.prog (d + 1) 3 v = true := acheck_leaf (by kernel_rfl) d v
theorem key3 (x : Int) : keyOk Try.prog 3 (.int .i64 x) = true := keyOk_of (ck3 _ _) (plainV_of1 rfl _)
theorem eq4 (H : AHeap) (d : Nat) (x y : Bool) : aeq Try.prog H (d + 1) 4 (.bool x) (.bool y) = some (x == y) := aeq_bool (by kernel_rfl) H d x y
theorem ck4 (d : Nat) (v : Value) : acheck Try.prog (d + 1) 4 v = true := acheck_leaf (by kernel_rfl) d v
theorem key4 (x : Bool) : keyOk Try.prog 4 (.bool x) = true := keyOk_of (ck4 _ _) (plainV_of1 rfl _)
theorem eq5 (H : AHeap) (d : Nat) (x y : Int) : aeq Try.prog H (d + 1) 5 (.int .u8 x) (.int .u8 y) = some (x == y) := aeq_int (by kernel_rfl) H d x y
theorem ck5 (d : Nat) (v : Value) : acheck Try.prog (d + 1) 5 v = true := acheck_leaf (by kernel_rfl) d v
theorem key5 (x : Int) : keyOk Try.prog 5 (.int .u8 x) = true := keyOk_of (ck5 _ _) (plainV_of1 rfl _)
theorem eq6 (H : AHeap) (d : Nat) (x y : Int) : aeq Try.prog H (d + 1) 6 (.int .u8 x) (.int .u8 y) = some (x == y) := aeq_int (by kernel_rfl) H d x y
theorem ck6 (d : Nat) (v : Value) : acheck Try.prog (d + 1) 6 v = true := acheck_leaf (by kernel_rfl) d v
theorem key6 (x : Int) : keyOk Try.prog 6 (.int .u8 x) = true := keyOk_of (ck6 _ _) (plainV_of1 rfl _)
theorem eq9 (H : AHeap) (d : Nat) (x y : ByteArray) : aeq Try.prog H (d + 1) 9 (.string x) (.string y) = some (x == y) := aeq_string (by kernel_rfl) H d x y
theorem ck9 (d : Nat) (v : Value) : acheck Try.prog (d + 1) 9 v = true := acheck_leaf (by kernel_rfl) d v
theorem key9 (x : ByteArray) : keyOk Try.prog 9 (.string x) = true := keyOk_of (ck9 _ _) (plainV_of1 rfl _)
theorem eq10 (H : AHeap) (d : Nat) (x y : ByteArray) : aeq Try.prog H (d + 1) 10 (.string x) (.string y) = some (x == y) := aeq_string (by kernel_rfl) H d x y
theorem ck10 (d : Nat) (v : Value) : acheck Try.prog (d + 1) 10 v = true := acheck_leaf (by kernel_rfl) d v
theorem key10 (x : ByteArray) : keyOk Try.prog 10 (.string x) = true := keyOk_of (ck10 _ _) (plainV_of1 rfl _)
theorem eq11 (H : AHeap) (d : Nat) (x y : ByteArray) : aeq Try.prog H (d + 1) 11 (.string x) (.string y) = some (x == y) := aeq_string (by kernel_rfl) H d x y
theorem ck11 (d : Nat) (v : Value) : acheck Try.prog (d + 1) 11 v = true := acheck_leaf (by kernel_rfl) d v
theorem key11 (x : ByteArray) : keyOk Try.prog 11 (.string x) = true := keyOk_of (ck11 _ _) (plainV_of1 rfl _)
theorem eq12 (H : AHeap) (d : Nat) (x y : Int) : aeq Try.prog H (d + 1) 12 (.int .u64 x) (.int .u64 y) = some (x == y) := aeq_int (by kernel_rfl) H d x y
theorem ck12 (d : Nat) (v : Value) : acheck Try.prog (d + 1) 12 v = true := acheck_leaf (by kernel_rfl) d v
theorem key12 (x : Int) : keyOk Try.prog 12 (.int .u64 x) = true := keyOk_of (ck12 _ _) (plainV_of1 rfl _)
theorem eq21 (H : AHeap) (d : Nat) (x y : Int) : aeq Try.prog H (d + 1) 21 (.int .i32 x) (.int .i32 y) = some (x == y) := aeq_int (by kernel_rfl) H d x y
theorem ck21 (d : Nat) (v : Value) : acheck Try.prog (d + 1) 21 v = true := acheck_leaf (by kernel_rfl) d v
theorem key21 (x : Int) : keyOk Try.prog 21 (.int .i32 x) = true := keyOk_of (ck21 _ _) (plainV_of1 rfl _)
theorem eq38 (H : AHeap) (d : Nat) (x0 : Int) (x1 : Int) (y0 : Int) (y1 : Int) : aeq Try.prog H (d + 2) 38 (.agg [.int .i64 x0, .int .i64 x1].toArray) (.agg [.int .i64 y0, .int .i64 y1].toArray) = some ((x0 == y0) && ((x1 == y1) && true)) := by
  rw [aeq_struct Try.underlying38 (by kernel_rfl) (ps := [(2, 0), (2, 1)]) (by kernel_rfl)]
  simp only [eqParts_cons, eqParts_nil, eqPart_eq, apart_one ag2, List.take_zero, List.take_succ_cons, List.drop_zero, List.drop_succ_cons, List.getElem?_cons_zero, List.getElem?_cons_succ, Option.bind_some, eq2, andO_some]
theorem ck38 (d : Nat) (x0 : Int) (x1 : Int) : acheck Try.prog (d + 2) 38 (.agg [.int .i64 x0, .int .i64 x1].toArray) = true := by
  rw [acheck_struct Try.underlying38 (ps := [(2, 0), (2, 1)]) (by kernel_rfl)]
  exact chkParts_one (u := _) (apart_one ag2 _ _) (ck2 _ _) (chkParts_one (u := _) (apart_one ag2 _ _) (ck2 _ _) (chkParts_nil _ _))
theorem key38 (x0 : Int) (x1 : Int) : keyOk Try.prog 38 (.agg [.int .i64 x0, .int .i64 x1].toArray) = true := keyOk_of (ck38 98 x0 x1) (plainV_agg rfl _)
theorem be38 (H : AHeap) (xo yo : Operand) (x0 : Int) (x1 : Int) (y0 : Int) (y1 : Int) : abin Try.prog H .eql 38 xo yo (.agg [.int .i64 x0, .int .i64 x1].toArray) (.agg [.int .i64 y0, .int .i64 y1].toArray) = some (.bool ((x0 == y0) && ((x1 == y1) && true))) := abin_agg (by kernel_rfl) H xo yo (eq38 H 9998 x0 x1 y0 y1)
theorem bn38 (H : AHeap) (xo yo : Operand) (x0 : Int) (x1 : Int) (y0 : Int) (y1 : Int) : abin Try.prog H .neq 38 xo yo (.agg [.int .i64 x0, .int .i64 x1].toArray) (.agg [.int .i64 y0, .int .i64 y1].toArray) = some (.bool !((x0 == y0) && ((x1 == y1) && true))) := abin_agg_ne (by kernel_rfl) H xo yo (eq38 H 9998 x0 x1 y0 y1)
theorem eq40 (H : AHeap) (d : Nat) (x0 : Int) (x1 : Int) (x2 : Int) (x3 : Int) (x4 : Int) (y0 : Int) (y1 : Int) (y2 : Int) (y3 : Int) (y4 : Int) : aeq Try.prog H (d + 3) 40 (.agg [.int .i64 x0, .int .i64 x1, .int .i64 x2, .int .i64 x3, .int .i64 x4].toArray) (.agg [.int .i64 y0, .int .i64 y1, .int .i64 y2, .int .i64 y3, .int .i64 y4].toArray) = some ((((x0 == y0) && ((x1 == y1) && true))) && ((x2 == y2) && ((x3 == y3) && ((x4 == y4) && true)))) := by
  rw [aeq_struct Try.underlying40 (by kernel_rfl) (ps := [(38, 0), (3, 2), (3, 3), (3, 4)]) (by kernel_rfl)]
  simp only [eqParts_cons, eqParts_nil, eqPart_eq, apart_one ag3, apart_agg ag38 sz38, List.take_zero, List.take_succ_cons, List.drop_zero, List.drop_succ_cons, List.getElem?_cons_zero, List.getElem?_cons_succ, Option.bind_some, eq3, eq38, andO_some]
theorem ck40 (d : Nat) (x0 : Int) (x1 : Int) (x2 : Int) (x3 : Int) (x4 : Int) : acheck Try.prog (d + 3) 40 (.agg [.int .i64 x0, .int .i64 x1, .int .i64 x2, .int .i64 x3, .int .i64 x4].toArray) = true := by
  rw [acheck_struct Try.underlying40 (ps := [(38, 0), (3, 2), (3, 3), (3, 4)]) (by kernel_rfl)]
  exact chkParts_one (u := _) (apart_agg ag38 sz38 _ _) (ck38 _ _ _) (chkParts_one (u := _) (apart_one ag3 _ _) (ck3 _ _) (chkParts_one (u := _) (apart_one ag3 _ _) (ck3 _ _) (chkParts_one (u := _) (apart_one ag3 _ _) (ck3 _ _) (chkParts_nil _ _))))
theorem key40 (x0 : Int) (x1 : Int) (x2 : Int) (x3 : Int) (x4 : Int) : keyOk Try.prog 40 (.agg [.int .i64 x0, .int .i64 x1, .int .i64 x2, .int .i64 x3, .int .i64 x4].toArray) = true := keyOk_of (ck40 97 x0 x1 x2 x3 x4) (plainV_agg rfl _)
theorem be40 (H : AHeap) (xo yo : Operand) (x0 : Int) (x1 : Int) (x2 : Int) (x3 : Int) (x4 : Int) (y0 : Int) (y1 : Int) (y2 : Int) (y3 : Int) (y4 : Int) : abin Try.prog H .eql 40 xo yo (.agg [.int .i64 x0, .int .i64 x1, .int .i64 x2, .int .i64 x3, .int .i64 x4].toArray) (.agg [.int .i64 y0, .int .i64 y1, .int .i64 y2, .int .i64 y3, .int .i64 y4].toArray) = some (.bool ((((x0 == y0) && ((x1 == y1) && true))) && ((x2 == y2) && ((x3 == y3) && ((x4 == y4) && true))))) := abin_agg (by kernel_rfl) H xo yo (eq40 H 9997 x0 x1 x2 x3 x4 y0 y1 y2 y3 y4)
theorem bn40 (H : AHeap) (xo yo : Operand) (x0 : Int) (x1 : Int) (x2 : Int) (x3 : Int) (x4 : Int) (y0 : Int) (y1 : Int) (y2 : Int) (y3 : Int) (y4 : Int) : abin Try.prog H .neq 40 xo yo (.agg [.int .i64 x0, .int .i64 x1, .int .i64 x2, .int .i64 x3, .int .i64 x4].toArray) (.agg [.int .i64 y0, .int .i64 y1, .int .i64 y2, .int .i64 y3, .int .i64 y4].toArray) = some (.bool !((((x0 == y0) && ((x1 == y1) && true))) && ((x2 == y2) && ((x3 == y3) && ((x4 == y4) && true))))) := abin_agg_ne (by kernel_rfl) H xo yo (eq40 H 9997 x0 x1 x2 x3 x4 y0 y1 y2 y3 y4)
theorem eq42 (H : AHeap) (d : Nat) (x0 : Bool) (x1 : Int) (x2 : Int) (x3 : Int) (x4 : Int) (x5 : Int) (x6 : Int) (y0 : Bool) (y1 : Int) (y2 : Int) (y3 : Int) (y4 : Int) (y5 : Int) (y6 : Int) : aeq Try.prog H (d + 4) 42 (.agg [.bool x0, .int .i64 x1, .int .i64 x2, .int .i64 x3, .int .i64 x4, .int .i64 x5, .int .i64 x6].toArray) (.agg [.bool y0, .int .i64 y1, .int .i64 y2, .int .i64 y3, .int .i64 y4, .int .i64 y5, .int .i64 y6].toArray) = some ((x0 == y0) && ((((((x1 == y1) && ((x2 == y2) && true))) && ((x3 == y3) && ((x4 == y4) && ((x5 == y5) && true))))) && ((x6 == y6) && true))) := by
  rw [aeq_struct Try.underlying42 (by kernel_rfl) (ps := [(4, 0), (40, 1), (3, 6)]) (by kernel_rfl)]
  simp only [eqParts_cons, eqParts_nil, eqPart_eq, apart_one ag3, apart_one ag4, apart_agg ag40 sz40, List.take_zero, List.take_succ_cons, List.drop_zero, List.drop_succ_cons, List.getElem?_cons_zero, List.getElem?_cons_succ, Option.bind_some, eq3, eq4, eq40, andO_some]
theorem ck42 (d : Nat) (x0 : Bool) (x1 : Int) (x2 : Int) (x3 : Int) (x4 : Int) (x5 : Int) (x6 : Int) : acheck Try.prog (d + 4) 42 (.agg [.bool x0, .int .i64 x1, .int .i64 x2, .int .i64 x3, .int .i64 x4, .int .i64 x5, .int .i64 x6].toArray) = true := by
  rw [acheck_struct Try.underlying42 (ps := [(4, 0), (40, 1), (3, 6)]) (by kernel_rfl)]
  exact chkParts_one (u := _) (apart_one ag4 _ _) (ck4 _ _) (chkParts_one (u := _) (apart_agg ag40 sz40 _ _) (ck40 _ _ _ _ _ _) (chkParts_one (u := _) (apart_one ag3 _ _) (ck3 _ _) (chkParts_nil _ _)))
theorem key42 (x0 : Bool) (x1 : Int) (x2 : Int) (x3 : Int) (x4 : Int) (x5 : Int) (x6 : Int) : keyOk Try.prog 42 (.agg [.bool x0, .int .i64 x1, .int .i64 x2, .int .i64 x3, .int .i64 x4, .int .i64 x5, .int .i64 x6].toArray) = true := keyOk_of (ck42 96 x0 x1 x2 x3 x4 x5 x6) (plainV_agg rfl _)
theorem be42 (H : AHeap) (xo yo : Operand) (x0 : Bool) (x1 : Int) (x2 : Int) (x3 : Int) (x4 : Int) (x5 : Int) (x6 : Int) (y0 : Bool) (y1 : Int) (y2 : Int) (y3 : Int) (y4 : Int) (y5 : Int) (y6 : Int) : abin Try.prog H .eql 42 xo yo (.agg [.bool x0, .int .i64 x1, .int .i64 x2, .int .i64 x3, .int .i64 x4, .int .i64 x5, .int .i64 x6].toArray) (.agg [.bool y0, .int .i64 y1, .int .i64 y2, .int .i64 y3, .int .i64 y4, .int .i64 y5, .int .i64 y6].toArray) = some (.bool ((x0 == y0) && ((((((x1 == y1) && ((x2 == y2) && true))) && ((x3 == y3) && ((x4 == y4) && ((x5 == y5) && true))))) && ((x6 == y6) && true)))) := abin_agg (by kernel_rfl) H xo yo (eq42 H 9996 x0 x1 x2 x3 x4 x5 x6 y0 y1 y2 y3 y4 y5 y6)
theorem bn42 (H : AHeap) (xo yo : Operand) (x0 : Bool) (x1 : Int) (x2 : Int) (x3 : Int) (x4 : Int) (x5 : Int) (x6 : Int) (y0 : Bool) (y1 : Int) (y2 : Int) (y3 : Int) (y4 : Int) (y5 : Int) (y6 : Int) : abin Try.prog H .neq 42 xo yo (.agg [.bool x0, .int .i64 x1, .int .i64 x2, .int .i64 x3, .int .i64 x4, .int .i64 x5, .int .i64 x6].toArray) (.agg [.bool y0, .int .i64 y1, .int .i64 y2, .int .i64 y3, .int .i64 y4, .int .i64 y5, .int .i64 y6].toArray) = some (.bool !((x0 == y0) && ((((((x1 == y1) && ((x2 == y2) && true))) && ((x3 == y3) && ((x4 == y4) && ((x5 == y5) && true))))) && ((x6 == y6) && true)))) := abin_agg_ne (by kernel_rfl) H xo yo (eq42 H 9996 x0 x1 x2 x3 x4 x5 x6 y0 y1 y2 y3 y4 y5 y6)
theorem eq63 (H : AHeap) (d : Nat) (x0 : Int) (x1 : Int) (x2 : Int) (x3 : Int) (x4 : Int) (x5 : Int) (y0 : Int) (y1 : Int) (y2 : Int) (y3 : Int) (y4 : Int) (y5 : Int) : aeq Try.prog H (d + 4) 63 (.agg [.int .i64 x0, .int .i64 x1, .int .i64 x2, .int .i64 x3, .int .i64 x4, .int .i64 x5].toArray) (.agg [.int .i64 y0, .int .i64 y1, .int .i64 y2, .int .i64 y3, .int .i64 y4, .int .i64 y5].toArray) = some ((((((x0 == y0) && ((x1 == y1) && true))) && ((x2 == y2) && ((x3 == y3) && ((x4 == y4) && true))))) && ((x5 == y5) && true)) := by
  rw [aeq_struct Try.underlying63 (by kernel_rfl) (ps := [(40, 0), (3, 5)]) (by kernel_rfl)]
  simp only [eqParts_cons, eqParts_nil, eqPart_eq, apart_one ag3, apart_agg ag40 sz40, List.take_zero, List.take_succ_cons, List.drop_zero, List.drop_succ_cons, List.getElem?_cons_zero, List.getElem?_cons_succ, Option.bind_some, eq3, eq40, andO_some]
theorem ck63 (d : Nat) (x0 : Int) (x1 : Int) (x2 : Int) (x3 : Int) (x4 : Int) (x5 : Int) : acheck Try.prog (d + 4) 63 (.agg [.int .i64 x0, .int .i64 x1, .int .i64 x2, .int .i64 x3, .int .i64 x4, .int .i64 x5].toArray) = true := by
  rw [acheck_struct Try.underlying63 (ps := [(40, 0), (3, 5)]) (by kernel_rfl)]
  exact chkParts_one (u := _) (apart_agg ag40 sz40 _ _) (ck40 _ _ _ _ _ _) (chkParts_one (u := _) (apart_one ag3 _ _) (ck3 _ _) (chkParts_nil _ _))
theorem key63 (x0 : Int) (x1 : Int) (x2 : Int) (x3 : Int) (x4 : Int) (x5 : Int) : keyOk Try.prog 63 (.agg [.int .i64 x0, .int .i64 x1, .int .i64 x2, .int .i64 x3, .int .i64 x4, .int .i64 x5].toArray) = true := keyOk_of (ck63 96 x0 x1 x2 x3 x4 x5) (plainV_agg rfl _)
theorem be63 (H : AHeap) (xo yo : Operand) (x0 : Int) (x1 : Int) (x2 : Int) (x3 : Int) (x4 : Int) (x5 : Int) (y0 : Int) (y1 : Int) (y2 : Int) (y3 : Int) (y4 : Int) (y5 : Int) : abin Try.prog H .eql 63 xo yo (.agg [.int .i64 x0, .int .i64 x1, .int .i64 x2, .int .i64 x3, .int .i64 x4, .int .i64 x5].toArray) (.agg [.int .i64 y0, .int .i64 y1, .int .i64 y2, .int .i64 y3, .int .i64 y4, .int .i64 y5].toArray) = some (.bool ((((((x0 == y0) && ((x1 == y1) && true))) && ((x2 == y2) && ((x3 == y3) && ((x4 == y4) && true))))) && ((x5 == y5) && true))) := abin_agg (by kernel_rfl) H xo yo (eq63 H 9996 x0 x1 x2 x3 x4 x5 y0 y1 y2 y3 y4 y5)
theorem bn63 (H : AHeap) (xo yo : Operand) (x0 : Int) (x1 : Int) (x2 : Int) (x3 : Int) (x4 : Int) (x5 : Int) (y0 : Int) (y1 : Int) (y2 : Int) (y3 : Int) (y4 : Int) (y5 : Int) : abin Try.prog H .neq 63 xo yo (.agg [.int .i64 x0, .int .i64 x1, .int .i64 x2, .int .i64 x3, .int .i64 x4, .int .i64 x5].toArray) (.agg [.int .i64 y0, .int .i64 y1, .int .i64 y2, .int .i64 y3, .int .i64 y4, .int .i64 y5].toArray) = some (.bool !((((((x0 == y0) && ((x1 == y1) && true))) && ((x2 == y2) && ((x3 == y3) && ((x4 == y4) && true))))) && ((x5 == y5) && true))) := abin_agg_ne (by kernel_rfl) H xo yo (eq63 H 9996 x0 x1 x2 x3 x4 x5 y0 y1 y2 y3 y4 y5)
theorem eq74 (H : AHeap) (d : Nat) (x y : Int) : aeq Try.prog H (d + 1) 74 (.int .u64 x) (.int .u64 y) = some (x == y) := aeq_int (by kernel_rfl) H d x y
theorem ck74 (d : Nat) (v : Value) : acheck Try.prog (d + 1) 74 v = true := acheck_leaf (by kernel_rfl) d v
theorem key74 (x : Int) : keyOk Try.prog 74 (.int .u64 x) = true := keyOk_of (ck74 _ _) (plainV_of1 rfl _)
theorem eq82 (H : AHeap) (d : Nat) (x y : Int) : aeq Try.prog H (d + 1) 82 (.int .i64 x) (.int .i64 y) = some (x == y) := aeq_int (by kernel_rfl) H d x y
theorem ck82 (d : Nat) (v : Value) : acheck Try.prog (d + 1) 82 v = true := acheck_leaf (by kernel_rfl) d v
theorem key82 (x : Int) : keyOk Try.prog 82 (.int .i64 x) = true := keyOk_of (ck82 _ _) (plainV_of1 rfl _)
theorem eq89 (H : AHeap) (d : Nat) (x y : Int) : aeq Try.prog H (d + 1) 89 (.int .u32 x) (.int .u32 y) = some (x == y) := aeq_int (by kernel_rfl) H d x y
theorem ck89 (d : Nat) (v : Value) : acheck Try.prog (d + 1) 89 v = true := acheck_leaf (by kernel_rfl) d v
theorem key89 (x : Int) : keyOk Try.prog 89 (.int .u32 x) = true := keyOk_of (ck89 _ _) (plainV_of1 rfl _)
theorem eq91 (H : AHeap) (d : Nat) (x y : Int) : aeq Try.prog H (d + 1) 91 (.int .u64 x) (.int .u64 y) = some (x == y) := aeq_int (by kernel_rfl) H d x y
theorem ck91 (d : Nat) (v : Value) : acheck Try.prog (d + 1) 91 v = true := acheck_leaf (by kernel_rfl) d v
theorem key91 (x : Int) : keyOk Try.prog 91 (.int .u64 x) = true := keyOk_of (ck91 _ _) (plainV_of1 rfl _)
theorem eq104 (H : AHeap) (d : Nat) (x y : Int) : aeq Try.prog H (d + 1) 104 (.int .u64 x) (.int .u64 y) = some (x == y) := aeq_int (by kernel_rfl) H d x y
theorem ck104 (d : Nat) (v : Value) : acheck Try.prog (d + 1) 104 v = true := acheck_leaf (by kernel_rfl) d v
theorem key104 (x : Int) : keyOk Try.prog 104 (.int .u64 x) = true := keyOk_of (ck104 _ _) (plainV_of1 rfl _)
theorem eq126 (H : AHeap) (d : Nat) (x y : Int) : aeq Try.prog H (d + 1) 126 (.int .u8 x) (.int .u8 y) = some (x == y) := aeq_int (by kernel_rfl) H d x y
theorem ck126 (d : Nat) (v : Value) : acheck Try.prog (d + 1) 126 v = true := acheck_leaf (by kernel_rfl) d v
theorem key126 (x : Int) : keyOk Try.prog 126 (.int .u8 x) = true := keyOk_of (ck126 _ _) (plainV_of1 rfl _)
theorem eq127 (H : AHeap) (d : Nat) (x y : Int) : aeq Try.prog H (d + 1) 127 (.int .u8 x) (.int .u8 y) = some (x == y) := aeq_int (by kernel_rfl) H d x y
theorem ck127 (d : Nat) (v : Value) : acheck Try.prog (d + 1) 127 v = true := acheck_leaf (by kernel_rfl) d v
theorem key127 (x : Int) : keyOk Try.prog 127 (.int .u8 x) = true := keyOk_of (ck127 _ _) (plainV_of1 rfl _)
theorem eq130 (H : AHeap) (d : Nat) (x y : Int) : aeq Try.prog H (d + 1) 130 (.int .i32 x) (.int .i32 y) = some (x == y) := aeq_int (by kernel_rfl) H d x y
theorem ck130 (d : Nat) (v : Value) : acheck Try.prog (d + 1) 130 v = true := acheck_leaf (by kernel_rfl) d v
theorem key130 (x : Int) : keyOk Try.prog 130 (.int .i32 x) = true := keyOk_of (ck130 _ _) (plainV_of1 rfl _)
theorem eq131 (H : AHeap) (d : Nat) (x y : Int) : aeq Try.prog H (d + 1) 131 (.int .i32 x) (.int .i32 y) = some (x == y) := aeq_int (by kernel_rfl) H d x y
theorem ck131 (d : Nat) (v : Value) : acheck Try.prog (d + 1) 131 v = true := acheck_leaf (by kernel_rfl) d v
theorem key131 (x : Int) : keyOk Try.prog 131 (.int .i32 x) = true := keyOk_of (ck131 _ _) (plainV_of1 rfl _)
attribute [go_sem] sz2 ag2 ze2 pz2 st2 kd2 sz3 ag3 ze3 st3 kd3 sz4 ag4 ze4 pz4 st4 en4 nn4 sz5 ag5 ze5 pz5 st5 kd5 sz6 ag6 ze6 st6 kd6 sz7 ag7 ze7 pz7 st7 bd7 fa7_0 fl7_0 fa7_1 fl7_1 fa7_2 fl7_2 fa7_3 fl7_3 sz8 ag8 ze8 st8 bd8 fa8_0 fl8_0 fa8_1 fl8_1 fa8_2 fl8_2 fa8_3 fl8_3 sz9 ag9 ze9 pz9 st9 kd9 sz10 ag10 ze10 st10 kd10 sz11 ag11 ze11 st11 kd11 sz12 ag12 ze12 pz12 st12 kd12 sz13 ag13 ze13 pz13 st13 bd13 fa13_0 fl13_0 fa13_1 fl13_1 sz14 ag14 ze14 st14 bd14 fa14_0 fl14_0 fa14_1 fl14_1 sz15 ag15 ze15 pz15 st15 en15 nn15 sz16 ag16 ze16 st16 en16 nn16 sz17 ag17 ze17 st17 en17 nn17 sz18 ag18 ze18 pz18 st18 bd18 fa18_0 fl18_0 sz19 ag19 ze19 st19 bd19 fa19_0 fl19_0 sz20 ag20 ze20 pz20 st20 sz21 ag21 ze21 pz21 st21 kd21 sz22 ag22 ze22 pz22 st22 el22 ln22 ix22 bs22 en22 nn22 sc22 sz23 ag23 ze23 st23 el23 ln23 ix23 bs23 en23 nn23 sc23 sz24 ag24 ze24 st24 el24 ln24 ix24 bs24 en24 nn24 sc24 sz37 ag37 ze37 pz37 st37 bd37 fa37_0 fl37_0 fa37_1 fl37_1 sz38 ag38 ze38 st38 bd38 fa38_0 fl38_0 fa38_1 fl38_1 sz39 ag39 ze39 pz39 st39 bd39 fa39_0 fl39_0 fa39_1 fl39_1 fa39_2 fl39_2 fa39_3 fl39_3 sz40 ag40 ze40 st40 bd40 fa40_0 fl40_0 fa40_1 fl40_1 fa40_2 fl40_2 fa40_3 fl40_3 sz41 ag41 ze41 pz41 st41 bd41 fa41_0 fl41_0 fa41_1 fl41_1 fa41_2 fl41_2 sz42 ag42 ze42 st42 bd42 fa42_0 fl42_0 fa42_1 fl42_1 fa42_2 fl42_2 sz49 ag49 ze49 st49 en49 nn49 sz51 ag51 ze51 pz51 st51 en51 nn51 mt51 sz52 ag52 ze52 st52 en52 nn52 mt52 sz53 ag53 ze53 pz53 st53 bd53 fa53_0 fl53_0 fa53_1 fl53_1 fa53_2 fl53_2 fa53_3 fl53_3 fa53_4 fl53_4 sz54 ag54 ze54 st54 bd54 fa54_0 fl54_0 fa54_1 fl54_1 fa54_2 fl54_2 fa54_3 fl54_3 fa54_4 fl54_4 sz62 ag62 ze62 pz62 st62 bd62 fa62_0 fl62_0 fa62_1 fl62_1 sz63 ag63 ze63 st63 bd63 fa63_0 fl63_0 fa63_1 fl63_1 sz74 ag74 ze74 st74 kd74 sz82 ag82 ze82 st82 kd82 sz89 ag89 ze89 pz89 st89 kd89 sz91 ag91 ze91 st91 kd91 sz104 ag104 ze104 st104 kd104 sz108 ag108 ze108 st108 en108 nn108 sz114 ag114 ze114 st114 en114 nn114 sz120 ag120 ze120 pz120 st120 bd120 fa120_0 fl120_0 fa120_1 fl120_1 fa120_2 fl120_2 fa120_3 fl120_3 sz121 ag121 ze121 st121 bd121 fa121_0 fl121_0 fa121_1 fl121_1 fa121_2 fl121_2 fa121_3 fl121_3 sz122 ag122 ze122 pz122 st122 sz123 ag123 ze123 st123 sz124 ag124 ze124 st124 sz126 ag126 ze126 st126 kd126 sz127 ag127 ze127 st127 kd127 sz129 ag129 ze129 st129 en129 nn129 sz130 ag130 ze130 st130 kd130 sz131 ag131 ze131 st131 kd131 sz132 ag132 ze132 pz132 st132 bd132 fa132_0 fl132_0 fa132_1 fl132_1 fa132_2 fl132_2 fa132_3 fl132_3 fa132_4 fl132_4 fa132_5 fl132_5 fa132_6 fl132_6 fa132_7 fl132_7 fa132_8 fl132_8 fa132_9 fl132_9 fa132_10 fl132_10 sz133 ag133 ze133 st133 bd133 fa133_0 fl133_0 fa133_1 fl133_1 fa133_2 fl133_2 fa133_3 fl133_3 fa133_4 fl133_4 fa133_5 fl133_5 fa133_6 fl133_6 fa133_7 fl133_7 fa133_8 fl133_8 fa133_9 fl133_9 fa133_10 fl133_10 sz134 ag134 ze134 st134 key2 key3 key4 key5 key6 key9 key10 key11 key12 key21 key38 be38 bn38 key40 be40 bn40 key42 be42 bn42 key63 be63 bn63 key74 key82 key89 key91 key104 key126 key127 key130 key131
end Go.Proofs.Ytangfnommhmpeaa
