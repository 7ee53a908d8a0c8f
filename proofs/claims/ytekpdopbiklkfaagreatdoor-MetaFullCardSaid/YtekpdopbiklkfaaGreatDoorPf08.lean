/-
  Parts of the proof, joined: Facts0.
-/
import Derived.Test.YtekpdopbiklkfaaGreatDoorProg
import Derived.Test.YtekpdopbiklkfaaGreatDoorPf07
section
set_option linter.unusedVariables false
set_option linter.unusedSimpArgs false
namespace Go.Proofs.YtekpdopbiklkfaaGreatDoor
open Go Go.AW
set_option linter.unusedSimpArgs false
theorem mixed : Tryz.prog.follows .mixedOrders = true := by kernel_rfl
theorem sz2 : szT Tryz.prog 2 = some 1 := by kernel_rfl
theorem ag2 : aggT Tryz.prog 2 = some false := by kernel_rfl
theorem ze2 : zeroT Tryz.prog 2 = some (.int .i64 0) := by kernel_rfl
theorem pz2 : plainV 100 (.int .i64 0) = true := by kernel_rfl
theorem st2 (H : AHeap) (id off : Nat) (x : Value) : astoreT Tryz.prog H 2 (.pointer (some ⟨id, off, none⟩)) x = if x.cells.size = 1 ∧ x.cells.toList.all oneCell = true then ((H[id]?).bind (rowStore off x.cells.toList)).map fun o => H.set id o else none := astore_rule sz2 H id off x
theorem kd2 : kindT Tryz.prog 2 = .int .i64 := by kernel_rfl
theorem sz3 : szT Tryz.prog 3 = some 1 := by kernel_rfl
theorem ag3 : aggT Tryz.prog 3 = some false := by kernel_rfl
theorem ze3 : zeroT Tryz.prog 3 = some (.int .i64 0) := by kernel_rfl
theorem st3 (H : AHeap) (id off : Nat) (x : Value) : astoreT Tryz.prog H 3 (.pointer (some ⟨id, off, none⟩)) x = if x.cells.size = 1 ∧ x.cells.toList.all oneCell = true then ((H[id]?).bind (rowStore off x.cells.toList)).map fun o => H.set id o else none := astore_rule sz3 H id off x
theorem kd3 : kindT Tryz.prog 3 = .int .i64 := by kernel_rfl
theorem sz4 : szT Tryz.prog 4 = some 1 := by kernel_rfl
theorem ag4 : aggT Tryz.prog 4 = some false := by kernel_rfl
theorem ze4 : zeroT Tryz.prog 4 = some (.bool false) := by kernel_rfl
theorem pz4 : plainV 100 (.bool false) = true := by kernel_rfl
theorem st4 (H : AHeap) (id off : Nat) (x : Value) : astoreT Tryz.prog H 4 (.pointer (some ⟨id, off, none⟩)) x = if x.cells.size = 1 ∧ x.cells.toList.all oneCell = true then ((H[id]?).bind (rowStore off x.cells.toList)).map fun o => H.set id o else none := astore_rule sz4 H id off x
theorem en4 (H : AHeap) (xo yo : Operand) (a b : Bool) : abin Tryz.prog H .eql 4 xo yo (.bool a) (.bool b) = some (.bool (a == b)) := abin_eq_bool (by kernel_rfl) H xo yo a b
theorem nn4 (H : AHeap) (xo yo : Operand) (a b : Bool) : abin Tryz.prog H .neq 4 xo yo (.bool a) (.bool b) = some (.bool !(a == b)) := abin_ne_bool (by kernel_rfl) H xo yo a b
theorem sz5 : szT Tryz.prog 5 = some 1 := by kernel_rfl
theorem ag5 : aggT Tryz.prog 5 = some false := by kernel_rfl
theorem ze5 : zeroT Tryz.prog 5 = some (.int .u8 0) := by kernel_rfl
theorem pz5 : plainV 100 (.int .u8 0) = true := by kernel_rfl
theorem inf5 : ∃ i, Tryz.prog.info? 5 = some i ∧ i.zero = some (.int .u8 0) ∧ i.size = 1 ∧ i.bytes = 1 := by
  have h : (Tryz.prog.info? 5).map (fun i => (i.zero, i.size, i.bytes)) = some (some (.int .u8 0), 1, 1) := by kernel_rfl
  obtain ⟨i, h1, h2⟩ := Option.map_eq_some_iff.1 h
  simp only [Prod.mk.injEq] at h2
  exact ⟨i, h1, h2.1, h2.2.1, h2.2.2⟩
theorem st5 (H : AHeap) (id off : Nat) (x : Value) : astoreT Tryz.prog H 5 (.pointer (some ⟨id, off, none⟩)) x = if x.cells.size = 1 ∧ x.cells.toList.all oneCell = true then ((H[id]?).bind (rowStore off x.cells.toList)).map fun o => H.set id o else none := astore_rule sz5 H id off x
theorem kd5 : kindT Tryz.prog 5 = .int .u8 := by kernel_rfl
theorem sz9 : szT Tryz.prog 9 = some 1 := by kernel_rfl
theorem ag9 : aggT Tryz.prog 9 = some false := by kernel_rfl
theorem ze9 : zeroT Tryz.prog 9 = some (.string ByteArray.empty) := by kernel_rfl
theorem pz9 : plainV 100 (.string ByteArray.empty) = true := by kernel_rfl
theorem inf9 : ∃ i, Tryz.prog.info? 9 = some i ∧ i.zero = some (.string ByteArray.empty) ∧ i.size = 1 ∧ i.bytes = 16 := by
  have h : (Tryz.prog.info? 9).map (fun i => (i.zero, i.size, i.bytes)) = some (some (.string ByteArray.empty), 1, 16) := by kernel_rfl
  obtain ⟨i, h1, h2⟩ := Option.map_eq_some_iff.1 h
  simp only [Prod.mk.injEq] at h2
  exact ⟨i, h1, h2.1, h2.2.1, h2.2.2⟩
theorem st9 (H : AHeap) (id off : Nat) (x : Value) : astoreT Tryz.prog H 9 (.pointer (some ⟨id, off, none⟩)) x = if x.cells.size = 1 ∧ x.cells.toList.all oneCell = true then ((H[id]?).bind (rowStore off x.cells.toList)).map fun o => H.set id o else none := astore_rule sz9 H id off x
theorem kd9 : kindT Tryz.prog 9 = .str := by kernel_rfl
theorem sz20 : szT Tryz.prog 20 = some 1 := by kernel_rfl
theorem ag20 : aggT Tryz.prog 20 = some false := by kernel_rfl
theorem ze20 : zeroT Tryz.prog 20 = some (.nilIface) := by kernel_rfl
theorem pz20 : plainV 100 (.nilIface) = true := by kernel_rfl
theorem st20 (H : AHeap) (id off : Nat) (x : Value) : astoreT Tryz.prog H 20 (.pointer (some ⟨id, off, none⟩)) x = if x.cells.size = 1 ∧ x.cells.toList.all oneCell = true then ((H[id]?).bind (rowStore off x.cells.toList)).map fun o => H.set id o else none := astore_rule sz20 H id off x
theorem enz20 (H : AHeap) (xo : Operand) (w : Value) : abin Tryz.prog H .eql 20 xo (.const w) .nilIface .nilIface = some (.bool true) := abin_eq_if0 (by kernel_rfl) H xo w
theorem eno20 (H : AHeap) (xo yo : Operand) (u : TypeId) (v : Value) : abin Tryz.prog H .eql 20 xo yo (.iface u v) .nilIface = some (.bool false) := abin_eq_if1 (by kernel_rfl) H xo yo u v
theorem nnz20 (H : AHeap) (xo : Operand) (w : Value) : abin Tryz.prog H .neq 20 xo (.const w) .nilIface .nilIface = some (.bool false) := abin_ne_if0 (by kernel_rfl) H xo w
theorem nno20 (H : AHeap) (xo yo : Operand) (u : TypeId) (v : Value) : abin Tryz.prog H .neq 20 xo yo (.iface u v) .nilIface = some (.bool true) := abin_ne_if1 (by kernel_rfl) H xo yo u v
theorem sz22 : szT Tryz.prog 22 = some 1 := by kernel_rfl
theorem ag22 : aggT Tryz.prog 22 = some false := by kernel_rfl
theorem ze22 : zeroT Tryz.prog 22 = some (.slice none 0 0) := by kernel_rfl
theorem pz22 : plainV 100 (.slice none 0 0) = true := by kernel_rfl
theorem st22 (H : AHeap) (id off : Nat) (x : Value) : astoreT Tryz.prog H 22 (.pointer (some ⟨id, off, none⟩)) x = if x.cells.size = 1 ∧ x.cells.toList.all oneCell = true then ((H[id]?).bind (rowStore off x.cells.toList)).map fun o => H.set id o else none := astore_rule sz22 H id off x
theorem un22 : Tryz.prog.underlying 22 = some (.slice 36) := by kernel_rfl
theorem el22 : elemT Tryz.prog 22 = some 36 := by kernel_rfl
theorem ln22 (H : AHeap) (a : Option Addr) (m c : Nat) : alen Tryz.prog H 22 (.slice a m c) = some (.int .i64 m) := alen_slice un22 H a m c
theorem cp22 (a : Addr) (m c : Nat) : acap Tryz.prog 22 (.slice (some a) m c) = if c = 0 then none else some (.int .i64 c) := acap_slice un22 a m c
theorem ix22 (id off m c : Nat) (ik : IntKind) (i : Int) : aindexAddr Tryz.prog 22 (.slice (some ⟨id, off, none⟩) m c) (.int ik i) = if 0 ≤ i ∧ i < m then some (.pointer (some ⟨id, off + i.toNat * 10, none⟩)) else none := aindexAddr_at un22 (by kernel_rfl) id off m c ik i
theorem en22 (H : AHeap) (xo yo : Operand) (a : Option Addr) (n c m q : Nat) : abin Tryz.prog H .eql 22 xo yo (.slice a n c) (.slice none m q) = some (.bool a.isNone) := abin_eq_slnil un22 H xo yo a n c m q
theorem nn22 (H : AHeap) (xo yo : Operand) (a : Option Addr) (n c m q : Nat) : abin Tryz.prog H .neq 22 xo yo (.slice a n c) (.slice none m q) = some (.bool !a.isNone) := abin_ne_slnil un22 H xo yo a n c m q
theorem sc22 (H : AHeap) (a : Option Addr) (n c : Nat) (lo hi : Option Value) : aslice Tryz.prog H 22 (.slice a n c) lo hi none = (optB hi (some n) (capOf n c)).bind fun h => (optB lo (some 0) h).bind fun l => cut H 10 a c l h := aslice_sl un22 (by kernel_rfl) H a n c lo hi
theorem sz24 : szT Tryz.prog 24 = some 1 := by kernel_rfl
theorem ag24 : aggT Tryz.prog 24 = some false := by kernel_rfl
theorem ze24 : zeroT Tryz.prog 24 = some (.pointer none) := by kernel_rfl
theorem pz24 : plainV 100 (.pointer none) = true := by kernel_rfl
theorem st24 (H : AHeap) (id off : Nat) (x : Value) : astoreT Tryz.prog H 24 (.pointer (some ⟨id, off, none⟩)) x = if x.cells.size = 1 ∧ x.cells.toList.all oneCell = true then ((H[id]?).bind (rowStore off x.cells.toList)).map fun o => H.set id o else none := astore_rule sz24 H id off x
theorem en24 (H : AHeap) (xo yo : Operand) (a : Option Addr) : abin Tryz.prog H .eql 24 xo yo (.pointer a) (.pointer none) = some (.bool a.isNone) := abin_eq_ptrnil (e := 84) (by kernel_rfl) H xo yo a
theorem nn24 (H : AHeap) (xo yo : Operand) (a : Option Addr) : abin Tryz.prog H .neq 24 xo yo (.pointer a) (.pointer none) = some (.bool !a.isNone) := abin_ne_ptrnil (e := 84) (by kernel_rfl) H xo yo a
theorem sz26 : szT Tryz.prog 26 = some 1 := by kernel_rfl
theorem ag26 : aggT Tryz.prog 26 = some false := by kernel_rfl
theorem ze26 : zeroT Tryz.prog 26 = some (.pointer none) := by kernel_rfl
theorem st26 (H : AHeap) (id off : Nat) (x : Value) : astoreT Tryz.prog H 26 (.pointer (some ⟨id, off, none⟩)) x = if x.cells.size = 1 ∧ x.cells.toList.all oneCell = true then ((H[id]?).bind (rowStore off x.cells.toList)).map fun o => H.set id o else none := astore_rule sz26 H id off x
theorem en26 (H : AHeap) (xo yo : Operand) (a : Option Addr) : abin Tryz.prog H .eql 26 xo yo (.pointer a) (.pointer none) = some (.bool a.isNone) := abin_eq_ptrnil (e := 89) (by kernel_rfl) H xo yo a
theorem nn26 (H : AHeap) (xo yo : Operand) (a : Option Addr) : abin Tryz.prog H .neq 26 xo yo (.pointer a) (.pointer none) = some (.bool !a.isNone) := abin_ne_ptrnil (e := 89) (by kernel_rfl) H xo yo a
theorem sz28 : szT Tryz.prog 28 = some 1 := by kernel_rfl
theorem ag28 : aggT Tryz.prog 28 = some false := by kernel_rfl
theorem ze28 : zeroT Tryz.prog 28 = some (.slice none 0 0) := by kernel_rfl
theorem st28 (H : AHeap) (id off : Nat) (x : Value) : astoreT Tryz.prog H 28 (.pointer (some ⟨id, off, none⟩)) x = if x.cells.size = 1 ∧ x.cells.toList.all oneCell = true then ((H[id]?).bind (rowStore off x.cells.toList)).map fun o => H.set id o else none := astore_rule sz28 H id off x
theorem un28 : Tryz.prog.underlying 28 = some (.slice 51) := by kernel_rfl
theorem el28 : elemT Tryz.prog 28 = some 51 := by kernel_rfl
theorem ln28 (H : AHeap) (a : Option Addr) (m c : Nat) : alen Tryz.prog H 28 (.slice a m c) = some (.int .i64 m) := alen_slice un28 H a m c
theorem cp28 (a : Addr) (m c : Nat) : acap Tryz.prog 28 (.slice (some a) m c) = if c = 0 then none else some (.int .i64 c) := acap_slice un28 a m c
theorem ix28 (id off m c : Nat) (ik : IntKind) (i : Int) : aindexAddr Tryz.prog 28 (.slice (some ⟨id, off, none⟩) m c) (.int ik i) = if 0 ≤ i ∧ i < m then some (.pointer (some ⟨id, off + i.toNat * 8, none⟩)) else none := aindexAddr_at un28 (by kernel_rfl) id off m c ik i
theorem en28 (H : AHeap) (xo yo : Operand) (a : Option Addr) (n c m q : Nat) : abin Tryz.prog H .eql 28 xo yo (.slice a n c) (.slice none m q) = some (.bool a.isNone) := abin_eq_slnil un28 H xo yo a n c m q
theorem nn28 (H : AHeap) (xo yo : Operand) (a : Option Addr) (n c m q : Nat) : abin Tryz.prog H .neq 28 xo yo (.slice a n c) (.slice none m q) = some (.bool !a.isNone) := abin_ne_slnil un28 H xo yo a n c m q
theorem sc28 (H : AHeap) (a : Option Addr) (n c : Nat) (lo hi : Option Value) : aslice Tryz.prog H 28 (.slice a n c) lo hi none = (optB hi (some n) (capOf n c)).bind fun h => (optB lo (some 0) h).bind fun l => cut H 8 a c l h := aslice_sl un28 (by kernel_rfl) H a n c lo hi
theorem sz29 : szT Tryz.prog 29 = some 1 := by kernel_rfl
theorem ag29 : aggT Tryz.prog 29 = some false := by kernel_rfl
theorem ze29 : zeroT Tryz.prog 29 = some (.slice none 0 0) := by kernel_rfl
theorem st29 (H : AHeap) (id off : Nat) (x : Value) : astoreT Tryz.prog H 29 (.pointer (some ⟨id, off, none⟩)) x = if x.cells.size = 1 ∧ x.cells.toList.all oneCell = true then ((H[id]?).bind (rowStore off x.cells.toList)).map fun o => H.set id o else none := astore_rule sz29 H id off x
theorem un29 : Tryz.prog.underlying 29 = some (.slice 48) := by kernel_rfl
theorem el29 : elemT Tryz.prog 29 = some 48 := by kernel_rfl
theorem ln29 (H : AHeap) (a : Option Addr) (m c : Nat) : alen Tryz.prog H 29 (.slice a m c) = some (.int .i64 m) := alen_slice un29 H a m c
theorem cp29 (a : Addr) (m c : Nat) : acap Tryz.prog 29 (.slice (some a) m c) = if c = 0 then none else some (.int .i64 c) := acap_slice un29 a m c
theorem ix29 (id off m c : Nat) (ik : IntKind) (i : Int) : aindexAddr Tryz.prog 29 (.slice (some ⟨id, off, none⟩) m c) (.int ik i) = if 0 ≤ i ∧ i < m then some (.pointer (some ⟨id, off + i.toNat * 5, none⟩)) else none := aindexAddr_at un29 (by kernel_rfl) id off m c ik i
theorem en29 (H : AHeap) (xo yo : Operand) (a : Option Addr) (n c m q : Nat) : abin Tryz.prog H .eql 29 xo yo (.slice a n c) (.slice none m q) = some (.bool a.isNone) := abin_eq_slnil un29 H xo yo a n c m q
theorem nn29 (H : AHeap) (xo yo : Operand) (a : Option Addr) (n c m q : Nat) : abin Tryz.prog H .neq 29 xo yo (.slice a n c) (.slice none m q) = some (.bool !a.isNone) := abin_ne_slnil un29 H xo yo a n c m q
theorem sc29 (H : AHeap) (a : Option Addr) (n c : Nat) (lo hi : Option Value) : aslice Tryz.prog H 29 (.slice a n c) lo hi none = (optB hi (some n) (capOf n c)).bind fun h => (optB lo (some 0) h).bind fun l => cut H 5 a c l h := aslice_sl un29 (by kernel_rfl) H a n c lo hi
theorem sz30 : szT Tryz.prog 30 = some 1 := by kernel_rfl
theorem ag30 : aggT Tryz.prog 30 = some false := by kernel_rfl
theorem ze30 : zeroT Tryz.prog 30 = some (.slice none 0 0) := by kernel_rfl
theorem st30 (H : AHeap) (id off : Nat) (x : Value) : astoreT Tryz.prog H 30 (.pointer (some ⟨id, off, none⟩)) x = if x.cells.size = 1 ∧ x.cells.toList.all oneCell = true then ((H[id]?).bind (rowStore off x.cells.toList)).map fun o => H.set id o else none := astore_rule sz30 H id off x
theorem un30 : Tryz.prog.underlying 30 = some (.slice 54) := by kernel_rfl
theorem el30 : elemT Tryz.prog 30 = some 54 := by kernel_rfl
theorem ln30 (H : AHeap) (a : Option Addr) (m c : Nat) : alen Tryz.prog H 30 (.slice a m c) = some (.int .i64 m) := alen_slice un30 H a m c
theorem cp30 (a : Addr) (m c : Nat) : acap Tryz.prog 30 (.slice (some a) m c) = if c = 0 then none else some (.int .i64 c) := acap_slice un30 a m c
theorem ix30 (id off m c : Nat) (ik : IntKind) (i : Int) : aindexAddr Tryz.prog 30 (.slice (some ⟨id, off, none⟩) m c) (.int ik i) = if 0 ≤ i ∧ i < m then some (.pointer (some ⟨id, off + i.toNat * 3, none⟩)) else none := aindexAddr_at un30 (by kernel_rfl) id off m c ik i
theorem en30 (H : AHeap) (xo yo : Operand) (a : Option Addr) (n c m q : Nat) : abin Tryz.prog H .eql 30 xo yo (.slice a n c) (.slice none m q) = some (.bool a.isNone) := abin_eq_slnil un30 H xo yo a n c m q
theorem nn30 (H : AHeap) (xo yo : Operand) (a : Option Addr) (n c m q : Nat) : abin Tryz.prog H .neq 30 xo yo (.slice a n c) (.slice none m q) = some (.bool !a.isNone) := abin_ne_slnil un30 H xo yo a n c m q
theorem sc30 (H : AHeap) (a : Option Addr) (n c : Nat) (lo hi : Option Value) : aslice Tryz.prog H 30 (.slice a n c) lo hi none = (optB hi (some n) (capOf n c)).bind fun h => (optB lo (some 0) h).bind fun l => cut H 3 a c l h := aslice_sl un30 (by kernel_rfl) H a n c lo hi
theorem sz31 : szT Tryz.prog 31 = some 2 := by kernel_rfl
theorem ag31 : aggT Tryz.prog 31 = some true := by kernel_rfl
theorem ze31 : zeroT Tryz.prog 31 = some (.agg #[.int .i64 0, .int .i64 0]) := by kernel_rfl
theorem pz31 : plainV 100 (.agg #[.int .i64 0, .int .i64 0]) = true := by kernel_rfl
theorem st31 (H : AHeap) (id off : Nat) (x : Value) : astoreT Tryz.prog H 31 (.pointer (some ⟨id, off, none⟩)) x = if x.cells.size = 2 ∧ x.cells.toList.all oneCell = true then ((H[id]?).bind (rowStore off x.cells.toList)).map fun o => H.set id o else none := astore_rule sz31 H id off x
theorem fa31_0 (id off : Nat) : afieldAddr Tryz.prog 31 (.pointer (some ⟨id, off, none⟩)) 0 = some (.pointer (some ⟨id, off + 0, none⟩)) := afieldAddr_at (n := 0) (f := (fieldT Tryz.prog 31 0).getD default) (by kernel_rfl) (by kernel_rfl) (by kernel_rfl) id off
theorem fl31_0 (cs : List Value) : afield Tryz.prog 31 (.agg cs.toArray) 0 = cs[0]? := afield_one (f := (fieldT Tryz.prog 31 0).getD default) (by kernel_rfl) (by kernel_rfl) (by kernel_rfl) cs
theorem fa31_1 (id off : Nat) : afieldAddr Tryz.prog 31 (.pointer (some ⟨id, off, none⟩)) 1 = some (.pointer (some ⟨id, off + 1, none⟩)) := afieldAddr_at (n := 0) (f := (fieldT Tryz.prog 31 1).getD default) (by kernel_rfl) (by kernel_rfl) (by kernel_rfl) id off
theorem fl31_1 (cs : List Value) : afield Tryz.prog 31 (.agg cs.toArray) 1 = cs[1]? := afield_one (f := (fieldT Tryz.prog 31 1).getD default) (by kernel_rfl) (by kernel_rfl) (by kernel_rfl) cs
theorem sz32 : szT Tryz.prog 32 = some 2 := by kernel_rfl
theorem ag32 : aggT Tryz.prog 32 = some true := by kernel_rfl
theorem ze32 : zeroT Tryz.prog 32 = some (.agg #[.int .i64 0, .int .i64 0]) := by kernel_rfl
theorem st32 (H : AHeap) (id off : Nat) (x : Value) : astoreT Tryz.prog H 32 (.pointer (some ⟨id, off, none⟩)) x = if x.cells.size = 2 ∧ x.cells.toList.all oneCell = true then ((H[id]?).bind (rowStore off x.cells.toList)).map fun o => H.set id o else none := astore_rule sz32 H id off x
theorem fa32_0 (id off : Nat) : afieldAddr Tryz.prog 32 (.pointer (some ⟨id, off, none⟩)) 0 = some (.pointer (some ⟨id, off + 0, none⟩)) := afieldAddr_at (n := 0) (f := (fieldT Tryz.prog 32 0).getD default) (by kernel_rfl) (by kernel_rfl) (by kernel_rfl) id off
theorem fl32_0 (cs : List Value) : afield Tryz.prog 32 (.agg cs.toArray) 0 = cs[0]? := afield_one (f := (fieldT Tryz.prog 32 0).getD default) (by kernel_rfl) (by kernel_rfl) (by kernel_rfl) cs
theorem fa32_1 (id off : Nat) : afieldAddr Tryz.prog 32 (.pointer (some ⟨id, off, none⟩)) 1 = some (.pointer (some ⟨id, off + 1, none⟩)) := afieldAddr_at (n := 0) (f := (fieldT Tryz.prog 32 1).getD default) (by kernel_rfl) (by kernel_rfl) (by kernel_rfl) id off
theorem fl32_1 (cs : List Value) : afield Tryz.prog 32 (.agg cs.toArray) 1 = cs[1]? := afield_one (f := (fieldT Tryz.prog 32 1).getD default) (by kernel_rfl) (by kernel_rfl) (by kernel_rfl) cs
theorem sz33 : szT Tryz.prog 33 = some 7 := by kernel_rfl
theorem ag33 : aggT Tryz.prog 33 = some true := by kernel_rfl
theorem ze33 : zeroT Tryz.prog 33 = some (.agg #[.int .i64 0, .int .i64 0, .slice none 0 0, .slice none 0 0, .slice none 0 0, .int .i64 0, .int .i64 0]) := by kernel_rfl
theorem pz33 : plainV 100 (.agg #[.int .i64 0, .int .i64 0, .slice none 0 0, .slice none 0 0, .slice none 0 0, .int .i64 0, .int .i64 0]) = true := by kernel_rfl
theorem st33 (H : AHeap) (id off : Nat) (x : Value) : astoreT Tryz.prog H 33 (.pointer (some ⟨id, off, none⟩)) x = if x.cells.size = 7 ∧ x.cells.toList.all oneCell = true then ((H[id]?).bind (rowStore off x.cells.toList)).map fun o => H.set id o else none := astore_rule sz33 H id off x
theorem fa33_0 (id off : Nat) : afieldAddr Tryz.prog 33 (.pointer (some ⟨id, off, none⟩)) 0 = some (.pointer (some ⟨id, off + 0, none⟩)) := afieldAddr_at (n := 0) (f := (fieldT Tryz.prog 33 0).getD default) (by kernel_rfl) (by kernel_rfl) (by kernel_rfl) id off
theorem fl33_0 (cs : List Value) : afield Tryz.prog 33 (.agg cs.toArray) 0 = cs[0]? := afield_one (f := (fieldT Tryz.prog 33 0).getD default) (by kernel_rfl) (by kernel_rfl) (by kernel_rfl) cs
theorem fa33_1 (id off : Nat) : afieldAddr Tryz.prog 33 (.pointer (some ⟨id, off, none⟩)) 1 = some (.pointer (some ⟨id, off + 1, none⟩)) := afieldAddr_at (n := 0) (f := (fieldT Tryz.prog 33 1).getD default) (by kernel_rfl) (by kernel_rfl) (by kernel_rfl) id off
theorem fl33_1 (cs : List Value) : afield Tryz.prog 33 (.agg cs.toArray) 1 = cs[1]? := afield_one (f := (fieldT Tryz.prog 33 1).getD default) (by kernel_rfl) (by kernel_rfl) (by kernel_rfl) cs
theorem fa33_2 (id off : Nat) : afieldAddr Tryz.prog 33 (.pointer (some ⟨id, off, none⟩)) 2 = some (.pointer (some ⟨id, off + 2, none⟩)) := afieldAddr_at (n := 0) (f := (fieldT Tryz.prog 33 2).getD default) (by kernel_rfl) (by kernel_rfl) (by kernel_rfl) id off
theorem fl33_2 (cs : List Value) : afield Tryz.prog 33 (.agg cs.toArray) 2 = cs[2]? := afield_one (f := (fieldT Tryz.prog 33 2).getD default) (by kernel_rfl) (by kernel_rfl) (by kernel_rfl) cs
theorem fa33_3 (id off : Nat) : afieldAddr Tryz.prog 33 (.pointer (some ⟨id, off, none⟩)) 3 = some (.pointer (some ⟨id, off + 3, none⟩)) := afieldAddr_at (n := 0) (f := (fieldT Tryz.prog 33 3).getD default) (by kernel_rfl) (by kernel_rfl) (by kernel_rfl) id off
theorem fl33_3 (cs : List Value) : afield Tryz.prog 33 (.agg cs.toArray) 3 = cs[3]? := afield_one (f := (fieldT Tryz.prog 33 3).getD default) (by kernel_rfl) (by kernel_rfl) (by kernel_rfl) cs
theorem fa33_4 (id off : Nat) : afieldAddr Tryz.prog 33 (.pointer (some ⟨id, off, none⟩)) 4 = some (.pointer (some ⟨id, off + 4, none⟩)) := afieldAddr_at (n := 0) (f := (fieldT Tryz.prog 33 4).getD default) (by kernel_rfl) (by kernel_rfl) (by kernel_rfl) id off
theorem fl33_4 (cs : List Value) : afield Tryz.prog 33 (.agg cs.toArray) 4 = cs[4]? := afield_one (f := (fieldT Tryz.prog 33 4).getD default) (by kernel_rfl) (by kernel_rfl) (by kernel_rfl) cs
theorem fa33_5 (id off : Nat) : afieldAddr Tryz.prog 33 (.pointer (some ⟨id, off, none⟩)) 5 = some (.pointer (some ⟨id, off + 5, none⟩)) := afieldAddr_at (n := 1) (f := (fieldT Tryz.prog 33 5).getD default) (by kernel_rfl) (by kernel_rfl) (by kernel_rfl) id off
theorem fl33_5 (cs : List Value) : afield Tryz.prog 33 (.agg cs.toArray) 5 = some (.agg ((cs.drop 5).take 2).toArray) := afield_agg (f := (fieldT Tryz.prog 33 5).getD default) (by kernel_rfl) (by kernel_rfl) (by kernel_rfl) (by kernel_rfl) cs
theorem sz34 : szT Tryz.prog 34 = some 7 := by kernel_rfl
theorem ag34 : aggT Tryz.prog 34 = some true := by kernel_rfl
theorem ze34 : zeroT Tryz.prog 34 = some (.agg #[.int .i64 0, .int .i64 0, .slice none 0 0, .slice none 0 0, .slice none 0 0, .int .i64 0, .int .i64 0]) := by kernel_rfl
theorem st34 (H : AHeap) (id off : Nat) (x : Value) : astoreT Tryz.prog H 34 (.pointer (some ⟨id, off, none⟩)) x = if x.cells.size = 7 ∧ x.cells.toList.all oneCell = true then ((H[id]?).bind (rowStore off x.cells.toList)).map fun o => H.set id o else none := astore_rule sz34 H id off x
theorem fa34_0 (id off : Nat) : afieldAddr Tryz.prog 34 (.pointer (some ⟨id, off, none⟩)) 0 = some (.pointer (some ⟨id, off + 0, none⟩)) := afieldAddr_at (n := 0) (f := (fieldT Tryz.prog 34 0).getD default) (by kernel_rfl) (by kernel_rfl) (by kernel_rfl) id off
theorem fl34_0 (cs : List Value) : afield Tryz.prog 34 (.agg cs.toArray) 0 = cs[0]? := afield_one (f := (fieldT Tryz.prog 34 0).getD default) (by kernel_rfl) (by kernel_rfl) (by kernel_rfl) cs
theorem fa34_1 (id off : Nat) : afieldAddr Tryz.prog 34 (.pointer (some ⟨id, off, none⟩)) 1 = some (.pointer (some ⟨id, off + 1, none⟩)) := afieldAddr_at (n := 0) (f := (fieldT Tryz.prog 34 1).getD default) (by kernel_rfl) (by kernel_rfl) (by kernel_rfl) id off
theorem fl34_1 (cs : List Value) : afield Tryz.prog 34 (.agg cs.toArray) 1 = cs[1]? := afield_one (f := (fieldT Tryz.prog 34 1).getD default) (by kernel_rfl) (by kernel_rfl) (by kernel_rfl) cs
theorem fa34_2 (id off : Nat) : afieldAddr Tryz.prog 34 (.pointer (some ⟨id, off, none⟩)) 2 = some (.pointer (some ⟨id, off + 2, none⟩)) := afieldAddr_at (n := 0) (f := (fieldT Tryz.prog 34 2).getD default) (by kernel_rfl) (by kernel_rfl) (by kernel_rfl) id off
theorem fl34_2 (cs : List Value) : afield Tryz.prog 34 (.agg cs.toArray) 2 = cs[2]? := afield_one (f := (fieldT Tryz.prog 34 2).getD default) (by kernel_rfl) (by kernel_rfl) (by kernel_rfl) cs
theorem fa34_3 (id off : Nat) : afieldAddr Tryz.prog 34 (.pointer (some ⟨id, off, none⟩)) 3 = some (.pointer (some ⟨id, off + 3, none⟩)) := afieldAddr_at (n := 0) (f := (fieldT Tryz.prog 34 3).getD default) (by kernel_rfl) (by kernel_rfl) (by kernel_rfl) id off
theorem fl34_3 (cs : List Value) : afield Tryz.prog 34 (.agg cs.toArray) 3 = cs[3]? := afield_one (f := (fieldT Tryz.prog 34 3).getD default) (by kernel_rfl) (by kernel_rfl) (by kernel_rfl) cs
theorem fa34_4 (id off : Nat) : afieldAddr Tryz.prog 34 (.pointer (some ⟨id, off, none⟩)) 4 = some (.pointer (some ⟨id, off + 4, none⟩)) := afieldAddr_at (n := 0) (f := (fieldT Tryz.prog 34 4).getD default) (by kernel_rfl) (by kernel_rfl) (by kernel_rfl) id off
theorem fl34_4 (cs : List Value) : afield Tryz.prog 34 (.agg cs.toArray) 4 = cs[4]? := afield_one (f := (fieldT Tryz.prog 34 4).getD default) (by kernel_rfl) (by kernel_rfl) (by kernel_rfl) cs
theorem fa34_5 (id off : Nat) : afieldAddr Tryz.prog 34 (.pointer (some ⟨id, off, none⟩)) 5 = some (.pointer (some ⟨id, off + 5, none⟩)) := afieldAddr_at (n := 1) (f := (fieldT Tryz.prog 34 5).getD default) (by kernel_rfl) (by kernel_rfl) (by kernel_rfl) id off
theorem fl34_5 (cs : List Value) : afield Tryz.prog 34 (.agg cs.toArray) 5 = some (.agg ((cs.drop 5).take 2).toArray) := afield_agg (f := (fieldT Tryz.prog 34 5).getD default) (by kernel_rfl) (by kernel_rfl) (by kernel_rfl) (by kernel_rfl) cs
theorem sz35 : szT Tryz.prog 35 = some 10 := by kernel_rfl
theorem ag35 : aggT Tryz.prog 35 = some true := by kernel_rfl
theorem ze35 : zeroT Tryz.prog 35 = some (.agg #[.int .i64 0, .int .i64 0, .int .i64 0, .slice none 0 0, .slice none 0 0, .slice none 0 0, .int .i64 0, .int .i64 0, .int .i64 0, .int .i64 0]) := by kernel_rfl
theorem pz35 : plainV 100 (.agg #[.int .i64 0, .int .i64 0, .int .i64 0, .slice none 0 0, .slice none 0 0, .slice none 0 0, .int .i64 0, .int .i64 0, .int .i64 0, .int .i64 0]) = true := by kernel_rfl
theorem st35 (H : AHeap) (id off : Nat) (x : Value) : astoreT Tryz.prog H 35 (.pointer (some ⟨id, off, none⟩)) x = if x.cells.size = 10 ∧ x.cells.toList.all oneCell = true then ((H[id]?).bind (rowStore off x.cells.toList)).map fun o => H.set id o else none := astore_rule sz35 H id off x
theorem fa35_0 (id off : Nat) : afieldAddr Tryz.prog 35 (.pointer (some ⟨id, off, none⟩)) 0 = some (.pointer (some ⟨id, off + 0, none⟩)) := afieldAddr_at (n := 0) (f := (fieldT Tryz.prog 35 0).getD default) (by kernel_rfl) (by kernel_rfl) (by kernel_rfl) id off
theorem fl35_0 (cs : List Value) : afield Tryz.prog 35 (.agg cs.toArray) 0 = cs[0]? := afield_one (f := (fieldT Tryz.prog 35 0).getD default) (by kernel_rfl) (by kernel_rfl) (by kernel_rfl) cs
theorem fa35_1 (id off : Nat) : afieldAddr Tryz.prog 35 (.pointer (some ⟨id, off, none⟩)) 1 = some (.pointer (some ⟨id, off + 1, none⟩)) := afieldAddr_at (n := 6) (f := (fieldT Tryz.prog 35 1).getD default) (by kernel_rfl) (by kernel_rfl) (by kernel_rfl) id off
theorem fl35_1 (cs : List Value) : afield Tryz.prog 35 (.agg cs.toArray) 1 = some (.agg ((cs.drop 1).take 7).toArray) := afield_agg (f := (fieldT Tryz.prog 35 1).getD default) (by kernel_rfl) (by kernel_rfl) (by kernel_rfl) (by kernel_rfl) cs
theorem fa35_2 (id off : Nat) : afieldAddr Tryz.prog 35 (.pointer (some ⟨id, off, none⟩)) 2 = some (.pointer (some ⟨id, off + 8, none⟩)) := afieldAddr_at (n := 0) (f := (fieldT Tryz.prog 35 2).getD default) (by kernel_rfl) (by kernel_rfl) (by kernel_rfl) id off
theorem fl35_2 (cs : List Value) : afield Tryz.prog 35 (.agg cs.toArray) 2 = cs[8]? := afield_one (f := (fieldT Tryz.prog 35 2).getD default) (by kernel_rfl) (by kernel_rfl) (by kernel_rfl) cs
theorem fa35_3 (id off : Nat) : afieldAddr Tryz.prog 35 (.pointer (some ⟨id, off, none⟩)) 3 = some (.pointer (some ⟨id, off + 9, none⟩)) := afieldAddr_at (n := 0) (f := (fieldT Tryz.prog 35 3).getD default) (by kernel_rfl) (by kernel_rfl) (by kernel_rfl) id off
theorem fl35_3 (cs : List Value) : afield Tryz.prog 35 (.agg cs.toArray) 3 = cs[9]? := afield_one (f := (fieldT Tryz.prog 35 3).getD default) (by kernel_rfl) (by kernel_rfl) (by kernel_rfl) cs
theorem sz36 : szT Tryz.prog 36 = some 10 := by kernel_rfl
theorem ag36 : aggT Tryz.prog 36 = some true := by kernel_rfl
theorem ze36 : zeroT Tryz.prog 36 = some (.agg #[.int .i64 0, .int .i64 0, .int .i64 0, .slice none 0 0, .slice none 0 0, .slice none 0 0, .int .i64 0, .int .i64 0, .int .i64 0, .int .i64 0]) := by kernel_rfl
theorem st36 (H : AHeap) (id off : Nat) (x : Value) : astoreT Tryz.prog H 36 (.pointer (some ⟨id, off, none⟩)) x = if x.cells.size = 10 ∧ x.cells.toList.all oneCell = true then ((H[id]?).bind (rowStore off x.cells.toList)).map fun o => H.set id o else none := astore_rule sz36 H id off x
theorem fa36_0 (id off : Nat) : afieldAddr Tryz.prog 36 (.pointer (some ⟨id, off, none⟩)) 0 = some (.pointer (some ⟨id, off + 0, none⟩)) := afieldAddr_at (n := 0) (f := (fieldT Tryz.prog 36 0).getD default) (by kernel_rfl) (by kernel_rfl) (by kernel_rfl) id off
theorem fl36_0 (cs : List Value) : afield Tryz.prog 36 (.agg cs.toArray) 0 = cs[0]? := afield_one (f := (fieldT Tryz.prog 36 0).getD default) (by kernel_rfl) (by kernel_rfl) (by kernel_rfl) cs
theorem fa36_1 (id off : Nat) : afieldAddr Tryz.prog 36 (.pointer (some ⟨id, off, none⟩)) 1 = some (.pointer (some ⟨id, off + 1, none⟩)) := afieldAddr_at (n := 6) (f := (fieldT Tryz.prog 36 1).getD default) (by kernel_rfl) (by kernel_rfl) (by kernel_rfl) id off
theorem fl36_1 (cs : List Value) : afield Tryz.prog 36 (.agg cs.toArray) 1 = some (.agg ((cs.drop 1).take 7).toArray) := afield_agg (f := (fieldT Tryz.prog 36 1).getD default) (by kernel_rfl) (by kernel_rfl) (by kernel_rfl) (by kernel_rfl) cs
theorem fa36_2 (id off : Nat) : afieldAddr Tryz.prog 36 (.pointer (some ⟨id, off, none⟩)) 2 = some (.pointer (some ⟨id, off + 8, none⟩)) := afieldAddr_at (n := 0) (f := (fieldT Tryz.prog 36 2).getD default) (by kernel_rfl) (by kernel_rfl) (by kernel_rfl) id off
theorem fl36_2 (cs : List Value) : afield Tryz.prog 36 (.agg cs.toArray) 2 = cs[8]? := afield_one (f := (fieldT Tryz.prog 36 2).getD default) (by kernel_rfl) (by kernel_rfl) (by kernel_rfl) cs
theorem fa36_3 (id off : Nat) : afieldAddr Tryz.prog 36 (.pointer (some ⟨id, off, none⟩)) 3 = some (.pointer (some ⟨id, off + 9, none⟩)) := afieldAddr_at (n := 0) (f := (fieldT Tryz.prog 36 3).getD default) (by kernel_rfl) (by kernel_rfl) (by kernel_rfl) id off
theorem fl36_3 (cs : List Value) : afield Tryz.prog 36 (.agg cs.toArray) 3 = cs[9]? := afield_one (f := (fieldT Tryz.prog 36 3).getD default) (by kernel_rfl) (by kernel_rfl) (by kernel_rfl) cs
theorem sz39 : szT Tryz.prog 39 = some 1 := by kernel_rfl
theorem ag39 : aggT Tryz.prog 39 = some false := by kernel_rfl
theorem ze39 : zeroT Tryz.prog 39 = some (.slice none 0 0) := by kernel_rfl
theorem st39 (H : AHeap) (id off : Nat) (x : Value) : astoreT Tryz.prog H 39 (.pointer (some ⟨id, off, none⟩)) x = if x.cells.size = 1 ∧ x.cells.toList.all oneCell = true then ((H[id]?).bind (rowStore off x.cells.toList)).map fun o => H.set id o else none := astore_rule sz39 H id off x
theorem un39 : Tryz.prog.underlying 39 = some (.slice 52) := by kernel_rfl
theorem el39 : elemT Tryz.prog 39 = some 52 := by kernel_rfl
theorem ln39 (H : AHeap) (a : Option Addr) (m c : Nat) : alen Tryz.prog H 39 (.slice a m c) = some (.int .i64 m) := alen_slice un39 H a m c
theorem cp39 (a : Addr) (m c : Nat) : acap Tryz.prog 39 (.slice (some a) m c) = if c = 0 then none else some (.int .i64 c) := acap_slice un39 a m c
theorem ix39 (id off m c : Nat) (ik : IntKind) (i : Int) : aindexAddr Tryz.prog 39 (.slice (some ⟨id, off, none⟩) m c) (.int ik i) = if 0 ≤ i ∧ i < m then some (.pointer (some ⟨id, off + i.toNat * 1, none⟩)) else none := aindexAddr_at un39 (by kernel_rfl) id off m c ik i
theorem en39 (H : AHeap) (xo yo : Operand) (a : Option Addr) (n c m q : Nat) : abin Tryz.prog H .eql 39 xo yo (.slice a n c) (.slice none m q) = some (.bool a.isNone) := abin_eq_slnil un39 H xo yo a n c m q
theorem nn39 (H : AHeap) (xo yo : Operand) (a : Option Addr) (n c m q : Nat) : abin Tryz.prog H .neq 39 xo yo (.slice a n c) (.slice none m q) = some (.bool !a.isNone) := abin_ne_slnil un39 H xo yo a n c m q
theorem sc39 (H : AHeap) (a : Option Addr) (n c : Nat) (lo hi : Option Value) : aslice Tryz.prog H 39 (.slice a n c) lo hi none = (optB hi (some n) (capOf n c)).bind fun h => (optB lo (some 0) h).bind fun l => cut H 1 a c l h := aslice_sl un39 (by kernel_rfl) H a n c lo hi
theorem sz40 : szT Tryz.prog 40 = some 5 := by kernel_rfl
theorem ag40 : aggT Tryz.prog 40 = some true := by kernel_rfl
theorem ze40 : zeroT Tryz.prog 40 = some (.agg #[.int .i64 0, .int .i64 0, .int .i64 0, .slice none 0 0, .slice none 0 0]) := by kernel_rfl
theorem pz40 : plainV 100 (.agg #[.int .i64 0, .int .i64 0, .int .i64 0, .slice none 0 0, .slice none 0 0]) = true := by kernel_rfl
theorem st40 (H : AHeap) (id off : Nat) (x : Value) : astoreT Tryz.prog H 40 (.pointer (some ⟨id, off, none⟩)) x = if x.cells.size = 5 ∧ x.cells.toList.all oneCell = true then ((H[id]?).bind (rowStore off x.cells.toList)).map fun o => H.set id o else none := astore_rule sz40 H id off x
theorem fa40_0 (id off : Nat) : afieldAddr Tryz.prog 40 (.pointer (some ⟨id, off, none⟩)) 0 = some (.pointer (some ⟨id, off + 0, none⟩)) := afieldAddr_at (n := 0) (f := (fieldT Tryz.prog 40 0).getD default) (by kernel_rfl) (by kernel_rfl) (by kernel_rfl) id off
theorem fl40_0 (cs : List Value) : afield Tryz.prog 40 (.agg cs.toArray) 0 = cs[0]? := afield_one (f := (fieldT Tryz.prog 40 0).getD default) (by kernel_rfl) (by kernel_rfl) (by kernel_rfl) cs
theorem fa40_1 (id off : Nat) : afieldAddr Tryz.prog 40 (.pointer (some ⟨id, off, none⟩)) 1 = some (.pointer (some ⟨id, off + 1, none⟩)) := afieldAddr_at (n := 0) (f := (fieldT Tryz.prog 40 1).getD default) (by kernel_rfl) (by kernel_rfl) (by kernel_rfl) id off
theorem fl40_1 (cs : List Value) : afield Tryz.prog 40 (.agg cs.toArray) 1 = cs[1]? := afield_one (f := (fieldT Tryz.prog 40 1).getD default) (by kernel_rfl) (by kernel_rfl) (by kernel_rfl) cs
theorem fa40_2 (id off : Nat) : afieldAddr Tryz.prog 40 (.pointer (some ⟨id, off, none⟩)) 2 = some (.pointer (some ⟨id, off + 2, none⟩)) := afieldAddr_at (n := 0) (f := (fieldT Tryz.prog 40 2).getD default) (by kernel_rfl) (by kernel_rfl) (by kernel_rfl) id off
theorem fl40_2 (cs : List Value) : afield Tryz.prog 40 (.agg cs.toArray) 2 = cs[2]? := afield_one (f := (fieldT Tryz.prog 40 2).getD default) (by kernel_rfl) (by kernel_rfl) (by kernel_rfl) cs
theorem fa40_3 (id off : Nat) : afieldAddr Tryz.prog 40 (.pointer (some ⟨id, off, none⟩)) 3 = some (.pointer (some ⟨id, off + 3, none⟩)) := afieldAddr_at (n := 0) (f := (fieldT Tryz.prog 40 3).getD default) (by kernel_rfl) (by kernel_rfl) (by kernel_rfl) id off
theorem fl40_3 (cs : List Value) : afield Tryz.prog 40 (.agg cs.toArray) 3 = cs[3]? := afield_one (f := (fieldT Tryz.prog 40 3).getD default) (by kernel_rfl) (by kernel_rfl) (by kernel_rfl) cs
theorem fa40_4 (id off : Nat) : afieldAddr Tryz.prog 40 (.pointer (some ⟨id, off, none⟩)) 4 = some (.pointer (some ⟨id, off + 4, none⟩)) := afieldAddr_at (n := 0) (f := (fieldT Tryz.prog 40 4).getD default) (by kernel_rfl) (by kernel_rfl) (by kernel_rfl) id off
theorem fl40_4 (cs : List Value) : afield Tryz.prog 40 (.agg cs.toArray) 4 = cs[4]? := afield_one (f := (fieldT Tryz.prog 40 4).getD default) (by kernel_rfl) (by kernel_rfl) (by kernel_rfl) cs
theorem sz41 : szT Tryz.prog 41 = some 5 := by kernel_rfl
theorem ag41 : aggT Tryz.prog 41 = some true := by kernel_rfl
theorem ze41 : zeroT Tryz.prog 41 = some (.agg #[.int .i64 0, .int .i64 0, .int .i64 0, .slice none 0 0, .slice none 0 0]) := by kernel_rfl
theorem st41 (H : AHeap) (id off : Nat) (x : Value) : astoreT Tryz.prog H 41 (.pointer (some ⟨id, off, none⟩)) x = if x.cells.size = 5 ∧ x.cells.toList.all oneCell = true then ((H[id]?).bind (rowStore off x.cells.toList)).map fun o => H.set id o else none := astore_rule sz41 H id off x
theorem fa41_0 (id off : Nat) : afieldAddr Tryz.prog 41 (.pointer (some ⟨id, off, none⟩)) 0 = some (.pointer (some ⟨id, off + 0, none⟩)) := afieldAddr_at (n := 0) (f := (fieldT Tryz.prog 41 0).getD default) (by kernel_rfl) (by kernel_rfl) (by kernel_rfl) id off
theorem fl41_0 (cs : List Value) : afield Tryz.prog 41 (.agg cs.toArray) 0 = cs[0]? := afield_one (f := (fieldT Tryz.prog 41 0).getD default) (by kernel_rfl) (by kernel_rfl) (by kernel_rfl) cs
theorem fa41_1 (id off : Nat) : afieldAddr Tryz.prog 41 (.pointer (some ⟨id, off, none⟩)) 1 = some (.pointer (some ⟨id, off + 1, none⟩)) := afieldAddr_at (n := 0) (f := (fieldT Tryz.prog 41 1).getD default) (by kernel_rfl) (by kernel_rfl) (by kernel_rfl) id off
theorem fl41_1 (cs : List Value) : afield Tryz.prog 41 (.agg cs.toArray) 1 = cs[1]? := afield_one (f := (fieldT Tryz.prog 41 1).getD default) (by kernel_rfl) (by kernel_rfl) (by kernel_rfl) cs
theorem fa41_2 (id off : Nat) : afieldAddr Tryz.prog 41 (.pointer (some ⟨id, off, none⟩)) 2 = some (.pointer (some ⟨id, off + 2, none⟩)) := afieldAddr_at (n := 0) (f := (fieldT Tryz.prog 41 2).getD default) (by kernel_rfl) (by kernel_rfl) (by kernel_rfl) id off
theorem fl41_2 (cs : List Value) : afield Tryz.prog 41 (.agg cs.toArray) 2 = cs[2]? := afield_one (f := (fieldT Tryz.prog 41 2).getD default) (by kernel_rfl) (by kernel_rfl) (by kernel_rfl) cs
theorem fa41_3 (id off : Nat) : afieldAddr Tryz.prog 41 (.pointer (some ⟨id, off, none⟩)) 3 = some (.pointer (some ⟨id, off + 3, none⟩)) := afieldAddr_at (n := 0) (f := (fieldT Tryz.prog 41 3).getD default) (by kernel_rfl) (by kernel_rfl) (by kernel_rfl) id off
theorem fl41_3 (cs : List Value) : afield Tryz.prog 41 (.agg cs.toArray) 3 = cs[3]? := afield_one (f := (fieldT Tryz.prog 41 3).getD default) (by kernel_rfl) (by kernel_rfl) (by kernel_rfl) cs
theorem fa41_4 (id off : Nat) : afieldAddr Tryz.prog 41 (.pointer (some ⟨id, off, none⟩)) 4 = some (.pointer (some ⟨id, off + 4, none⟩)) := afieldAddr_at (n := 0) (f := (fieldT Tryz.prog 41 4).getD default) (by kernel_rfl) (by kernel_rfl) (by kernel_rfl) id off
theorem fl41_4 (cs : List Value) : afield Tryz.prog 41 (.agg cs.toArray) 4 = cs[4]? := afield_one (f := (fieldT Tryz.prog 41 4).getD default) (by kernel_rfl) (by kernel_rfl) (by kernel_rfl) cs
theorem sz43 : szT Tryz.prog 43 = some 1 := by kernel_rfl
theorem ag43 : aggT Tryz.prog 43 = some false := by kernel_rfl
theorem ze43 : zeroT Tryz.prog 43 = some (.int .i64 0) := by kernel_rfl
theorem st43 (H : AHeap) (id off : Nat) (x : Value) : astoreT Tryz.prog H 43 (.pointer (some ⟨id, off, none⟩)) x = if x.cells.size = 1 ∧ x.cells.toList.all oneCell = true then ((H[id]?).bind (rowStore off x.cells.toList)).map fun o => H.set id o else none := astore_rule sz43 H id off x
theorem kd43 : kindT Tryz.prog 43 = .int .i64 := by kernel_rfl
theorem sz47 : szT Tryz.prog 47 = some 5 := by kernel_rfl
theorem ag47 : aggT Tryz.prog 47 = some true := by kernel_rfl
theorem ze47 : zeroT Tryz.prog 47 = some (.agg #[.int .i64 0, .int .i64 0, .int .i64 0, .int .i64 0, .int .i64 0]) := by kernel_rfl
theorem pz47 : plainV 100 (.agg #[.int .i64 0, .int .i64 0, .int .i64 0, .int .i64 0, .int .i64 0]) = true := by kernel_rfl
theorem st47 (H : AHeap) (id off : Nat) (x : Value) : astoreT Tryz.prog H 47 (.pointer (some ⟨id, off, none⟩)) x = if x.cells.size = 5 ∧ x.cells.toList.all oneCell = true then ((H[id]?).bind (rowStore off x.cells.toList)).map fun o => H.set id o else none := astore_rule sz47 H id off x
theorem fa47_0 (id off : Nat) : afieldAddr Tryz.prog 47 (.pointer (some ⟨id, off, none⟩)) 0 = some (.pointer (some ⟨id, off + 0, none⟩)) := afieldAddr_at (n := 1) (f := (fieldT Tryz.prog 47 0).getD default) (by kernel_rfl) (by kernel_rfl) (by kernel_rfl) id off
theorem fl47_0 (cs : List Value) : afield Tryz.prog 47 (.agg cs.toArray) 0 = some (.agg ((cs.drop 0).take 2).toArray) := afield_agg (f := (fieldT Tryz.prog 47 0).getD default) (by kernel_rfl) (by kernel_rfl) (by kernel_rfl) (by kernel_rfl) cs
theorem fa47_1 (id off : Nat) : afieldAddr Tryz.prog 47 (.pointer (some ⟨id, off, none⟩)) 1 = some (.pointer (some ⟨id, off + 2, none⟩)) := afieldAddr_at (n := 0) (f := (fieldT Tryz.prog 47 1).getD default) (by kernel_rfl) (by kernel_rfl) (by kernel_rfl) id off
theorem fl47_1 (cs : List Value) : afield Tryz.prog 47 (.agg cs.toArray) 1 = cs[2]? := afield_one (f := (fieldT Tryz.prog 47 1).getD default) (by kernel_rfl) (by kernel_rfl) (by kernel_rfl) cs
theorem fa47_2 (id off : Nat) : afieldAddr Tryz.prog 47 (.pointer (some ⟨id, off, none⟩)) 2 = some (.pointer (some ⟨id, off + 3, none⟩)) := afieldAddr_at (n := 0) (f := (fieldT Tryz.prog 47 2).getD default) (by kernel_rfl) (by kernel_rfl) (by kernel_rfl) id off
theorem fl47_2 (cs : List Value) : afield Tryz.prog 47 (.agg cs.toArray) 2 = cs[3]? := afield_one (f := (fieldT Tryz.prog 47 2).getD default) (by kernel_rfl) (by kernel_rfl) (by kernel_rfl) cs
theorem fa47_3 (id off : Nat) : afieldAddr Tryz.prog 47 (.pointer (some ⟨id, off, none⟩)) 3 = some (.pointer (some ⟨id, off + 4, none⟩)) := afieldAddr_at (n := 0) (f := (fieldT Tryz.prog 47 3).getD default) (by kernel_rfl) (by kernel_rfl) (by kernel_rfl) id off
theorem fl47_3 (cs : List Value) : afield Tryz.prog 47 (.agg cs.toArray) 3 = cs[4]? := afield_one (f := (fieldT Tryz.prog 47 3).getD default) (by kernel_rfl) (by kernel_rfl) (by kernel_rfl) cs
theorem sz48 : szT Tryz.prog 48 = some 5 := by kernel_rfl
theorem ag48 : aggT Tryz.prog 48 = some true := by kernel_rfl
theorem ze48 : zeroT Tryz.prog 48 = some (.agg #[.int .i64 0, .int .i64 0, .int .i64 0, .int .i64 0, .int .i64 0]) := by kernel_rfl
theorem inf48 : ∃ i, Tryz.prog.info? 48 = some i ∧ i.zero = some (.agg #[.int .i64 0, .int .i64 0, .int .i64 0, .int .i64 0, .int .i64 0]) ∧ i.size = 5 ∧ i.bytes = 40 := by
  have h : (Tryz.prog.info? 48).map (fun i => (i.zero, i.size, i.bytes)) = some (some (.agg #[.int .i64 0, .int .i64 0, .int .i64 0, .int .i64 0, .int .i64 0]), 5, 40) := by kernel_rfl
  obtain ⟨i, h1, h2⟩ := Option.map_eq_some_iff.1 h
  simp only [Prod.mk.injEq] at h2
  exact ⟨i, h1, h2.1, h2.2.1, h2.2.2⟩
theorem st48 (H : AHeap) (id off : Nat) (x : Value) : astoreT Tryz.prog H 48 (.pointer (some ⟨id, off, none⟩)) x = if x.cells.size = 5 ∧ x.cells.toList.all oneCell = true then ((H[id]?).bind (rowStore off x.cells.toList)).map fun o => H.set id o else none := astore_rule sz48 H id off x
theorem fa48_0 (id off : Nat) : afieldAddr Tryz.prog 48 (.pointer (some ⟨id, off, none⟩)) 0 = some (.pointer (some ⟨id, off + 0, none⟩)) := afieldAddr_at (n := 1) (f := (fieldT Tryz.prog 48 0).getD default) (by kernel_rfl) (by kernel_rfl) (by kernel_rfl) id off
theorem fl48_0 (cs : List Value) : afield Tryz.prog 48 (.agg cs.toArray) 0 = some (.agg ((cs.drop 0).take 2).toArray) := afield_agg (f := (fieldT Tryz.prog 48 0).getD default) (by kernel_rfl) (by kernel_rfl) (by kernel_rfl) (by kernel_rfl) cs
theorem fa48_1 (id off : Nat) : afieldAddr Tryz.prog 48 (.pointer (some ⟨id, off, none⟩)) 1 = some (.pointer (some ⟨id, off + 2, none⟩)) := afieldAddr_at (n := 0) (f := (fieldT Tryz.prog 48 1).getD default) (by kernel_rfl) (by kernel_rfl) (by kernel_rfl) id off
theorem fl48_1 (cs : List Value) : afield Tryz.prog 48 (.agg cs.toArray) 1 = cs[2]? := afield_one (f := (fieldT Tryz.prog 48 1).getD default) (by kernel_rfl) (by kernel_rfl) (by kernel_rfl) cs
theorem fa48_2 (id off : Nat) : afieldAddr Tryz.prog 48 (.pointer (some ⟨id, off, none⟩)) 2 = some (.pointer (some ⟨id, off + 3, none⟩)) := afieldAddr_at (n := 0) (f := (fieldT Tryz.prog 48 2).getD default) (by kernel_rfl) (by kernel_rfl) (by kernel_rfl) id off
theorem fl48_2 (cs : List Value) : afield Tryz.prog 48 (.agg cs.toArray) 2 = cs[3]? := afield_one (f := (fieldT Tryz.prog 48 2).getD default) (by kernel_rfl) (by kernel_rfl) (by kernel_rfl) cs
theorem fa48_3 (id off : Nat) : afieldAddr Tryz.prog 48 (.pointer (some ⟨id, off, none⟩)) 3 = some (.pointer (some ⟨id, off + 4, none⟩)) := afieldAddr_at (n := 0) (f := (fieldT Tryz.prog 48 3).getD default) (by kernel_rfl) (by kernel_rfl) (by kernel_rfl) id off
theorem fl48_3 (cs : List Value) : afield Tryz.prog 48 (.agg cs.toArray) 3 = cs[4]? := afield_one (f := (fieldT Tryz.prog 48 3).getD default) (by kernel_rfl) (by kernel_rfl) (by kernel_rfl) cs
theorem sz49 : szT Tryz.prog 49 = some 1 := by kernel_rfl
theorem ag49 : aggT Tryz.prog 49 = some false := by kernel_rfl
theorem ze49 : zeroT Tryz.prog 49 = some (.int .u32 0) := by kernel_rfl
theorem pz49 : plainV 100 (.int .u32 0) = true := by kernel_rfl
theorem st49 (H : AHeap) (id off : Nat) (x : Value) : astoreT Tryz.prog H 49 (.pointer (some ⟨id, off, none⟩)) x = if x.cells.size = 1 ∧ x.cells.toList.all oneCell = true then ((H[id]?).bind (rowStore off x.cells.toList)).map fun o => H.set id o else none := astore_rule sz49 H id off x
theorem kd49 : kindT Tryz.prog 49 = .int .u32 := by kernel_rfl
theorem sz50 : szT Tryz.prog 50 = some 8 := by kernel_rfl
theorem ag50 : aggT Tryz.prog 50 = some true := by kernel_rfl
theorem ze50 : zeroT Tryz.prog 50 = some (.agg #[.int .i64 0, .int .i64 0, .int .i64 0, .int .i64 0, .int .i64 0, .string ByteArray.empty, .int .u32 0, .int .i64 0]) := by kernel_rfl
theorem pz50 : plainV 100 (.agg #[.int .i64 0, .int .i64 0, .int .i64 0, .int .i64 0, .int .i64 0, .string ByteArray.empty, .int .u32 0, .int .i64 0]) = true := by kernel_rfl
theorem st50 (H : AHeap) (id off : Nat) (x : Value) : astoreT Tryz.prog H 50 (.pointer (some ⟨id, off, none⟩)) x = if x.cells.size = 8 ∧ x.cells.toList.all oneCell = true then ((H[id]?).bind (rowStore off x.cells.toList)).map fun o => H.set id o else none := astore_rule sz50 H id off x
theorem fa50_0 (id off : Nat) : afieldAddr Tryz.prog 50 (.pointer (some ⟨id, off, none⟩)) 0 = some (.pointer (some ⟨id, off + 0, none⟩)) := afieldAddr_at (n := 4) (f := (fieldT Tryz.prog 50 0).getD default) (by kernel_rfl) (by kernel_rfl) (by kernel_rfl) id off
theorem fl50_0 (cs : List Value) : afield Tryz.prog 50 (.agg cs.toArray) 0 = some (.agg ((cs.drop 0).take 5).toArray) := afield_agg (f := (fieldT Tryz.prog 50 0).getD default) (by kernel_rfl) (by kernel_rfl) (by kernel_rfl) (by kernel_rfl) cs
theorem fa50_1 (id off : Nat) : afieldAddr Tryz.prog 50 (.pointer (some ⟨id, off, none⟩)) 1 = some (.pointer (some ⟨id, off + 5, none⟩)) := afieldAddr_at (n := 0) (f := (fieldT Tryz.prog 50 1).getD default) (by kernel_rfl) (by kernel_rfl) (by kernel_rfl) id off
theorem fl50_1 (cs : List Value) : afield Tryz.prog 50 (.agg cs.toArray) 1 = cs[5]? := afield_one (f := (fieldT Tryz.prog 50 1).getD default) (by kernel_rfl) (by kernel_rfl) (by kernel_rfl) cs
theorem fa50_2 (id off : Nat) : afieldAddr Tryz.prog 50 (.pointer (some ⟨id, off, none⟩)) 2 = some (.pointer (some ⟨id, off + 6, none⟩)) := afieldAddr_at (n := 0) (f := (fieldT Tryz.prog 50 2).getD default) (by kernel_rfl) (by kernel_rfl) (by kernel_rfl) id off
theorem fl50_2 (cs : List Value) : afield Tryz.prog 50 (.agg cs.toArray) 2 = cs[6]? := afield_one (f := (fieldT Tryz.prog 50 2).getD default) (by kernel_rfl) (by kernel_rfl) (by kernel_rfl) cs
theorem fa50_3 (id off : Nat) : afieldAddr Tryz.prog 50 (.pointer (some ⟨id, off, none⟩)) 3 = some (.pointer (some ⟨id, off + 7, none⟩)) := afieldAddr_at (n := 0) (f := (fieldT Tryz.prog 50 3).getD default) (by kernel_rfl) (by kernel_rfl) (by kernel_rfl) id off
theorem fl50_3 (cs : List Value) : afield Tryz.prog 50 (.agg cs.toArray) 3 = cs[7]? := afield_one (f := (fieldT Tryz.prog 50 3).getD default) (by kernel_rfl) (by kernel_rfl) (by kernel_rfl) cs
theorem sz51 : szT Tryz.prog 51 = some 8 := by kernel_rfl
theorem ag51 : aggT Tryz.prog 51 = some true := by kernel_rfl
theorem ze51 : zeroT Tryz.prog 51 = some (.agg #[.int .i64 0, .int .i64 0, .int .i64 0, .int .i64 0, .int .i64 0, .string ByteArray.empty, .int .u32 0, .int .i64 0]) := by kernel_rfl
theorem inf51 : ∃ i, Tryz.prog.info? 51 = some i ∧ i.zero = some (.agg #[.int .i64 0, .int .i64 0, .int .i64 0, .int .i64 0, .int .i64 0, .string ByteArray.empty, .int .u32 0, .int .i64 0]) ∧ i.size = 8 ∧ i.bytes = 72 := by
  have h : (Tryz.prog.info? 51).map (fun i => (i.zero, i.size, i.bytes)) = some (some (.agg #[.int .i64 0, .int .i64 0, .int .i64 0, .int .i64 0, .int .i64 0, .string ByteArray.empty, .int .u32 0, .int .i64 0]), 8, 72) := by kernel_rfl
  obtain ⟨i, h1, h2⟩ := Option.map_eq_some_iff.1 h
  simp only [Prod.mk.injEq] at h2
  exact ⟨i, h1, h2.1, h2.2.1, h2.2.2⟩
theorem st51 (H : AHeap) (id off : Nat) (x : Value) : astoreT Tryz.prog H 51 (.pointer (some ⟨id, off, none⟩)) x = if x.cells.size = 8 ∧ x.cells.toList.all oneCell = true then ((H[id]?).bind (rowStore off x.cells.toList)).map fun o => H.set id o else none := astore_rule sz51 H id off x
theorem fa51_0 (id off : Nat) : afieldAddr Tryz.prog 51 (.pointer (some ⟨id, off, none⟩)) 0 = some (.pointer (some ⟨id, off + 0, none⟩)) := afieldAddr_at (n := 4) (f := (fieldT Tryz.prog 51 0).getD default) (by kernel_rfl) (by kernel_rfl) (by kernel_rfl) id off
theorem fl51_0 (cs : List Value) : afield Tryz.prog 51 (.agg cs.toArray) 0 = some (.agg ((cs.drop 0).take 5).toArray) := afield_agg (f := (fieldT Tryz.prog 51 0).getD default) (by kernel_rfl) (by kernel_rfl) (by kernel_rfl) (by kernel_rfl) cs
theorem fa51_1 (id off : Nat) : afieldAddr Tryz.prog 51 (.pointer (some ⟨id, off, none⟩)) 1 = some (.pointer (some ⟨id, off + 5, none⟩)) := afieldAddr_at (n := 0) (f := (fieldT Tryz.prog 51 1).getD default) (by kernel_rfl) (by kernel_rfl) (by kernel_rfl) id off
theorem fl51_1 (cs : List Value) : afield Tryz.prog 51 (.agg cs.toArray) 1 = cs[5]? := afield_one (f := (fieldT Tryz.prog 51 1).getD default) (by kernel_rfl) (by kernel_rfl) (by kernel_rfl) cs
theorem fa51_2 (id off : Nat) : afieldAddr Tryz.prog 51 (.pointer (some ⟨id, off, none⟩)) 2 = some (.pointer (some ⟨id, off + 6, none⟩)) := afieldAddr_at (n := 0) (f := (fieldT Tryz.prog 51 2).getD default) (by kernel_rfl) (by kernel_rfl) (by kernel_rfl) id off
theorem fl51_2 (cs : List Value) : afield Tryz.prog 51 (.agg cs.toArray) 2 = cs[6]? := afield_one (f := (fieldT Tryz.prog 51 2).getD default) (by kernel_rfl) (by kernel_rfl) (by kernel_rfl) cs
theorem fa51_3 (id off : Nat) : afieldAddr Tryz.prog 51 (.pointer (some ⟨id, off, none⟩)) 3 = some (.pointer (some ⟨id, off + 7, none⟩)) := afieldAddr_at (n := 0) (f := (fieldT Tryz.prog 51 3).getD default) (by kernel_rfl) (by kernel_rfl) (by kernel_rfl) id off
theorem fl51_3 (cs : List Value) : afield Tryz.prog 51 (.agg cs.toArray) 3 = cs[7]? := afield_one (f := (fieldT Tryz.prog 51 3).getD default) (by kernel_rfl) (by kernel_rfl) (by kernel_rfl) cs
theorem sz52 : szT Tryz.prog 52 = some 1 := by kernel_rfl
theorem ag52 : aggT Tryz.prog 52 = some false := by kernel_rfl
theorem ze52 : zeroT Tryz.prog 52 = some (.int .u64 0) := by kernel_rfl
theorem pz52 : plainV 100 (.int .u64 0) = true := by kernel_rfl
theorem inf52 : ∃ i, Tryz.prog.info? 52 = some i ∧ i.zero = some (.int .u64 0) ∧ i.size = 1 ∧ i.bytes = 8 := by
  have h : (Tryz.prog.info? 52).map (fun i => (i.zero, i.size, i.bytes)) = some (some (.int .u64 0), 1, 8) := by kernel_rfl
  obtain ⟨i, h1, h2⟩ := Option.map_eq_some_iff.1 h
  simp only [Prod.mk.injEq] at h2
  exact ⟨i, h1, h2.1, h2.2.1, h2.2.2⟩
theorem st52 (H : AHeap) (id off : Nat) (x : Value) : astoreT Tryz.prog H 52 (.pointer (some ⟨id, off, none⟩)) x = if x.cells.size = 1 ∧ x.cells.toList.all oneCell = true then ((H[id]?).bind (rowStore off x.cells.toList)).map fun o => H.set id o else none := astore_rule sz52 H id off x
theorem kd52 : kindT Tryz.prog 52 = .int .u64 := by kernel_rfl
theorem sz53 : szT Tryz.prog 53 = some 3 := by kernel_rfl
theorem ag53 : aggT Tryz.prog 53 = some true := by kernel_rfl
theorem ze53 : zeroT Tryz.prog 53 = some (.agg #[.int .i64 0, .int .u64 0, .int .u64 0]) := by kernel_rfl
theorem pz53 : plainV 100 (.agg #[.int .i64 0, .int .u64 0, .int .u64 0]) = true := by kernel_rfl
theorem st53 (H : AHeap) (id off : Nat) (x : Value) : astoreT Tryz.prog H 53 (.pointer (some ⟨id, off, none⟩)) x = if x.cells.size = 3 ∧ x.cells.toList.all oneCell = true then ((H[id]?).bind (rowStore off x.cells.toList)).map fun o => H.set id o else none := astore_rule sz53 H id off x
theorem fa53_0 (id off : Nat) : afieldAddr Tryz.prog 53 (.pointer (some ⟨id, off, none⟩)) 0 = some (.pointer (some ⟨id, off + 0, none⟩)) := afieldAddr_at (n := 0) (f := (fieldT Tryz.prog 53 0).getD default) (by kernel_rfl) (by kernel_rfl) (by kernel_rfl) id off
theorem fl53_0 (cs : List Value) : afield Tryz.prog 53 (.agg cs.toArray) 0 = cs[0]? := afield_one (f := (fieldT Tryz.prog 53 0).getD default) (by kernel_rfl) (by kernel_rfl) (by kernel_rfl) cs
theorem fa53_1 (id off : Nat) : afieldAddr Tryz.prog 53 (.pointer (some ⟨id, off, none⟩)) 1 = some (.pointer (some ⟨id, off + 1, none⟩)) := afieldAddr_at (n := 0) (f := (fieldT Tryz.prog 53 1).getD default) (by kernel_rfl) (by kernel_rfl) (by kernel_rfl) id off
theorem fl53_1 (cs : List Value) : afield Tryz.prog 53 (.agg cs.toArray) 1 = cs[1]? := afield_one (f := (fieldT Tryz.prog 53 1).getD default) (by kernel_rfl) (by kernel_rfl) (by kernel_rfl) cs
theorem fa53_2 (id off : Nat) : afieldAddr Tryz.prog 53 (.pointer (some ⟨id, off, none⟩)) 2 = some (.pointer (some ⟨id, off + 2, none⟩)) := afieldAddr_at (n := 0) (f := (fieldT Tryz.prog 53 2).getD default) (by kernel_rfl) (by kernel_rfl) (by kernel_rfl) id off
theorem fl53_2 (cs : List Value) : afield Tryz.prog 53 (.agg cs.toArray) 2 = cs[2]? := afield_one (f := (fieldT Tryz.prog 53 2).getD default) (by kernel_rfl) (by kernel_rfl) (by kernel_rfl) cs
theorem sz54 : szT Tryz.prog 54 = some 3 := by kernel_rfl
theorem ag54 : aggT Tryz.prog 54 = some true := by kernel_rfl
theorem ze54 : zeroT Tryz.prog 54 = some (.agg #[.int .i64 0, .int .u64 0, .int .u64 0]) := by kernel_rfl
theorem inf54 : ∃ i, Tryz.prog.info? 54 = some i ∧ i.zero = some (.agg #[.int .i64 0, .int .u64 0, .int .u64 0]) ∧ i.size = 3 ∧ i.bytes = 24 := by
  have h : (Tryz.prog.info? 54).map (fun i => (i.zero, i.size, i.bytes)) = some (some (.agg #[.int .i64 0, .int .u64 0, .int .u64 0]), 3, 24) := by kernel_rfl
  obtain ⟨i, h1, h2⟩ := Option.map_eq_some_iff.1 h
  simp only [Prod.mk.injEq] at h2
  exact ⟨i, h1, h2.1, h2.2.1, h2.2.2⟩
theorem st54 (H : AHeap) (id off : Nat) (x : Value) : astoreT Tryz.prog H 54 (.pointer (some ⟨id, off, none⟩)) x = if x.cells.size = 3 ∧ x.cells.toList.all oneCell = true then ((H[id]?).bind (rowStore off x.cells.toList)).map fun o => H.set id o else none := astore_rule sz54 H id off x
theorem fa54_0 (id off : Nat) : afieldAddr Tryz.prog 54 (.pointer (some ⟨id, off, none⟩)) 0 = some (.pointer (some ⟨id, off + 0, none⟩)) := afieldAddr_at (n := 0) (f := (fieldT Tryz.prog 54 0).getD default) (by kernel_rfl) (by kernel_rfl) (by kernel_rfl) id off
theorem fl54_0 (cs : List Value) : afield Tryz.prog 54 (.agg cs.toArray) 0 = cs[0]? := afield_one (f := (fieldT Tryz.prog 54 0).getD default) (by kernel_rfl) (by kernel_rfl) (by kernel_rfl) cs
theorem fa54_1 (id off : Nat) : afieldAddr Tryz.prog 54 (.pointer (some ⟨id, off, none⟩)) 1 = some (.pointer (some ⟨id, off + 1, none⟩)) := afieldAddr_at (n := 0) (f := (fieldT Tryz.prog 54 1).getD default) (by kernel_rfl) (by kernel_rfl) (by kernel_rfl) id off
theorem fl54_1 (cs : List Value) : afield Tryz.prog 54 (.agg cs.toArray) 1 = cs[1]? := afield_one (f := (fieldT Tryz.prog 54 1).getD default) (by kernel_rfl) (by kernel_rfl) (by kernel_rfl) cs
theorem fa54_2 (id off : Nat) : afieldAddr Tryz.prog 54 (.pointer (some ⟨id, off, none⟩)) 2 = some (.pointer (some ⟨id, off + 2, none⟩)) := afieldAddr_at (n := 0) (f := (fieldT Tryz.prog 54 2).getD default) (by kernel_rfl) (by kernel_rfl) (by kernel_rfl) id off
theorem fl54_2 (cs : List Value) : afield Tryz.prog 54 (.agg cs.toArray) 2 = cs[2]? := afield_one (f := (fieldT Tryz.prog 54 2).getD default) (by kernel_rfl) (by kernel_rfl) (by kernel_rfl) cs
theorem sz58 : szT Tryz.prog 58 = some 1 := by kernel_rfl
theorem ag58 : aggT Tryz.prog 58 = some false := by kernel_rfl
theorem ze58 : zeroT Tryz.prog 58 = some (.slice none 0 0) := by kernel_rfl
theorem st58 (H : AHeap) (id off : Nat) (x : Value) : astoreT Tryz.prog H 58 (.pointer (some ⟨id, off, none⟩)) x = if x.cells.size = 1 ∧ x.cells.toList.all oneCell = true then ((H[id]?).bind (rowStore off x.cells.toList)).map fun o => H.set id o else none := astore_rule sz58 H id off x
theorem un58 : Tryz.prog.underlying 58 = some (.slice 9) := by kernel_rfl
theorem el58 : elemT Tryz.prog 58 = some 9 := by kernel_rfl
theorem ln58 (H : AHeap) (a : Option Addr) (m c : Nat) : alen Tryz.prog H 58 (.slice a m c) = some (.int .i64 m) := alen_slice un58 H a m c
theorem cp58 (a : Addr) (m c : Nat) : acap Tryz.prog 58 (.slice (some a) m c) = if c = 0 then none else some (.int .i64 c) := acap_slice un58 a m c
theorem ix58 (id off m c : Nat) (ik : IntKind) (i : Int) : aindexAddr Tryz.prog 58 (.slice (some ⟨id, off, none⟩) m c) (.int ik i) = if 0 ≤ i ∧ i < m then some (.pointer (some ⟨id, off + i.toNat * 1, none⟩)) else none := aindexAddr_at un58 (by kernel_rfl) id off m c ik i
theorem en58 (H : AHeap) (xo yo : Operand) (a : Option Addr) (n c m q : Nat) : abin Tryz.prog H .eql 58 xo yo (.slice a n c) (.slice none m q) = some (.bool a.isNone) := abin_eq_slnil un58 H xo yo a n c m q
theorem nn58 (H : AHeap) (xo yo : Operand) (a : Option Addr) (n c m q : Nat) : abin Tryz.prog H .neq 58 xo yo (.slice a n c) (.slice none m q) = some (.bool !a.isNone) := abin_ne_slnil un58 H xo yo a n c m q
theorem sc58 (H : AHeap) (a : Option Addr) (n c : Nat) (lo hi : Option Value) : aslice Tryz.prog H 58 (.slice a n c) lo hi none = (optB hi (some n) (capOf n c)).bind fun h => (optB lo (some 0) h).bind fun l => cut H 1 a c l h := aslice_sl un58 (by kernel_rfl) H a n c lo hi
theorem sz59 : szT Tryz.prog 59 = some 1 := by kernel_rfl
theorem ag59 : aggT Tryz.prog 59 = some false := by kernel_rfl
theorem ze59 : zeroT Tryz.prog 59 = some (.slice none 0 0) := by kernel_rfl
theorem st59 (H : AHeap) (id off : Nat) (x : Value) : astoreT Tryz.prog H 59 (.pointer (some ⟨id, off, none⟩)) x = if x.cells.size = 1 ∧ x.cells.toList.all oneCell = true then ((H[id]?).bind (rowStore off x.cells.toList)).map fun o => H.set id o else none := astore_rule sz59 H id off x
theorem un59 : Tryz.prog.underlying 59 = some (.slice 5) := by kernel_rfl
theorem el59 : elemT Tryz.prog 59 = some 5 := by kernel_rfl
theorem ln59 (H : AHeap) (a : Option Addr) (m c : Nat) : alen Tryz.prog H 59 (.slice a m c) = some (.int .i64 m) := alen_slice un59 H a m c
theorem cp59 (a : Addr) (m c : Nat) : acap Tryz.prog 59 (.slice (some a) m c) = if c = 0 then none else some (.int .i64 c) := acap_slice un59 a m c
theorem ix59 (id off m c : Nat) (ik : IntKind) (i : Int) : aindexAddr Tryz.prog 59 (.slice (some ⟨id, off, none⟩) m c) (.int ik i) = if 0 ≤ i ∧ i < m then some (.pointer (some ⟨id, off + i.toNat * 1, none⟩)) else none := aindexAddr_at un59 (by kernel_rfl) id off m c ik i
theorem en59 (H : AHeap) (xo yo : Operand) (a : Option Addr) (n c m q : Nat) : abin Tryz.prog H .eql 59 xo yo (.slice a n c) (.slice none m q) = some (.bool a.isNone) := abin_eq_slnil un59 H xo yo a n c m q
theorem nn59 (H : AHeap) (xo yo : Operand) (a : Option Addr) (n c m q : Nat) : abin Tryz.prog H .neq 59 xo yo (.slice a n c) (.slice none m q) = some (.bool !a.isNone) := abin_ne_slnil un59 H xo yo a n c m q
theorem sc59 (H : AHeap) (a : Option Addr) (n c : Nat) (lo hi : Option Value) : aslice Tryz.prog H 59 (.slice a n c) lo hi none = (optB hi (some n) (capOf n c)).bind fun h => (optB lo (some 0) h).bind fun l => cut H 1 a c l h := aslice_sl un59 (by kernel_rfl) H a n c lo hi
theorem kd59 : kindT Tryz.prog 59 = .bytes := by kernel_rfl
theorem sz77 : szT Tryz.prog 77 = some 1 := by kernel_rfl
theorem ag77 : aggT Tryz.prog 77 = some false := by kernel_rfl
theorem ze77 : zeroT Tryz.prog 77 = some (.slice none 0 0) := by kernel_rfl
theorem st77 (H : AHeap) (id off : Nat) (x : Value) : astoreT Tryz.prog H 77 (.pointer (some ⟨id, off, none⟩)) x = if x.cells.size = 1 ∧ x.cells.toList.all oneCell = true then ((H[id]?).bind (rowStore off x.cells.toList)).map fun o => H.set id o else none := astore_rule sz77 H id off x
theorem un77 : Tryz.prog.underlying 77 = some (.slice 3) := by kernel_rfl
theorem el77 : elemT Tryz.prog 77 = some 3 := by kernel_rfl
theorem ln77 (H : AHeap) (a : Option Addr) (m c : Nat) : alen Tryz.prog H 77 (.slice a m c) = some (.int .i64 m) := alen_slice un77 H a m c
theorem cp77 (a : Addr) (m c : Nat) : acap Tryz.prog 77 (.slice (some a) m c) = if c = 0 then none else some (.int .i64 c) := acap_slice un77 a m c
theorem ix77 (id off m c : Nat) (ik : IntKind) (i : Int) : aindexAddr Tryz.prog 77 (.slice (some ⟨id, off, none⟩) m c) (.int ik i) = if 0 ≤ i ∧ i < m then some (.pointer (some ⟨id, off + i.toNat * 1, none⟩)) else none := aindexAddr_at un77 (by kernel_rfl) id off m c ik i
theorem en77 (H : AHeap) (xo yo : Operand) (a : Option Addr) (n c m q : Nat) : abin Tryz.prog H .eql 77 xo yo (.slice a n c) (.slice none m q) = some (.bool a.isNone) := abin_eq_slnil un77 H xo yo a n c m q
theorem nn77 (H : AHeap) (xo yo : Operand) (a : Option Addr) (n c m q : Nat) : abin Tryz.prog H .neq 77 xo yo (.slice a n c) (.slice none m q) = some (.bool !a.isNone) := abin_ne_slnil un77 H xo yo a n c m q
theorem sc77 (H : AHeap) (a : Option Addr) (n c : Nat) (lo hi : Option Value) : aslice Tryz.prog H 77 (.slice a n c) lo hi none = (optB hi (some n) (capOf n c)).bind fun h => (optB lo (some 0) h).bind fun l => cut H 1 a c l h := aslice_sl un77 (by kernel_rfl) H a n c lo hi
theorem sz82 : szT Tryz.prog 82 = some 1 := by kernel_rfl
theorem ag82 : aggT Tryz.prog 82 = some false := by kernel_rfl
theorem ze82 : zeroT Tryz.prog 82 = some (.map none) := by kernel_rfl
theorem pz82 : plainV 100 (.map none) = true := by kernel_rfl
theorem st82 (H : AHeap) (id off : Nat) (x : Value) : astoreT Tryz.prog H 82 (.pointer (some ⟨id, off, none⟩)) x = if x.cells.size = 1 ∧ x.cells.toList.all oneCell = true then ((H[id]?).bind (rowStore off x.cells.toList)).map fun o => H.set id o else none := astore_rule sz82 H id off x
theorem en82 (H : AHeap) (xo yo : Operand) (a : Option Nat) : abin Tryz.prog H .eql 82 xo yo (.map a) (.map none) = some (.bool a.isNone) := abin_eq_mapnil (k := 9) (e := 98) (by kernel_rfl) H xo yo a
theorem nn82 (H : AHeap) (xo yo : Operand) (a : Option Nat) : abin Tryz.prog H .neq 82 xo yo (.map a) (.map none) = some (.bool !a.isNone) := abin_ne_mapnil (k := 9) (e := 98) (by kernel_rfl) H xo yo a
theorem un82 : Tryz.prog.underlying 82 = some (.map 9 98) := by kernel_rfl
theorem mt82 : mapT Tryz.prog 82 = some (9, 98) := by kernel_rfl
theorem sz83 : szT Tryz.prog 83 = some 5 := by kernel_rfl
theorem ag83 : aggT Tryz.prog 83 = some true := by kernel_rfl
theorem ze83 : zeroT Tryz.prog 83 = some (.agg #[.map none, .bool false, .int .i64 0, .int .i64 0, .int .i64 0]) := by kernel_rfl
theorem pz83 : plainV 100 (.agg #[.map none, .bool false, .int .i64 0, .int .i64 0, .int .i64 0]) = true := by kernel_rfl
theorem st83 (H : AHeap) (id off : Nat) (x : Value) : astoreT Tryz.prog H 83 (.pointer (some ⟨id, off, none⟩)) x = if x.cells.size = 5 ∧ x.cells.toList.all oneCell = true then ((H[id]?).bind (rowStore off x.cells.toList)).map fun o => H.set id o else none := astore_rule sz83 H id off x
theorem fa83_0 (id off : Nat) : afieldAddr Tryz.prog 83 (.pointer (some ⟨id, off, none⟩)) 0 = some (.pointer (some ⟨id, off + 0, none⟩)) := afieldAddr_at (n := 0) (f := (fieldT Tryz.prog 83 0).getD default) (by kernel_rfl) (by kernel_rfl) (by kernel_rfl) id off
theorem fl83_0 (cs : List Value) : afield Tryz.prog 83 (.agg cs.toArray) 0 = cs[0]? := afield_one (f := (fieldT Tryz.prog 83 0).getD default) (by kernel_rfl) (by kernel_rfl) (by kernel_rfl) cs
theorem fa83_1 (id off : Nat) : afieldAddr Tryz.prog 83 (.pointer (some ⟨id, off, none⟩)) 1 = some (.pointer (some ⟨id, off + 1, none⟩)) := afieldAddr_at (n := 0) (f := (fieldT Tryz.prog 83 1).getD default) (by kernel_rfl) (by kernel_rfl) (by kernel_rfl) id off
theorem fl83_1 (cs : List Value) : afield Tryz.prog 83 (.agg cs.toArray) 1 = cs[1]? := afield_one (f := (fieldT Tryz.prog 83 1).getD default) (by kernel_rfl) (by kernel_rfl) (by kernel_rfl) cs
theorem fa83_2 (id off : Nat) : afieldAddr Tryz.prog 83 (.pointer (some ⟨id, off, none⟩)) 2 = some (.pointer (some ⟨id, off + 2, none⟩)) := afieldAddr_at (n := 0) (f := (fieldT Tryz.prog 83 2).getD default) (by kernel_rfl) (by kernel_rfl) (by kernel_rfl) id off
theorem fl83_2 (cs : List Value) : afield Tryz.prog 83 (.agg cs.toArray) 2 = cs[2]? := afield_one (f := (fieldT Tryz.prog 83 2).getD default) (by kernel_rfl) (by kernel_rfl) (by kernel_rfl) cs
theorem fa83_3 (id off : Nat) : afieldAddr Tryz.prog 83 (.pointer (some ⟨id, off, none⟩)) 3 = some (.pointer (some ⟨id, off + 3, none⟩)) := afieldAddr_at (n := 0) (f := (fieldT Tryz.prog 83 3).getD default) (by kernel_rfl) (by kernel_rfl) (by kernel_rfl) id off
theorem fl83_3 (cs : List Value) : afield Tryz.prog 83 (.agg cs.toArray) 3 = cs[3]? := afield_one (f := (fieldT Tryz.prog 83 3).getD default) (by kernel_rfl) (by kernel_rfl) (by kernel_rfl) cs
theorem fa83_4 (id off : Nat) : afieldAddr Tryz.prog 83 (.pointer (some ⟨id, off, none⟩)) 4 = some (.pointer (some ⟨id, off + 4, none⟩)) := afieldAddr_at (n := 0) (f := (fieldT Tryz.prog 83 4).getD default) (by kernel_rfl) (by kernel_rfl) (by kernel_rfl) id off
theorem fl83_4 (cs : List Value) : afield Tryz.prog 83 (.agg cs.toArray) 4 = cs[4]? := afield_one (f := (fieldT Tryz.prog 83 4).getD default) (by kernel_rfl) (by kernel_rfl) (by kernel_rfl) cs
theorem sz84 : szT Tryz.prog 84 = some 5 := by kernel_rfl
theorem ag84 : aggT Tryz.prog 84 = some true := by kernel_rfl
theorem ze84 : zeroT Tryz.prog 84 = some (.agg #[.map none, .bool false, .int .i64 0, .int .i64 0, .int .i64 0]) := by kernel_rfl
theorem st84 (H : AHeap) (id off : Nat) (x : Value) : astoreT Tryz.prog H 84 (.pointer (some ⟨id, off, none⟩)) x = if x.cells.size = 5 ∧ x.cells.toList.all oneCell = true then ((H[id]?).bind (rowStore off x.cells.toList)).map fun o => H.set id o else none := astore_rule sz84 H id off x
theorem fa84_0 (id off : Nat) : afieldAddr Tryz.prog 84 (.pointer (some ⟨id, off, none⟩)) 0 = some (.pointer (some ⟨id, off + 0, none⟩)) := afieldAddr_at (n := 0) (f := (fieldT Tryz.prog 84 0).getD default) (by kernel_rfl) (by kernel_rfl) (by kernel_rfl) id off
theorem fl84_0 (cs : List Value) : afield Tryz.prog 84 (.agg cs.toArray) 0 = cs[0]? := afield_one (f := (fieldT Tryz.prog 84 0).getD default) (by kernel_rfl) (by kernel_rfl) (by kernel_rfl) cs
theorem fa84_1 (id off : Nat) : afieldAddr Tryz.prog 84 (.pointer (some ⟨id, off, none⟩)) 1 = some (.pointer (some ⟨id, off + 1, none⟩)) := afieldAddr_at (n := 0) (f := (fieldT Tryz.prog 84 1).getD default) (by kernel_rfl) (by kernel_rfl) (by kernel_rfl) id off
theorem fl84_1 (cs : List Value) : afield Tryz.prog 84 (.agg cs.toArray) 1 = cs[1]? := afield_one (f := (fieldT Tryz.prog 84 1).getD default) (by kernel_rfl) (by kernel_rfl) (by kernel_rfl) cs
theorem fa84_2 (id off : Nat) : afieldAddr Tryz.prog 84 (.pointer (some ⟨id, off, none⟩)) 2 = some (.pointer (some ⟨id, off + 2, none⟩)) := afieldAddr_at (n := 0) (f := (fieldT Tryz.prog 84 2).getD default) (by kernel_rfl) (by kernel_rfl) (by kernel_rfl) id off
theorem fl84_2 (cs : List Value) : afield Tryz.prog 84 (.agg cs.toArray) 2 = cs[2]? := afield_one (f := (fieldT Tryz.prog 84 2).getD default) (by kernel_rfl) (by kernel_rfl) (by kernel_rfl) cs
theorem fa84_3 (id off : Nat) : afieldAddr Tryz.prog 84 (.pointer (some ⟨id, off, none⟩)) 3 = some (.pointer (some ⟨id, off + 3, none⟩)) := afieldAddr_at (n := 0) (f := (fieldT Tryz.prog 84 3).getD default) (by kernel_rfl) (by kernel_rfl) (by kernel_rfl) id off
theorem fl84_3 (cs : List Value) : afield Tryz.prog 84 (.agg cs.toArray) 3 = cs[3]? := afield_one (f := (fieldT Tryz.prog 84 3).getD default) (by kernel_rfl) (by kernel_rfl) (by kernel_rfl) cs
theorem fa84_4 (id off : Nat) : afieldAddr Tryz.prog 84 (.pointer (some ⟨id, off, none⟩)) 4 = some (.pointer (some ⟨id, off + 4, none⟩)) := afieldAddr_at (n := 0) (f := (fieldT Tryz.prog 84 4).getD default) (by kernel_rfl) (by kernel_rfl) (by kernel_rfl) id off
theorem fl84_4 (cs : List Value) : afield Tryz.prog 84 (.agg cs.toArray) 4 = cs[4]? := afield_one (f := (fieldT Tryz.prog 84 4).getD default) (by kernel_rfl) (by kernel_rfl) (by kernel_rfl) cs
theorem sz88 : szT Tryz.prog 88 = some 9 := by kernel_rfl
theorem ag88 : aggT Tryz.prog 88 = some true := by kernel_rfl
theorem ze88 : zeroT Tryz.prog 88 = some (.agg #[.pointer none, .int .i64 0, .int .i64 0, .int .i64 0, .slice none 0 0, .slice none 0 0, .int .u64 0, .bool false, .bool false]) := by kernel_rfl
theorem pz88 : plainV 100 (.agg #[.pointer none, .int .i64 0, .int .i64 0, .int .i64 0, .slice none 0 0, .slice none 0 0, .int .u64 0, .bool false, .bool false]) = true := by kernel_rfl
theorem st88 (H : AHeap) (id off : Nat) (x : Value) : astoreT Tryz.prog H 88 (.pointer (some ⟨id, off, none⟩)) x = if x.cells.size = 9 ∧ x.cells.toList.all oneCell = true then ((H[id]?).bind (rowStore off x.cells.toList)).map fun o => H.set id o else none := astore_rule sz88 H id off x
theorem fa88_0 (id off : Nat) : afieldAddr Tryz.prog 88 (.pointer (some ⟨id, off, none⟩)) 0 = some (.pointer (some ⟨id, off + 0, none⟩)) := afieldAddr_at (n := 0) (f := (fieldT Tryz.prog 88 0).getD default) (by kernel_rfl) (by kernel_rfl) (by kernel_rfl) id off
theorem fl88_0 (cs : List Value) : afield Tryz.prog 88 (.agg cs.toArray) 0 = cs[0]? := afield_one (f := (fieldT Tryz.prog 88 0).getD default) (by kernel_rfl) (by kernel_rfl) (by kernel_rfl) cs
theorem fa88_1 (id off : Nat) : afieldAddr Tryz.prog 88 (.pointer (some ⟨id, off, none⟩)) 1 = some (.pointer (some ⟨id, off + 1, none⟩)) := afieldAddr_at (n := 4) (f := (fieldT Tryz.prog 88 1).getD default) (by kernel_rfl) (by kernel_rfl) (by kernel_rfl) id off
theorem fl88_1 (cs : List Value) : afield Tryz.prog 88 (.agg cs.toArray) 1 = some (.agg ((cs.drop 1).take 5).toArray) := afield_agg (f := (fieldT Tryz.prog 88 1).getD default) (by kernel_rfl) (by kernel_rfl) (by kernel_rfl) (by kernel_rfl) cs
theorem fa88_2 (id off : Nat) : afieldAddr Tryz.prog 88 (.pointer (some ⟨id, off, none⟩)) 2 = some (.pointer (some ⟨id, off + 6, none⟩)) := afieldAddr_at (n := 0) (f := (fieldT Tryz.prog 88 2).getD default) (by kernel_rfl) (by kernel_rfl) (by kernel_rfl) id off
theorem fl88_2 (cs : List Value) : afield Tryz.prog 88 (.agg cs.toArray) 2 = cs[6]? := afield_one (f := (fieldT Tryz.prog 88 2).getD default) (by kernel_rfl) (by kernel_rfl) (by kernel_rfl) cs
theorem fa88_3 (id off : Nat) : afieldAddr Tryz.prog 88 (.pointer (some ⟨id, off, none⟩)) 3 = some (.pointer (some ⟨id, off + 7, none⟩)) := afieldAddr_at (n := 0) (f := (fieldT Tryz.prog 88 3).getD default) (by kernel_rfl) (by kernel_rfl) (by kernel_rfl) id off
theorem fl88_3 (cs : List Value) : afield Tryz.prog 88 (.agg cs.toArray) 3 = cs[7]? := afield_one (f := (fieldT Tryz.prog 88 3).getD default) (by kernel_rfl) (by kernel_rfl) (by kernel_rfl) cs
theorem fa88_4 (id off : Nat) : afieldAddr Tryz.prog 88 (.pointer (some ⟨id, off, none⟩)) 4 = some (.pointer (some ⟨id, off + 8, none⟩)) := afieldAddr_at (n := 0) (f := (fieldT Tryz.prog 88 4).getD default) (by kernel_rfl) (by kernel_rfl) (by kernel_rfl) id off
theorem fl88_4 (cs : List Value) : afield Tryz.prog 88 (.agg cs.toArray) 4 = cs[8]? := afield_one (f := (fieldT Tryz.prog 88 4).getD default) (by kernel_rfl) (by kernel_rfl) (by kernel_rfl) cs
theorem sz89 : szT Tryz.prog 89 = some 9 := by kernel_rfl
theorem ag89 : aggT Tryz.prog 89 = some true := by kernel_rfl
theorem ze89 : zeroT Tryz.prog 89 = some (.agg #[.pointer none, .int .i64 0, .int .i64 0, .int .i64 0, .slice none 0 0, .slice none 0 0, .int .u64 0, .bool false, .bool false]) := by kernel_rfl
theorem st89 (H : AHeap) (id off : Nat) (x : Value) : astoreT Tryz.prog H 89 (.pointer (some ⟨id, off, none⟩)) x = if x.cells.size = 9 ∧ x.cells.toList.all oneCell = true then ((H[id]?).bind (rowStore off x.cells.toList)).map fun o => H.set id o else none := astore_rule sz89 H id off x
theorem fa89_0 (id off : Nat) : afieldAddr Tryz.prog 89 (.pointer (some ⟨id, off, none⟩)) 0 = some (.pointer (some ⟨id, off + 0, none⟩)) := afieldAddr_at (n := 0) (f := (fieldT Tryz.prog 89 0).getD default) (by kernel_rfl) (by kernel_rfl) (by kernel_rfl) id off
theorem fl89_0 (cs : List Value) : afield Tryz.prog 89 (.agg cs.toArray) 0 = cs[0]? := afield_one (f := (fieldT Tryz.prog 89 0).getD default) (by kernel_rfl) (by kernel_rfl) (by kernel_rfl) cs
theorem fa89_1 (id off : Nat) : afieldAddr Tryz.prog 89 (.pointer (some ⟨id, off, none⟩)) 1 = some (.pointer (some ⟨id, off + 1, none⟩)) := afieldAddr_at (n := 4) (f := (fieldT Tryz.prog 89 1).getD default) (by kernel_rfl) (by kernel_rfl) (by kernel_rfl) id off
theorem fl89_1 (cs : List Value) : afield Tryz.prog 89 (.agg cs.toArray) 1 = some (.agg ((cs.drop 1).take 5).toArray) := afield_agg (f := (fieldT Tryz.prog 89 1).getD default) (by kernel_rfl) (by kernel_rfl) (by kernel_rfl) (by kernel_rfl) cs
theorem fa89_2 (id off : Nat) : afieldAddr Tryz.prog 89 (.pointer (some ⟨id, off, none⟩)) 2 = some (.pointer (some ⟨id, off + 6, none⟩)) := afieldAddr_at (n := 0) (f := (fieldT Tryz.prog 89 2).getD default) (by kernel_rfl) (by kernel_rfl) (by kernel_rfl) id off
theorem fl89_2 (cs : List Value) : afield Tryz.prog 89 (.agg cs.toArray) 2 = cs[6]? := afield_one (f := (fieldT Tryz.prog 89 2).getD default) (by kernel_rfl) (by kernel_rfl) (by kernel_rfl) cs
theorem fa89_3 (id off : Nat) : afieldAddr Tryz.prog 89 (.pointer (some ⟨id, off, none⟩)) 3 = some (.pointer (some ⟨id, off + 7, none⟩)) := afieldAddr_at (n := 0) (f := (fieldT Tryz.prog 89 3).getD default) (by kernel_rfl) (by kernel_rfl) (by kernel_rfl) id off
theorem fl89_3 (cs : List Value) : afield Tryz.prog 89 (.agg cs.toArray) 3 = cs[7]? := afield_one (f := (fieldT Tryz.prog 89 3).getD default) (by kernel_rfl) (by kernel_rfl) (by kernel_rfl) cs
theorem fa89_4 (id off : Nat) : afieldAddr Tryz.prog 89 (.pointer (some ⟨id, off, none⟩)) 4 = some (.pointer (some ⟨id, off + 8, none⟩)) := afieldAddr_at (n := 0) (f := (fieldT Tryz.prog 89 4).getD default) (by kernel_rfl) (by kernel_rfl) (by kernel_rfl) id off
theorem fl89_4 (cs : List Value) : afield Tryz.prog 89 (.agg cs.toArray) 4 = cs[8]? := afield_one (f := (fieldT Tryz.prog 89 4).getD default) (by kernel_rfl) (by kernel_rfl) (by kernel_rfl) cs
theorem sz92 : szT Tryz.prog 92 = some 1 := by kernel_rfl
theorem ag92 : aggT Tryz.prog 92 = some false := by kernel_rfl
theorem ze92 : zeroT Tryz.prog 92 = some (.nilIface) := by kernel_rfl
theorem st92 (H : AHeap) (id off : Nat) (x : Value) : astoreT Tryz.prog H 92 (.pointer (some ⟨id, off, none⟩)) x = if x.cells.size = 1 ∧ x.cells.toList.all oneCell = true then ((H[id]?).bind (rowStore off x.cells.toList)).map fun o => H.set id o else none := astore_rule sz92 H id off x
theorem enz92 (H : AHeap) (xo : Operand) (w : Value) : abin Tryz.prog H .eql 92 xo (.const w) .nilIface .nilIface = some (.bool true) := abin_eq_if0 (by kernel_rfl) H xo w
theorem eno92 (H : AHeap) (xo yo : Operand) (u : TypeId) (v : Value) : abin Tryz.prog H .eql 92 xo yo (.iface u v) .nilIface = some (.bool false) := abin_eq_if1 (by kernel_rfl) H xo yo u v
theorem nnz92 (H : AHeap) (xo : Operand) (w : Value) : abin Tryz.prog H .neq 92 xo (.const w) .nilIface .nilIface = some (.bool false) := abin_ne_if0 (by kernel_rfl) H xo w
theorem nno92 (H : AHeap) (xo yo : Operand) (u : TypeId) (v : Value) : abin Tryz.prog H .neq 92 xo yo (.iface u v) .nilIface = some (.bool true) := abin_ne_if1 (by kernel_rfl) H xo yo u v
theorem sz93 : szT Tryz.prog 93 = some 1 := by kernel_rfl
theorem ag93 : aggT Tryz.prog 93 = some false := by kernel_rfl
theorem ze93 : zeroT Tryz.prog 93 = some (.nilIface) := by kernel_rfl
theorem st93 (H : AHeap) (id off : Nat) (x : Value) : astoreT Tryz.prog H 93 (.pointer (some ⟨id, off, none⟩)) x = if x.cells.size = 1 ∧ x.cells.toList.all oneCell = true then ((H[id]?).bind (rowStore off x.cells.toList)).map fun o => H.set id o else none := astore_rule sz93 H id off x
theorem enz93 (H : AHeap) (xo : Operand) (w : Value) : abin Tryz.prog H .eql 93 xo (.const w) .nilIface .nilIface = some (.bool true) := abin_eq_if0 (by kernel_rfl) H xo w
theorem eno93 (H : AHeap) (xo yo : Operand) (u : TypeId) (v : Value) : abin Tryz.prog H .eql 93 xo yo (.iface u v) .nilIface = some (.bool false) := abin_eq_if1 (by kernel_rfl) H xo yo u v
theorem nnz93 (H : AHeap) (xo : Operand) (w : Value) : abin Tryz.prog H .neq 93 xo (.const w) .nilIface .nilIface = some (.bool false) := abin_ne_if0 (by kernel_rfl) H xo w
theorem nno93 (H : AHeap) (xo yo : Operand) (u : TypeId) (v : Value) : abin Tryz.prog H .neq 93 xo yo (.iface u v) .nilIface = some (.bool true) := abin_ne_if1 (by kernel_rfl) H xo yo u v
theorem sz98 : szT Tryz.prog 98 = some 1 := by kernel_rfl
theorem ag98 : aggT Tryz.prog 98 = some false := by kernel_rfl
theorem ze98 : zeroT Tryz.prog 98 = some (.pointer none) := by kernel_rfl
theorem st98 (H : AHeap) (id off : Nat) (x : Value) : astoreT Tryz.prog H 98 (.pointer (some ⟨id, off, none⟩)) x = if x.cells.size = 1 ∧ x.cells.toList.all oneCell = true then ((H[id]?).bind (rowStore off x.cells.toList)).map fun o => H.set id o else none := astore_rule sz98 H id off x
theorem en98 (H : AHeap) (xo yo : Operand) (a : Option Addr) : abin Tryz.prog H .eql 98 xo yo (.pointer a) (.pointer none) = some (.bool a.isNone) := abin_eq_ptrnil (e := 100) (by kernel_rfl) H xo yo a
theorem nn98 (H : AHeap) (xo yo : Operand) (a : Option Addr) : abin Tryz.prog H .neq 98 xo yo (.pointer a) (.pointer none) = some (.bool !a.isNone) := abin_ne_ptrnil (e := 100) (by kernel_rfl) H xo yo a
theorem sz99 : szT Tryz.prog 99 = some 2 := by kernel_rfl
theorem ag99 : aggT Tryz.prog 99 = some true := by kernel_rfl
theorem ze99 : zeroT Tryz.prog 99 = some (.agg #[.slice none 0 0, .int .i64 0]) := by kernel_rfl
theorem pz99 : plainV 100 (.agg #[.slice none 0 0, .int .i64 0]) = true := by kernel_rfl
theorem st99 (H : AHeap) (id off : Nat) (x : Value) : astoreT Tryz.prog H 99 (.pointer (some ⟨id, off, none⟩)) x = if x.cells.size = 2 ∧ x.cells.toList.all oneCell = true then ((H[id]?).bind (rowStore off x.cells.toList)).map fun o => H.set id o else none := astore_rule sz99 H id off x
theorem fa99_0 (id off : Nat) : afieldAddr Tryz.prog 99 (.pointer (some ⟨id, off, none⟩)) 0 = some (.pointer (some ⟨id, off + 0, none⟩)) := afieldAddr_at (n := 0) (f := (fieldT Tryz.prog 99 0).getD default) (by kernel_rfl) (by kernel_rfl) (by kernel_rfl) id off
theorem fl99_0 (cs : List Value) : afield Tryz.prog 99 (.agg cs.toArray) 0 = cs[0]? := afield_one (f := (fieldT Tryz.prog 99 0).getD default) (by kernel_rfl) (by kernel_rfl) (by kernel_rfl) cs
theorem fa99_1 (id off : Nat) : afieldAddr Tryz.prog 99 (.pointer (some ⟨id, off, none⟩)) 1 = some (.pointer (some ⟨id, off + 1, none⟩)) := afieldAddr_at (n := 0) (f := (fieldT Tryz.prog 99 1).getD default) (by kernel_rfl) (by kernel_rfl) (by kernel_rfl) id off
theorem fl99_1 (cs : List Value) : afield Tryz.prog 99 (.agg cs.toArray) 1 = cs[1]? := afield_one (f := (fieldT Tryz.prog 99 1).getD default) (by kernel_rfl) (by kernel_rfl) (by kernel_rfl) cs
theorem sz100 : szT Tryz.prog 100 = some 2 := by kernel_rfl
theorem ag100 : aggT Tryz.prog 100 = some true := by kernel_rfl
theorem ze100 : zeroT Tryz.prog 100 = some (.agg #[.slice none 0 0, .int .i64 0]) := by kernel_rfl
theorem st100 (H : AHeap) (id off : Nat) (x : Value) : astoreT Tryz.prog H 100 (.pointer (some ⟨id, off, none⟩)) x = if x.cells.size = 2 ∧ x.cells.toList.all oneCell = true then ((H[id]?).bind (rowStore off x.cells.toList)).map fun o => H.set id o else none := astore_rule sz100 H id off x
theorem fa100_0 (id off : Nat) : afieldAddr Tryz.prog 100 (.pointer (some ⟨id, off, none⟩)) 0 = some (.pointer (some ⟨id, off + 0, none⟩)) := afieldAddr_at (n := 0) (f := (fieldT Tryz.prog 100 0).getD default) (by kernel_rfl) (by kernel_rfl) (by kernel_rfl) id off
theorem fl100_0 (cs : List Value) : afield Tryz.prog 100 (.agg cs.toArray) 0 = cs[0]? := afield_one (f := (fieldT Tryz.prog 100 0).getD default) (by kernel_rfl) (by kernel_rfl) (by kernel_rfl) cs
theorem fa100_1 (id off : Nat) : afieldAddr Tryz.prog 100 (.pointer (some ⟨id, off, none⟩)) 1 = some (.pointer (some ⟨id, off + 1, none⟩)) := afieldAddr_at (n := 0) (f := (fieldT Tryz.prog 100 1).getD default) (by kernel_rfl) (by kernel_rfl) (by kernel_rfl) id off
theorem fl100_1 (cs : List Value) : afield Tryz.prog 100 (.agg cs.toArray) 1 = cs[1]? := afield_one (f := (fieldT Tryz.prog 100 1).getD default) (by kernel_rfl) (by kernel_rfl) (by kernel_rfl) cs
theorem sz123 : szT Tryz.prog 123 = some 1 := by kernel_rfl
theorem ag123 : aggT Tryz.prog 123 = some false := by kernel_rfl
theorem ze123 : zeroT Tryz.prog 123 = some (.pointer none) := by kernel_rfl
theorem st123 (H : AHeap) (id off : Nat) (x : Value) : astoreT Tryz.prog H 123 (.pointer (some ⟨id, off, none⟩)) x = if x.cells.size = 1 ∧ x.cells.toList.all oneCell = true then ((H[id]?).bind (rowStore off x.cells.toList)).map fun o => H.set id o else none := astore_rule sz123 H id off x
theorem en123 (H : AHeap) (xo yo : Operand) (a : Option Addr) : abin Tryz.prog H .eql 123 xo yo (.pointer a) (.pointer none) = some (.bool a.isNone) := abin_eq_ptrnil (e := 43) (by kernel_rfl) H xo yo a
theorem nn123 (H : AHeap) (xo yo : Operand) (a : Option Addr) : abin Tryz.prog H .neq 123 xo yo (.pointer a) (.pointer none) = some (.bool !a.isNone) := abin_ne_ptrnil (e := 43) (by kernel_rfl) H xo yo a
theorem sz124 : szT Tryz.prog 124 = some 1 := by kernel_rfl
theorem ag124 : aggT Tryz.prog 124 = some false := by kernel_rfl
theorem ze124 : zeroT Tryz.prog 124 = some (.pointer none) := by kernel_rfl
theorem st124 (H : AHeap) (id off : Nat) (x : Value) : astoreT Tryz.prog H 124 (.pointer (some ⟨id, off, none⟩)) x = if x.cells.size = 1 ∧ x.cells.toList.all oneCell = true then ((H[id]?).bind (rowStore off x.cells.toList)).map fun o => H.set id o else none := astore_rule sz124 H id off x
theorem en124 (H : AHeap) (xo yo : Operand) (a : Option Addr) : abin Tryz.prog H .eql 124 xo yo (.pointer a) (.pointer none) = some (.bool a.isNone) := abin_eq_ptrnil (e := 126) (by kernel_rfl) H xo yo a
theorem nn124 (H : AHeap) (xo yo : Operand) (a : Option Addr) : abin Tryz.prog H .neq 124 xo yo (.pointer a) (.pointer none) = some (.bool !a.isNone) := abin_ne_ptrnil (e := 126) (by kernel_rfl) H xo yo a
theorem sz125 : szT Tryz.prog 125 = some 2 := by kernel_rfl
theorem ag125 : aggT Tryz.prog 125 = some true := by kernel_rfl
theorem ze125 : zeroT Tryz.prog 125 = some (.agg #[.string ByteArray.empty, .nilIface]) := by kernel_rfl
theorem pz125 : plainV 100 (.agg #[.string ByteArray.empty, .nilIface]) = true := by kernel_rfl
theorem st125 (H : AHeap) (id off : Nat) (x : Value) : astoreT Tryz.prog H 125 (.pointer (some ⟨id, off, none⟩)) x = if x.cells.size = 2 ∧ x.cells.toList.all oneCell = true then ((H[id]?).bind (rowStore off x.cells.toList)).map fun o => H.set id o else none := astore_rule sz125 H id off x
theorem fa125_0 (id off : Nat) : afieldAddr Tryz.prog 125 (.pointer (some ⟨id, off, none⟩)) 0 = some (.pointer (some ⟨id, off + 0, none⟩)) := afieldAddr_at (n := 0) (f := (fieldT Tryz.prog 125 0).getD default) (by kernel_rfl) (by kernel_rfl) (by kernel_rfl) id off
theorem fl125_0 (cs : List Value) : afield Tryz.prog 125 (.agg cs.toArray) 0 = cs[0]? := afield_one (f := (fieldT Tryz.prog 125 0).getD default) (by kernel_rfl) (by kernel_rfl) (by kernel_rfl) cs
theorem fa125_1 (id off : Nat) : afieldAddr Tryz.prog 125 (.pointer (some ⟨id, off, none⟩)) 1 = some (.pointer (some ⟨id, off + 1, none⟩)) := afieldAddr_at (n := 0) (f := (fieldT Tryz.prog 125 1).getD default) (by kernel_rfl) (by kernel_rfl) (by kernel_rfl) id off
theorem fl125_1 (cs : List Value) : afield Tryz.prog 125 (.agg cs.toArray) 1 = cs[1]? := afield_one (f := (fieldT Tryz.prog 125 1).getD default) (by kernel_rfl) (by kernel_rfl) (by kernel_rfl) cs
theorem sz126 : szT Tryz.prog 126 = some 2 := by kernel_rfl
theorem ag126 : aggT Tryz.prog 126 = some true := by kernel_rfl
theorem ze126 : zeroT Tryz.prog 126 = some (.agg #[.string ByteArray.empty, .nilIface]) := by kernel_rfl
theorem st126 (H : AHeap) (id off : Nat) (x : Value) : astoreT Tryz.prog H 126 (.pointer (some ⟨id, off, none⟩)) x = if x.cells.size = 2 ∧ x.cells.toList.all oneCell = true then ((H[id]?).bind (rowStore off x.cells.toList)).map fun o => H.set id o else none := astore_rule sz126 H id off x
theorem fa126_0 (id off : Nat) : afieldAddr Tryz.prog 126 (.pointer (some ⟨id, off, none⟩)) 0 = some (.pointer (some ⟨id, off + 0, none⟩)) := afieldAddr_at (n := 0) (f := (fieldT Tryz.prog 126 0).getD default) (by kernel_rfl) (by kernel_rfl) (by kernel_rfl) id off
theorem fl126_0 (cs : List Value) : afield Tryz.prog 126 (.agg cs.toArray) 0 = cs[0]? := afield_one (f := (fieldT Tryz.prog 126 0).getD default) (by kernel_rfl) (by kernel_rfl) (by kernel_rfl) cs
theorem fa126_1 (id off : Nat) : afieldAddr Tryz.prog 126 (.pointer (some ⟨id, off, none⟩)) 1 = some (.pointer (some ⟨id, off + 1, none⟩)) := afieldAddr_at (n := 0) (f := (fieldT Tryz.prog 126 1).getD default) (by kernel_rfl) (by kernel_rfl) (by kernel_rfl) id off
theorem fl126_1 (cs : List Value) : afield Tryz.prog 126 (.agg cs.toArray) 1 = cs[1]? := afield_one (f := (fieldT Tryz.prog 126 1).getD default) (by kernel_rfl) (by kernel_rfl) (by kernel_rfl) cs
theorem sz140 : szT Tryz.prog 140 = some 1 := by kernel_rfl
theorem ag140 : aggT Tryz.prog 140 = some false := by kernel_rfl
theorem ze140 : zeroT Tryz.prog 140 = some (.slice none 0 0) := by kernel_rfl
theorem st140 (H : AHeap) (id off : Nat) (x : Value) : astoreT Tryz.prog H 140 (.pointer (some ⟨id, off, none⟩)) x = if x.cells.size = 1 ∧ x.cells.toList.all oneCell = true then ((H[id]?).bind (rowStore off x.cells.toList)).map fun o => H.set id o else none := astore_rule sz140 H id off x
theorem un140 : Tryz.prog.underlying 140 = some (.slice 2) := by kernel_rfl
theorem el140 : elemT Tryz.prog 140 = some 2 := by kernel_rfl
theorem ln140 (H : AHeap) (a : Option Addr) (m c : Nat) : alen Tryz.prog H 140 (.slice a m c) = some (.int .i64 m) := alen_slice un140 H a m c
theorem cp140 (a : Addr) (m c : Nat) : acap Tryz.prog 140 (.slice (some a) m c) = if c = 0 then none else some (.int .i64 c) := acap_slice un140 a m c
theorem ix140 (id off m c : Nat) (ik : IntKind) (i : Int) : aindexAddr Tryz.prog 140 (.slice (some ⟨id, off, none⟩) m c) (.int ik i) = if 0 ≤ i ∧ i < m then some (.pointer (some ⟨id, off + i.toNat * 1, none⟩)) else none := aindexAddr_at un140 (by kernel_rfl) id off m c ik i
theorem en140 (H : AHeap) (xo yo : Operand) (a : Option Addr) (n c m q : Nat) : abin Tryz.prog H .eql 140 xo yo (.slice a n c) (.slice none m q) = some (.bool a.isNone) := abin_eq_slnil un140 H xo yo a n c m q
theorem nn140 (H : AHeap) (xo yo : Operand) (a : Option Addr) (n c m q : Nat) : abin Tryz.prog H .neq 140 xo yo (.slice a n c) (.slice none m q) = some (.bool !a.isNone) := abin_ne_slnil un140 H xo yo a n c m q
theorem sc140 (H : AHeap) (a : Option Addr) (n c : Nat) (lo hi : Option Value) : aslice Tryz.prog H 140 (.slice a n c) lo hi none = (optB hi (some n) (capOf n c)).bind fun h => (optB lo (some 0) h).bind fun l => cut H 1 a c l h := aslice_sl un140 (by kernel_rfl) H a n c lo hi
theorem sz151 : szT Tryz.prog 151 = some 8 := by kernel_rfl
theorem ag151 : aggT Tryz.prog 151 = some true := by kernel_rfl
theorem ze151 : zeroT Tryz.prog 151 = some (.agg #[.bool false, .bool false, .bool false, .bool false, .bool false, .bool false, .bool false, .bool false]) := by kernel_rfl
theorem pz151 : plainV 100 (.agg #[.bool false, .bool false, .bool false, .bool false, .bool false, .bool false, .bool false, .bool false]) = true := by kernel_rfl
theorem st151 (H : AHeap) (id off : Nat) (x : Value) : astoreT Tryz.prog H 151 (.pointer (some ⟨id, off, none⟩)) x = if x.cells.size = 8 ∧ x.cells.toList.all oneCell = true then ((H[id]?).bind (rowStore off x.cells.toList)).map fun o => H.set id o else none := astore_rule sz151 H id off x
theorem sz182 : szT Tryz.prog 182 = some 1 := by kernel_rfl
theorem ag182 : aggT Tryz.prog 182 = some false := by kernel_rfl
theorem ze182 : zeroT Tryz.prog 182 = some (.int .u64 0) := by kernel_rfl
theorem st182 (H : AHeap) (id off : Nat) (x : Value) : astoreT Tryz.prog H 182 (.pointer (some ⟨id, off, none⟩)) x = if x.cells.size = 1 ∧ x.cells.toList.all oneCell = true then ((H[id]?).bind (rowStore off x.cells.toList)).map fun o => H.set id o else none := astore_rule sz182 H id off x
theorem kd182 : kindT Tryz.prog 182 = .int .u64 := by kernel_rfl
theorem sz185 : szT Tryz.prog 185 = some 1 := by kernel_rfl
theorem ag185 : aggT Tryz.prog 185 = some false := by kernel_rfl
theorem ze185 : zeroT Tryz.prog 185 = some (.pointer none) := by kernel_rfl
theorem st185 (H : AHeap) (id off : Nat) (x : Value) : astoreT Tryz.prog H 185 (.pointer (some ⟨id, off, none⟩)) x = if x.cells.size = 1 ∧ x.cells.toList.all oneCell = true then ((H[id]?).bind (rowStore off x.cells.toList)).map fun o => H.set id o else none := astore_rule sz185 H id off x
theorem en185 (H : AHeap) (xo yo : Operand) (a : Option Addr) : abin Tryz.prog H .eql 185 xo yo (.pointer a) (.pointer none) = some (.bool a.isNone) := abin_eq_ptrnil (e := 237) (by kernel_rfl) H xo yo a
theorem nn185 (H : AHeap) (xo yo : Operand) (a : Option Addr) : abin Tryz.prog H .neq 185 xo yo (.pointer a) (.pointer none) = some (.bool !a.isNone) := abin_ne_ptrnil (e := 237) (by kernel_rfl) H xo yo a
theorem sz212 : szT Tryz.prog 212 = some 16 := by kernel_rfl
theorem ag212 : aggT Tryz.prog 212 = some true := by kernel_rfl
theorem ze212 : zeroT Tryz.prog 212 = some (.agg #[.int .u32 0, .int .u32 0, .int .u32 0, .int .u32 0, .int .u32 0, .int .u32 0, .int .u32 0, .int .u32 0, .int .u32 0, .int .u32 0, .int .u32 0, .int .u32 0, .int .u32 0, .int .u32 0, .int .u32 0, .int .u32 0]) := by kernel_rfl
theorem pz212 : plainV 100 (.agg #[.int .u32 0, .int .u32 0, .int .u32 0, .int .u32 0, .int .u32 0, .int .u32 0, .int .u32 0, .int .u32 0, .int .u32 0, .int .u32 0, .int .u32 0, .int .u32 0, .int .u32 0, .int .u32 0, .int .u32 0, .int .u32 0]) = true := by kernel_rfl
theorem st212 (H : AHeap) (id off : Nat) (x : Value) : astoreT Tryz.prog H 212 (.pointer (some ⟨id, off, none⟩)) x = if x.cells.size = 16 ∧ x.cells.toList.all oneCell = true then ((H[id]?).bind (rowStore off x.cells.toList)).map fun o => H.set id o else none := astore_rule sz212 H id off x
theorem sz236 : szT Tryz.prog 236 = some 2 := by kernel_rfl
theorem ag236 : aggT Tryz.prog 236 = some true := by kernel_rfl
theorem ze236 : zeroT Tryz.prog 236 = some (.agg #[.slice none 0 0, .int .i64 0]) := by kernel_rfl
theorem st236 (H : AHeap) (id off : Nat) (x : Value) : astoreT Tryz.prog H 236 (.pointer (some ⟨id, off, none⟩)) x = if x.cells.size = 2 ∧ x.cells.toList.all oneCell = true then ((H[id]?).bind (rowStore off x.cells.toList)).map fun o => H.set id o else none := astore_rule sz236 H id off x
theorem fa236_0 (id off : Nat) : afieldAddr Tryz.prog 236 (.pointer (some ⟨id, off, none⟩)) 0 = some (.pointer (some ⟨id, off + 0, none⟩)) := afieldAddr_at (n := 0) (f := (fieldT Tryz.prog 236 0).getD default) (by kernel_rfl) (by kernel_rfl) (by kernel_rfl) id off
theorem fl236_0 (cs : List Value) : afield Tryz.prog 236 (.agg cs.toArray) 0 = cs[0]? := afield_one (f := (fieldT Tryz.prog 236 0).getD default) (by kernel_rfl) (by kernel_rfl) (by kernel_rfl) cs
theorem fa236_1 (id off : Nat) : afieldAddr Tryz.prog 236 (.pointer (some ⟨id, off, none⟩)) 1 = some (.pointer (some ⟨id, off + 1, none⟩)) := afieldAddr_at (n := 0) (f := (fieldT Tryz.prog 236 1).getD default) (by kernel_rfl) (by kernel_rfl) (by kernel_rfl) id off
theorem fl236_1 (cs : List Value) : afield Tryz.prog 236 (.agg cs.toArray) 1 = cs[1]? := afield_one (f := (fieldT Tryz.prog 236 1).getD default) (by kernel_rfl) (by kernel_rfl) (by kernel_rfl) cs
theorem sz237 : szT Tryz.prog 237 = some 2 := by kernel_rfl
theorem ag237 : aggT Tryz.prog 237 = some true := by kernel_rfl
theorem ze237 : zeroT Tryz.prog 237 = some (.agg #[.slice none 0 0, .int .i64 0]) := by kernel_rfl
theorem st237 (H : AHeap) (id off : Nat) (x : Value) : astoreT Tryz.prog H 237 (.pointer (some ⟨id, off, none⟩)) x = if x.cells.size = 2 ∧ x.cells.toList.all oneCell = true then ((H[id]?).bind (rowStore off x.cells.toList)).map fun o => H.set id o else none := astore_rule sz237 H id off x
theorem fa237_0 (id off : Nat) : afieldAddr Tryz.prog 237 (.pointer (some ⟨id, off, none⟩)) 0 = some (.pointer (some ⟨id, off + 0, none⟩)) := afieldAddr_at (n := 0) (f := (fieldT Tryz.prog 237 0).getD default) (by kernel_rfl) (by kernel_rfl) (by kernel_rfl) id off
theorem fl237_0 (cs : List Value) : afield Tryz.prog 237 (.agg cs.toArray) 0 = cs[0]? := afield_one (f := (fieldT Tryz.prog 237 0).getD default) (by kernel_rfl) (by kernel_rfl) (by kernel_rfl) cs
theorem fa237_1 (id off : Nat) : afieldAddr Tryz.prog 237 (.pointer (some ⟨id, off, none⟩)) 1 = some (.pointer (some ⟨id, off + 1, none⟩)) := afieldAddr_at (n := 0) (f := (fieldT Tryz.prog 237 1).getD default) (by kernel_rfl) (by kernel_rfl) (by kernel_rfl) id off
theorem fl237_1 (cs : List Value) : afield Tryz.prog 237 (.agg cs.toArray) 1 = cs[1]? := afield_one (f := (fieldT Tryz.prog 237 1).getD default) (by kernel_rfl) (by kernel_rfl) (by kernel_rfl) cs
end Go.Proofs.YtekpdopbiklkfaaGreatDoor
end
