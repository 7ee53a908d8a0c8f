/-
  Parts of the proof, joined: Facts, Bits, Wire1, Wire2, Read0, Read1, Read2, AwBase.
-/
import Derived.Test.YtekpdopbiklkfaaGreatDoorPf08
section
set_option linter.unusedVariables false
set_option linter.unusedSimpArgs false
namespace Go.Proofs.YtekpdopbiklkfaaGreatDoor
open Go Go.AW
set_option linter.unusedSimpArgs false
theorem bs22 {T : Tm} {d : Option Tmp} {ty : TypeId} {pos : String} {aft : Array Edge} {gd : Option (Nat × Bool)} (n : Nat) (ps : Array (Nat × Operand)) : aalloc Tryz.prog T ⟨d, .buildSlice 22 n ps, ty, pos, aft, gd⟩ = (bsRow [.int .i64 0, .int .i64 0, .int .i64 0, .slice none 0 0, .slice none 0 0, .slice none 0 0, .int .i64 0, .int .i64 0, .int .i64 0, .int .i64 0] 10 n (ps.toList.map fun p => (p.1, aev T p.2))).map fun o => (o, fun id => .slice (some ⟨id, 0, none⟩) n n) := bs_eq el22 sz36 ze36 (by kernel_rfl) rfl (by decide) n ps
theorem bs28 {T : Tm} {d : Option Tmp} {ty : TypeId} {pos : String} {aft : Array Edge} {gd : Option (Nat × Bool)} (n : Nat) (ps : Array (Nat × Operand)) : aalloc Tryz.prog T ⟨d, .buildSlice 28 n ps, ty, pos, aft, gd⟩ = (bsRow [.int .i64 0, .int .i64 0, .int .i64 0, .int .i64 0, .int .i64 0, .string ByteArray.empty, .int .u32 0, .int .i64 0] 8 n (ps.toList.map fun p => (p.1, aev T p.2))).map fun o => (o, fun id => .slice (some ⟨id, 0, none⟩) n n) := bs_eq el28 sz51 ze51 (by kernel_rfl) rfl (by decide) n ps
theorem bs29 {T : Tm} {d : Option Tmp} {ty : TypeId} {pos : String} {aft : Array Edge} {gd : Option (Nat × Bool)} (n : Nat) (ps : Array (Nat × Operand)) : aalloc Tryz.prog T ⟨d, .buildSlice 29 n ps, ty, pos, aft, gd⟩ = (bsRow [.int .i64 0, .int .i64 0, .int .i64 0, .int .i64 0, .int .i64 0] 5 n (ps.toList.map fun p => (p.1, aev T p.2))).map fun o => (o, fun id => .slice (some ⟨id, 0, none⟩) n n) := bs_eq el29 sz48 ze48 (by kernel_rfl) rfl (by decide) n ps
theorem bs30 {T : Tm} {d : Option Tmp} {ty : TypeId} {pos : String} {aft : Array Edge} {gd : Option (Nat × Bool)} (n : Nat) (ps : Array (Nat × Operand)) : aalloc Tryz.prog T ⟨d, .buildSlice 30 n ps, ty, pos, aft, gd⟩ = (bsRow [.int .i64 0, .int .u64 0, .int .u64 0] 3 n (ps.toList.map fun p => (p.1, aev T p.2))).map fun o => (o, fun id => .slice (some ⟨id, 0, none⟩) n n) := bs_eq el30 sz54 ze54 (by kernel_rfl) rfl (by decide) n ps
theorem bd31 (ps : List (Nat × Value)) : abuild Tryz.prog 31 ps = (fillF (fun i => [(0, 1), (1, 1)][i]?) [.int .i64 0, .int .i64 0] ps).map fun cs => .agg cs.toArray := bd_eq ze31 (by kernel_rfl) Tryz.underlying31 (by kernel_rfl) ps
theorem bd32 (ps : List (Nat × Value)) : abuild Tryz.prog 32 ps = (fillF (fun i => [(0, 1), (1, 1)][i]?) [.int .i64 0, .int .i64 0] ps).map fun cs => .agg cs.toArray := bd_eq ze32 (by kernel_rfl) Tryz.underlying32 (by kernel_rfl) ps
theorem bd33 (ps : List (Nat × Value)) : abuild Tryz.prog 33 ps = (fillF (fun i => [(0, 1), (1, 1), (2, 1), (3, 1), (4, 1), (5, 2)][i]?) [.int .i64 0, .int .i64 0, .slice none 0 0, .slice none 0 0, .slice none 0 0, .int .i64 0, .int .i64 0] ps).map fun cs => .agg cs.toArray := bd_eq ze33 (by kernel_rfl) Tryz.underlying33 (by kernel_rfl) ps
theorem bd34 (ps : List (Nat × Value)) : abuild Tryz.prog 34 ps = (fillF (fun i => [(0, 1), (1, 1), (2, 1), (3, 1), (4, 1), (5, 2)][i]?) [.int .i64 0, .int .i64 0, .slice none 0 0, .slice none 0 0, .slice none 0 0, .int .i64 0, .int .i64 0] ps).map fun cs => .agg cs.toArray := bd_eq ze34 (by kernel_rfl) Tryz.underlying34 (by kernel_rfl) ps
theorem bd35 (ps : List (Nat × Value)) : abuild Tryz.prog 35 ps = (fillF (fun i => [(0, 1), (1, 7), (8, 1), (9, 1)][i]?) [.int .i64 0, .int .i64 0, .int .i64 0, .slice none 0 0, .slice none 0 0, .slice none 0 0, .int .i64 0, .int .i64 0, .int .i64 0, .int .i64 0] ps).map fun cs => .agg cs.toArray := bd_eq ze35 (by kernel_rfl) Tryz.underlying35 (by kernel_rfl) ps
theorem bd36 (ps : List (Nat × Value)) : abuild Tryz.prog 36 ps = (fillF (fun i => [(0, 1), (1, 7), (8, 1), (9, 1)][i]?) [.int .i64 0, .int .i64 0, .int .i64 0, .slice none 0 0, .slice none 0 0, .slice none 0 0, .int .i64 0, .int .i64 0, .int .i64 0, .int .i64 0] ps).map fun cs => .agg cs.toArray := bd_eq ze36 (by kernel_rfl) Tryz.underlying36 (by kernel_rfl) ps
theorem bs39 {T : Tm} {d : Option Tmp} {ty : TypeId} {pos : String} {aft : Array Edge} {gd : Option (Nat × Bool)} (n : Nat) (ps : Array (Nat × Operand)) : aalloc Tryz.prog T ⟨d, .buildSlice 39 n ps, ty, pos, aft, gd⟩ = (bsRow [.int .u64 0] 1 n (ps.toList.map fun p => (p.1, aev T p.2))).map fun o => (o, fun id => .slice (some ⟨id, 0, none⟩) n n) := bs_eq el39 sz52 ze52 (by kernel_rfl) rfl (by decide) n ps
theorem bd40 (ps : List (Nat × Value)) : abuild Tryz.prog 40 ps = (fillF (fun i => [(0, 1), (1, 1), (2, 1), (3, 1), (4, 1)][i]?) [.int .i64 0, .int .i64 0, .int .i64 0, .slice none 0 0, .slice none 0 0] ps).map fun cs => .agg cs.toArray := bd_eq ze40 (by kernel_rfl) Tryz.underlying40 (by kernel_rfl) ps
theorem bd41 (ps : List (Nat × Value)) : abuild Tryz.prog 41 ps = (fillF (fun i => [(0, 1), (1, 1), (2, 1), (3, 1), (4, 1)][i]?) [.int .i64 0, .int .i64 0, .int .i64 0, .slice none 0 0, .slice none 0 0] ps).map fun cs => .agg cs.toArray := bd_eq ze41 (by kernel_rfl) Tryz.underlying41 (by kernel_rfl) ps
theorem bd47 (ps : List (Nat × Value)) : abuild Tryz.prog 47 ps = (fillF (fun i => [(0, 2), (2, 1), (3, 1), (4, 1)][i]?) [.int .i64 0, .int .i64 0, .int .i64 0, .int .i64 0, .int .i64 0] ps).map fun cs => .agg cs.toArray := bd_eq ze47 (by kernel_rfl) Tryz.underlying47 (by kernel_rfl) ps
theorem bd48 (ps : List (Nat × Value)) : abuild Tryz.prog 48 ps = (fillF (fun i => [(0, 2), (2, 1), (3, 1), (4, 1)][i]?) [.int .i64 0, .int .i64 0, .int .i64 0, .int .i64 0, .int .i64 0] ps).map fun cs => .agg cs.toArray := bd_eq ze48 (by kernel_rfl) Tryz.underlying48 (by kernel_rfl) ps
theorem bd50 (ps : List (Nat × Value)) : abuild Tryz.prog 50 ps = (fillF (fun i => [(0, 5), (5, 1), (6, 1), (7, 1)][i]?) [.int .i64 0, .int .i64 0, .int .i64 0, .int .i64 0, .int .i64 0, .string ByteArray.empty, .int .u32 0, .int .i64 0] ps).map fun cs => .agg cs.toArray := bd_eq ze50 (by kernel_rfl) Tryz.underlying50 (by kernel_rfl) ps
theorem bd51 (ps : List (Nat × Value)) : abuild Tryz.prog 51 ps = (fillF (fun i => [(0, 5), (5, 1), (6, 1), (7, 1)][i]?) [.int .i64 0, .int .i64 0, .int .i64 0, .int .i64 0, .int .i64 0, .string ByteArray.empty, .int .u32 0, .int .i64 0] ps).map fun cs => .agg cs.toArray := bd_eq ze51 (by kernel_rfl) Tryz.underlying51 (by kernel_rfl) ps
theorem bd53 (ps : List (Nat × Value)) : abuild Tryz.prog 53 ps = (fillF (fun i => [(0, 1), (1, 1), (2, 1)][i]?) [.int .i64 0, .int .u64 0, .int .u64 0] ps).map fun cs => .agg cs.toArray := bd_eq ze53 (by kernel_rfl) Tryz.underlying53 (by kernel_rfl) ps
theorem bd54 (ps : List (Nat × Value)) : abuild Tryz.prog 54 ps = (fillF (fun i => [(0, 1), (1, 1), (2, 1)][i]?) [.int .i64 0, .int .u64 0, .int .u64 0] ps).map fun cs => .agg cs.toArray := bd_eq ze54 (by kernel_rfl) Tryz.underlying54 (by kernel_rfl) ps
theorem bs58 {T : Tm} {d : Option Tmp} {ty : TypeId} {pos : String} {aft : Array Edge} {gd : Option (Nat × Bool)} (n : Nat) (ps : Array (Nat × Operand)) : aalloc Tryz.prog T ⟨d, .buildSlice 58 n ps, ty, pos, aft, gd⟩ = (bsRow [.string ByteArray.empty] 1 n (ps.toList.map fun p => (p.1, aev T p.2))).map fun o => (o, fun id => .slice (some ⟨id, 0, none⟩) n n) := bs_eq el58 sz9 ze9 (by kernel_rfl) rfl (by decide) n ps
theorem bs59 {T : Tm} {d : Option Tmp} {ty : TypeId} {pos : String} {aft : Array Edge} {gd : Option (Nat × Bool)} (n : Nat) (ps : Array (Nat × Operand)) : aalloc Tryz.prog T ⟨d, .buildSlice 59 n ps, ty, pos, aft, gd⟩ = (bsRow [.int .u8 0] 1 n (ps.toList.map fun p => (p.1, aev T p.2))).map fun o => (o, fun id => .slice (some ⟨id, 0, none⟩) n n) := bs_eq el59 sz5 ze5 (by kernel_rfl) rfl (by decide) n ps
theorem bs77 {T : Tm} {d : Option Tmp} {ty : TypeId} {pos : String} {aft : Array Edge} {gd : Option (Nat × Bool)} (n : Nat) (ps : Array (Nat × Operand)) : aalloc Tryz.prog T ⟨d, .buildSlice 77 n ps, ty, pos, aft, gd⟩ = (bsRow [.int .i64 0] 1 n (ps.toList.map fun p => (p.1, aev T p.2))).map fun o => (o, fun id => .slice (some ⟨id, 0, none⟩) n n) := bs_eq el77 sz3 ze3 (by kernel_rfl) rfl (by decide) n ps
theorem bd83 (ps : List (Nat × Value)) : abuild Tryz.prog 83 ps = (fillF (fun i => [(0, 1), (1, 1), (2, 1), (3, 1), (4, 1)][i]?) [.map none, .bool false, .int .i64 0, .int .i64 0, .int .i64 0] ps).map fun cs => .agg cs.toArray := bd_eq ze83 (by kernel_rfl) Tryz.underlying83 (by kernel_rfl) ps
theorem bd84 (ps : List (Nat × Value)) : abuild Tryz.prog 84 ps = (fillF (fun i => [(0, 1), (1, 1), (2, 1), (3, 1), (4, 1)][i]?) [.map none, .bool false, .int .i64 0, .int .i64 0, .int .i64 0] ps).map fun cs => .agg cs.toArray := bd_eq ze84 (by kernel_rfl) Tryz.underlying84 (by kernel_rfl) ps
theorem bd88 (ps : List (Nat × Value)) : abuild Tryz.prog 88 ps = (fillF (fun i => [(0, 1), (1, 5), (6, 1), (7, 1), (8, 1)][i]?) [.pointer none, .int .i64 0, .int .i64 0, .int .i64 0, .slice none 0 0, .slice none 0 0, .int .u64 0, .bool false, .bool false] ps).map fun cs => .agg cs.toArray := bd_eq ze88 (by kernel_rfl) Tryz.underlying88 (by kernel_rfl) ps
theorem bd89 (ps : List (Nat × Value)) : abuild Tryz.prog 89 ps = (fillF (fun i => [(0, 1), (1, 5), (6, 1), (7, 1), (8, 1)][i]?) [.pointer none, .int .i64 0, .int .i64 0, .int .i64 0, .slice none 0 0, .slice none 0 0, .int .u64 0, .bool false, .bool false] ps).map fun cs => .agg cs.toArray := bd_eq ze89 (by kernel_rfl) Tryz.underlying89 (by kernel_rfl) ps
theorem bd99 (ps : List (Nat × Value)) : abuild Tryz.prog 99 ps = (fillF (fun i => [(0, 1), (1, 1)][i]?) [.slice none 0 0, .int .i64 0] ps).map fun cs => .agg cs.toArray := bd_eq ze99 (by kernel_rfl) Tryz.underlying99 (by kernel_rfl) ps
theorem bd100 (ps : List (Nat × Value)) : abuild Tryz.prog 100 ps = (fillF (fun i => [(0, 1), (1, 1)][i]?) [.slice none 0 0, .int .i64 0] ps).map fun cs => .agg cs.toArray := bd_eq ze100 (by kernel_rfl) Tryz.underlying100 (by kernel_rfl) ps
theorem bd125 (ps : List (Nat × Value)) : abuild Tryz.prog 125 ps = (fillF (fun i => [(0, 1), (1, 1)][i]?) [.string ByteArray.empty, .nilIface] ps).map fun cs => .agg cs.toArray := bd_eq ze125 (by kernel_rfl) Tryz.underlying125 (by kernel_rfl) ps
theorem bd126 (ps : List (Nat × Value)) : abuild Tryz.prog 126 ps = (fillF (fun i => [(0, 1), (1, 1)][i]?) [.string ByteArray.empty, .nilIface] ps).map fun cs => .agg cs.toArray := bd_eq ze126 (by kernel_rfl) Tryz.underlying126 (by kernel_rfl) ps
theorem bs140 {T : Tm} {d : Option Tmp} {ty : TypeId} {pos : String} {aft : Array Edge} {gd : Option (Nat × Bool)} (n : Nat) (ps : Array (Nat × Operand)) : aalloc Tryz.prog T ⟨d, .buildSlice 140 n ps, ty, pos, aft, gd⟩ = (bsRow [.int .i64 0] 1 n (ps.toList.map fun p => (p.1, aev T p.2))).map fun o => (o, fun id => .slice (some ⟨id, 0, none⟩) n n) := bs_eq el140 sz2 ze2 (by kernel_rfl) rfl (by decide) n ps
theorem bd236 (ps : List (Nat × Value)) : abuild Tryz.prog 236 ps = (fillF (fun i => [(0, 1), (1, 1)][i]?) [.slice none 0 0, .int .i64 0] ps).map fun cs => .agg cs.toArray := bd_eq ze236 (by kernel_rfl) Tryz.underlying236 (by kernel_rfl) ps
theorem bd237 (ps : List (Nat × Value)) : abuild Tryz.prog 237 ps = (fillF (fun i => [(0, 1), (1, 1)][i]?) [.slice none 0 0, .int .i64 0] ps).map fun cs => .agg cs.toArray := bd_eq ze237 (by kernel_rfl) Tryz.underlying237 (by kernel_rfl) ps
theorem eq2 (H : AHeap) (d : Nat) (x y : Int) : aeq Tryz.prog H (d + 1) 2 (.int .i64 x) (.int .i64 y) = some (x == y) := aeq_int (by kernel_rfl) H d x y
theorem ck2 (d : Nat) (v : Value) : acheck Tryz.prog (d + 1) 2 v = true := acheck_leaf (by kernel_rfl) d v
theorem key2 (x : Int) : keyOk Tryz.prog 2 (.int .i64 x) = true := keyOk_of (ck2 _ _) (plainV_of1 rfl _)
theorem eq3 (H : AHeap) (d : Nat) (x y : Int) : aeq Tryz.prog H (d + 1) 3 (.int .i64 x) (.int .i64 y) = some (x == y) := aeq_int (by kernel_rfl) H d x y
theorem ck3 (d : Nat) (v : Value) : acheck Tryz.prog (d + 1) 3 v = true := acheck_leaf (by kernel_rfl) d v
theorem key3 (x : Int) : keyOk Tryz.prog 3 (.int .i64 x) = true := keyOk_of (ck3 _ _) (plainV_of1 rfl _)
theorem ck4 (d : Nat) (v : Value) : acheck Tryz.prog (d + 1) 4 v = true := acheck_leaf (by kernel_rfl) d v
theorem key4 (x : Bool) : keyOk Tryz.prog 4 (.bool x) = true := keyOk_of (ck4 _ _) (plainV_of1 rfl _)
theorem ck5 (d : Nat) (v : Value) : acheck Tryz.prog (d + 1) 5 v = true := acheck_leaf (by kernel_rfl) d v
theorem key5 (x : Int) : keyOk Tryz.prog 5 (.int .u8 x) = true := keyOk_of (ck5 _ _) (plainV_of1 rfl _)
theorem eq9 (H : AHeap) (d : Nat) (x y : ByteArray) : aeq Tryz.prog H (d + 1) 9 (.string x) (.string y) = some (x == y) := aeq_string (by kernel_rfl) H d x y
theorem ck9 (d : Nat) (v : Value) : acheck Tryz.prog (d + 1) 9 v = true := acheck_leaf (by kernel_rfl) d v
theorem key9 (x : ByteArray) : keyOk Tryz.prog 9 (.string x) = true := keyOk_of (ck9 _ _) (plainV_of1 rfl _)
theorem eq32 (H : AHeap) (d : Nat) (x0 : Int) (x1 : Int) (y0 : Int) (y1 : Int) : aeq Tryz.prog H (d + 2) 32 (.agg [.int .i64 x0, .int .i64 x1].toArray) (.agg [.int .i64 y0, .int .i64 y1].toArray) = some ((x0 == y0) && ((x1 == y1) && true)) := by
  rw [aeq_struct Tryz.underlying32 (by kernel_rfl) (ps := [(2, 0), (2, 1)]) (by kernel_rfl)]
  simp only [eqParts_cons, eqParts_nil, eqPart_eq, apart_one ag2, List.take_zero, List.take_succ_cons, List.drop_zero, List.drop_succ_cons, List.getElem?_cons_zero, List.getElem?_cons_succ, Option.bind_some, eq2, andO_some]
theorem ck32 (d : Nat) (x0 : Int) (x1 : Int) : acheck Tryz.prog (d + 2) 32 (.agg [.int .i64 x0, .int .i64 x1].toArray) = true := by
  rw [acheck_struct Tryz.underlying32 (ps := [(2, 0), (2, 1)]) (by kernel_rfl)]
  exact chkParts_one (u := _) (apart_one ag2 _ _) (ck2 _ _) (chkParts_one (u := _) (apart_one ag2 _ _) (ck2 _ _) (chkParts_nil _ _))
theorem key32 (x0 : Int) (x1 : Int) : keyOk Tryz.prog 32 (.agg [.int .i64 x0, .int .i64 x1].toArray) = true := keyOk_of (ck32 98 x0 x1) (plainV_agg rfl _)
theorem be32 (H : AHeap) (xo yo : Operand) (x0 : Int) (x1 : Int) (y0 : Int) (y1 : Int) : abin Tryz.prog H .eql 32 xo yo (.agg [.int .i64 x0, .int .i64 x1].toArray) (.agg [.int .i64 y0, .int .i64 y1].toArray) = some (.bool ((x0 == y0) && ((x1 == y1) && true))) := abin_agg (by kernel_rfl) H xo yo (eq32 H 9998 x0 x1 y0 y1)
theorem bn32 (H : AHeap) (xo yo : Operand) (x0 : Int) (x1 : Int) (y0 : Int) (y1 : Int) : abin Tryz.prog H .neq 32 xo yo (.agg [.int .i64 x0, .int .i64 x1].toArray) (.agg [.int .i64 y0, .int .i64 y1].toArray) = some (.bool !((x0 == y0) && ((x1 == y1) && true))) := abin_agg_ne (by kernel_rfl) H xo yo (eq32 H 9998 x0 x1 y0 y1)
theorem ck43 (d : Nat) (v : Value) : acheck Tryz.prog (d + 1) 43 v = true := acheck_leaf (by kernel_rfl) d v
theorem key43 (x : Int) : keyOk Tryz.prog 43 (.int .i64 x) = true := keyOk_of (ck43 _ _) (plainV_of1 rfl _)
theorem eq48 (H : AHeap) (d : Nat) (x0 : Int) (x1 : Int) (x2 : Int) (x3 : Int) (x4 : Int) (y0 : Int) (y1 : Int) (y2 : Int) (y3 : Int) (y4 : Int) : aeq Tryz.prog H (d + 3) 48 (.agg [.int .i64 x0, .int .i64 x1, .int .i64 x2, .int .i64 x3, .int .i64 x4].toArray) (.agg [.int .i64 y0, .int .i64 y1, .int .i64 y2, .int .i64 y3, .int .i64 y4].toArray) = some ((((x0 == y0) && ((x1 == y1) && true))) && ((x2 == y2) && ((x3 == y3) && ((x4 == y4) && true)))) := by
  rw [aeq_struct Tryz.underlying48 (by kernel_rfl) (ps := [(32, 0), (3, 2), (3, 3), (3, 4)]) (by kernel_rfl)]
  simp only [eqParts_cons, eqParts_nil, eqPart_eq, apart_one ag3, apart_agg ag32 sz32, List.take_zero, List.take_succ_cons, List.drop_zero, List.drop_succ_cons, List.getElem?_cons_zero, List.getElem?_cons_succ, Option.bind_some, eq3, eq32, andO_some]
theorem ck48 (d : Nat) (x0 : Int) (x1 : Int) (x2 : Int) (x3 : Int) (x4 : Int) : acheck Tryz.prog (d + 3) 48 (.agg [.int .i64 x0, .int .i64 x1, .int .i64 x2, .int .i64 x3, .int .i64 x4].toArray) = true := by
  rw [acheck_struct Tryz.underlying48 (ps := [(32, 0), (3, 2), (3, 3), (3, 4)]) (by kernel_rfl)]
  exact chkParts_one (u := _) (apart_agg ag32 sz32 _ _) (ck32 _ _ _) (chkParts_one (u := _) (apart_one ag3 _ _) (ck3 _ _) (chkParts_one (u := _) (apart_one ag3 _ _) (ck3 _ _) (chkParts_one (u := _) (apart_one ag3 _ _) (ck3 _ _) (chkParts_nil _ _))))
theorem key48 (x0 : Int) (x1 : Int) (x2 : Int) (x3 : Int) (x4 : Int) : keyOk Tryz.prog 48 (.agg [.int .i64 x0, .int .i64 x1, .int .i64 x2, .int .i64 x3, .int .i64 x4].toArray) = true := keyOk_of (ck48 97 x0 x1 x2 x3 x4) (plainV_agg rfl _)
theorem be48 (H : AHeap) (xo yo : Operand) (x0 : Int) (x1 : Int) (x2 : Int) (x3 : Int) (x4 : Int) (y0 : Int) (y1 : Int) (y2 : Int) (y3 : Int) (y4 : Int) : abin Tryz.prog H .eql 48 xo yo (.agg [.int .i64 x0, .int .i64 x1, .int .i64 x2, .int .i64 x3, .int .i64 x4].toArray) (.agg [.int .i64 y0, .int .i64 y1, .int .i64 y2, .int .i64 y3, .int .i64 y4].toArray) = some (.bool ((((x0 == y0) && ((x1 == y1) && true))) && ((x2 == y2) && ((x3 == y3) && ((x4 == y4) && true))))) := abin_agg (by kernel_rfl) H xo yo (eq48 H 9997 x0 x1 x2 x3 x4 y0 y1 y2 y3 y4)
theorem bn48 (H : AHeap) (xo yo : Operand) (x0 : Int) (x1 : Int) (x2 : Int) (x3 : Int) (x4 : Int) (y0 : Int) (y1 : Int) (y2 : Int) (y3 : Int) (y4 : Int) : abin Tryz.prog H .neq 48 xo yo (.agg [.int .i64 x0, .int .i64 x1, .int .i64 x2, .int .i64 x3, .int .i64 x4].toArray) (.agg [.int .i64 y0, .int .i64 y1, .int .i64 y2, .int .i64 y3, .int .i64 y4].toArray) = some (.bool !((((x0 == y0) && ((x1 == y1) && true))) && ((x2 == y2) && ((x3 == y3) && ((x4 == y4) && true))))) := abin_agg_ne (by kernel_rfl) H xo yo (eq48 H 9997 x0 x1 x2 x3 x4 y0 y1 y2 y3 y4)
theorem ck49 (d : Nat) (v : Value) : acheck Tryz.prog (d + 1) 49 v = true := acheck_leaf (by kernel_rfl) d v
theorem key49 (x : Int) : keyOk Tryz.prog 49 (.int .u32 x) = true := keyOk_of (ck49 _ _) (plainV_of1 rfl _)
theorem eq52 (H : AHeap) (d : Nat) (x y : Int) : aeq Tryz.prog H (d + 1) 52 (.int .u64 x) (.int .u64 y) = some (x == y) := aeq_int (by kernel_rfl) H d x y
theorem ck52 (d : Nat) (v : Value) : acheck Tryz.prog (d + 1) 52 v = true := acheck_leaf (by kernel_rfl) d v
theorem key52 (x : Int) : keyOk Tryz.prog 52 (.int .u64 x) = true := keyOk_of (ck52 _ _) (plainV_of1 rfl _)
theorem eq54 (H : AHeap) (d : Nat) (x0 : Int) (x1 : Int) (x2 : Int) (y0 : Int) (y1 : Int) (y2 : Int) : aeq Tryz.prog H (d + 2) 54 (.agg [.int .i64 x0, .int .u64 x1, .int .u64 x2].toArray) (.agg [.int .i64 y0, .int .u64 y1, .int .u64 y2].toArray) = some ((x0 == y0) && ((x1 == y1) && ((x2 == y2) && true))) := by
  rw [aeq_struct Tryz.underlying54 (by kernel_rfl) (ps := [(3, 0), (52, 1), (52, 2)]) (by kernel_rfl)]
  simp only [eqParts_cons, eqParts_nil, eqPart_eq, apart_one ag3, apart_one ag52, List.take_zero, List.take_succ_cons, List.drop_zero, List.drop_succ_cons, List.getElem?_cons_zero, List.getElem?_cons_succ, Option.bind_some, eq3, eq52, andO_some]
theorem ck54 (d : Nat) (x0 : Int) (x1 : Int) (x2 : Int) : acheck Tryz.prog (d + 2) 54 (.agg [.int .i64 x0, .int .u64 x1, .int .u64 x2].toArray) = true := by
  rw [acheck_struct Tryz.underlying54 (ps := [(3, 0), (52, 1), (52, 2)]) (by kernel_rfl)]
  exact chkParts_one (u := _) (apart_one ag3 _ _) (ck3 _ _) (chkParts_one (u := _) (apart_one ag52 _ _) (ck52 _ _) (chkParts_one (u := _) (apart_one ag52 _ _) (ck52 _ _) (chkParts_nil _ _)))
theorem key54 (x0 : Int) (x1 : Int) (x2 : Int) : keyOk Tryz.prog 54 (.agg [.int .i64 x0, .int .u64 x1, .int .u64 x2].toArray) = true := keyOk_of (ck54 98 x0 x1 x2) (plainV_agg rfl _)
theorem be54 (H : AHeap) (xo yo : Operand) (x0 : Int) (x1 : Int) (x2 : Int) (y0 : Int) (y1 : Int) (y2 : Int) : abin Tryz.prog H .eql 54 xo yo (.agg [.int .i64 x0, .int .u64 x1, .int .u64 x2].toArray) (.agg [.int .i64 y0, .int .u64 y1, .int .u64 y2].toArray) = some (.bool ((x0 == y0) && ((x1 == y1) && ((x2 == y2) && true)))) := abin_agg (by kernel_rfl) H xo yo (eq54 H 9998 x0 x1 x2 y0 y1 y2)
theorem bn54 (H : AHeap) (xo yo : Operand) (x0 : Int) (x1 : Int) (x2 : Int) (y0 : Int) (y1 : Int) (y2 : Int) : abin Tryz.prog H .neq 54 xo yo (.agg [.int .i64 x0, .int .u64 x1, .int .u64 x2].toArray) (.agg [.int .i64 y0, .int .u64 y1, .int .u64 y2].toArray) = some (.bool !((x0 == y0) && ((x1 == y1) && ((x2 == y2) && true)))) := abin_agg_ne (by kernel_rfl) H xo yo (eq54 H 9998 x0 x1 x2 y0 y1 y2)
theorem ck182 (d : Nat) (v : Value) : acheck Tryz.prog (d + 1) 182 v = true := acheck_leaf (by kernel_rfl) d v
theorem key182 (x : Int) : keyOk Tryz.prog 182 (.int .u64 x) = true := keyOk_of (ck182 _ _) (plainV_of1 rfl _)
attribute [go_sem] sz2 ag2 ze2 pz2 st2 kd2 sz3 ag3 ze3 st3 kd3 sz4 ag4 ze4 pz4 st4 en4 nn4 sz5 ag5 ze5 pz5 st5 kd5 sz9 ag9 ze9 pz9 st9 kd9 sz20 ag20 ze20 pz20 st20 enz20 eno20 nnz20 nno20 sz22 ag22 ze22 pz22 st22 el22 ln22 cp22 ix22 bs22 en22 nn22 sc22 sz24 ag24 ze24 pz24 st24 en24 nn24 sz26 ag26 ze26 st26 en26 nn26 sz28 ag28 ze28 st28 el28 ln28 cp28 ix28 bs28 en28 nn28 sc28 sz29 ag29 ze29 st29 el29 ln29 cp29 ix29 bs29 en29 nn29 sc29 sz30 ag30 ze30 st30 el30 ln30 cp30 ix30 bs30 en30 nn30 sc30 sz31 ag31 ze31 pz31 st31 bd31 fa31_0 fl31_0 fa31_1 fl31_1 sz32 ag32 ze32 st32 bd32 fa32_0 fl32_0 fa32_1 fl32_1 sz33 ag33 ze33 pz33 st33 bd33 fa33_0 fl33_0 fa33_1 fl33_1 fa33_2 fl33_2 fa33_3 fl33_3 fa33_4 fl33_4 fa33_5 fl33_5 sz34 ag34 ze34 st34 bd34 fa34_0 fl34_0 fa34_1 fl34_1 fa34_2 fl34_2 fa34_3 fl34_3 fa34_4 fl34_4 fa34_5 fl34_5 sz35 ag35 ze35 pz35 st35 bd35 fa35_0 fl35_0 fa35_1 fl35_1 fa35_2 fl35_2 fa35_3 fl35_3 sz36 ag36 ze36 st36 bd36 fa36_0 fl36_0 fa36_1 fl36_1 fa36_2 fl36_2 fa36_3 fl36_3 sz39 ag39 ze39 st39 el39 ln39 cp39 ix39 bs39 en39 nn39 sc39 sz40 ag40 ze40 pz40 st40 bd40 fa40_0 fl40_0 fa40_1 fl40_1 fa40_2 fl40_2 fa40_3 fl40_3 fa40_4 fl40_4 sz41 ag41 ze41 st41 bd41 fa41_0 fl41_0 fa41_1 fl41_1 fa41_2 fl41_2 fa41_3 fl41_3 fa41_4 fl41_4 sz43 ag43 ze43 st43 kd43 sz47 ag47 ze47 pz47 st47 bd47 fa47_0 fl47_0 fa47_1 fl47_1 fa47_2 fl47_2 fa47_3 fl47_3 sz48 ag48 ze48 st48 bd48 fa48_0 fl48_0 fa48_1 fl48_1 fa48_2 fl48_2 fa48_3 fl48_3 sz49 ag49 ze49 pz49 st49 kd49 sz50 ag50 ze50 pz50 st50 bd50 fa50_0 fl50_0 fa50_1 fl50_1 fa50_2 fl50_2 fa50_3 fl50_3 sz51 ag51 ze51 st51 bd51 fa51_0 fl51_0 fa51_1 fl51_1 fa51_2 fl51_2 fa51_3 fl51_3 sz52 ag52 ze52 pz52 st52 kd52 sz53 ag53 ze53 pz53 st53 bd53 fa53_0 fl53_0 fa53_1 fl53_1 fa53_2 fl53_2 sz54 ag54 ze54 st54 bd54 fa54_0 fl54_0 fa54_1 fl54_1 fa54_2 fl54_2 sz58 ag58 ze58 st58 el58 ln58 cp58 ix58 bs58 en58 nn58 sc58 sz59 ag59 ze59 st59 el59 ln59 cp59 ix59 bs59 en59 nn59 sc59 kd59 sz77 ag77 ze77 st77 el77 ln77 cp77 ix77 bs77 en77 nn77 sc77 sz82 ag82 ze82 pz82 st82 en82 nn82 mt82 sz83 ag83 ze83 pz83 st83 bd83 fa83_0 fl83_0 fa83_1 fl83_1 fa83_2 fl83_2 fa83_3 fl83_3 fa83_4 fl83_4 sz84 ag84 ze84 st84 bd84 fa84_0 fl84_0 fa84_1 fl84_1 fa84_2 fl84_2 fa84_3 fl84_3 fa84_4 fl84_4 sz88 ag88 ze88 pz88 st88 bd88 fa88_0 fl88_0 fa88_1 fl88_1 fa88_2 fl88_2 fa88_3 fl88_3 fa88_4 fl88_4 sz89 ag89 ze89 st89 bd89 fa89_0 fl89_0 fa89_1 fl89_1 fa89_2 fl89_2 fa89_3 fl89_3 fa89_4 fl89_4 sz92 ag92 ze92 st92 enz92 eno92 nnz92 nno92 sz93 ag93 ze93 st93 enz93 eno93 nnz93 nno93 sz98 ag98 ze98 st98 en98 nn98 sz99 ag99 ze99 pz99 st99 bd99 fa99_0 fl99_0 fa99_1 fl99_1 sz100 ag100 ze100 st100 bd100 fa100_0 fl100_0 fa100_1 fl100_1 sz123 ag123 ze123 st123 en123 nn123 sz124 ag124 ze124 st124 en124 nn124 sz125 ag125 ze125 pz125 st125 bd125 fa125_0 fl125_0 fa125_1 fl125_1 sz126 ag126 ze126 st126 bd126 fa126_0 fl126_0 fa126_1 fl126_1 sz140 ag140 ze140 st140 el140 ln140 cp140 ix140 bs140 en140 nn140 sc140 sz151 ag151 ze151 pz151 st151 sz182 ag182 ze182 st182 kd182 sz185 ag185 ze185 st185 en185 nn185 sz212 ag212 ze212 pz212 st212 sz236 ag236 ze236 st236 bd236 fa236_0 fl236_0 fa236_1 fl236_1 sz237 ag237 ze237 st237 bd237 fa237_0 fl237_0 fa237_1 fl237_1 key2 key3 key4 key5 key9 key32 be32 bn32 key43 key48 be48 bn48 key49 key52 key54 be54 bn54 key182
end Go.Proofs.YtekpdopbiklkfaaGreatDoor
end
section
set_option linter.unusedVariables false
set_option linter.unusedSimpArgs false
namespace Go.Proofs.YtekpdopbiklkfaaGreatDoor
open Go Go.AW
set_option linter.unusedSimpArgs false
theorem ofInt_nat (w a : Nat) (h : a < 2 ^ w) : (BitVec.ofInt w (a : Int)).toNat = a := by
  rw [BitVec.ofInt_natCast, BitVec.toNat_ofNat, Nat.mod_eq_of_lt h]
theorem wrap8 (a : Nat) (h : a < 256) : IntKind.u8.wrap (a : Int) = a := by simp [IntKind.wrap, IntKind.bits, IntKind.signed]; omega
theorem wrap32 (a : Nat) (h : a < 4294967296) : IntKind.u32.wrap (a : Int) = a := by simp [IntKind.wrap, IntKind.bits, IntKind.signed]; omega
theorem wrap64 (a : Nat) (h : a < 18446744073709551616) : IntKind.u64.wrap (a : Int) = a := by simp [IntKind.wrap, IntKind.bits, IntKind.signed]; omega
variable {P : Program} {H : AHeap} {t : TypeId} {x y : Operand}
theorem abin_or8 (a b : Nat) (ha : a < 256) (hb : b < 256) : abin P H .or t x y (.int .u8 (a : Int)) (.int .u8 (b : Int)) = some (.int .u8 ((a ||| b : Nat) : Int)) := by
  have e : (BitVec.ofInt IntKind.u8.bits (a : Int) ||| BitVec.ofInt IntKind.u8.bits (b : Int)).toNat = a ||| b := by
    rw [BitVec.toNat_or, ofInt_nat _ _ (by exact ha), ofInt_nat _ _ (by exact hb)]
  simp only [abin, if_true, aint, e, wrap8 _ (Nat.or_lt_two_pow (n := 8) ha hb)]
theorem abin_and8 (a b : Nat) (ha : a < 256) (hb : b < 256) : abin P H .and t x y (.int .u8 (a : Int)) (.int .u8 (b : Int)) = some (.int .u8 ((a &&& b : Nat) : Int)) := by
  have e : (BitVec.ofInt IntKind.u8.bits (a : Int) &&& BitVec.ofInt IntKind.u8.bits (b : Int)).toNat = a &&& b := by
    rw [BitVec.toNat_and, ofInt_nat _ _ (by exact ha), ofInt_nat _ _ (by exact hb)]
  simp only [abin, if_true, aint, e, wrap8 _ (Nat.and_lt_two_pow (n := 8) _ hb)]
theorem abin_or64 (a b : Nat) (ha : a < 18446744073709551616) (hb : b < 18446744073709551616) : abin P H .or t x y (.int .u64 (a : Int)) (.int .u64 (b : Int)) = some (.int .u64 ((a ||| b : Nat) : Int)) := by
  have e : (BitVec.ofInt IntKind.u64.bits (a : Int) ||| BitVec.ofInt IntKind.u64.bits (b : Int)).toNat = a ||| b := by
    rw [BitVec.toNat_or, ofInt_nat _ _ (by exact ha), ofInt_nat _ _ (by exact hb)]
  simp only [abin, if_true, aint, e, wrap64 _ (Nat.or_lt_two_pow (n := 64) ha hb)]
theorem abin_and64 (a b : Nat) (ha : a < 18446744073709551616) (hb : b < 18446744073709551616) : abin P H .and t x y (.int .u64 (a : Int)) (.int .u64 (b : Int)) = some (.int .u64 ((a &&& b : Nat) : Int)) := by
  have e : (BitVec.ofInt IntKind.u64.bits (a : Int) &&& BitVec.ofInt IntKind.u64.bits (b : Int)).toNat = a &&& b := by
    rw [BitVec.toNat_and, ofInt_nat _ _ (by exact ha), ofInt_nat _ _ (by exact hb)]
  simp only [abin, if_true, aint, e, wrap64 _ (Nat.and_lt_two_pow (n := 64) _ hb)]
theorem abin_xor64 (a b : Nat) (ha : a < 18446744073709551616) (hb : b < 18446744073709551616) : abin P H .xor t x y (.int .u64 (a : Int)) (.int .u64 (b : Int)) = some (.int .u64 ((a ^^^ b : Nat) : Int)) := by
  have e : (BitVec.ofInt IntKind.u64.bits (a : Int) ^^^ BitVec.ofInt IntKind.u64.bits (b : Int)).toNat = a ^^^ b := by
    rw [BitVec.toNat_xor, ofInt_nat _ _ (by exact ha), ofInt_nat _ _ (by exact hb)]
  simp only [abin, if_true, aint, e, wrap64 _ (Nat.xor_lt_two_pow (n := 64) ha hb)]
theorem abin_xor32 (a b : Nat) (ha : a < 4294967296) (hb : b < 4294967296) : abin P H .xor t x y (.int .u32 (a : Int)) (.int .u32 (b : Int)) = some (.int .u32 ((a ^^^ b : Nat) : Int)) := by
  have e : (BitVec.ofInt IntKind.u32.bits (a : Int) ^^^ BitVec.ofInt IntKind.u32.bits (b : Int)).toNat = a ^^^ b := by
    rw [BitVec.toNat_xor, ofInt_nat _ _ (by exact ha), ofInt_nat _ _ (by exact hb)]
  simp only [abin, if_true, aint, e, wrap32 _ (Nat.xor_lt_two_pow (n := 32) ha hb)]
theorem abin_and32 (a b : Nat) (ha : a < 4294967296) (hb : b < 4294967296) : abin P H .and t x y (.int .u32 (a : Int)) (.int .u32 (b : Int)) = some (.int .u32 ((a &&& b : Nat) : Int)) := by
  have e : (BitVec.ofInt IntKind.u32.bits (a : Int) &&& BitVec.ofInt IntKind.u32.bits (b : Int)).toNat = a &&& b := by
    rw [BitVec.toNat_and, ofInt_nat _ _ (by exact ha), ofInt_nat _ _ (by exact hb)]
  simp only [abin, if_true, aint, e, wrap32 _ (Nat.and_lt_two_pow (n := 32) _ hb)]
theorem ashr_nat (k : IntKind) (a s : Nat) (h : s ≤ k.bits) : ashift .shr k (a : Int) (s : Int) = some (.int k ((a / 2 ^ s : Nat) : Int)) := by
  simp only [ashift, if_neg (show ¬ (s : Int) < 0 by omega), Int.toNat_natCast, Nat.min_eq_left h]
  rw [Int.fdiv_eq_ediv_of_nonneg _ (by exact Int.le_of_lt (Int.pow_pos (by omega)))]
  simp
theorem ashl64 (a s : Nat) (h : s ≤ 64) (hb : a * 2 ^ s < 18446744073709551616) : ashift .shl .u64 (a : Int) (s : Int) = some (.int .u64 ((a * 2 ^ s : Nat) : Int)) := by
  have e : ((a : Int) * 2 ^ s) = ((a * 2 ^ s : Nat) : Int) := by simp
  simp only [ashift, if_neg (show ¬ (s : Int) < 0 by omega), Int.toNat_natCast, Nat.min_eq_left (show s ≤ IntKind.u64.bits from h), e, wrap64 _ hb]
theorem or_128 (x : Nat) (h : x < 256) : x ||| 128 = x % 128 + 128 := by
  have := (by decide +kernel : ∀ x, x < 256 → x ||| 128 = x % 128 + 128)
  exact this x h
theorem and_127 (x : Nat) : x &&& 127 = x % 128 := Nat.and_two_pow_sub_one_eq_mod x 7
theorem or_add {a b s : Nat} (h : a < 2 ^ s) : a ||| (b * 2 ^ s) = a + b * 2 ^ s := by
  rw [Nat.or_comm, Nat.mul_comm, ← Nat.two_pow_add_eq_or_of_lt h]; omega
end Go.Proofs.YtekpdopbiklkfaaGreatDoor
end
section
set_option linter.unusedVariables false
set_option linter.unusedSimpArgs false
namespace Go.Proofs.YtekpdopbiklkfaaGreatDoor
open Go Go.AW
set_option linter.unusedSimpArgs false
set_option maxRecDepth 20000
abbrev ptrV (p : Nat) : Value := .pointer (some ⟨p, 0, none⟩)
abbrev encB (b : UInt8) : List Value := [.int .u8 b.toNat]
attribute [go_sem] encB
structure App {α : Type} (b : Nat) (H : AHeap) (enc : α → List Value) (k : Nat) (v v' : Value) (H' : AHeap) (l' : List α) : Prop where
  own : Own b H' enc k v' l'
  len : H.length ≤ H'.length
  fr : ∀ j, j < H.length → owner v ≠ some j → H'[j]? = H[j]?
  ow : ∀ j, owner v' = some j → owner v = some j ∨ H.length ≤ j
def numB (n : Nat) : List UInt8 := if h : n < 128 then [UInt8.ofNat n] else UInt8.ofNat (n % 128 + 128) :: numB (n / 128)
theorem numB_lt {n : Nat} (h : n < 128) : numB n = [UInt8.ofNat n] := by rw [numB, dif_pos h]
theorem numB_ge {n : Nat} (h : ¬ n < 128) : numB n = UInt8.ofNat (n % 128 + 128) :: numB (n / 128) := by rw [numB, dif_neg h]
theorem numB_len : ∀ (k n : Nat), n < 128 ^ (k + 1) → (numB n).length ≤ k + 1
  | 0, n, h => by rw [numB_lt (by simpa using h)]; simp
  | k + 1, n, h => by
    by_cases q : n < 128
    · rw [numB_lt q]; simp
    · rw [numB_ge q, List.length_cons]
      have := numB_len k (n / 128) (Nat.div_lt_of_lt_mul (by rw [Nat.pow_succ] at h; omega))
      omega
theorem numB_le {n : Nat} (hn : n < 18446744073709551616) : (numB n).length ≤ 10 := numB_len 9 n (by omega)
theorem App.refl {α : Type} {b : Nat} {H : AHeap} {enc : α → List Value} {k : Nat} {v : Value} {l : List α} (h : Own b H enc k v l) : App b H enc k v v H l := ⟨h, Nat.le_refl _, fun _ _ _ => rfl, fun _ h => .inl h⟩
theorem App.trans {α : Type} {b : Nat} {H H1 H2 : AHeap} {enc : α → List Value} {k : Nat} {v v1 v2 : Value} {l1 l2 : List α} (h1 : App b H enc k v v1 H1 l1) (h2 : App b H1 enc k v1 v2 H2 l2) : App b H enc k v v2 H2 l2 where
  own := h2.own
  len := Nat.le_trans h1.len h2.len
  fr := fun j hj ho => by
    rw [h2.fr j (Nat.lt_of_lt_of_le hj h1.len) (fun h => ?_), h1.fr j hj ho]
    rcases h1.ow j h with q | q
    · exact ho q
    · omega
  ow := fun j hj => by
    rcases h2.ow j hj with h | h
    · exact h1.ow j h
    · right; have := h1.len; omega
theorem App.pre {α : Type} {H0 H1 H2 : AHeap} {enc : α → List Value} {k : Nat} {v v' : Value} {l l' : List α} (ap : App H0.length H1 enc k v v' H2 l') (hp : H0 <+: H1) (ho : Own H0.length H1 enc k v l) : H0 <+: H2 :=
  List.prefix_iff_getElem?.2 fun i hi => by
    rw [ap.fr i (Nat.lt_of_lt_of_le hi (pre_len hp)) (fun h => by have := (ho.owner_ge h).1; omega)]
    exact pre_get hp (by simp [hi])
theorem appL {b : Nat} {H : AHeap} {v : Value} {l m : List UInt8} {a : Option Addr} {c : Nat} (h : Own b H encB 1 v l) (hb : b ≤ H.length) (hs : SlA H encB 1 a m) (hl : l.length < 4000000) (hm : m.length < 4000000) :
    ∃ v' H', aappend Tryz.prog H 59 59 v (.slice a m.length c) = some (v', H') ∧ App b H encB 1 v v' H' (l ++ m) := by
  obtain ⟨i, h1, h2, h3, h4⟩ := inf5
  obtain ⟨v', H2, e1, e2, e3, e4, e5⟩ := Own.append (news := m) h el59 h1 h2 h3 rfl (by decide) (fun _ => rfl) (fun _ => rfl) (asrc_sl (c := c) un59 hs (fun _ => rfl)) (by rw [h4]; omega) (by omega) hb
  exact ⟨v', H2, e1, e2, e3, e4, e5⟩
theorem appB {b : Nat} {H : AHeap} {v : Value} {l : List UInt8} (h : Own b H encB 1 v l) (hb : b ≤ H.length) (hl : l.length < 4000000) (x : UInt8) :
    ∃ v' H', aappend Tryz.prog (H ++ [.row (encB x) 1 true]) 59 59 v (.slice (some ⟨H.length, 0, none⟩) 1 1) = some (v', H') ∧ App b H encB 1 v v' H' (l ++ [x]) := by
  have p := List.prefix_append H [AObj.row (encB x) 1 true]
  obtain ⟨v', H2, e, ap⟩ := appL (m := [x]) (c := 1) (h.pre p) (Nat.le_trans hb (pre_len p)) (SlA.ofRow (get_end H _ []) (by simp) (fun _ => rfl)) hl (by simp)
  refine ⟨v', H2, e, ap.own, Nat.le_trans (pre_len p) ap.len, fun j hj ho => ?_, fun j hj => ?_⟩
  · rw [ap.fr j (by simp; omega) ho, List.getElem?_append_left hj]
  · rcases ap.ow j hj with q | q
    · exact .inl q
    · right; simp at q; omega
theorem or_byte (k : Nat) : (UInt8.ofNat k).toNat ||| 128 = (UInt8.ofNat (k % 128 + 128)).toNat := by
  rw [or_128 _ (UInt8.toNat_lt _)]
  simp only [UInt8.toNat_ofNat']
  omega
theorem byte_of (n : Nat) : IntKind.u8.wrap (n : Int) = ((UInt8.ofNat n).toNat : Int) := by
  simp [IntKind.wrap, IntKind.bits, IntKind.signed]
theorem numberLaw (n : Nat) (hn : n < 18446744073709551616) {b : Nat} {l : List UInt8} {v : Value} {H : AHeap} (hv : Own b H encB 1 v l) (hb : b ≤ H.length) (hl : l.length < 3000000) :
    Sound Tryz.prog 119 [v, .int .u64 n] H fun v' H' => App b H encB 1 v v' H' (l ++ numB n) := by
  refine Sound.of_body (rs := [.tmp 4]) mixed Tryz.func119 rfl (by kernel_rfl) rfl (by kernel_rfl) ?_
  simp -dsimp only [go_sem, ↓reduceIte, Nat.reduceEqDiff, Nat.reduceAdd, Nat.reduceMul, Nat.reduceSub, Nat.reduceLeDiff, Nat.reduceLT]
  have hl10 := numB_le hn
  refine aloop_join (fun T H' => ∃ (m : Nat) (v1 : Value) (l1 : List UInt8), m < 128 ∧ l1.length + 1 < 4000000 ∧ App b H encB 1 v v1 H' l1 ∧ l ++ numB n = l1 ++ numB m ∧ T 0 = v1 ∧ T 1 = .int .u64 m)
    (fun k T H' => ∃ (m : Nat) (v1 : Value) (l1 : List UInt8), k = m ∧ m < 18446744073709551616 ∧ App b H encB 1 v v1 H' l1 ∧ l ++ numB n = l1 ++ numB m ∧ T 0 = v1 ∧ T 1 = .int .u64 m) (n := n) ?_ ?_ ?_
  · refine ⟨n, v, l, ?_⟩
    simp -dsimp only [go_sem, ↓reduceIte, Nat.reduceEqDiff, Nat.reduceAdd, Nat.reduceMul, Nat.reduceSub, Nat.reduceLeDiff, Nat.reduceLT]
    exact ⟨hn, App.refl hv⟩
  · rintro k T H' ⟨m, v1, l1, hkm, hm, ap, he, h0, h1⟩
    subst hkm
    have hle : l1.length + (numB k).length = l.length + (numB n).length := by have := congrArg List.length he; simpa using this.symm
    cases hA : decide ((128 : Int) ≤ (k : Int)) with
    | false =>
      have hA' := of_decide_eq_false hA
      simp -dsimp only [go_sem, ↓reduceIte, Nat.reduceEqDiff, Nat.reduceAdd, Nat.reduceMul, Nat.reduceSub, Nat.reduceLeDiff, Nat.reduceLT, h0, h1, hA]
      exact ⟨k, v1, l1, by omega, by have := congrArg List.length (numB_lt (n := k) (by omega)); simp at this; omega, ap, he, rfl, rfl⟩
    | true =>
      have hA' := of_decide_eq_true hA
      obtain ⟨v2, H2, e, ap2⟩ := appB ap.own (Nat.le_trans hb ap.len) (by omega) (UInt8.ofNat (k % 128 + 128))
      have hor : ∀ (P : Program) (H : AHeap) (t : TypeId) (x y : Operand), abin P H .or t x y (.int .u8 ((UInt8.ofNat k).toNat : Int)) (.int .u8 128) = some (.int .u8 ((UInt8.ofNat (k % 128 + 128)).toNat : Int)) := fun P H t x y => by
        rw [← or_byte]; exact abin_or8 _ 128 (UInt8.toNat_lt _) (by omega)
      have hsh : ashift .shr .u64 (k : Int) 7 = some (.int .u64 ((k / 128 : Nat) : Int)) := ashr_nat .u64 k 7 (by decide)
      simp -dsimp only [go_sem, ↓reduceIte, Nat.reduceEqDiff, Nat.reduceAdd, Nat.reduceMul, Nat.reduceSub, Nat.reduceLeDiff, Nat.reduceLT, h0, h1, hA, byte_of, hor, e, hsh]
      exact ⟨_, by omega, k / 128, v2, l1 ++ [UInt8.ofNat (k % 128 + 128)], rfl, by omega, ap.trans ap2, by rw [he, numB_ge (by omega)]; simp, rfl, rfl⟩
  · rintro T H' ⟨m, v1, l1, hm, hll, ap, he, h0, h1⟩
    obtain ⟨v2, H2, e, ap2⟩ := appB ap.own (Nat.le_trans hb ap.len) (by omega) (UInt8.ofNat m)
    simp -dsimp only [go_sem, ↓reduceIte, Nat.reduceEqDiff, Nat.reduceAdd, Nat.reduceMul, Nat.reduceSub, Nat.reduceLeDiff, Nat.reduceLT, h0, h1, byte_of, e]
    rw [he, numB_lt hm]
    exact ap.trans ap2
theorem appEmpty {P : Program} {t e k id n b : Nat} {z : Value} {news : List Value} (he : elemT P t = some e) (hi : ∃ i, P.info? e = some i ∧ i.zero = some z ∧ i.size = k ∧ i.bytes = b) (hz : z.cells.size = k) (hk : 0 < k) (hb : b ≤ 100000)
    {H : AHeap} {x : Value} (hid : H[id]? = some (.row [] k true)) (hs : asrc P H k t x = some (n, news)) (hm : n < 4000000) :
    aappend P H t t (.slice (some ⟨id, 0, none⟩) 0 0) x = if n = 0 then some (.slice (some ⟨id, 0, none⟩) 0 0, H) else some (.slice (some ⟨H.length, 0, none⟩) n 0, H.set id .gone ++ [.row news k true]) := by
  obtain ⟨i, h1, h2, h3, h4⟩ := hi
  have hmul : n * b ≤ 4000000 * 100000 := Nat.mul_le_mul (by omega) hb
  have hl : aload H ⟨id, 0, none⟩ (0 * k) = some [] := by rw [aload_row hid 0 _ (by simp)]; simp
  simp only [aappend, aappend0, he, h1, h2, Option.bind_some, h3, hs, hz, h4, Nat.zero_add]
  rw [if_pos ⟨hk, trivial, by omega, by omega⟩]
  by_cases hn : n = 0
  · simp only [if_pos hn]
  · simp only [if_neg hn, Option.isSome_none, Bool.false_eq_true, if_false, if_true, rowOf, hid, beq_self_eq_true, hl, Option.bind_some, List.nil_append]
theorem cloneB (l : List UInt8) (a : Option Addr) (c : Nat) (H : AHeap) (hs : SlA H encB 1 a l) (hl : l.length < 3500000) :
    Sound Tryz.prog 49 [.slice a l.length c] H fun v H' => H <+: H' ∧ (l = [] ∧ (v = .slice none 0 0 ∨ ∃ id, v = .slice (some ⟨id, 0, none⟩) 0 0) ∨ l ≠ [] ∧ ∃ id, H.length ≤ id ∧ v = .slice (some ⟨id, 0, none⟩) l.length 0 ∧ H'[id]? = some (.row (l.flatMap encB) 1 true)) := by
  refine Sound.of_body (rs := [.tmp 2]) mixed Tryz.func49 rfl (by kernel_rfl) rfl (by kernel_rfl) ?_
  cases a with
  | none =>
    obtain rfl := SlA.none_nil hs
    simp -dsimp only [go_sem, ↓reduceIte, Nat.reduceEqDiff, Nat.reduceAdd, Nat.reduceMul, Nat.reduceSub, Nat.reduceLeDiff, Nat.reduceLT]
    exact ⟨List.prefix_refl _, .inl (.inl trivial)⟩
  | some a =>
    have p0 := List.prefix_append H [AObj.row [] 1 true]
    have e := appEmpty (n := l.length) (news := l.flatMap encB) el59 inf5 rfl (by decide) (by decide) (get_end H (AObj.row [] 1 true) []) (asrc_sl (c := c) un59 (hs.pre p0) (fun _ => rfl)) (by omega)
    by_cases hn : l.length = 0
    · rw [if_pos hn] at e
      obtain rfl := List.eq_nil_of_length_eq_zero hn
      simp -dsimp only [go_sem, ↓reduceIte, Nat.reduceEqDiff, Nat.reduceAdd, Nat.reduceMul, Nat.reduceSub, Nat.reduceLeDiff, Nat.reduceLT, e]
      exact ⟨p0, .inl ⟨rfl, .inr ⟨_, rfl⟩⟩⟩
    · rw [if_neg hn] at e
      simp -dsimp only [go_sem, ↓reduceIte, Nat.reduceEqDiff, Nat.reduceAdd, Nat.reduceMul, Nat.reduceSub, Nat.reduceLeDiff, Nat.reduceLT, e]
      exact ⟨List.prefix_append _ _, .inr ⟨fun h => hn (by rw [h]; rfl), _, by omega, rfl, get_end1 _ _ _ _⟩⟩
theorem aslice3 {P : Program} {t e k : Nat} (hu : P.underlying t = some (.slice e)) (hk : szT P e = some k) (H : AHeap) (id off n : Nat) :
    aslice P H t (.slice (some ⟨id, off, none⟩) n 0) none (some (.int .i64 (n : Int))) (some (.int .i64 (n : Int))) = if n = 0 then some emp else some (.slice (some ⟨id, off, none⟩) n n) := by
  simp only [aslice, hu, hk, Option.bind_some, if_true, abound_nat, optB_some, optB_none, Nat.le_refl, Option.isSome_none, Bool.false_eq_true, if_false, Nat.sub_zero, Addr.add, Nat.zero_mul, Nat.add_zero]
theorem aslice3n {P : Program} {t e k : Nat} (hu : P.underlying t = some (.slice e)) (hk : szT P e = some k) (H : AHeap) :
    aslice P H t (.slice none 0 0) none (some (.int .i64 ((0 : Nat) : Int))) (some (.int .i64 ((0 : Nat) : Int))) = some (.slice none 0 0) := by
  simp only [aslice, hu, hk, Option.bind_some, if_true, abound_nat, optB_some, optB_none, Nat.le_refl]
theorem clipE (H : AHeap) (v : Value) (h : v = .slice none 0 0 ∨ ∃ id, v = .slice (some ⟨id, 0, none⟩) 0 0) : Sound Tryz.prog 155 [v] H fun v' H' => H' = H ∧ (v' = .slice none 0 0 ∨ v' = emp) := by
  refine Sound.of_body (rs := [.tmp 2]) mixed Tryz.func155 rfl (by kernel_rfl) rfl (by kernel_rfl) ?_
  have e1 := aslice3n un59 sz5 H
  rcases h with rfl | ⟨id, rfl⟩
  · simp -dsimp only [go_sem, ↓reduceIte, Nat.reduceEqDiff, Nat.reduceAdd, Nat.reduceMul, Nat.reduceSub, Nat.reduceLeDiff, Nat.reduceLT, e1]
    exact .inl trivial
  · have e2 := aslice3 un59 sz5 H id 0 0
    rw [if_pos rfl] at e2
    simp -dsimp only [go_sem, ↓reduceIte, Nat.reduceEqDiff, Nat.reduceAdd, Nat.reduceMul, Nat.reduceSub, Nat.reduceLeDiff, Nat.reduceLT, e2]
    exact .inr trivial
theorem clipB (H : AHeap) (id n : Nat) (hn : n ≠ 0) : Sound Tryz.prog 155 [.slice (some ⟨id, 0, none⟩) n 0] H fun v' H' => H' = H ∧ v' = .slice (some ⟨id, 0, none⟩) n n := by
  refine Sound.of_body (rs := [.tmp 2]) mixed Tryz.func155 rfl (by kernel_rfl) rfl (by kernel_rfl) ?_
  have e2 := aslice3 un59 sz5 H id 0 n
  rw [if_neg hn] at e2
  simp -dsimp only [go_sem, ↓reduceIte, Nat.reduceEqDiff, Nat.reduceAdd, Nat.reduceMul, Nat.reduceSub, Nat.reduceLeDiff, Nat.reduceLT, e2]
theorem ownLaw (l : List UInt8) (a : Option Addr) (c : Nat) (H : AHeap) (hs : SlA H encB 1 a l) (hl : l.length < 3500000) :
    Sound Tryz.prog 120 [.slice a l.length c] H fun v H' => H <+: H' ∧ Own H.length H' encB 1 v l := by
  refine Sound.of_body (rs := [.tmp 2]) mixed Tryz.func120 rfl (by kernel_rfl) rfl (by kernel_rfl) ?_
  simp -dsimp only [go_sem, ↓reduceIte, Nat.reduceEqDiff, Nat.reduceAdd, Nat.reduceMul, Nat.reduceSub, Nat.reduceLeDiff, Nat.reduceLT]
  refine SoundP_of (cloneB l a c H hs hl) ?_
  rintro v H1 ⟨p1, ⟨rfl, hv⟩ | ⟨hne, id, hge, rfl, hid⟩⟩
  · simp -dsimp only [go_sem, ↓reduceIte, Nat.reduceEqDiff, Nat.reduceAdd, Nat.reduceMul, Nat.reduceSub, Nat.reduceLeDiff, Nat.reduceLT]
    refine SoundP_of (clipE H1 v hv) ?_
    rintro v' K ⟨hK, hv'⟩
    rw [hK]
    simp -dsimp only [go_sem, ↓reduceIte, Nat.reduceEqDiff, Nat.reduceAdd, Nat.reduceMul, Nat.reduceSub, Nat.reduceLeDiff, Nat.reduceLT]
    exact ⟨p1, .inl ⟨rfl, hv'⟩⟩
  · simp -dsimp only [go_sem, ↓reduceIte, Nat.reduceEqDiff, Nat.reduceAdd, Nat.reduceMul, Nat.reduceSub, Nat.reduceLeDiff, Nat.reduceLT]
    have hn : l.length ≠ 0 := fun h => hne (List.eq_nil_of_length_eq_zero h)
    refine SoundP_of (clipB H1 id _ hn) ?_
    rintro v' K ⟨hK, rfl⟩
    rw [hK]
    simp -dsimp only [go_sem, ↓reduceIte, Nat.reduceEqDiff, Nat.reduceAdd, Nat.reduceMul, Nat.reduceSub, Nat.reduceLeDiff, Nat.reduceLT]
    refine ⟨p1, .inr ⟨id, [], l.length, hge, rfl, by rw [List.append_nil]; exact hid, .inr ⟨by omega, ?_⟩⟩⟩
    rw [List.append_nil, flat_len (k := 1) (fun _ => rfl)]
theorem zigLaw (n : Nat) (hn : n < 9223372036854775808) (H : AHeap) : Sound Tryz.prog 129 [.int .i64 n] H fun v H' => v = .int .u64 ((2 * n : Nat) : Int) ∧ H' = H := by
  refine Sound.of_body (rs := [.tmp 2]) mixed Tryz.func129 rfl (by kernel_rfl) rfl (by kernel_rfl) ?_
  have e1 : ashift .shl .i64 (n : Int) 1 = some (.int .i64 (IntKind.i64.wrap ((n : Int) * 2))) := by simp [ashift, IntKind.bits]
  have e2 : IntKind.u64.wrap (IntKind.i64.wrap ((n : Int) * 2)) = ((2 * n : Nat) : Int) := by simp [IntKind.wrap, IntKind.bits, IntKind.signed]; omega
  have e3 : ashift .shr .i64 (n : Int) 63 = some (.int .i64 ((n / 2 ^ 63 : Nat) : Int)) := ashr_nat .i64 n 63 (by decide)
  have e4 : n / 2 ^ 63 = 0 := Nat.div_eq_of_lt (by omega)
  rw [e4] at e3
  have e5 : IntKind.u64.wrap ((0 : Nat) : Int) = ((0 : Nat) : Int) := rfl
  have e6 : ∀ (H : AHeap) (t : TypeId) (x y : Operand), abin Tryz.prog H .xor t x y (.int .u64 ((2 * n : Nat) : Int)) (.int .u64 ((0 : Nat) : Int)) = some (.int .u64 ((2 * n : Nat) : Int)) := fun H t x y => by
    rw [abin_xor64 _ _ (by omega) (by omega), Nat.xor_zero]
  simp -dsimp only [go_sem, ↓reduceIte, Nat.reduceEqDiff, Nat.reduceAdd, Nat.reduceMul, Nat.reduceSub, Nat.reduceLeDiff, Nat.reduceLT, e1, e2, e3, e5, e6]
theorem intLaw (n : Nat) (hn : n < 9223372036854775808) (l : List UInt8) (a : Option Addr) (c : Nat) (H : AHeap) (hs : SlA H encB 1 a l) (hl : l.length < 3000000) :
    Sound Tryz.prog 91 [.slice a l.length c, .int .i64 n] H fun v H' => H <+: H' ∧ Own H.length H' encB 1 v (l ++ numB (2 * n)) := by
  refine Sound.of_body (rs := [.tmp 4]) mixed Tryz.func91 rfl (by kernel_rfl) rfl (by kernel_rfl) ?_
  simp -dsimp only [go_sem, ↓reduceIte, Nat.reduceEqDiff, Nat.reduceAdd, Nat.reduceMul, Nat.reduceSub, Nat.reduceLeDiff, Nat.reduceLT]
  refine SoundP_of (ownLaw l a c H hs (by omega)) ?_
  rintro v1 H1 ⟨p1, o1⟩
  simp -dsimp only [go_sem, ↓reduceIte, Nat.reduceEqDiff, Nat.reduceAdd, Nat.reduceMul, Nat.reduceSub, Nat.reduceLeDiff, Nat.reduceLT]
  refine SoundP_of (zigLaw n hn H1) ?_
  rintro _ K ⟨rfl, hK⟩
  rw [hK]
  simp -dsimp only [go_sem, ↓reduceIte, Nat.reduceEqDiff, Nat.reduceAdd, Nat.reduceMul, Nat.reduceSub, Nat.reduceLeDiff, Nat.reduceLT]
  refine SoundP_of (numberLaw (2 * n) (by omega) o1 (pre_len p1) hl) ?_
  rintro v2 H2 ap
  simp -dsimp only [go_sem, ↓reduceIte, Nat.reduceEqDiff, Nat.reduceAdd, Nat.reduceMul, Nat.reduceSub, Nat.reduceLeDiff, Nat.reduceLT]
  exact ⟨ap.pre p1 o1, ap.own⟩
theorem uintLaw (n : Nat) (hn : n < 18446744073709551616) (l : List UInt8) (a : Option Addr) (c : Nat) (H : AHeap) (hs : SlA H encB 1 a l) (hl : l.length < 3000000) :
    Sound Tryz.prog 76 [.slice a l.length c, .int .u64 n] H fun v H' => H <+: H' ∧ Own H.length H' encB 1 v (l ++ numB n) := by
  refine Sound.of_body (rs := [.tmp 4]) mixed Tryz.func76 rfl (by kernel_rfl) rfl (by kernel_rfl) ?_
  simp -dsimp only [go_sem, ↓reduceIte, Nat.reduceEqDiff, Nat.reduceAdd, Nat.reduceMul, Nat.reduceSub, Nat.reduceLeDiff, Nat.reduceLT]
  refine SoundP_of (ownLaw l a c H hs (by omega)) ?_
  rintro v1 H1 ⟨p1, o1⟩
  simp -dsimp only [go_sem, ↓reduceIte, Nat.reduceEqDiff, Nat.reduceAdd, Nat.reduceMul, Nat.reduceSub, Nat.reduceLeDiff, Nat.reduceLT]
  refine SoundP_of (numberLaw n hn o1 (pre_len p1) hl) ?_
  rintro v2 H2 ap
  simp -dsimp only [go_sem, ↓reduceIte, Nat.reduceEqDiff, Nat.reduceAdd, Nat.reduceMul, Nat.reduceSub, Nat.reduceLeDiff, Nat.reduceLT]
  exact ⟨ap.pre p1 o1, ap.own⟩
abbrev strB (s : ByteArray) : List UInt8 := s.data.toList
theorem byteVals_eq (s : ByteArray) : byteVals s = (strB s).flatMap encB := by
  simp only [byteVals, strB]
  generalize s.data.toList = l
  induction l with
  | nil => rfl
  | cons x l ih => simp only [List.map_cons, List.flatMap_cons, ih]; rfl
theorem uS : Tryz.prog.underlying 9 = some .string := by kernel_rfl
theorem alenS (H : AHeap) (s : ByteArray) : alen Tryz.prog H 9 (.string s) = some (.int .i64 s.size) := by
  simp only [alen, uS]
attribute [go_sem] alenS
theorem appS {b : Nat} {H : AHeap} {v : Value} {l : List UInt8} (h : Own b H encB 1 v l) (hb : b ≤ H.length) (hl : l.length < 3900000) (s : ByteArray) (hs : s.size < 1000) :
    ∃ v' H', aappend Tryz.prog H 59 9 v (.string s) = some (v', H') ∧ App b H encB 1 v v' H' (l ++ strB s) := by
  obtain ⟨i, h1, h2, h3, h4⟩ := inf5
  have hsz : (strB s).length = s.size := rfl
  have hsrc : asrc Tryz.prog H 1 9 (.string s) = some ((strB s).length, (strB s).flatMap encB) := by
    simp only [asrc, uS, if_true, byteVals_eq, hsz]
  obtain ⟨v', H2, e1, e2, e3, e4, e5⟩ := Own.append (news := strB s) h el59 h1 h2 h3 rfl (by decide) (fun _ => rfl) (fun _ => rfl) hsrc (by rw [h4]; omega) (by omega) hb
  exact ⟨v', H2, e1, e2, e3, e4, e5⟩
theorem textLaw (s : ByteArray) (hsz : s.size < 1000) (l : List UInt8) (a : Option Addr) (c : Nat) (H : AHeap) (hs : SlA H encB 1 a l) (hl : l.length < 3000000) :
    Sound Tryz.prog 121 [.slice a l.length c, .string s] H fun v H' => H <+: H' ∧ Own H.length H' encB 1 v (l ++ (numB s.size ++ strB s)) := by
  refine Sound.of_body (rs := [.tmp 4]) mixed Tryz.func121 rfl (by kernel_rfl) rfl (by kernel_rfl) ?_
  simp -dsimp only [go_sem, ↓reduceIte, Nat.reduceEqDiff, Nat.reduceAdd, Nat.reduceMul, Nat.reduceSub, Nat.reduceLeDiff, Nat.reduceLT]
  refine SoundP_of (ownLaw l a c H hs (by omega)) ?_
  rintro v1 H1 ⟨p1, o1⟩
  have e1 : IntKind.u64.wrap (s.size : Int) = ((s.size : Nat) : Int) := wrap64 _ (by omega)
  simp -dsimp only [go_sem, ↓reduceIte, Nat.reduceEqDiff, Nat.reduceAdd, Nat.reduceMul, Nat.reduceSub, Nat.reduceLeDiff, Nat.reduceLT, e1]
  refine SoundP_of (numberLaw s.size (by omega) o1 (pre_len p1) hl) ?_
  rintro v2 H2 ap
  have hl10 := numB_le (show s.size < 18446744073709551616 by omega)
  obtain ⟨v3, H3, e, ap2⟩ := appS ap.own (Nat.le_trans (pre_len p1) ap.len) (by simp only [List.length_append]; omega) s hsz
  simp -dsimp only [go_sem, ↓reduceIte, Nat.reduceEqDiff, Nat.reduceAdd, Nat.reduceMul, Nat.reduceSub, Nat.reduceLeDiff, Nat.reduceLT, e]
  have ap3 := ap.trans ap2
  rw [List.append_assoc] at ap3
  exact ⟨ap3.pre p1 o1, ap3.own⟩
end Go.Proofs.YtekpdopbiklkfaaGreatDoor
end
section
set_option linter.unusedVariables false
set_option linter.unusedSimpArgs false
namespace Go.Proofs.YtekpdopbiklkfaaGreatDoor
open Go Go.AW
set_option linter.unusedSimpArgs false
set_option maxRecDepth 20000
def fourB (n : Nat) : List UInt8 := [UInt8.ofNat n, UInt8.ofNat (n / 2 ^ 8), UInt8.ofNat (n / 2 ^ 16), UInt8.ofNat (n / 2 ^ 24)]
theorem fourLaw (n : Nat) (hn : n < 4294967296) (H : AHeap) : Sound Tryz.prog 115 [.int .u32 n] H fun v H' => v = .slice (some ⟨H.length, 0, none⟩) 4 4 ∧ H' = H ++ [.row ((fourB n).flatMap encB) 1 true] := by
  refine Sound.of_body (rs := [.tmp 2]) mixed Tryz.func115 rfl (by kernel_rfl) rfl (by kernel_rfl) ?_
  have e1 : ashift .shr .u32 (n : Int) 8 = some (.int .u32 ((n / 2 ^ 8 : Nat) : Int)) := ashr_nat .u32 n 8 (by decide)
  have e2 : ashift .shr .u32 (n : Int) 16 = some (.int .u32 ((n / 2 ^ 16 : Nat) : Int)) := ashr_nat .u32 n 16 (by decide)
  have e3 : ashift .shr .u32 (n : Int) 24 = some (.int .u32 ((n / 2 ^ 24 : Nat) : Int)) := ashr_nat .u32 n 24 (by decide)
  simp -dsimp only [go_sem, ↓reduceIte, Nat.reduceEqDiff, Nat.reduceAdd, Nat.reduceMul, Nat.reduceSub, Nat.reduceLeDiff, Nat.reduceLT, e1, e2, e3, byte_of]
  rfl
def tabN : List Nat := [0, 498536548, 997073096, 651767980, 1994146192, 1802195444, 1303535960, 1342533948, 3988292384, 4027552580, 3604390888, 3412177804, 2607071920, 2262029012, 2685067896, 3183342108]
abbrev tabV : List Value := [.int .u32 0, .int .u32 498536548, .int .u32 997073096, .int .u32 651767980, .int .u32 1994146192, .int .u32 1802195444, .int .u32 1303535960, .int .u32 1342533948, .int .u32 3988292384, .int .u32 4027552580, .int .u32 3604390888, .int .u32 3412177804, .int .u32 2607071920, .int .u32 2262029012, .int .u32 2685067896, .int .u32 3183342108]
theorem buildTab : abuild Tryz.prog 212 [(0, .int .u32 0), (1, .int .u32 498536548), (2, .int .u32 997073096), (3, .int .u32 651767980), (4, .int .u32 1994146192), (5, .int .u32 1802195444), (6, .int .u32 1303535960), (7, .int .u32 1342533948), (8, .int .u32 3988292384), (9, .int .u32 4027552580), (10, .int .u32 3604390888), (11, .int .u32 3412177804), (12, .int .u32 2607071920), (13, .int .u32 2262029012), (14, .int .u32 2685067896), (15, .int .u32 3183342108)] = some (.agg tabV.toArray) := by kernel_rfl
theorem uTab : Tryz.prog.underlying 212 = some (.array 16 49) := by kernel_rfl
theorem zeTab : zeroT Tryz.prog 212 = some (.agg #[.int .u32 0, .int .u32 0, .int .u32 0, .int .u32 0, .int .u32 0, .int .u32 0, .int .u32 0, .int .u32 0, .int .u32 0, .int .u32 0, .int .u32 0, .int .u32 0, .int .u32 0, .int .u32 0, .int .u32 0, .int .u32 0]) := by kernel_rfl
theorem szTab : szT Tryz.prog 212 = some 16 := by kernel_rfl
attribute [go_sem] buildTab
def sumS (x : Nat) : Nat := (x / 16) ^^^ (tabN.getD (x &&& 15) 0)
def sumF (x : Nat) (c : UInt8) : Nat := sumS (sumS (x ^^^ c.toNat))
def sumL (l : List UInt8) : Nat := 4294967295 ^^^ (l.foldl sumF 4294967295)
theorem tab_lt (j : Nat) : tabN.getD j 0 < 4294967296 := by
  by_cases h : j < 16
  · exact (by decide +kernel : ∀ j, j < 16 → tabN.getD j 0 < 4294967296) j h
  · have : tabN[j]? = none := List.getElem?_eq_none (by simpa [tabN] using h)
    simp [List.getD, this]
theorem sumS_lt {x : Nat} (h : x < 4294967296) : sumS x < 4294967296 := Nat.xor_lt_two_pow (n := 32) (by omega) (tab_lt _)
theorem sumF_lt {x : Nat} (h : x < 4294967296) (c : UInt8) : sumF x c < 4294967296 := sumS_lt (sumS_lt (Nat.xor_lt_two_pow (n := 32) h (by have := c.toNat_lt; omega)))
theorem fold_lt : ∀ (l : List UInt8) {x : Nat}, x < 4294967296 → l.foldl sumF x < 4294967296
  | [], _, h => h
  | c :: l, _, h => fold_lt l (sumF_lt h c)
theorem sumL_lt (l : List UInt8) : sumL l < 4294967296 := Nat.xor_lt_two_pow (n := 32) (by omega) (fold_lt l (by omega))
theorem ixTab (id j : Nat) (h : j < 16) : aindexAddr Tryz.prog 212 (.pointer (some ⟨id, 0, none⟩)) (.int .u32 (j : Int)) = some (.pointer (some ⟨id, j, none⟩)) := by
  have e : szT Tryz.prog 49 = some 1 := sz49
  simp only [aindexAddr, uTab, e, Option.isSome_none, Bool.false_eq_true, if_false, Option.bind_some, Int.toNat_natCast, Addr.add, Nat.mul_one, Nat.zero_add]
  rw [if_pos ⟨by omega, by omega⟩]
  by_cases q : j = 0
  · subst q; rfl
  · rw [if_neg q]
theorem aun_xor32 (n : Nat) (h : n < 4294967296) : aun .xor (.int .u32 (n : Int)) = some (.int .u32 ((4294967295 ^^^ n : Nat) : Int)) := by
  have e : (BitVec.ofInt IntKind.u32.bits (if IntKind.u32.signed then -1 else IntKind.u32.max) ^^^ BitVec.ofInt IntKind.u32.bits (n : Int)).toNat = 4294967295 ^^^ n := by
    rw [BitVec.toNat_xor, ofInt_nat _ _ (by exact h)]; rfl
  simp only [aun, e, wrap32 _ (Nat.xor_lt_two_pow (n := 32) (show 4294967295 < 2 ^ 32 by omega) h)]
theorem tabLoad (j : Nat) (h : j < 16) : rowLoad (some false) (some 1) j (.row tabV 16 true) = some (.int .u32 ((tabN.getD j 0 : Nat) : Int)) := by
  obtain h | h | h | h | h | h | h | h | h | h | h | h | h | h | h | h : j = 0 ∨ j = 1 ∨ j = 2 ∨ j = 3 ∨ j = 4 ∨ j = 5 ∨ j = 6 ∨ j = 7 ∨ j = 8 ∨ j = 9 ∨ j = 10 ∨ j = 11 ∨ j = 12 ∨ j = 13 ∨ j = 14 ∨ j = 15 := by omega
  all_goals (subst h; rfl)
theorem and_15 (x : Nat) : x &&& 15 < 16 := Nat.lt_of_le_of_lt Nat.and_le_right (by omega)
theorem sumLaw (l : List UInt8) (a : Option Addr) (c : Nat) (H : AHeap) (hs : SlA H encB 1 a l) (hl : l.length < 4000000) :
    Sound Tryz.prog 116 [.slice a l.length c] H fun v H' => v = .int .u32 (sumL l : Nat) ∧ H <+: H' := by
  refine Sound.of_body (rs := [.tmp 2]) mixed Tryz.func116 rfl (by kernel_rfl) rfl (by kernel_rfl) ?_
  simp -dsimp only [go_sem, ↓reduceIte, Nat.reduceEqDiff, Nat.reduceAdd, Nat.reduceMul, Nat.reduceSub, Nat.reduceLeDiff, Nat.reduceLT, buildTab, zeTab, szTab]
  refine aloopP_of (fun n T H' => ∃ i, n = l.length - i ∧ i ≤ l.length ∧ H' = H ++ [.row tabV 16 true] ∧ T 3 = ptrV H.length ∧ T 4 = .int .u32 ((l.take i).foldl sumF 4294967295 : Nat) ∧ T 8 = .slice a l.length c ∧ T 9 = .int .i64 l.length ∧ T 10 = .int .i64 (i : Nat)) (n := l.length) ?_ ?_
  · refine ⟨0, ?_⟩
    simp -dsimp only [go_sem, ↓reduceIte, Nat.reduceEqDiff, Nat.reduceAdd, Nat.reduceMul, Nat.reduceSub, Nat.reduceLeDiff, Nat.reduceLT]
    exact ⟨by omega, by omega, rfl, rfl⟩
  · rintro n T H' ⟨i, rfl, hi, rfl, h3, h4, h8, h9, h10⟩
    simp -dsimp only [go_sem, ↓reduceIte, Nat.reduceEqDiff, Nat.reduceAdd, Nat.reduceMul, Nat.reduceSub, Nat.reduceLeDiff, Nat.reduceLT, h3, h4, h8, h9, h10]
    refine acondP_of (fun h => ?_) (fun h => ?_)
    · simp at h
      obtain ⟨b, hb⟩ := get_ex h
      obtain ⟨id, off, rfl, hat⟩ := (hs.pre (List.prefix_append H [.row tabV 16 true])).at (by omega)
      generalize hx : (l.take i).foldl sumF 4294967295 = x at *
      have hx32 : x < 4294967296 := by rw [← hx]; exact fold_lt _ (by omega)
      have b1 := b.toNat_lt
      have y1 : x ^^^ b.toNat < 4294967296 := Nat.xor_lt_two_pow (n := 32) hx32 (by omega)
      have y2 := sumS_lt y1
      have e1 : IntKind.u32.wrap (b.toNat : Int) = (b.toNat : Int) := wrap32 _ (by omega)
      have e2 : ∀ (H : AHeap) (t : TypeId) (o p : Operand), abin Tryz.prog H .xor t o p (.int .u32 (x : Int)) (.int .u32 (b.toNat : Int)) = some (.int .u32 ((x ^^^ b.toNat : Nat) : Int)) := fun H t o p => abin_xor32 _ _ hx32 (by omega)
      have e3 : ∀ y : Nat, ashift .shr .u32 (y : Int) 4 = some (.int .u32 ((y / 16 : Nat) : Int)) := fun y => ashr_nat .u32 y 4 (by decide)
      have e4 : ∀ (y : Nat), y < 4294967296 → ∀ (H : AHeap) (t : TypeId) (o p : Operand), abin Tryz.prog H .and t o p (.int .u32 (y : Int)) (.int .u32 15) = some (.int .u32 ((y &&& 15 : Nat) : Int)) := fun y hy H t o p => abin_and32 y 15 hy (by omega)
      have e5 : ∀ (y : Nat), y < 4294967296 → ∀ (H : AHeap) (t : TypeId) (o p : Operand), abin Tryz.prog H .xor t o p (.int .u32 ((y / 16 : Nat) : Int)) (.int .u32 ((tabN.getD (y &&& 15) 0 : Nat) : Int)) = some (.int .u32 ((sumS y : Nat) : Int)) := fun y hy H t o p => abin_xor32 _ _ (by omega) (tab_lt _)
      simp -dsimp only [go_sem, ↓reduceIte, Nat.reduceEqDiff, Nat.reduceAdd, Nat.reduceMul, Nat.reduceSub, Nat.reduceLeDiff, Nat.reduceLT, h3, h4, h8, h9, h10, inRange h, rowLoad_one0 (hat i b hb), e1, e2, e3, e4 _ y1, e4 _ y2, e5 _ y1, e5 _ y2, ixTab _ _ (and_15 (x ^^^ b.toNat)), ixTab _ _ (and_15 (sumS (x ^^^ b.toNat))), tabLoad _ (and_15 (x ^^^ b.toNat)), tabLoad _ (and_15 (sumS (x ^^^ b.toNat))), wrS (show i < 4611686018427387904 by omega)]
      exact ⟨_, by omega, i + 1, rfl, h, by rw [List.take_add_one, hb]; simp [List.foldl_append, hx, sumF], rfl⟩
    · simp at h
      have hil : l.take i = l := List.take_of_length_le h
      rw [hil] at h4
      simp -dsimp only [go_sem, ↓reduceIte, Nat.reduceEqDiff, Nat.reduceAdd, Nat.reduceMul, Nat.reduceSub, Nat.reduceLeDiff, Nat.reduceLT, h3, h4, h8, h9, h10, aun_xor32 _ (fold_lt l (show 4294967295 < 4294967296 by omega))]
      exact ⟨rfl, List.prefix_append _ _⟩
def frameB (l : List UInt8) : List UInt8 := fourB (sumL (fourB l.length ++ l)) ++ (fourB l.length ++ l)
theorem fourB_len (n : Nat) : (fourB n).length = 4 := rfl
theorem own4 (n : Nat) (H : AHeap) : Own H.length (H ++ [.row ((fourB n).flatMap encB) 1 true]) encB 1 (.slice (some ⟨H.length, 0, none⟩) 4 4) (fourB n) :=
  .inr ⟨H.length, [], 4, Nat.le_refl _, rfl, by rw [List.append_nil]; exact get_end _ _ _, .inr ⟨by omega, rfl⟩⟩
theorem frameLaw (l : List UInt8) (a : Option Addr) (c : Nat) (H : AHeap) (hs : SlA H encB 1 a l) (hl : l.length ≤ 1048576) :
    Sound Tryz.prog 72 [.slice a l.length c] H fun v H' => H <+: H' ∧ ∃ w, v = .tuple #[w, .int .i64 0] ∧ Own H.length H' encB 1 w (frameB l) := by
  refine Sound.of_body (rs := [.tmp 2, .tmp 3]) mixed Tryz.func72 rfl (by kernel_rfl) rfl (by kernel_rfl) ?_
  have z1 : decide ((1048576 : Int) < (l.length : Int)) = false := decide_eq_false (by omega)
  have z2 : IntKind.u32.wrap (l.length : Int) = (l.length : Int) := wrap32 _ (by omega)
  simp -dsimp only [go_sem, ↓reduceIte, Nat.reduceEqDiff, Nat.reduceAdd, Nat.reduceMul, Nat.reduceSub, Nat.reduceLeDiff, Nat.reduceLT, z1, z2]
  refine SoundP_of (fourLaw l.length (by omega) H) ?_
  rintro _ H1 ⟨rfl, hH1⟩
  have p1 : H <+: H1 := by rw [hH1]; exact List.prefix_append _ _
  have o1 := own4 l.length H
  rw [← hH1] at o1
  clear hH1
  obtain ⟨v2, H2, e2, ap2⟩ := appL (c := c) o1 (pre_len p1) (hs.pre p1) (by rw [fourB_len]; omega) (by omega)
  have p2 := ap2.pre p1 o1
  obtain ⟨a2, c2, rfl, sl2⟩ := ap2.own.sl (fun _ => rfl)
  have gl : (fourB l.length ++ l).length = 4 + l.length := by rw [List.length_append, fourB_len]
  generalize hb : fourB l.length ++ l = b at *
  simp -dsimp only [go_sem, ↓reduceIte, Nat.reduceEqDiff, Nat.reduceAdd, Nat.reduceMul, Nat.reduceSub, Nat.reduceLeDiff, Nat.reduceLT, e2]
  refine SoundP_of (sumLaw _ a2 c2 H2 sl2 (by omega)) ?_
  rintro _ H3 ⟨rfl, p3⟩
  simp -dsimp only [go_sem, ↓reduceIte, Nat.reduceEqDiff, Nat.reduceAdd, Nat.reduceMul, Nat.reduceSub, Nat.reduceLeDiff, Nat.reduceLT]
  refine SoundP_of (fourLaw _ (sumL_lt _) H3) ?_
  rintro _ H4 ⟨rfl, hH4⟩
  have p4 : H3 <+: H4 := by rw [hH4]; exact List.prefix_append _ _
  have o4 := own4 (sumL b) H3
  rw [← hH4] at o4
  clear hH4
  have q3 := p2.trans p3
  obtain ⟨v5, H5, e5, ap5⟩ := appL (c := c2) (o4.mono (pre_len q3)) (pre_len (q3.trans p4)) ((sl2.pre p3).pre p4) (by rw [fourB_len]; omega) (by omega)
  simp -dsimp only [go_sem, ↓reduceIte, Nat.reduceEqDiff, Nat.reduceAdd, Nat.reduceMul, Nat.reduceSub, Nat.reduceLeDiff, Nat.reduceLT, e5]
  refine ⟨ap5.pre (q3.trans p4) (o4.mono (pre_len q3)), v5, rfl, ?_⟩
  rw [frameB, hb]
  exact ap5.own
end Go.Proofs.YtekpdopbiklkfaaGreatDoor
end
section
set_option linter.unusedVariables false
set_option linter.unusedSimpArgs false
namespace Go.Proofs.YtekpdopbiklkfaaGreatDoor
open Go Go.AW
set_option linter.unusedSimpArgs false
set_option maxRecDepth 20000
theorem flatB_len (l : List UInt8) : (l.flatMap encB).length = l.length := by rw [flat_len (k := 1) (fun _ => rfl)]; omega
def BAt (H : AHeap) (v : Value) (l : List UInt8) : Prop :=
  (l = [] ∧ (v = .slice none 0 0 ∨ v = emp)) ∨
  ∃ id o c pre post, v = .slice (some ⟨id, o, none⟩) l.length c ∧ H[id]? = some (.row (pre ++ l.flatMap encB ++ post) 1 true) ∧ pre.length = o ∧ (c = 0 ∨ l.length ≤ c)
theorem BAt.keep {H H' : AHeap} {v : Value} {l : List UInt8} (h : BAt H v l) (hp : ∀ id, owner v = some id → H'[id]? = H[id]?) : BAt H' v l := by
  rcases h with h | ⟨id, o, c, pre, post, rfl, h1, h2, h3⟩
  · exact .inl h
  · exact .inr ⟨id, o, c, pre, post, rfl, by rw [hp id rfl]; exact h1, h2, h3⟩
theorem BAt.pre {H H' : AHeap} {v : Value} {l : List UInt8} (h : BAt H v l) (hp : H <+: H') : BAt H' v l := by
  rcases h with h | ⟨id, o, c, pre, post, rfl, h1, h2, h3⟩
  · exact .inl h
  · exact .inr ⟨id, o, c, pre, post, rfl, pre_get hp h1, h2, h3⟩
theorem BAt.lt {H : AHeap} {v : Value} {l : List UInt8} (h : BAt H v l) {id : Nat} (ho : owner v = some id) : id < H.length := by
  rcases h with ⟨rfl, rfl | rfl⟩ | ⟨id', o, c, pre, post, rfl, h1, h2, h3⟩
  · simp [owner] at ho
  · simp [owner, Go.AW.emp] at ho
  · simp only [owner, Option.some.injEq] at ho
    subst ho
    exact get_lt h1
theorem BAt.sl {H : AHeap} {v : Value} {l : List UInt8} (h : BAt H v l) : ∃ a c, v = .slice a l.length c ∧ SlA H encB 1 a l := by
  rcases h with ⟨rfl, rfl | rfl⟩ | ⟨id, o, c, pre, post, rfl, h1, h2, h3⟩
  · exact ⟨_, _, rfl, SlA.nil _ _ _ _⟩
  · exact ⟨_, _, rfl, SlA.nil _ _ _ _⟩
  · refine ⟨_, _, rfl, SlA.cellsAll l ?_ (fun _ => rfl)⟩
    rw [aload_row h1 o _ (by simp only [List.length_append, flatB_len]; omega)]
    rw [List.append_assoc, List.drop_left' h2, List.take_left' (by rw [flatB_len]; omega)]
theorem abound_nat' (k : IntKind) (n y : Nat) : abound (.int k (n : Int)) y = if n ≤ y then some n else none := by
  simp only [abound]
  by_cases h : n ≤ y
  · rw [if_pos h, if_pos (by omega)]; simp
  · rw [if_neg h, if_neg (by omega)]
theorem add_off (id o n : Nat) : (⟨id, o, none⟩ : Addr).add n = ⟨id, o + n, none⟩ := by
  unfold Addr.add
  split
  · rename_i h; subst h; rfl
  · rfl
theorem BAt.cut {H : AHeap} {v : Value} {l : List UInt8} (h : BAt H v l) (lo hi : Nat) (h1 : lo ≤ hi) (h2 : hi ≤ l.length) : ∃ v', BAt H v' ((l.take hi).drop lo) ∧ (∀ id, owner v' = some id → owner v = some id) ∧
    (∀ k k' : IntKind, aslice Tryz.prog H 59 v (some (.int k (lo : Int))) (some (.int k' (hi : Int))) none = some v') ∧
    (lo = 0 → ∀ k : IntKind, aslice Tryz.prog H 59 v none (some (.int k (hi : Int))) none = some v') ∧
    (hi = l.length → ∀ k : IntKind, aslice Tryz.prog H 59 v (some (.int k (lo : Int))) none none = some v') := by
  have hlen : ((l.take hi).drop lo).length = hi - lo := by rw [List.length_drop, List.length_take]; omega
  have key : ∀ (a : Option Addr) (n c : Nat) (w : Value), v = .slice a n c → n = l.length → (c = 0 ∨ n ≤ c) → AW.cut H 1 a c lo hi = some w →
      (∀ k k' : IntKind, aslice Tryz.prog H 59 v (some (.int k (lo : Int))) (some (.int k' (hi : Int))) none = some w) ∧
      (lo = 0 → ∀ k : IntKind, aslice Tryz.prog H 59 v none (some (.int k (hi : Int))) none = some w) ∧
      (hi = l.length → ∀ k : IntKind, aslice Tryz.prog H 59 v (some (.int k (lo : Int))) none none = some w) := by
    rintro a n c w rfl rfl hc hw
    have hcap : hi ≤ capOf l.length c := by unfold capOf; split <;> omega
    refine ⟨fun k k' => ?_, fun h0 k => ?_, fun hh k => ?_⟩
    · rw [aslice_sl un59 sz5]
      simp only [optB_some, abound_nat', if_pos hcap, Option.bind_some, if_pos h1, hw]
    · subst h0
      rw [aslice_sl un59 sz5]
      simp only [optB_some, optB_none, abound_nat', if_pos hcap, Option.bind_some, hw]
    · subst hh
      rw [aslice_sl un59 sz5]
      simp only [optB_some, optB_none, abound_nat', Option.bind_some, if_pos h1, hw]
  rcases h with ⟨rfl, rfl | rfl⟩ | ⟨id, o, c, pre, post, rfl, hid, hpre, hc⟩
  · obtain rfl : hi = 0 := by simpa using h2
    obtain rfl : lo = 0 := by omega
    exact ⟨_, .inl ⟨rfl, .inl rfl⟩, fun _ h => h, key none 0 0 _ rfl rfl (.inl rfl) rfl⟩
  · obtain rfl : hi = 0 := by simpa using h2
    obtain rfl : lo = 0 := by omega
    exact ⟨emp, .inl ⟨rfl, .inr rfl⟩, fun _ h => h, key _ 0 _ _ rfl rfl (by simp) rfl⟩
  · have hrow : rowOf H id 1 = true := by simp [rowOf, hid]
    have split : pre ++ l.flatMap encB ++ post = (pre ++ (l.take lo).flatMap encB) ++ ((l.take hi).drop lo).flatMap encB ++ ((l.drop hi).flatMap encB ++ post) := by
      have e : l = l.take lo ++ ((l.take hi).drop lo ++ l.drop hi) := by
        rw [← List.append_assoc]
        conv => lhs; rw [← List.take_append_drop hi l]
        congr 1
        conv => lhs; rw [← List.take_append_drop lo (l.take hi)]
        rw [List.take_take, Nat.min_eq_left h1]
      conv => lhs; rw [e]
      simp only [List.flatMap_append, List.append_assoc]
    have new : BAt H (.slice (some ⟨id, o + lo, none⟩) (hi - lo) 0) ((l.take hi).drop lo) :=
      .inr ⟨id, o + lo, 0, _, _, by rw [hlen], by rw [← split]; exact hid, by rw [List.length_append, flatB_len, List.length_take]; omega, .inl rfl⟩
    by_cases c0 : c = 0
    · subst c0
      exact ⟨_, new, fun j hj => hj, key _ _ _ _ rfl rfl (.inl rfl) (by simp only [AW.cut, Option.isSome_none, Bool.false_eq_true, if_false, if_true, hrow, add_off, Nat.mul_one])⟩
    · have hc' : l.length ≤ c := by omega
      by_cases cl : c = lo
      · obtain rfl : hi = lo := by omega
        refine ⟨emp, .inl ⟨List.eq_nil_of_length_eq_zero (by omega), .inr rfl⟩, fun j hj => by simp [owner, Go.AW.emp] at hj, key _ _ _ _ rfl rfl (.inr hc') (by simp only [AW.cut, Option.isSome_none, Bool.false_eq_true, if_false, if_neg c0, if_pos cl])⟩
      · refine ⟨.slice (some ⟨id, o + lo, none⟩) (hi - lo) (c - lo), .inr ⟨id, o + lo, c - lo, _, _, by rw [hlen], by rw [← split]; exact hid, by rw [List.length_append, flatB_len, List.length_take]; omega, .inr (by omega)⟩, fun j hj => hj, key _ _ _ _ rfl rfl (.inr hc') (by simp only [AW.cut, Option.isSome_none, Bool.false_eq_true, if_false, if_neg c0, if_neg cl, add_off, Nat.mul_one])⟩
end Go.Proofs.YtekpdopbiklkfaaGreatDoor
end
section
set_option linter.unusedVariables false
set_option linter.unusedSimpArgs false
namespace Go.Proofs.YtekpdopbiklkfaaGreatDoor
open Go Go.AW
set_option linter.unusedSimpArgs false
set_option maxRecDepth 20000
structure ReadAt (H : AHeap) (p : Nat) (l : List UInt8) : Prop where
  row : ∃ v : Value, H[p]? = some (.row [v, .int .i64 0] 2 true) ∧ BAt H v l ∧ ∀ id, owner v = some id → id < p
def Only (p : Nat) (H H' : AHeap) : Prop := H'.length = H.length ∧ ∀ j, j ≠ p → H'[j]? = H[j]?
theorem Only.refl (p : Nat) (H : AHeap) : Only p H H := ⟨rfl, fun _ _ => rfl⟩
theorem Only.trans {p : Nat} {H H1 H2 : AHeap} (h1 : Only p H H1) (h2 : Only p H1 H2) : Only p H H2 := ⟨h2.1.trans h1.1, fun j hj => (h2.2 j hj).trans (h1.2 j hj)⟩
theorem ReadAt.step {H : AHeap} {p : Nat} {v v' : Value} {l' : List UInt8} (hp : H[p]? = some (.row [v, .int .i64 0] 2 true)) (hv : BAt H v' l') (ho : ∀ id, owner v' = some id → id < p) :
    Only p H (H.set p (.row [v', .int .i64 0] 2 true)) ∧ ReadAt (H.set p (.row [v', .int .i64 0] 2 true)) p l' :=
  ⟨⟨by simp, fun j hj => List.getElem?_set_ne (Ne.symm hj)⟩, ⟨v', List.getElem?_set_self (get_lt hp), hv.keep fun id h => List.getElem?_set_ne (fun q => by have := ho id h; omega), ho⟩⟩
theorem numB_step (n i : Nat) : n / 128 ^ (i + 1) = n / 128 ^ i / 128 := by rw [Nat.div_div_eq_div_mul, Nat.pow_succ]
set_option maxHeartbeats 1000000 in
theorem readUint (n : Nat) (hn : n < 18446744073709551616) (rest : List UInt8) {p : Nat} {H : AHeap} (hr : ReadAt H p (numB n ++ rest)) (hl : rest.length < 3000000) :
    Sound Tryz.prog 136 [ptrV p] H fun v H' => v = .int .u64 n ∧ Only p H H' ∧ ReadAt H' p rest := by
  obtain ⟨w, hp, hb, ho⟩ := hr
  obtain ⟨a, c, rfl, hs⟩ := hb.sl
  refine Sound.of_body (rs := [.tmp 2]) mixed Tryz.func136 rfl (by kernel_rfl) rfl (by kernel_rfl) ?_
  have hlen10 := numB_le hn
  have hLl : (numB n ++ rest).length < 3000010 := by rw [List.length_append]; omega
  generalize hL : numB n ++ rest = L at *
  simp -dsimp only [go_sem, ↓reduceIte, Nat.reduceEqDiff, Nat.reduceAdd, Nat.reduceMul, Nat.reduceSub, Nat.reduceLeDiff, Nat.reduceLT, hp, Int.reduceBNe]
  refine aloopP_of (fun k T H' => ∃ i : Nat, k = L.length - i ∧ H' = H ∧ i ≤ 9 ∧ L.drop i = numB (n / 128 ^ i) ++ rest ∧ (0 < i → 0 < n / 128 ^ i) ∧ T 0 = ptrV p ∧ T 3 = .int .u64 ((n % 128 ^ i : Nat) : Int) ∧ T 18 = .slice a L.length c ∧ T 19 = .int .i64 L.length ∧ T 20 = .int .i64 (i : Nat)) (n := L.length) ?_ ?_
  · refine ⟨0, ?_⟩
    simp -dsimp only [go_sem, ↓reduceIte, Nat.reduceEqDiff, Nat.reduceAdd, Nat.reduceMul, Nat.reduceSub, Nat.reduceLeDiff, Nat.reduceLT]
    exact ⟨rfl, by simp [hL], by simp, by simp, rfl⟩
  · rintro k T H' ⟨i, rfl, rfl, hi, hd, hpos, h0, h3, h18, h19, h20⟩
    have hpow : 128 ^ i = 2 ^ (7 * i) := by rw [Nat.pow_mul]
    have hlt : i < L.length := by
      have := congrArg List.length hd
      rw [List.length_drop, List.length_append] at this
      have : 0 < (numB (n / 128 ^ i)).length := by
        by_cases q : n / 128 ^ i < 128
        · rw [numB_lt q]; simp
        · rw [numB_ge q]; simp
      omega
    have hA : decide ((i : Int) < (L.length : Int)) = true := decide_eq_true (by omega)
    obtain ⟨id, off, rfl, hat⟩ := hs.at (by omega)
    have hmul : n / 128 ^ i * 128 ^ i + n % 128 ^ i = n := by rw [Nat.mul_comm]; exact Nat.div_add_mod n (128 ^ i)
    have hacc : n % 128 ^ i < 128 ^ i := Nat.mod_lt _ (Nat.pow_pos (by omega))
    generalize hm : n / 128 ^ i = m at *
    generalize hx : n % 128 ^ i = x at *
    have h9 : (i : Int) == 9 → m < 2 := fun h => by
      have : i = 9 := by simp at h; omega
      subst this
      rw [← hm]; exact Nat.div_lt_of_lt_mul (by omega)
    cases hB : decide (m < 128) with
    | true =>
      have hB' := of_decide_eq_true hB
      rw [numB_lt hB'] at hd
      have hb1 : L[i]? = some (UInt8.ofNat m) := by rw [← List.head?_drop, hd]; rfl
      have hmn : ((UInt8.ofNat m).toNat : Int) = (m : Int) := by rw [UInt8.toNat_ofNat']; omega
      have hv : encB (UInt8.ofNat m) = [.int .u8 (m : Int)] := by rw [encB, hmn]
      have hat1 := hat i _ hb1
      rw [hv] at hat1
      have hG : decide ((m : Int) < 128) = true := decide_eq_true (by omega)
      obtain ⟨v', hv', hov, -, -, hcut⟩ := hb.cut (i + 1) L.length (by omega) (Nat.le_refl _)
      have hcut := hcut rfl .i64
      have hdr : (L.take L.length).drop (i + 1) = rest := by
        rw [List.take_length, ← List.drop_drop, hd]; rfl
      rw [hdr] at hv'
      obtain ⟨a', c', rfl, -⟩ := hv'.sl
      have hw1 : IntKind.u64.wrap (m : Int) = (m : Int) := wrap64 _ (by omega)
      have hsh : ashift .shl .u64 (m : Int) ((7 * i : Nat) : Int) = some (.int .u64 ((m * 2 ^ (7 * i) : Nat) : Int)) := ashl64 m (7 * i) (by omega) (by rw [← hpow]; omega)
      have hor : ∀ (H : AHeap) (t : TypeId) (o q : Operand), abin Tryz.prog H .or t o q (.int .u64 (x : Int)) (.int .u64 ((m * 2 ^ (7 * i) : Nat) : Int)) = some (.int .u64 (n : Int)) := fun H t o q => by
        rw [abin_or64 _ _ (by omega) (by rw [← hpow]; omega), or_add (by rw [← hpow]; exact hacc), ← hpow, Nat.add_comm, hmul]
      have hw7 : IntKind.i64.wrap (7 * (i : Int)) = ((7 * i : Nat) : Int) := by rw [wr64 (by omega) (by omega)]; omega
      have fin := ReadAt.step hp hv' (fun id q => ho id (hov _ q))
      cases hD : ((i : Int) == 9) with
      | true =>
        cases hE : ((m : Int) == 0) with
        | true =>
          have hC : decide ((1 : Int) < (m : Int)) = false := decide_eq_false (by have := h9 hD; omega)
          have hm0 : m = 0 := by simpa using hE
          have hF : decide ((0 : Int) < (i : Int)) = false := decide_eq_false (by intro q; have := hpos (by omega); omega)
          simp -dsimp only [go_sem, ↓reduceIte, Nat.reduceEqDiff, Nat.reduceAdd, Nat.reduceMul, Nat.reduceSub, Nat.reduceLeDiff, Nat.reduceLT, h0, h3, h18, h19, h20, hA, inRange hlt, rowLoad_one0 hat1, hD, hE, hC, hF, hG, hw1, hsh, hor, hcut, hp, hw7, wrS (show i < 4611686018427387904 by omega)]
          exact fin
        | false =>
          have hC : decide ((1 : Int) < (m : Int)) = false := decide_eq_false (by have := h9 hD; omega)
          simp -dsimp only [go_sem, ↓reduceIte, Nat.reduceEqDiff, Nat.reduceAdd, Nat.reduceMul, Nat.reduceSub, Nat.reduceLeDiff, Nat.reduceLT, h0, h3, h18, h19, h20, hA, inRange hlt, rowLoad_one0 hat1, hD, hE, hC, hG, hw1, hsh, hor, hcut, hp, hw7, wrS (show i < 4611686018427387904 by omega)]
          exact fin
      | false =>
        cases hE : ((m : Int) == 0) with
        | true =>
          have hm0 : m = 0 := by simpa using hE
          have hF : decide ((0 : Int) < (i : Int)) = false := decide_eq_false (by intro q; have := hpos (by omega); omega)
          simp -dsimp only [go_sem, ↓reduceIte, Nat.reduceEqDiff, Nat.reduceAdd, Nat.reduceMul, Nat.reduceSub, Nat.reduceLeDiff, Nat.reduceLT, h0, h3, h18, h19, h20, hA, inRange hlt, rowLoad_one0 hat1, hD, hE, hF, hG, hw1, hsh, hor, hcut, hp, hw7, wrS (show i < 4611686018427387904 by omega)]
          exact fin
        | false =>
          simp -dsimp only [go_sem, ↓reduceIte, Nat.reduceEqDiff, Nat.reduceAdd, Nat.reduceMul, Nat.reduceSub, Nat.reduceLeDiff, Nat.reduceLT, h0, h3, h18, h19, h20, hA, inRange hlt, rowLoad_one0 hat1, hD, hE, hG, hw1, hsh, hor, hcut, hp, hw7, wrS (show i < 4611686018427387904 by omega)]
          exact fin
    | false =>
      have hB' := of_decide_eq_false hB
      rw [numB_ge hB'] at hd
      have hb1 : L[i]? = some (UInt8.ofNat (m % 128 + 128)) := by rw [← List.head?_drop, hd]; rfl
      have hmn : ((UInt8.ofNat (m % 128 + 128)).toNat : Int) = ((m % 128 + 128 : Nat) : Int) := by rw [UInt8.toNat_ofNat']; omega
      have hv : encB (UInt8.ofNat (m % 128 + 128)) = [.int .u8 ((m % 128 + 128 : Nat) : Int)] := by rw [encB, hmn]
      have hat1 := hat i _ hb1
      rw [hv] at hat1
      have hi8 : i ≤ 8 := by
        rcases Nat.lt_or_ge i 9 with q | q
        · omega
        · have : i = 9 := by omega
          have := h9 (by rw [this]; rfl)
          omega
      have hD : ((i : Int) == 9) = false := by simp; omega
      have hE : (((m % 128 + 128 : Nat) : Int) == 0) = false := by simp; omega
      have hG : decide (((m % 128 + 128 : Nat) : Int) < 128) = false := decide_eq_false (by omega)
      have hand : ∀ (H : AHeap) (t : TypeId) (o q : Operand), abin Tryz.prog H .and t o q (.int .u8 ((m % 128 + 128 : Nat) : Int)) (.int .u8 127) = some (.int .u8 ((m % 128 : Nat) : Int)) := fun H t o q => by
        have := abin_and8 (P := Tryz.prog) (H := H) (t := t) (x := o) (y := q) (m % 128 + 128) 127 (by omega) (by omega)
        rw [and_127, show (m % 128 + 128) % 128 = m % 128 by omega] at this
        exact this
      have hw1 : IntKind.u64.wrap ((m % 128 : Nat) : Int) = ((m % 128 : Nat) : Int) := wrap64 _ (by omega)
      have hw7 : IntKind.i64.wrap (7 * (i : Int)) = ((7 * i : Nat) : Int) := by rw [wr64 (by omega) (by omega)]; omega
      have hle : m % 128 * 128 ^ i ≤ m * 128 ^ i := Nat.mul_le_mul_right _ (Nat.mod_le _ _)
      have hsh : ashift .shl .u64 ((m % 128 : Nat) : Int) ((7 * i : Nat) : Int) = some (.int .u64 ((m % 128 * 2 ^ (7 * i) : Nat) : Int)) := ashl64 _ (7 * i) (by omega) (by rw [← hpow]; omega)
      have hor : ∀ (H : AHeap) (t : TypeId) (o q : Operand), abin Tryz.prog H .or t o q (.int .u64 (x : Int)) (.int .u64 ((m % 128 * 2 ^ (7 * i) : Nat) : Int)) = some (.int .u64 ((n % 128 ^ (i + 1) : Nat) : Int)) := fun H t o q => by
        rw [abin_or64 _ _ (by omega) (by rw [← hpow]; omega), or_add (by rw [← hpow]; exact hacc), ← hpow, Nat.mod_pow_succ, hx, hm, Nat.mul_comm]
      simp -dsimp only [go_sem, ↓reduceIte, Nat.reduceEqDiff, Nat.reduceAdd, Nat.reduceMul, Nat.reduceSub, Nat.reduceLeDiff, Nat.reduceLT, h0, h3, h18, h19, h20, hA, inRange hlt, rowLoad_one0 hat1, hD, hE, hG, hand, hw1, hw7, hsh, hor, wrS (show i < 4611686018427387904 by omega)]
      refine ⟨_, by omega, i + 1, rfl, by omega, ?_, ?_, rfl, rfl⟩
      · rw [← List.drop_drop, hd, numB_step, hm]; rfl
      · intro _; rw [numB_step, hm]; omega
end Go.Proofs.YtekpdopbiklkfaaGreatDoor
end
section
set_option linter.unusedVariables false
set_option linter.unusedSimpArgs false
namespace Go.Proofs.YtekpdopbiklkfaaGreatDoor
open Go Go.AW
set_option linter.unusedSimpArgs false
set_option maxRecDepth 20000
theorem abin_xor0 (n : Nat) (hn : n < 9223372036854775808) (P : Program) (H : AHeap) (t : TypeId) (x y : Operand) : abin P H .xor t x y (.int .i64 (n : Int)) (.int .i64 ((0 : Nat) : Int)) = some (.int .i64 (n : Int)) := by
  have e : (BitVec.ofInt IntKind.i64.bits (n : Int) ^^^ BitVec.ofInt IntKind.i64.bits ((0 : Nat) : Int)).toNat = n := by
    rw [BitVec.toNat_xor, ofInt_nat _ n (by show n < 2 ^ 64; omega), ofInt_nat _ 0 (by show 0 < 2 ^ 64; omega), Nat.xor_zero]
  simp only [abin, if_true, aint, e, wr64 (i := (n : Int)) (by omega) (by omega)]
theorem readInt (n : Nat) (hn : n < 9223372036854775808) (rest : List UInt8) {p : Nat} {H : AHeap} (hr : ReadAt H p (numB (2 * n) ++ rest)) (hl : rest.length < 3000000) :
    Sound Tryz.prog 135 [ptrV p] H fun v H' => v = .int .i64 n ∧ Only p H H' ∧ ReadAt H' p rest := by
  refine Sound.of_body (rs := [.tmp 2]) mixed Tryz.func135 rfl (by kernel_rfl) rfl (by kernel_rfl) ?_
  simp -dsimp only [go_sem, ↓reduceIte, Nat.reduceEqDiff, Nat.reduceAdd, Nat.reduceMul, Nat.reduceSub, Nat.reduceLeDiff, Nat.reduceLT]
  refine SoundP_of (readUint (2 * n) (by omega) rest hr hl) ?_
  rintro _ H1 ⟨rfl, h1⟩
  have e1 : ashift .shr .u64 ((2 * n : Nat) : Int) 1 = some (.int .u64 (n : Int)) := by
    have := ashr_nat .u64 (2 * n) 1 (by decide)
    rw [show 2 * n / 2 ^ 1 = n by omega] at this
    exact this
  have e2 : IntKind.i64.wrap (n : Int) = (n : Int) := wr64 (by omega) (by omega)
  have e3 : ∀ (H : AHeap) (t : TypeId) (o q : Operand), abin Tryz.prog H .and t o q (.int .u64 ((2 * n : Nat) : Int)) (.int .u64 1) = some (.int .u64 ((0 : Nat) : Int)) := fun H t o q => by
    have := abin_and64 (P := Tryz.prog) (H := H) (t := t) (x := o) (y := q) (2 * n) 1 (by omega) (by omega)
    rw [show 2 * n &&& 1 = 0 by rw [Nat.and_one_is_mod]; omega] at this
    exact this
  have e4 : IntKind.i64.wrap ((0 : Nat) : Int) = ((0 : Nat) : Int) := rfl
  have e5 : IntKind.i64.wrap (0 - ((0 : Nat) : Int)) = ((0 : Nat) : Int) := rfl
  have e6 := abin_xor0 n hn Tryz.prog
  simp -dsimp only [go_sem, ↓reduceIte, Nat.reduceEqDiff, Nat.reduceAdd, Nat.reduceMul, Nat.reduceSub, Nat.reduceLeDiff, Nat.reduceLT, e1, e2, e3, e4, e5, e6]
  exact h1
theorem leftLaw {p : Nat} {H : AHeap} {l : List UInt8} (hr : ReadAt H p l) : Sound Tryz.prog 139 [ptrV p] H fun v H' => v = .int .i64 l.length ∧ H' = H := by
  obtain ⟨w, hp, hb, ho⟩ := hr
  obtain ⟨a, c, rfl, hs⟩ := hb.sl
  refine Sound.of_body (rs := [.tmp 2]) mixed Tryz.func139 rfl (by kernel_rfl) rfl (by kernel_rfl) ?_
  simp -dsimp only [go_sem, ↓reduceIte, Nat.reduceEqDiff, Nat.reduceAdd, Nat.reduceMul, Nat.reduceSub, Nat.reduceLeDiff, Nat.reduceLT, hp]
theorem endLaw {p : Nat} {H : AHeap} (hr : ReadAt H p []) : Sound Tryz.prog 138 [ptrV p] H fun v H' => v = .int .i64 0 ∧ H' = H := by
  obtain ⟨w, hp, hb, ho⟩ := hr
  obtain ⟨a, c, rfl, hs⟩ := hb.sl
  refine Sound.of_body (rs := [.tmp 2]) mixed Tryz.func138 rfl (by kernel_rfl) rfl (by kernel_rfl) ?_
  simp -dsimp only [go_sem, ↓reduceIte, Nat.reduceEqDiff, Nat.reduceAdd, Nat.reduceMul, Nat.reduceSub, Nat.reduceLeDiff, Nat.reduceLT, hp, Int.reduceBEq, dec0]
theorem readLaw {v : Value} {l : List UInt8} {H : AHeap} (hv : BAt H v l) : Sound Tryz.prog 134 [v] H fun w H' => w = ptrV H.length ∧ H <+: H' ∧ H'.length = H.length + 1 ∧ ReadAt H' H.length l := by
  obtain ⟨a, c, rfl, hs⟩ := hv.sl
  refine Sound.of_body (rs := [.tmp 2]) mixed Tryz.func134 rfl (by kernel_rfl) rfl (by kernel_rfl) ?_
  simp -dsimp only [go_sem, ↓reduceIte, Nat.reduceEqDiff, Nat.reduceAdd, Nat.reduceMul, Nat.reduceSub, Nat.reduceLeDiff, Nat.reduceLT]
  exact ⟨List.prefix_append _ _, ⟨_, get_end _ _ _, hv.pre (List.prefix_append _ _), fun id h => hv.lt h⟩⟩
theorem countLaw (n : Nat) (rest : List UInt8) {p : Nat} {H : AHeap} (hr : ReadAt H p (numB n ++ rest)) (hn : n ≤ rest.length) (hl : rest.length < 3000000) :
    Sound Tryz.prog 205 [ptrV p, .int .i64 1] H fun v H' => v = .int .i64 n ∧ Only p H H' ∧ ReadAt H' p rest := by
  refine Sound.of_body (rs := [.tmp 4]) mixed Tryz.func205 rfl (by kernel_rfl) rfl (by kernel_rfl) ?_
  simp -dsimp only [go_sem, ↓reduceIte, Nat.reduceEqDiff, Nat.reduceAdd, Nat.reduceMul, Nat.reduceSub, Nat.reduceLeDiff, Nat.reduceLT]
  refine SoundP_of (readUint n (by omega) rest hr hl) ?_
  rintro _ H1 ⟨rfl, h1⟩
  obtain ⟨w, hp, hb, ho⟩ := h1.2.row
  obtain ⟨a, c, rfl, hs⟩ := hb.sl
  have e0 : IntKind.i64.wrap (n : Int) = (n : Int) := wr64 (by omega) (by omega)
  have hmx : (if (1 : Int) > 1 then (1 : Int) else 1) = 1 := rfl
  have e2 : IntKind.i64.wrap (rest.length : Int) = (rest.length : Int) := wr64 (by omega) (by omega)
  have e3 : IntKind.u64.wrap (rest.length : Int) = (rest.length : Int) := wrap64 _ (by omega)
  have e4 : decide ((rest.length : Int) < (n : Int)) = false := decide_eq_false (by omega)
  simp -dsimp only [go_sem, ↓reduceIte, Nat.reduceEqDiff, Nat.reduceAdd, Nat.reduceMul, Nat.reduceSub, Nat.reduceLeDiff, Nat.reduceLT, hp, Int.reduceBEq, hmx, Int.reduceEq, Int.tdiv_one, e0, e2, e3, e4]
  exact h1
def strOf (l : List UInt8) : ByteArray := ⟨l.toArray⟩
theorem mapOpt_bytes : ∀ l : List UInt8, mapOpt (fun v => match v with | .int .u8 b => some (UInt8.ofNat b.toNat) | _ => none) (l.flatMap encB) = some l
  | [] => rfl
  | b :: l => by
    have h := mapOpt_bytes l
    simp only [List.flatMap_cons, List.cons_append, List.nil_append, mapOpt, h, Int.toNat_natCast, UInt8.ofNat_toNat, Option.bind_some, Option.map_some]
theorem toStr_of {H : AHeap} {v : Value} {l : List UInt8} (hv : BAt H v l) : aToStr H v = some (.string (strOf l)) := by
  rcases hv with ⟨rfl, rfl | rfl⟩ | ⟨id, o, c, pre, post, rfl, h1, h2, h3⟩
  · rfl
  · rfl
  · by_cases hn : l.length = 0
    · obtain rfl := List.eq_nil_of_length_eq_zero hn
      rfl
    · simp only [aToStr, if_neg hn]
      rw [aload_row h1 o _ (by simp only [List.length_append, flatB_len]; omega), List.append_assoc, List.drop_left' h2, List.take_left' (by rw [flatB_len])]
      exact congrArg (Option.map fun bs => Value.string ⟨bs.toArray⟩) (mapOpt_bytes l)
theorem readText (s : ByteArray) (rest : List UInt8) {p : Nat} {H : AHeap} (hr : ReadAt H p (numB s.size ++ (strB s ++ rest))) (hl : (strB s ++ rest).length < 3000000) :
    Sound Tryz.prog 176 [ptrV p] H fun v H' => v = .string s ∧ Only p H H' ∧ ReadAt H' p rest := by
  have hsz : (strB s).length = s.size := rfl
  refine Sound.of_body (rs := [.tmp 2]) mixed Tryz.func176 rfl (by kernel_rfl) rfl (by kernel_rfl) ?_
  simp -dsimp only [go_sem, ↓reduceIte, Nat.reduceEqDiff, Nat.reduceAdd, Nat.reduceMul, Nat.reduceSub, Nat.reduceLeDiff, Nat.reduceLT]
  refine SoundP_of (countLaw s.size (strB s ++ rest) hr (by rw [List.length_append]; omega) hl) ?_
  rintro _ H1 ⟨rfl, h1, h2⟩
  obtain ⟨w, hp, hb, ho⟩ := h2
  cases hn : ((s.size : Int) == 0) with
  | true =>
    have h0 : s.size = 0 := by simpa using hn
    have hs : strB s = [] := List.eq_nil_of_length_eq_zero (by omega)
    have hs2 : s = strOf [] := by rw [← hs]; rfl
    rw [hs, List.nil_append] at hb
    simp -dsimp only [go_sem, ↓reduceIte, Nat.reduceEqDiff, Nat.reduceAdd, Nat.reduceMul, Nat.reduceSub, Nat.reduceLeDiff, Nat.reduceLT, hn]
    exact ⟨by rw [hs2]; rfl, h1, ⟨w, hp, hb, ho⟩⟩
  | false =>
    obtain ⟨v1, b1, o1, -, c1, -⟩ := hb.cut 0 s.size (by omega) (by rw [List.length_append]; omega)
    obtain ⟨v2, b2, o2, -, -, c2⟩ := hb.cut s.size (strB s ++ rest).length (by rw [List.length_append]; omega) (Nat.le_refl _)
    have c1 := c1 rfl .i64
    have c2 := c2 rfl .i64
    rw [List.take_length, List.drop_left' hsz] at b2
    rw [List.take_left' hsz, List.drop_zero] at b1
    generalize strB s ++ rest = L at *
    obtain ⟨a, c, rfl, hs⟩ := hb.sl
    obtain ⟨a2, c2', rfl, -⟩ := b2.sl
    have t1 := toStr_of b1
    have fin := ReadAt.step hp b2 (fun id q => ho id (o2 _ q))
    simp -dsimp only [go_sem, ↓reduceIte, Nat.reduceEqDiff, Nat.reduceAdd, Nat.reduceMul, Nat.reduceSub, Nat.reduceLeDiff, Nat.reduceLT, hn, hp, c1, c2, t1]
    exact ⟨rfl, h1.trans fin.1, fin.2⟩
end Go.Proofs.YtekpdopbiklkfaaGreatDoor
end
section
set_option linter.unusedVariables false
set_option linter.unusedSimpArgs false
namespace Go.AW
open Go
variable {P : Program}
def adraw3 (P : Program) (l : List Oper) (K : Tm → AHeap → Prop) (B : AHeap) : List (Nat × Bool) → Tm → AHeap → Prop
  | [], T, H => K T H
  | (i, b) :: is, T, H => bindO (opAt l i) fun o => bindO (aguard l.toArray T o) fun g =>
      acond g (aop P T o H fun v H' => (b = true → B <+: H') ∧ adraw3 P l K B is (T.put o.dst v) H') (adraw3 P l K B is (T.put o.dst undef) H)
def adstep3 (P : Program) (l : List Oper) (K : Tm → AHeap → Prop) (B : AHeap) (b : Bool) (is : List (Nat × Bool)) (T : Tm) (H : AHeap) (o : Oper) : Prop :=
  bindO (aguard l.toArray T o) fun g => acond g (aop P T o H fun v H' => (b = true → B <+: H') ∧ adraw3 P l K B is (T.put o.dst v) H') (adraw3 P l K B is (T.put o.dst undef) H)
theorem grown_app (b : Bool) (H L : AHeap) (A : Prop) (t : Tok A) : grown b H (H ++ L) A t = A := by simp [grown]
section
variable (P : Program) (l : List Oper) (K : Tm → AHeap → Prop) (B : AHeap) (T : Tm) (H : AHeap) (b : Bool)
theorem adraw3_nil : adraw3 P l K B [] T H = K T H := (rfl)
def adopen3 (os : List Oper) (i : Nat) (is : List (Nat × Bool)) : Prop := bindO (opAt os i) fun o => adstep3 P l K B b is T H o
theorem adraw3_cons (i : Nat) (is : List (Nat × Bool)) : adraw3 P l K B ((i, b) :: is) T H = adopen3 P l K B T H b l i is := (rfl)
theorem adopen3_zero (o : Oper) (os : List Oper) (is : List (Nat × Bool)) : adopen3 P l K B T H b (o :: os) 0 is = adstep3 P l K B b is T H o := (rfl)
theorem adopen3_succ (o : Oper) (os : List Oper) (i : Nat) (is : List (Nat × Bool)) : adopen3 P l K B T H b (o :: os) (i + 1) is = adopen3 P l K B T H b os i is := (rfl)
theorem adstep3_none (is : List (Nat × Bool)) (d : Option Tmp) (op : Op) (ty : TypeId) (pos : String) (aft : Array Edge) :
    adstep3 P l K B b is T H ⟨d, op, ty, pos, aft, none⟩ = aop P T ⟨d, op, ty, pos, aft, none⟩ H fun v H' => grown b B H' (adraw3 P l K B is (T.put d v) H') (tk _) := (rfl)
theorem adstep3_some (is : List (Nat × Bool)) (d : Option Tmp) (op : Op) (ty : TypeId) (pos : String) (aft : Array Edge) (g : Nat × Bool) :
    adstep3 P l K B b is T H ⟨d, op, ty, pos, aft, some g⟩ = bindP (aguard l.toArray T ⟨d, op, ty, pos, aft, some g⟩) (fun q => acondP q (aop P T ⟨d, op, ty, pos, aft, some g⟩ H fun v H' => grown b B H' (adraw3 P l K B is (T.put d v) H') (tk _)) (adraw3 P l K B is (T.put d undef) H) (tk _) (tk _)) (tk _) := (rfl)
end
attribute [go_sem ↓] adraw3_nil adraw3_cons adopen3_zero adopen3_succ adstep3_none adstep3_some
attribute [go_sem] grown_app
end Go.AW
end
