/-
  Parts of the proof, joined: AwEff.
-/
import Derived.Deep.AppendSrc
import Derived.Deep.Upon
import Derived.Test.YtekpdopbiklkfaaGreatDoorPf02
section
set_option linter.unusedVariables false
set_option linter.unusedSimpArgs false
namespace Go.AW
open Go
variable {P : Program} {ρ : Ren} {H : AHeap} {F : Frm} {w : World}
theorem objRow {cs : List Value} {arr : Array Value} {k : Nat} {l : Loc} {e : TypeId} {Fh : Nat → Option Obj} (hv : VRs ρ cs arr.toList) (h1 : l.base = 0) (h2 : l.esz = k) (h3 : l.csz = arr.size) (h4 : Fh l.blk = none) :
    ObjAt ρ Fh l (some (.cells arr e)) (.row cs k true) := by
  refine ⟨arr, e, (0, 0), rfl, by rw [h1]; have := hv.1; simp at this; omega, fun i v v' h h' => ?_, fun _ => ⟨h2, h3, by simp, by simp, h4⟩, by simp⟩
  rw [h1, Nat.zero_add] at h'
  exact hv.2 i v v' h (by rw [Array.getElem?_toList]; exact h')
theorem sim_alloc {o : Oper} {T : Tm} {a : Act} {ob : AObj} {mk : Nat → Value} (hE : ∀ x ∈ o.op.operands, VR ρ (aev T x) (a.eval x)) (h : aalloc P T o = some (ob, mk)) :
    ∃ O l v', l.blk = w.heap.size ∧ (execOp a.eval o).run P w = .ok (.value v') (w.alloc O) ∧ (∀ Fh : Nat → Option Obj, Fh l.blk = none → ObjAt ρ Fh l (some O) ob) ∧
      ∀ id, VR (ρ.put id l) (mk id) v' := by
  obtain ⟨dst, op, type, pos, after, guard⟩ := o
  unfold aalloc at h
  simp only at hE h
  cases op <;> simp only [Op.operands] at hE <;> (try simp only [reduceCtorEq] at h) <;> simp only [execOp]
  case alloc e =>
    obtain ⟨z, hz, h1⟩ := Option.bind_eq_some_iff.1 h
    split at h1
    · rename_i hp
      cases h1
      have hzv := (zero_vr (ρ := ρ) hz hp).cells
      refine ⟨.cells z.cells e, ⟨w.heap.size, 0, z.cells.size, z.cells.size⟩, .pointer (some ⟨w.heap.size, 0, none⟩), rfl, ?_, fun Fh hF => objRow hzv rfl rfl rfl hF, fun id => ?_⟩
      · simp [Instr.alloc, run_zeroValue hz, newVar, newRow]
      · have := VR.ptr (ρ := ρ.put id ⟨w.heap.size, 0, z.cells.size, z.cells.size⟩) (off := 0) (Ren.put_same ρ id ⟨w.heap.size, 0, z.cells.size, z.cells.size⟩)
        simpa using this
    · simp at h1
  case box e x =>
    cases h
    have hx := hE x (by simp)
    have hc := hx.cells
    have hs : (a.eval x).cells.size = (aev T x).cells.size := by have := hc.1; simpa using this.symm
    refine ⟨.cells (a.eval x).cells e, ⟨w.heap.size, 0, (aev T x).cells.size, (a.eval x).cells.size⟩, .pointer (some ⟨w.heap.size, 0, none⟩), rfl, ?_, fun Fh hF => objRow hc rfl rfl rfl hF, fun id => ?_⟩
    · simp [Instr.box, newVar, newRow]
    · have := VR.ptr (ρ := ρ.put id ⟨w.heap.size, 0, (aev T x).cells.size, (a.eval x).cells.size⟩) (off := 0) (Ren.put_same _ _ _)
      simpa using this
  case buildSlice t n ps =>
    obtain ⟨e, he, h1⟩ := Option.bind_eq_some_iff.1 h
    obtain ⟨k, hk, h2⟩ := Option.bind_eq_some_iff.1 h1
    obtain ⟨z, hz, h3⟩ := Option.bind_eq_some_iff.1 h2
    clear h h1 h2
    split at h3
    · rename_i hc
      obtain ⟨hc1, hc2, hc3, hc4⟩ := hc
      obtain ⟨cs, hcs, h4⟩ := Option.map_eq_some_iff.1 h3
      cases h4
      have hu : P.underlying t = some (.slice e) := by
        unfold elemT at he; split at he
        · rename_i hu; cases he; exact hu
        · simp at he
      have hzv := (zero_vr (ρ := ρ) hz hc3).cells
      have hinit : VRs ρ ((Array.range (n * k)).map (z.cells[· % z.cells.size]!)).toList ((Array.range (n * k)).map (z.cells[· % z.cells.size]!)).toList := by
        refine ⟨rfl, fun i u u' hu hu' => ?_⟩
        rw [hu] at hu'; cases hu'
        have hi : i < n * k := by
          rcases Nat.lt_or_ge i (n * k) with h | h
          · exact h
          · simp [h] at hu
        have hm : i % z.cells.size < z.cells.size := Nat.mod_lt _ (by omega)
        simp [hi] at hu
        rw [getElem!_pos z.cells _ hm] at hu
        subst hu
        exact hzv.2 (i % z.cells.size) _ _ (by rw [Array.getElem?_toList, Array.getElem?_eq_getElem hm]) (by rw [Array.getElem?_toList, Array.getElem?_eq_getElem hm])
      obtain ⟨cs', g1, g2⟩ := fill_vr (ρ := ρ) (fun i => some (i * k, k)) _ _ _ _ cs (PVR.map (ρ := ρ) (ev := aev T) (ev' := a.eval) (l := ps.toList) fun x hx => hE x (by simpa using hx)) hinit hcs
      have hsz : cs'.size = cs.size := by have := g2.1; simpa using this.symm
      refine ⟨.cells cs' e, ⟨w.heap.size, 0, k, cs'.size⟩, .slice (some ⟨w.heap.size, 0, none⟩) n n, rfl, ?_, fun Fh hF => objRow g2 rfl rfl rfl hF, fun id => ?_⟩
      · have hlim : ¬ (16777216 < n * k) := by omega
        have hmap : (ps.map fun x => (x.1, a.eval x.2)).toList = ps.toList.map fun p => (p.1, a.eval p.2) := by simp
        by_cases hnk : n * k = 0
        · have emp : ∀ f : Nat → Value, (Array.range 0).map f = #[] := fun f => Array.eq_empty_of_size_eq_zero (by simp)
          rw [hnk, emp] at g1
          simp only [Instr.buildSlice, Sem.run_bind, run_underlying hu, run_sizeOf hk, Result.andThen_ok]
          simp [hnk, emp, g1, newRow]
        · simp [Instr.buildSlice, run_underlying hu, run_sizeOf hk, hlim, hnk, run_zeroValue hz, g1, newRow]
      · have hput := Ren.put_same ρ id ⟨w.heap.size, 0, k, cs'.size⟩
        by_cases hn : n = 0
        · subst hn; exact .sliceZ _ _ _
        · simpa using VR.slice (ρ := ρ.put id ⟨w.heap.size, 0, k, cs'.size⟩) (off := 0) (n := n) (c := n) hput (by omega) (Nat.le_refl _)
    · simp at h3
  case makeMap t r =>
    cases r with
    | some r => simp at h
    | none =>
      cases h
      refine ⟨.map #[] 0, ⟨w.heap.size, 0, 0, 0⟩, .map (some w.heap.size), rfl, by simp [Instr.makeMap], fun Fh hF => ⟨rfl, hF, #[], rfl, ERs.nil⟩, fun id => .map (Ren.put_same _ _ _)⟩
  case makeSlice t l c =>
    have hl := hE l (by simp)
    have hc := hE c (by simp)
    split at h
    · rename_i ln cn hln hcn
      rw [hln] at hl
      rw [hcn] at hc
      have hl' : a.eval l = .int .i64 ln := by revert hl; generalize a.eval l = u; intro hl; cases hl; rfl
      have hc' : a.eval c = .int .i64 cn := by revert hc; generalize a.eval c = u; intro hc; cases hc; rfl
      obtain ⟨e, he, h1⟩ := Option.bind_eq_some_iff.1 h
      obtain ⟨i, hi, h2⟩ := Option.bind_eq_some_iff.1 h1
      obtain ⟨z, hz, h3⟩ := Option.bind_eq_some_iff.1 h2
      clear h h1 h2
      split at h3
      · rename_i hq
        obtain ⟨q1, q2, q3, q4, q5, q6, q7⟩ := hq
        cases h3
        have hu : P.underlying t = some (.slice e) := by
          unfold elemT at he; split at he
          · rename_i hu; cases he; exact hu
          · simp at he
        have hzt : zeroT P e = some z := by simp [zeroT, hi, hz]
        have hzv := (zero_vr (ρ := ρ) hzt q7).cells
        have hinit : VRs ρ ((Array.range (cn.toNat * i.size)).map (z.cells[· % z.cells.size]!)).toList ((Array.range (cn.toNat * i.size)).map (z.cells[· % z.cells.size]!)).toList := by
          refine ⟨rfl, fun j u u' hu hu' => ?_⟩
          rw [hu] at hu'; cases hu'
          have hj : j < cn.toNat * i.size := by
            rcases Nat.lt_or_ge j (cn.toNat * i.size) with h | h
            · exact h
            · simp [h] at hu
          have hm : j % z.cells.size < z.cells.size := Nat.mod_lt _ (by omega)
          simp [hj] at hu
          rw [getElem!_pos z.cells _ hm] at hu
          subst hu
          exact hzv.2 (j % z.cells.size) _ _ (by rw [Array.getElem?_toList, Array.getElem?_eq_getElem hm]) (by rw [Array.getElem?_toList, Array.getElem?_eq_getElem hm])
        refine ⟨.cells ((Array.range (cn.toNat * i.size)).map (z.cells[· % z.cells.size]!)) e, ⟨w.heap.size, 0, i.size, cn.toNat * i.size⟩, .slice (some ⟨w.heap.size, 0, none⟩) ln.toNat cn.toNat, rfl, ?_,
          fun Fh hF => objRow hinit rfl rfl (by simp) hF, fun id => ?_⟩
        · have w1 : IntKind.i64.wrap ln = ln := by simp [IntKind.wrap, IntKind.bits, IntKind.signed]; omega
          have w2 : IntKind.i64.wrap cn = cn := by simp [IntKind.wrap, IntKind.bits, IntKind.signed]; omega
          have b1 : ¬ cn < 0 := by omega
          have b2 : ¬ (281474976710656 < (i.bytes : Int) * cn) := by
            have : (i.bytes : Int) * cn ≤ 140737488355328 := by simpa using q3
            omega
          have b3 : ¬ ln < 0 := by omega
          have b4 : ¬ cn < ln := by omega
          simp only [Instr.makeSlice, Sem.run_bind, run_underlying hu, Result.andThen_ok, hl', hc', asInt, asIntOf, Sem.run_pure, run_typeInfo hi, w1, w2]
          simp [b1, b2, b3, b4, run_sizeOf (show szT P e = some i.size by simp [szT, hi])]
          have emp : ∀ f : Nat → Value, (Array.range 0).map f = #[] := fun f => Array.eq_empty_of_size_eq_zero (by simp)
          split
          · rename_i h0
            rw [h0, emp, emp]
            simp [newRow]
          · simp [run_zeroValue hzt, newRow]
        · have hput := Ren.put_same ρ id ⟨w.heap.size, 0, i.size, cn.toNat * i.size⟩
          by_cases hn : cn.toNat = 0
          · rw [show ln.toNat = 0 by omega, hn]; exact .sliceZ _ _ _
          · simpa using VR.slice (ρ := ρ.put id ⟨w.heap.size, 0, i.size, cn.toNat * i.size⟩) (off := 0) (n := ln.toNat) (c := cn.toNat) hput (by omega) (by omega)
      · simp at h3
    · simp at h
end Go.AW
namespace Go.AW
open Go
variable {P : Program} {ρ : Ren} {H : AHeap} {F : Frm} {w : World}
theorem Rel.storeT (hR : Rel ρ H F w) {t : TypeId} {x x' y y' : Value} {H' : AHeap} (hx : VR ρ x x') (hy : VR ρ y y') (h : astoreT P H t x y = some H') :
    ∃ w', (Instr.storeAt t x' y').run P w = .ok () w' ∧ Rel ρ H' F w' ∧ H'.length = H.length := by
  unfold astoreT at h
  split at h
  · rename_i a
    obtain ⟨n, hn, h1⟩ := Option.bind_eq_some_iff.1 h
    split at h1
    · rename_i hs
      have hsp : a.spot = none := by
        unfold astore at h1; split at h1
        · assumption
        · simp at h1
      obtain ⟨l, hl, rfl⟩ := ptr_inv hx hsp
      have hc := hy.cells
      have hsz : y'.cells.size = n := by have := hc.1; simp at this; omega
      obtain ⟨ab, ao, asx9⟩ := a
      simp only at hsp hl; subst hsp
      obtain ⟨w', h3, h4, h5⟩ := hR.store P hl hc h1
      exact ⟨w', by simp [Instr.storeAt, Instr.sureAddr, storeVar, run_sizeOf hn, hsz]; exact h3, h4, h5⟩
    · simp at h1
  · simp at h
theorem mapT_und {t kt e : TypeId} (h : mapT P t = some (kt, e)) : P.underlying t = some (.map kt e) := by
  unfold mapT at h
  split at h
  · rename_i hu; cases h; exact hu
  · simp at h
theorem setObj_run {b : Nat} {o o2 : Obj} (h : w.heap[b]? = some o) (hn : ∀ c e f, o ≠ .cells c e f) : (Go.setObj b o2).run P w = .ok () { w with heap := w.heap.setIfInBounds b o2 } := by
  simp only [Go.setObj, Sem.run, h]
theorem ERs.modify {l l' : List MapEntry} (h : ERs ρ l l') (i : Nat) {f g : MapEntry → MapEntry} (hfg : ∀ e e', ER ρ e e' → ER ρ (f e) (g e')) : ERs ρ (l.modify i f) (l'.modify i g) := by
  refine ⟨by simp [h.1], fun j u u' hu hu' => ?_⟩
  rw [List.getElem?_modify] at hu hu'
  by_cases e : i = j
  · subst e
    simp at hu hu'
    obtain ⟨x, hx, rfl⟩ := hu
    obtain ⟨x', hx', rfl⟩ := hu'
    exact hfg _ _ (h.2 _ _ _ hx hx')
  · simp [e] at hu hu'
    exact h.2 j u u' hu hu'
theorem ERs.push {l l' : List MapEntry} (h : ERs ρ l l') {e e' : MapEntry} (he : ER ρ e e') : ERs ρ (l ++ [e]) (l' ++ [e']) := by
  refine ⟨by simp [h.1], fun j u u' hu hu' => ?_⟩
  by_cases hj : j < l.length
  · rw [List.getElem?_append_left hj] at hu
    rw [List.getElem?_append_left (by rw [← h.1]; exact hj)] at hu'
    exact h.2 j u u' hu hu'
  · rw [List.getElem?_append_right (by omega)] at hu
    rw [List.getElem?_append_right (by rw [← h.1]; omega), ← h.1] at hu'
    have : j - l.length = 0 := by
      rcases Nat.eq_zero_or_pos (j - l.length) with q | q
      · exact q
      · rw [List.getElem?_eq_none (by simp; omega)] at hu; simp at hu
    rw [this] at hu hu'
    simp at hu hu'
    subst hu hu'; exact he
theorem ERs.erase {l l' : List MapEntry} (h : ERs ρ l l') (i : Nat) : ERs ρ (l.eraseIdx i) (l'.eraseIdx i) := by
  refine ⟨by simp [List.length_eraseIdx, h.1], fun j u u' hu hu' => ?_⟩
  rw [List.getElem?_eraseIdx] at hu hu'
  split at hu
  · rename_i q; rw [if_pos q] at hu'; exact h.2 _ _ _ hu hu'
  · rename_i q; rw [if_neg q] at hu'; exact h.2 _ _ _ hu hu'
theorem ERs.get {l l' : List MapEntry} (h : ERs ρ l l') (i : Nat) : (l'[i]?).map (·.key) = (l[i]?).map (·.key) ∧ (l'[i]?).map (·.born) = (l[i]?).map (·.born) := by
  rcases Nat.lt_or_ge i l.length with q | q
  · have h1 := List.getElem?_eq_getElem q
    have h2 := List.getElem?_eq_getElem (show i < l'.length by rw [← h.1]; exact q)
    have := h.2 i _ _ h1 h2
    rw [h1, h2]; simp [this.key, this.born]
  · rw [List.getElem?_eq_none q, List.getElem?_eq_none (by rw [← h.1]; exact q)]; simp
theorem keyStays {old new : Value} (h : Instr.sameBits 10000 old new = true) : (Instr.keyThatStays old new).run P w = .ok new w := by
  simp [Instr.keyThatStays, h]
structure MapAt (ρ : Ren) (H : AHeap) (w : World) (r : Nat) (es : Array MapEntry) (ck : Nat) (l : Loc) (es' : Array MapEntry) : Prop where
  loc : ρ r = some l
  obj : H[r]? = some (.map es ck)
  blk : w.heap[l.blk]? = some (.map es' ck)
  ers : ERs ρ es.toList es'.toList
  base : l.base = 0
theorem Rel.mapAt (hR : Rel ρ H F w) {r : Nat} {m' : Value} {es : Array MapEntry} {ck : Nat} (hm : VR ρ (.map (some r)) m') (h : H[r]? = some (.map es ck)) :
    ∃ l es', m' = .map (some l.blk) ∧ MapAt ρ H w r es ck l es' := by
  cases hm with
  | map hl =>
    obtain ⟨hb, _, es', h1, h2⟩ := hR.obj _ _ _ hl h
    exact ⟨_, es', rfl, hl, h, h1, h2, hb⟩
theorem MapAt.turn (hR : Rel ρ H F w) {r : Nat} {es es2 es2' : Array MapEntry} {ck ck2 : Nat} {l : Loc} {es' : Array MapEntry} (h : MapAt ρ H w r es ck l es') (hE : ERs ρ es2.toList es2'.toList) :
    (Go.setObj l.blk (.map es2' ck2)).run P w = .ok () { w with heap := w.heap.setIfInBounds l.blk (.map es2' ck2) } ∧ Rel ρ (H.set r (.map es2 ck2)) F { w with heap := w.heap.setIfInBounds l.blk (.map es2' ck2) } := by
  refine ⟨setObj_run h.blk (by simp), hR.turn h.loc h.obj rfl ⟨h.base, ?_, es2', rfl, hE⟩⟩
  exact (hR.obj _ _ _ h.loc h.obj).free rfl
theorem FR.cases {r r2 : Option (Nat × Value)} (h : FR ρ r r2) : (r = none ∧ r2 = none) ∨ ∃ i v v', r = some (i, v) ∧ r2 = some (i, v') ∧ VR ρ v v' := by
  cases r with
  | none => cases r2 with
    | none => exact .inl ⟨rfl, rfl⟩
    | some _ => exact h.elim
  | some x => cases r2 with
    | none => exact h.elim
    | some y => obtain ⟨i, v⟩ := x; obtain ⟨j, u⟩ := y; obtain ⟨rfl, h2⟩ := h; exact .inr ⟨_, _, _, rfl, rfl, h2⟩
theorem run_amapPut (hR : Rel ρ H F w) {t : TypeId} {m m' k k' x x' : Value} {H' : AHeap} (hm : VR ρ m m') (hk : VR ρ k k') (hx : VR ρ x x') (h : amapPut P H t m k x = some H') :
    ∃ w', (Instr.mapUpdate t m' k' x').run P w = .ok () w' ∧ Rel ρ H' F w' ∧ H'.length = H.length := by
  unfold amapPut at h
  obtain ⟨⟨kt, e⟩, hmt, h1⟩ := Option.bind_eq_some_iff.1 h
  clear h
  dsimp only at h1
  have hu := mapT_und hmt
  split at h1
  · rename_i r
    split at h1
    · rename_i es ck hr
      split at h1
      · rename_i hko
        obtain ⟨l, es', rfl, hM⟩ := hR.mapAt hm hr
        simp only [keyOk, Bool.and_eq_true] at hko
        obtain rfl := (plain_refl 100 k hko.2).2 _ hk
        obtain ⟨q, hq, h2⟩ := Option.bind_eq_some_iff.1 h1
        obtain ⟨d, hd⟩ := acheck_und hko.1
        obtain ⟨q2, g1, g2⟩ := run_afind (w := w) hd hko.2 hM.ers hq
        have hchk := run_acheck (P := P) (w := w) false 100 kt k' hko.1 10000 (by omega)
        have hg := run_getObj (P := P) hM.blk (by simp)
        rcases g2.cases with ⟨rfl, rfl⟩ | ⟨i, v, v', rfl, rfl, hv⟩
        · simp only [Option.some.injEq] at h2; subst h2
          obtain ⟨s1, s2⟩ := hM.turn (P := P) (es2 := es.push { key := k', val := x, born := ck }) (es2' := es'.push { key := k', val := x', born := ck }) (ck2 := ck + 1) hR
            (by simp only [Array.toList_push]; exact hM.ers.push ⟨hko.2, rfl, hx, rfl⟩)
          exact ⟨_, by simp only [Instr.mapUpdate, Sem.run_bind, run_underlying hu, Result.andThen_ok, hg, hchk, g1]; exact s1, s2, by simp⟩
        · simp only at h2
          split at h2
          · rename_i hsb
            simp only [Option.some.injEq] at h2; subst h2
            have hkey : ((es'[i]?).map (·.key)).getD k' = ((es[i]?).map (·.key)).getD k' := by
              have := (hM.ers.get i).1
              rw [Array.getElem?_toList, Array.getElem?_toList] at this
              rw [this]
            have hst := keyStays (P := P) (w := w) (hkey ▸ hsb)
            obtain ⟨s1, s2⟩ := hM.turn (P := P) (es2 := es.modify i fun e => { e with key := k', val := x }) (es2' := es'.modify i fun e => { e with key := k', val := x' }) (ck2 := ck) hR
              (by simp only [Array.toList_modify]; exact hM.ers.modify i fun e e' he => ⟨hko.2, rfl, hx, he.born⟩)
            exact ⟨_, by simp only [Instr.mapUpdate, Sem.run_bind, run_underlying hu, Result.andThen_ok, hg, hchk, g1, hst]; exact s1, s2, by simp⟩
          · simp at h2
      · simp at h1
    · simp at h1
  · simp at h1
theorem run_amapEntry (hR : Rel ρ H F w) {t : TypeId} {m m' k k' v : Value} {H' : AHeap} (hm : VR ρ m m') (hk : VR ρ k k') (h : amapEntry P H t m k = some (v, H')) :
    ∃ v' w', (Instr.mapEntry t m' k').run P w = .ok v' w' ∧ Rel ρ H' F w' ∧ H'.length = H.length ∧ VR ρ v v' := by
  unfold amapEntry at h
  obtain ⟨⟨kt, e⟩, hmt, h1⟩ := Option.bind_eq_some_iff.1 h
  clear h
  dsimp only at h1
  have hu := mapT_und hmt
  split at h1
  · rename_i r
    split at h1
    · rename_i es ck hr
      split at h1
      · rename_i hko
        obtain ⟨l, es', rfl, hM⟩ := hR.mapAt hm hr
        simp only [keyOk, Bool.and_eq_true] at hko
        obtain rfl := (plain_refl 100 k hko.2).2 _ hk
        obtain ⟨q, hq, h2⟩ := Option.bind_eq_some_iff.1 h1
        obtain ⟨d, hd⟩ := acheck_und hko.1
        obtain ⟨q2, g1, g2⟩ := run_afind (w := w) hd hko.2 hM.ers hq
        have hchk := run_acheck (P := P) (w := w) false 100 kt k' hko.1 10000 (by omega)
        have hg := run_getObj (P := P) hM.blk (by simp)
        rcases g2.cases with ⟨rfl, rfl⟩ | ⟨i, u, u', rfl, rfl, hv⟩
        · simp only at h2
          obtain ⟨z, hz, h3⟩ := Option.bind_eq_some_iff.1 h2
          split at h3
          · rename_i hp
            cases h3
            have hzv := zero_vr (ρ := ρ) hz hp
            obtain ⟨s1, s2⟩ := hM.turn (P := P) (es2 := es.push { key := k', val := z, born := ck }) (es2' := es'.push { key := k', val := z, born := ck }) (ck2 := ck + 1) hR
              (by simp only [Array.toList_push]; exact hM.ers.push ⟨hko.2, rfl, hzv, rfl⟩)
            exact ⟨_, _, by simp only [Instr.mapEntry, Sem.run_bind, run_underlying hu, Result.andThen_ok, hg, hchk, g1, run_zeroValue hz, s1]; rfl, s2, by simp, VR.tuple' (VRs.cons hzv (VRs.cons (.int _ _) VRs.nil))⟩
          · simp at h3
        · simp only at h2
          split at h2
          · rename_i hsb
            simp only [Option.some.injEq, Prod.mk.injEq] at h2
            obtain ⟨rfl, rfl⟩ := h2
            have hkey : ((es'[i]?).map (·.key)).getD k' = ((es[i]?).map (·.key)).getD k' := by
              have := (hM.ers.get i).1
              rw [Array.getElem?_toList, Array.getElem?_toList] at this
              rw [this]
            have hborn : ((es'[i]?).map fun x => (x.born : Int)).getD 0 = ((es[i]?).map fun x => (x.born : Int)).getD 0 := by
              have := congrArg (fun o => (o.map fun (n : Nat) => (n : Int)).getD 0) (hM.ers.get i).2
              rw [Array.getElem?_toList, Array.getElem?_toList] at this
              simpa [Function.comp_def] using this
            have hst := keyStays (P := P) (w := w) (hkey ▸ hsb)
            obtain ⟨s1, s2⟩ := hM.turn (P := P) (es2 := es.modify i fun e => { e with key := k' }) (es2' := es'.modify i fun e => { e with key := k' }) (ck2 := ck) hR
              (by simp only [Array.toList_modify]; exact hM.ers.modify i fun e e' he => ⟨hko.2, rfl, he.val, he.born⟩)
            exact ⟨_, _, by simp only [Instr.mapEntry, Sem.run_bind, run_underlying hu, Result.andThen_ok, hg, hchk, g1, hst, s1]; rfl, s2, by simp, by
              rw [hborn]; exact VR.tuple' (VRs.cons hv (VRs.cons (.int _ _) VRs.nil))⟩
          · simp at h2
      · simp at h1
    · simp at h1
  · simp at h1
theorem run_aentryStore (hR : Rel ρ H F w) {t : TypeId} {m m' s s' x x' : Value} {H' : AHeap} (hm : VR ρ m m') (hs : VR ρ s s') (hx : VR ρ x x') (h : aentryStore H m s x = some H') :
    ∃ w', (Instr.entryStore t m' s' x').run P w = .ok () w' ∧ Rel ρ H' F w' ∧ H'.length = H.length := by
  unfold aentryStore at h
  split at h
  · rename_i r k n
    split at h
    · rename_i es ck hr
      obtain ⟨l, es', rfl, hM⟩ := hR.mapAt hm hr
      cases hs
      obtain ⟨i, hi, rfl⟩ := Option.map_eq_some_iff.1 h
      have hg := run_getObj (P := P) hM.blk (by simp)
      have hi' : es'.findIdx? (fun e => (e.born : Int) == n) = some i := by
        have hA : ∀ a : Array MapEntry, a.findIdx? (fun e => (e.born : Int) == n) = a.toList.findIdx? (fun e => (e.born : Int) == n) := fun ⟨l⟩ => by simp
        rw [hA] at hi ⊢
        have : ∀ (a b : List MapEntry), ERs ρ a b → b.findIdx? (fun e => (e.born : Int) == n) = a.findIdx? (fun e => (e.born : Int) == n) := by
          intro a
          induction a with
          | nil => intro b h; cases b with
            | nil => rfl
            | cons => have := h.1; simp at this
          | cons x a ih =>
            intro b hab
            obtain ⟨x', b', rfl, hx, hb⟩ := hab.inv
            simp only [List.findIdx?_cons, hx.born, ih _ hb]
        rw [this _ _ hM.ers]; exact hi
      obtain ⟨s1, s2⟩ := hM.turn (P := P) (es2 := es.modify i fun e => { e with val := x }) (es2' := es'.modify i fun e => { e with val := x' }) (ck2 := ck) hR
        (by simp only [Array.toList_modify]; exact hM.ers.modify i fun e e' he => ⟨he.plain, he.key, hx, he.born⟩)
      exact ⟨_, by simp only [Instr.entryStore, Sem.run_bind, Result.andThen_ok, hg, asInt, asIntOf, Sem.run_pure, hi', s1], s2, by simp⟩
    · simp at h
  · simp at h
theorem run_adelete (hR : Rel ρ H F w) {t ty : TypeId} {ts : Array TypeId} (ht : ts[0]? = some t) {m m' k k' : Value} {H' : AHeap} (hm : VR ρ m m') (hk : VR ρ k k') (h : adelete P H t m k = some H') :
    ∃ w', (Builtin.delete_ ts ty #[m', k']).run P w = .ok (.tuple #[]) w' ∧ Rel ρ H' F w' ∧ H'.length = H.length := by
  unfold adelete at h
  obtain ⟨⟨kt, e⟩, hmt, h1⟩ := Option.bind_eq_some_iff.1 h
  clear h
  dsimp only at h1
  have hu := mapT_und hmt
  split at h1
  · rename_i hko
    simp only [keyOk, Bool.and_eq_true] at hko
    obtain rfl := (plain_refl 100 k hko.2).2 _ hk
    split at h1
    · cases hm; cases h1
      have hchk := run_acheck (P := P) (w := w) true 100 kt k' hko.1 10000 (by omega)
      exact ⟨w, by simp [Builtin.delete_, ht, run_underlying hu, hchk], hR, rfl⟩
    · rename_i r
      split at h1
      · rename_i es ck hr
        obtain ⟨l, es', rfl, hM⟩ := hR.mapAt hm hr
        obtain ⟨q, hq, h2⟩ := Option.bind_eq_some_iff.1 h1
        obtain ⟨d, hd⟩ := acheck_und hko.1
        obtain ⟨q2, g1, g2⟩ := run_afind (w := w) hd hko.2 hM.ers hq
        have hchk := run_acheck (P := P) (w := w) es'.isEmpty 100 kt k' hko.1 10000 (by omega)
        have hg := run_getObj (P := P) hM.blk (by simp)
        rcases g2.cases with ⟨rfl, rfl⟩ | ⟨i, u, u', rfl, rfl, hv⟩
        · simp only [Option.some.injEq] at h2; subst h2
          obtain ⟨s1, s2⟩ := hM.turn (P := P) (es2 := es) (es2' := es') (ck2 := ck) hR hM.ers
          exact ⟨_, by simp [Builtin.delete_, ht, run_underlying hu, hg, hchk, g1, s1], s2, by simp⟩
        · simp only [Option.some.injEq] at h2; subst h2
          obtain ⟨s1, s2⟩ := hM.turn (P := P) (es2 := es.eraseIdxIfInBounds i) (es2' := es'.eraseIdxIfInBounds i) (ck2 := ck) hR (by simp; exact hM.ers.erase i)
          exact ⟨_, by simp [Builtin.delete_, ht, run_underlying hu, hg, hchk, g1, s1], s2, by simp⟩
      · simp at h1
    · simp at h1
  · simp at h1
end Go.AW
namespace Go.AW
open Go
variable {P : Program} {ρ : Ren} {H : AHeap} {F : Frm} {w : World}
theorem elemT_und {t e : TypeId} (h : elemT P t = some e) : P.underlying t = some (.slice e) := by
  unfold elemT at h
  split at h
  · rename_i hu; cases h; exact hu
  · simp at h
theorem byteVals_eq (s : ByteArray) : byteVals s = byteCells s := rfl
theorem byteVals_vr (s : ByteArray) : VRs ρ (byteVals s) (byteVals s) := by
  refine ⟨rfl, fun i u u' hu hu' => ?_⟩
  rw [hu] at hu'; cases hu'
  unfold byteVals at hu
  rw [List.getElem?_map] at hu
  obtain ⟨b, _, rfl⟩ := Option.map_eq_some_iff.1 hu
  exact .int _ _
theorem run_asrc (hR : Rel ρ H F w) {k : Nat} {tx : TypeId} {x x' : Value} {n : Nat} {cs : List Value} (hx : VR ρ x x') (h : asrc P H k tx x = some (n, cs)) :
    ∃ cs', VRs ρ cs cs' ∧ Src P k tx x' n cs' w ∧ ∀ m, m ≤ n → (Builtin.firstCells k m x').run P w = .ok (cs'.take (m * k)).toArray w := by
  unfold asrc at h
  split at h
  · rename_i hu
    cases hx; cases h
    exact ⟨[], VRs.nil, Src.ofNil w hu 0, fun m hm => by simp [Builtin.firstCells]⟩
  · rename_i a n0 c hu
    split at h
    · rename_i hn; subst hn; cases h
      have : ∃ a' c', x' = .slice (some a') 0 c' := by cases hx <;> exact ⟨_, _, rfl⟩
      obtain ⟨a', c', rfl⟩ := this
      exact ⟨[], VRs.nil, Src.ofSlice w hu a' 0 c' [] (by simp) (by simp) (by simp), fun m hm => by
        have : m = 0 := by omega
        subst this; exact run_firstCells_some w k 0 a' 0 c' _ (by simp) (by simp)⟩
    · rename_i hn
      obtain ⟨cs0, hcs, h2⟩ := Option.bind_eq_some_iff.1 h
      split at h2
      · rename_i hone
        cases h2
        have hs : a.spot = none := by
          unfold aload at hcs
          split at hcs
          · assumption
          · simp at hcs
        obtain ⟨l, c', hl, rfl, _, _⟩ := slice_inv hx hs (by omega)
        obtain ⟨ab, ao, asx9⟩ := a
        simp only at hs hl; subst hs
        obtain ⟨cs', h3, h4, h5⟩ := hR.row hl hcs
        refine ⟨cs', h3, Src.ofSlice w hu _ n c' cs' h4 h5 fun u hu => ?_, fun m hm => run_firstCells_some w k m _ n c' _ (by rw [List.length_take, h4, Nat.min_eq_left (Nat.mul_le_mul_right _ hm)]) fun j u hu => ?_⟩
        rotate_left
        · rw [List.getElem?_take] at hu
          split at hu
          · exact h5 j u hu
          · simp at hu
        obtain ⟨j, hj⟩ := List.getElem?_of_mem hu
        have hj' : j < cs.length := by
          rw [h3.1]
          rcases Nat.lt_or_ge j cs'.length with h | h
          · exact h
          · simp [List.getElem?_eq_none h] at hj
        have := (h3.2 j cs[j] u (List.getElem?_eq_getElem hj') hj).oneCell
        rw [← this]
        exact List.all_eq_true.1 hone _ (List.getElem_mem hj')
      · simp at h2
  · rename_i s hu
    split at h
    · rename_i hk; subst hk
      cases hx; cases h
      refine ⟨byteVals s, byteVals_vr s, Src.ofString w hu s, fun m hm => ?_⟩
      simp only [Builtin.firstCells, Sem.run_pure, Nat.mul_one]
      congr 1
      apply Array.ext'
      obtain ⟨⟨l⟩⟩ := s
      simp [byteVals, ByteArray.extract, ByteArray.copySlice, List.map_take]
    · simp at h
  · simp at h
theorem Rel.move (hR : Rel ρ H F w) {id off k : Nat} {l : Loc} {cs : List Value} (hl : ρ id = some l) (h : H[id]? = some (.row cs k true)) (ho : off ≤ cs.length) :
    Rel (ρ.put H.length { l with base := l.base + off }) ((H.set id .gone) ++ [.row (cs.drop off) k true]) F w ∧ Ext H ρ (ρ.put H.length { l with base := l.base + off }) := by
  have hlt : id < H.length := hR.dom _ _ hl
  have hn : ρ H.length = none := by
    cases hr : ρ H.length with
    | none => rfl
    | some m => have := hR.dom _ _ hr; omega
  have hle := Ren.put_le (ρ := ρ) (id := H.length) { l with base := l.base + off } hn
  have hob := hR.obj _ _ _ hl h
  have old : ∀ i p, i ≠ H.length → ((H.set id .gone) ++ [AObj.row (cs.drop off) k true])[i]? = some p → (i = id ∧ p = .gone) ∨ (i ≠ id ∧ H[i]? = some p) := fun i p hi hp => by
    by_cases hil : i < H.length
    · rw [List.getElem?_append_left (by simpa using hil)] at hp
      by_cases e : i = id
      · subst e; rw [List.getElem?_set_self hlt] at hp; cases hp; exact .inl ⟨rfl, rfl⟩
      · rw [List.getElem?_set_ne (Ne.symm e)] at hp; exact .inr ⟨e, hp⟩
    · rw [List.getElem?_eq_none (by simp; omega)] at hp; simp at hp
  have new : ∀ p, ((H.set id .gone) ++ [AObj.row (cs.drop off) k true])[H.length]? = some p → p = .row (cs.drop off) k true := fun p hp => by
    rw [List.getElem?_append_right (by simp)] at hp
    simp at hp; exact hp.symm
  refine ⟨⟨fun i m hm => ?_, hR.frm, fun i m p hm hp => ?_, fun i j m n p q hm hn' hp hq hij h1 h2 => ?_⟩, fun i hi => Ren.put_other _ _ (by omega)⟩
  · by_cases e : i = H.length
    · subst e; simp
    · rw [Ren.put_other _ _ e] at hm
      have := hR.dom i m hm; simp; omega
  · by_cases e : i = H.length
    · subst e
      rw [Ren.put_same] at hm; cases hm
      obtain rfl := new p hp
      obtain ⟨arr, e', fz, g1, g2, g3, g4, _⟩ := hob
      refine ⟨arr, e', fz, g1, by simp; omega, fun j v v' hv hv' => (g3 (off + j) v v' (by simpa using hv) (by rw [← hv']; simp only [Nat.add_assoc])).mono hle, fun _ => g4 rfl, by simp⟩
    · rw [Ren.put_other _ _ e] at hm
      rcases old i p e hp with ⟨_, rfl⟩ | ⟨_, hp'⟩
      · trivial
      · exact (hR.obj i m p hm hp').mono hle
  · by_cases ei : i = H.length
    · subst ei
      rw [Ren.put_same] at hm; cases hm
      rw [Ren.put_other _ _ (Ne.symm hij)] at hn'
      rcases old j q (Ne.symm hij) hq with ⟨_, rfl⟩ | ⟨hne, hq'⟩
      · simp [isOwn] at h2
      · exact hR.sep id j l n _ q hl hn' h hq' (Ne.symm hne) rfl h2
    · rw [Ren.put_other _ _ ei] at hm
      by_cases ej : j = H.length
      · subst ej
        rw [Ren.put_same] at hn'; cases hn'
        rcases old i p ei hp with ⟨_, rfl⟩ | ⟨hne, hp'⟩
        · simp [isOwn] at h1
        · exact hR.sep i id m l p _ hm hl hp' h hne h1 rfl
      · rw [Ren.put_other _ _ ej] at hn'
        rcases old i p ei hp with ⟨_, rfl⟩ | ⟨_, hp'⟩
        · simp [isOwn] at h1
        · rcases old j q ej hq with ⟨_, rfl⟩ | ⟨_, hq'⟩
          · simp [isOwn] at h2
          · exact hR.sep i j m n p q hm hn' hp' hq' hij h1 h2
theorem rowOf_spec {id k : Nat} (h : rowOf H id k = true) : ∃ cs, H[id]? = some (.row cs k true) := by
  unfold rowOf at h
  split at h
  · rename_i cs k' hr; exact ⟨cs, by rw [hr]; simp at h; rw [h]⟩
  · simp at h
theorem aload_spec {id off n : Nat} {cs : List Value} (h : aload H ⟨id, off, none⟩ n = some cs) : ∃ full k own, H[id]? = some (.row full k own) ∧ off + n ≤ full.length ∧ cs = (full.drop off).take n := by
  unfold aload at h
  simp only at h
  split at h
  · rename_i full k own _ hr
    split at h
    · rename_i hlen; cases h; exact ⟨full, k, own, hr, hlen, rfl⟩
    · simp at h
  · simp at h
theorem Rel.grown (hR : Rel ρ H F w) {cs cs' zs : List Value} (hv : VRs ρ cs cs') {e : TypeId} {k c n : Nat} (hn : n ≤ c) (hc : c * k ≤ cs'.length + zs.length) :
    ∃ ρ', Rel ρ' (H ++ [.row cs k true]) F (w.drew.alloc (.cells (cs' ++ zs).toArray e)) ∧ Ext H ρ ρ' ∧ VR ρ' (.slice (some ⟨H.length, 0, none⟩) n 0) (.slice (some ⟨w.heap.size, 0, none⟩) n c) := by
  have hD : Rel ρ H F w.drew := hR.drew 1
  obtain ⟨h1, h2⟩ := hD.new (l := ⟨w.drew.heap.size, 0, k, (cs' ++ zs).length⟩) (o := .row cs k true) (O := .cells (cs' ++ zs).toArray e) rfl fun hF => by
    refine ⟨(cs' ++ zs).toArray, e, (0, 0), rfl, by have := hv.1; simp; omega, fun i v v' hvi hvi' => ?_, fun _ => ⟨rfl, by simp, by simp, by simp, hF⟩, by simp⟩
    have hi : i < cs'.length := by
      rw [← hv.1]
      rcases Nat.lt_or_ge i cs.length with h | h
      · exact h
      · simp [List.getElem?_eq_none h] at hvi
    simp at hvi'
    rw [List.getElem?_append_left hi] at hvi'
    exact hv.2 i v v' hvi hvi'
  refine ⟨_, h1, h2, ?_⟩
  have := VR.sliceU (ρ := ρ.put H.length ⟨w.drew.heap.size, 0, k, (cs' ++ zs).length⟩) (id := H.length) (off := 0) (n := n) (c' := c) (Ren.put_same _ _ _) hn (by simp; omega)
  simpa using this
theorem run_aappend0 (hR : Rel ρ H F w) {st xt ty : TypeId} {s s' x x' v : Value} {H' : AHeap} (hs : VR ρ s s') (hx : VR ρ x x') (h : aappend0 P H st xt s x = some (v, H')) :
    ∃ v' w' ρ', (Builtin.append_ #[st, xt] ty #[s', x']).run P w = .ok v' w' ∧ Rel ρ' H' F w' ∧ Ext H ρ ρ' ∧ H.length ≤ H'.length ∧ VR ρ' v v' := by
  unfold aappend0 at h
  obtain ⟨e, he, h1⟩ := Option.bind_eq_some_iff.1 h
  obtain ⟨i, hi, h2⟩ := Option.bind_eq_some_iff.1 h1
  obtain ⟨z, hz, h3⟩ := Option.bind_eq_some_iff.1 h2
  obtain ⟨⟨n, news⟩, hsrc, h4⟩ := Option.bind_eq_some_iff.1 h3
  clear h h1 h2 h3
  dsimp only at h4
  have hu := elemT_und he
  obtain ⟨news', hnv, hS, _⟩ := run_asrc hR hx hsrc
  split at h4
  · rename_i base len c
    split at h4
    · rename_i hq
      obtain ⟨q1, q2, q3, q4⟩ := hq
      have hlen' : news'.length = n * i.size := hS.newsLen
      have hlen : news.length = n * i.size := by rw [hnv.1]; exact hlen'
      have q3' : (len + n) * i.bytes ≤ 140737488355328 := by simpa using q3
      -- the arm that makes a new row
      have grow : ∀ (b' : Option Addr) (c' : Nat) (old old' : List Value), c' < len + n → s' = .slice b' len c' → VRs ρ old old' → old'.length = len * i.size →
          (Builtin.firstCells i.size len (.slice b' len c')).run P w.drew = .ok old'.toArray w.drew →
          ∃ v' w' ρ', (Builtin.append_ #[st, xt] ty #[s', x']).run P w = .ok v' w' ∧ Rel ρ' (H ++ [.row (old ++ news) i.size true]) F w' ∧ Ext H ρ ρ' ∧ VR ρ' (.slice (some ⟨H.length, 0, none⟩) (len + n) 0) v' := by
        intro b' c' old old' hc hs' hov hol hfc
        have hrun := run_append_grow_src (P := P) w st xt ty e i z hu hi hz b' len c' old' hfc x' n news' hS hc (by omega) (growslice_fits hc q3')
        have hge : len + n ≤ grownCap w (len + n) c' e := by simp [grownCap, Question.cut]
        obtain ⟨ρ', g1, g2, g3⟩ := hR.grown (hov.app hnv) (e := e) (k := i.size) (c := grownCap w (len + n) c' e) (n := len + n)
          (zs := (Builtin.zeroCells z.cells (grownCap w (len + n) c' e - (len + n))).toList) hge (by
            have hz2 : (Builtin.zeroCells z.cells (grownCap w (len + n) c' e - (len + n))).toList.length = (grownCap w (len + n) c' e - (len + n)) * i.size := by simp [Builtin.zeroCells, q2]
            rw [hz2, List.length_append, hol, hlen', ← Nat.add_mul, ← Nat.add_mul]
            apply Nat.mul_le_mul_right; omega)
        have harr : ((old' ++ news').toArray ++ Builtin.zeroCells z.cells (grownCap w (len + n) c' e - (len + n))) = ((old' ++ news') ++ (Builtin.zeroCells z.cells (grownCap w (len + n) c' e - (len + n))).toList).toArray := by
          apply Array.ext'; simp
        refine ⟨_, _, ρ', by rw [hs']; exact hrun, by rw [harr]; exact g1, g2, g3⟩
      split at h4
      · -- nothing is appended
        rename_i hn0
        subst hn0
        cases h4
        have hnews : news' = [] := by have := hlen'; simp at this; exact this
        subst hnews
        have hrun : ∀ b' c', s' = .slice b' len c' → len ≤ c' → (Builtin.append_ #[st, xt] ty #[s', x']).run P w = .ok s' w := fun b' c' e1 e2 => by
          subst e1; exact run_append_nothing (P := P) w st xt ty e i hu hi b' len c' e2 x' hS
        refine ⟨s', w, ρ, ?_, hR, Ext.refl _ _, Nat.le_refl _, hs⟩
        cases hs with
        | sliceNil => exact hrun _ _ rfl (Nat.le_refl _)
        | slice hl hc hn => exact hrun _ _ rfl hn
        | sliceU hl hn hb => exact hrun _ _ rfl hn
        | sliceZ id off a' => exact hrun _ _ rfl (Nat.le_refl _)
        | sliceE a' => exact hrun _ _ rfl (Nat.le_refl _)
      · rename_i hn0
        cases base with
        | none =>
          simp only [Option.some.injEq, Prod.mk.injEq] at h4
          obtain ⟨rfl, rfl⟩ := h4
          cases hs
          obtain ⟨v', w', ρ', g1, g2, g3, g4⟩ := grow none 0 [] [] (by omega) rfl VRs.nil (by simp) (run_firstCells_none w.drew i.size 0 0 0)
          exact ⟨v', w', ρ', g1, by simpa using g2, g3, by simp, by simpa using g4⟩
        | some ad =>
          simp only at h4
          split at h4
          · -- an empty one of capacity 0
            rename_i hsp
            split at h4
            · rename_i hl0; subst hl0
              simp only [Option.some.injEq, Prod.mk.injEq] at h4
              obtain ⟨rfl, rfl⟩ := h4
              have : ∃ a', s' = .slice (some a') 0 0 := by
                cases hs with
                | slice hl hc hn => simp at hsp
                | sliceU hl hn hb => simp at hsp
                | sliceZ id off a' => simp at hsp
                | sliceE a' => exact ⟨a', rfl⟩
              obtain ⟨a', rfl⟩ := this
              obtain ⟨v', w', ρ', g1, g2, g3, g4⟩ := grow (some a') 0 [] [] (by omega) rfl VRs.nil (by simp) (run_firstCells_some w.drew i.size 0 a' 0 0 [] (by simp) (by simp))
              exact ⟨v', w', ρ', g1, by simpa using g2, g3, by simp, by simpa using g4⟩
            · simp at h4
          · rename_i hsp
            have hsp' : ad.spot = none := by simpa using hsp
            obtain ⟨ab, ao, asx9⟩ := ad
            simp only at hsp'; subst hsp'
            -- the old cells
            have olds : ∀ old, aload H ⟨ab, ao, none⟩ (len * i.size) = some old → ∀ l c', ρ ab = some l → s' = .slice (some ⟨l.blk, l.base + ao, none⟩) len c' →
                ∃ old', VRs ρ old old' ∧ old'.length = len * i.size ∧ (Builtin.firstCells i.size len s').run P w.drew = .ok old'.toArray w.drew := fun old ho l c' hl hs' => by
              obtain ⟨old', k1, k2, k3⟩ := hR.row hl ho
              refine ⟨old', k1, k2, ?_⟩
              rw [hs']
              exact run_firstCells_some w.drew i.size len _ len c' old' k2 (by simpa using k3)
            split at h4
            · -- the capacity is not known
              rename_i hc0
              split at h4
              · rename_i hrow
                obtain ⟨old, ho, h5⟩ := Option.bind_eq_some_iff.1 h4
                simp only [Option.some.injEq, Prod.mk.injEq] at h5
                obtain ⟨rfl, rfl⟩ := h5
                subst hc0
                -- whatever grows: the old object is gone
                have fin : ∀ l c', ρ ab = some l → s' = .slice (some ⟨l.blk, l.base + ao, none⟩) len c' → c' < len + n →
                    ∃ v' w' ρ', (Builtin.append_ #[st, xt] ty #[s', x']).run P w = .ok v' w' ∧ Rel ρ' ((H.set ab .gone) ++ [.row (old ++ news) i.size true]) F w' ∧ Ext H ρ ρ' ∧ H.length ≤ ((H.set ab .gone) ++ [AObj.row (old ++ news) i.size true]).length ∧
                      VR ρ' (.slice (some ⟨H.length, 0, none⟩) (len + n) 0) v' := fun l c' hl hs' hc' => by
                  obtain ⟨old', k1, k2, k3⟩ := olds old ho l c' hl hs'
                  obtain ⟨v', w', ρ', g1, g2, g3, g4⟩ := grow _ c' old old' hc' hs' k1 k2 (by rw [← hs']; exact k3)
                  refine ⟨v', w', ρ', g1, ?_, g3, by simp, g4⟩
                  have := g2.drop ab
                  rwa [List.set_append_left _ _ (hR.dom _ _ hl)] at this
                cases hs with
                | slice hl hc hn => omega
                | @sliceU _ _ _ c' l hl hn hb =>
                  by_cases hroom : len + n ≤ c'
                  · -- in place
                    obtain ⟨cs, hcs⟩ := rowOf_spec hrow
                    obtain ⟨full, k, own, f1, f2, f3⟩ := aload_spec ho
                    rw [hcs] at f1; cases f1
                    obtain ⟨arr, et, fz, o1, o2, o3, o4, o5⟩ := hR.obj _ _ _ hl hcs
                    obtain ⟨p1, p2, p3, p4, p5⟩ := o4 rfl
                    rw [p1, p2] at hb
                    have hbig : l.base + ao + len * i.size + n * i.size ≤ arr.size := by
                      have : (len + n) * i.size ≤ c' * i.size := Nat.mul_le_mul_right _ hroom
                      rw [Nat.add_mul] at this; omega
                    have hrun := run_append_room_src (P := P) w st xt ty e i hu hi l.blk (l.base + ao) len c' x' n news' hS hroom
                      (fun j hj => by rw [cell?_of o1]; rw [hlen'] at hj; simp; omega)
                      (fun j hj => by
                        rw [hlen'] at hj
                        have := p3 (l.base + ao + len * i.size + j) (by omega)
                        simp only [World.frozen?, o1]; simpa using this)
                    -- the object turns: what lay ahead, and the new cells
                    have hturn := hR.turn (o2 := .row (cs.take (ao + len * i.size) ++ news) i.size true) (O2 := .cells (wr arr (l.base + ao + len * i.size) news') et fz) hl hcs rfl (by
                      refine ⟨_, et, fz, rfl, by rw [size_wr]; simp [hlen]; omega, fun j v v' hv hv' => ?_, fun _ => ⟨p1, by rw [size_wr]; exact p2, by rw [size_wr]; exact p3, p4, p5⟩, by simp⟩
                      rw [get_wr _ _ _ _ (by rw [hlen']; omega)] at hv'
                      have htl : (cs.take (ao + len * i.size)).length = ao + len * i.size := by simp; omega
                      by_cases hj : j < ao + len * i.size
                      · rw [List.getElem?_append_left (by omega), List.getElem?_take, if_pos hj] at hv
                        rw [if_neg (by omega)] at hv'
                        exact o3 j v v' hv hv'
                      · rw [List.getElem?_append_right (by omega), htl] at hv
                        have hj2 : j - (ao + len * i.size) < news.length := by
                          rcases Nat.lt_or_ge (j - (ao + len * i.size)) news.length with h | h
                          · exact h
                          · simp [List.getElem?_eq_none h] at hv
                        rw [if_pos (by rw [hlen']; rw [hlen] at hj2; omega)] at hv'
                        refine hnv.2 _ v v' hv ?_
                        rw [← hv']; congr 1; omega)
                    have hlt : ab < H.length := hR.dom _ _ hl
                    have hnew : (H.set ab (.row (cs.take (ao + len * i.size) ++ news) i.size true))[ab]? = some (.row (cs.take (ao + len * i.size) ++ news) i.size true) := List.getElem?_set_self hlt
                    obtain ⟨m1, m2⟩ := hturn.move (off := ao) hl hnew (by simp; omega)
                    have hd : (cs.take (ao + len * i.size) ++ news).drop ao = old ++ news := by
                      rw [List.drop_append_of_le_length (by simp; omega), f3, List.drop_take]
                      congr 2; omega
                    rw [hd, List.set_set] at m1
                    simp only [List.length_set] at m1 m2
                    refine ⟨_, _, _, hrun, by rw [setCells_heap _ _ _ _ arr et fz o1]; exact m1, fun j hj => m2 j (by simpa using hj), by simp, ?_⟩
                    have := VR.sliceU (ρ := ρ.put H.length { l with base := l.base + ao }) (id := H.length) (off := 0) (n := len + n) (c' := c') (Ren.put_same _ _ _) hroom (by simp only []; rw [p1, p2]; omega)
                    simpa using this
                  · exact fin l c' hl rfl (by omega)
                | sliceZ id off a' =>
                  have : old = [] := by
                    obtain ⟨full, k, own, f1, f2, f3⟩ := aload_spec ho
                    rw [f3]; simp
                  subst this
                  obtain ⟨v', w', ρ', g1, g2, g3, g4⟩ := grow (some a') 0 [] [] (by omega) rfl VRs.nil (by simp) (run_firstCells_some w.drew i.size 0 a' 0 0 [] (by simp) (by simp))
                  refine ⟨v', w', ρ', g1, ?_, g3, by simp, g4⟩
                  have := g2.drop ab
                  obtain ⟨cs, hcs⟩ := rowOf_spec hrow
                  have hlt : ab < H.length := by
                    rcases Nat.lt_or_ge ab H.length with h | h
                    · exact h
                    · simp [List.getElem?_eq_none h] at hcs
                  rwa [List.set_append_left _ _ hlt] at this
              · simp at h4
            · rename_i hc0
              have hkn : ∃ l, ρ ab = some l ∧ s' = .slice (some ⟨l.blk, l.base + ao, none⟩) len c ∧ len ≤ c := by
                cases hs with
                | slice hl hc hn => exact ⟨_, hl, rfl, hn⟩
                | sliceU hl hn hb => exact absurd rfl hc0
                | sliceZ id off a' => exact absurd rfl hc0
              obtain ⟨l, hl, rfl, hlc⟩ := hkn
              split at h4
              · rename_i hroom
                obtain ⟨H2, hst, h5⟩ := Option.map_eq_some_iff.1 h4
                simp only [Prod.mk.injEq] at h5
                obtain ⟨rfl, rfl⟩ := h5
                rw [add_none] at hst
                obtain ⟨w', r1, r2, r3⟩ := hR.store P hl hnv hst
                -- the cells are there
                have hst2 := hst
                unfold astore at hst2
                simp only at hst2
                split at hst2
                · rename_i cs k _ hrow
                  split at hst2
                  · rename_i hcond
                    simp only [Bool.and_eq_true, decide_eq_true_eq] at hcond
                    obtain ⟨arr, et, fz, o1, o2, o3, o4, o5⟩ := hR.obj _ _ _ hl hrow
                    obtain ⟨p1, p2, p3, p4, p5⟩ := o4 rfl
                    have hrun := run_append_room_src (P := P) w st xt ty e i hu hi l.blk (l.base + ao) len c x' n news' hS hroom
                      (fun j hj => by rw [cell?_of o1]; rw [hlen', ← hlen] at hj; simp; omega)
                      (fun j hj => by
                        rw [hlen', ← hlen] at hj
                        have := p3 (l.base + ao + len * i.size + j) (by omega)
                        simp only [World.frozen?, o1]; simpa using this)
                    have hst3 := run_storeCells_cells (P := P) l.blk (l.base + (ao + len * i.size)) news' 0 w
                      (fun j hj => by rw [cell?_of o1]; rw [hlen', ← hlen] at hj; simp; omega)
                      (fun j hj => by
                        rw [hlen', ← hlen] at hj
                        have := p3 (l.base + (ao + len * i.size) + 0 + j) (by omega)
                        simp only [World.frozen?, o1]; simpa using this) hS.one
                    rw [r1] at hst3
                    simp only [Nat.add_zero, Result.ok.injEq, true_and] at hst3
                    subst hst3
                    refine ⟨_, _, ρ, by rw [hrun, ← Nat.add_assoc], r2, Ext.refl _ _, by omega, .slice hl (by omega) hroom⟩
                  · simp at hst2
                · simp at hst2
              · rename_i hroom
                obtain ⟨old, ho, h5⟩ := Option.bind_eq_some_iff.1 h4
                simp only [Option.some.injEq, Prod.mk.injEq] at h5
                obtain ⟨rfl, rfl⟩ := h5
                obtain ⟨old', k1, k2, k3⟩ := olds old ho l c hl rfl
                obtain ⟨v', w', ρ', g1, g2, g3, g4⟩ := grow _ c old old' (by omega) rfl k1 k2 k3
                exact ⟨v', w', ρ', g1, g2, g3, by simp, g4⟩
    · simp at h4
  · simp at h4
theorem run_append_grow_zeros (w : World) (t tn ty e : TypeId) (i : TypeInfo) (z : Value) (k kn : IntKind) (ht : P.underlying t = some (.slice e)) (htn : P.underlying tn = some (.int kn)) (hi : P.info? e = some i) (hz : i.zero = some z)
    (base : Option Addr) (sLen sCap : Nat) (olds : List Value) (hold : (Builtin.firstCells i.size sLen (.slice base sLen sCap)).run P w.drew = .ok olds.toArray w.drew)
    (n : Nat) (h0 : 0 < n) (hs : 0 < i.size) (hg : sCap < sLen + n) (h63 : ((sLen + n : Nat) : Int) ≤ 4611686018427387904) (h48 : n * i.bytes ≤ 281474976710656) (hfit : Builtin.nextslicecap (sLen + n) sCap * i.bytes ≤ 281474976710656) :
    (Builtin.append_ #[t, tn] ty #[.slice base sLen sCap, .int k n]).run P w =
      .ok (.slice (some ⟨w.heap.size, 0, none⟩) (sLen + n) (grownCap w (sLen + n) sCap e))
        (w.drew.alloc (.cells ((olds ++ (Builtin.zeroCells z.cells n).toList).toArray ++ Builtin.zeroCells z.cells (grownCap w (sLen + n) sCap e - (sLen + n))) e)) := by
  have hn : ¬ (sLen + n ≤ sCap) := by omega
  have hn0 : n ≠ 0 := by omega
  have hw : IntKind.i64.wrap (n : Int) = n := by rw [IntKind.wrap_i64]; omega
  have h63' : ¬ (9223372036854775807 < ((sLen : Int) + (n : Int))) := by omega
  have h48' : ¬ (281474976710656 < Builtin.nextslicecap (sLen + n) sCap * i.bytes) := by omega
  have h48i : ¬ (281474976710656 < (n : Int) * (i.bytes : Int)) := by
    rw [← Int.natCast_mul]
    omega
  have hneg : ¬ ((n : Int) < 0) := by omega
  have hns : ¬ (n * i.size = 0) := Nat.mul_ne_zero hn0 (by omega)
  simp [Builtin.append_, run_underlying ht, run_underlying htn, sizeOf, typeInfo, zeroValue, hi, hz, asInt, asIntOf, hw, hn, hneg, hns, h63', h48', h48i, Question.forced, hold, newRow, grownCap]
  congr 2
  apply Array.ext'
  simp [List.append_assoc]
theorem run_aappendZ (hR : Rel ρ H F w) {st xt ty : TypeId} {s s' x x' v : Value} {H' : AHeap} (hs : VR ρ s s') (hx : VR ρ x x') (h : aappendZ P H st xt s x = some (v, H')) :
    ∃ v' w' ρ', (Builtin.append_ #[st, xt] ty #[s', x']).run P w = .ok v' w' ∧ Rel ρ' H' F w' ∧ Ext H ρ ρ' ∧ H.length ≤ H'.length ∧ VR ρ' v v' := by
  unfold aappendZ at h
  obtain ⟨e, he, h1⟩ := Option.bind_eq_some_iff.1 h
  obtain ⟨i, hi, h2⟩ := Option.bind_eq_some_iff.1 h1
  obtain ⟨z, hz, h4⟩ := Option.bind_eq_some_iff.1 h2
  clear h h1 h2
  have hu := elemT_und he
  split at h4
  · rename_i kn a len c k n hxt
    split at h4
    · rename_i hq
      obtain ⟨q1, q2, q3, q4, q5, q6, q7, q8, q9⟩ := hq
      obtain ⟨old, ho, h5⟩ := Option.bind_eq_some_iff.1 h4
      simp only [Option.some.injEq, Prod.mk.injEq] at h5
      obtain ⟨rfl, rfl⟩ := h5
      cases hx
      obtain ⟨m, rfl⟩ : ∃ m : Nat, n = m := ⟨n.toNat, by omega⟩
      simp only [Int.toNat_natCast] at *
      obtain ⟨ab, ao, asx9⟩ := a
      simp only at q4; subst q4
      have hkn : ∃ l, ρ ab = some l ∧ s' = .slice (some ⟨l.blk, l.base + ao, none⟩) len c := by
        cases hs with
        | slice hl hc hn => exact ⟨_, hl, rfl⟩
        | sliceU hl hn hb => omega
        | sliceZ id off a' => omega
      obtain ⟨l, hl, rfl⟩ := hkn
      obtain ⟨old', k1, k2, k3⟩ := hR.row hl ho
      have hzc : (Builtin.zeroCells z.cells m).toList.length = m * i.size := by simp [Builtin.zeroCells, q2]
      have hzp : VRs ρ (Builtin.zeroCells z.cells m).toList (Builtin.zeroCells z.cells m).toList := by
        refine ⟨rfl, fun j u u' hu hu' => ?_⟩
        rw [hu] at hu'; cases hu'
        have hcell : ∀ u ∈ z.cells.toList, VR ρ u u := fun u hu => by
          obtain ⟨b, hb⟩ := List.getElem?_of_mem hu
          exact (plain_refl (ρ := ρ) 100 z q3).1.cells.2 b u u hb hb
        have : u ∈ z.cells.toList := by
          have hm := List.mem_of_getElem? hu
          simp only [Builtin.zeroCells, Array.toList_map, List.mem_map] at hm
          obtain ⟨b, hb, rfl⟩ := hm
          have hb2 : b < m * z.cells.size := by simpa using hb
          have hpos : 0 < z.cells.size := by omega
          have hlt : b % z.cells.size < z.cells.size := Nat.mod_lt _ hpos
          rw [getElem!_pos z.cells _ hlt]
          simp
        exact hcell u this
      have hfc := run_firstCells_some (P := P) w.drew i.size len ⟨l.blk, l.base + ao, none⟩ len c old' k2 (by simpa using k3)
      have hrun := run_append_grow_zeros (P := P) w st xt ty e i z k kn hu hxt hi hz (some ⟨l.blk, l.base + ao, none⟩) len c old' hfc m (by omega) q1 q7 (by omega) (by
        have : m * i.bytes ≤ (len + m) * i.bytes := Nat.mul_le_mul_right _ (by omega)
        have q8' : (len + m) * i.bytes ≤ 140737488355328 := by simpa using q8
        omega) (growslice_fits q7 (by simpa using q8))
      have hge : len + m ≤ grownCap w (len + m) c e := by simp [grownCap, Question.cut]
      obtain ⟨ρ', g1, g2, g3⟩ := hR.grown (k1.app hzp) (e := e) (k := i.size) (c := grownCap w (len + m) c e) (n := len + m)
        (zs := (Builtin.zeroCells z.cells (grownCap w (len + m) c e - (len + m))).toList) hge (by
          have hz2 : (Builtin.zeroCells z.cells (grownCap w (len + m) c e - (len + m))).toList.length = (grownCap w (len + m) c e - (len + m)) * i.size := by simp [Builtin.zeroCells, q2]
          rw [hz2, List.length_append, k2, hzc, ← Nat.add_mul, ← Nat.add_mul]
          apply Nat.mul_le_mul_right; omega)
      have harr : ((old' ++ (Builtin.zeroCells z.cells m).toList).toArray ++ Builtin.zeroCells z.cells (grownCap w (len + m) c e - (len + m))) = ((old' ++ (Builtin.zeroCells z.cells m).toList) ++ (Builtin.zeroCells z.cells (grownCap w (len + m) c e - (len + m))).toList).toArray := by
        apply Array.ext'; simp
      exact ⟨_, _, ρ', hrun, by rw [harr]; exact g1, g2, by simp, g3⟩
    · simp at h4
  · simp at h4
theorem run_aappend (hR : Rel ρ H F w) {st xt ty : TypeId} {s s' x x' v : Value} {H' : AHeap} (hs : VR ρ s s') (hx : VR ρ x x') (h : aappend P H st xt s x = some (v, H')) :
    ∃ v' w' ρ', (Builtin.append_ #[st, xt] ty #[s', x']).run P w = .ok v' w' ∧ Rel ρ' H' F w' ∧ Ext H ρ ρ' ∧ H.length ≤ H'.length ∧ VR ρ' v v' := by
  unfold aappend at h
  split at h
  · rename_i r hr
    cases h
    exact run_aappend0 hR hs hx hr
  · exact run_aappendZ hR hs hx h
end Go.AW
namespace Go.AW
open Go
variable {P : Program} {ρ : Ren} {H : AHeap} {F : Frm} {w : World}
theorem astore_spot {a : Addr} {vs : List Value} {H' : AHeap} (h : astore H a vs = some H') : a.spot = none := by
  unfold astore at h; split at h
  · assumption
  · simp at h
theorem slice_any {a : Addr} {n c : Nat} {x' : Value} (h : VR ρ (.slice (some a) n c) x') : ∃ a' c', x' = .slice (some a') n c' := by
  cases h <;> exact ⟨_, _, rfl⟩
theorem run_acopy (hR : Rel ρ H F w) {dt xt ty : TypeId} {d d' x x' v : Value} {H' : AHeap} (hd : VR ρ d d') (hx : VR ρ x x') (h : acopy P H dt xt d x = some (v, H')) :
    ∃ w', (Builtin.copy_ #[dt, xt] ty #[d', x']).run P w = .ok v w' ∧ Rel ρ H' F w' ∧ H'.length = H.length ∧ VR ρ v v := by
  unfold acopy at h
  obtain ⟨e, he, h1⟩ := Option.bind_eq_some_iff.1 h
  obtain ⟨k, hk, h2⟩ := Option.bind_eq_some_iff.1 h1
  obtain ⟨⟨n, news⟩, hsrc, h3⟩ := Option.bind_eq_some_iff.1 h2
  clear h h1 h2
  dsimp only at h3
  have hu := elemT_und he
  obtain ⟨news', hnv, hS, hT⟩ := run_asrc hR hx hsrc
  have hlen' : news'.length = n * k := hS.newsLen
  have run : ∀ (base : Option Addr) (len c : Nat) (w' : World), d' = .slice base len c →
      (match base with | some a => (storeCells a (news'.take (Nat.min n len * k)) 0).run P w = .ok () w' | none => w' = w) →
      (Builtin.copy_ #[dt, xt] ty #[d', x']).run P w = .ok (goInt (Nat.min n len)) w' := by
    intro base len c w' hd' hst
    subst hd'
    have hc := hT (Nat.min n len) (Nat.min_le_left _ _)
    cases base with
    | none => subst hst; simp [Builtin.copy_, run_underlying hu, hS.len, run_sizeOf hk, hc]
    | some a => simp only at hst; simp [Builtin.copy_, run_underlying hu, hS.len, run_sizeOf hk, hc, hst]
  split at h3
  · simp only [Option.some.injEq, Prod.mk.injEq] at h3
    obtain ⟨rfl, rfl⟩ := h3
    cases hd
    have := run none 0 0 w rfl rfl
    simp only [Nat.min_zero] at this
    exact ⟨w, this, hR, rfl, .int _ _⟩
  · rename_i a len c
    obtain ⟨a', c', hd'⟩ := slice_any hd
    split at h3
    · rename_i h0
      simp only [Option.some.injEq, Prod.mk.injEq] at h3
      obtain ⟨rfl, rfl⟩ := h3
      have := run (some a') len c' w hd' (by simp only; rw [show Nat.min n len = 0 from h0]; simp; rfl)
      rw [show Nat.min n len = 0 from h0] at this
      exact ⟨w, this, hR, rfl, .int _ _⟩
    · rename_i h0
      obtain ⟨H2, hst, h5⟩ := Option.map_eq_some_iff.1 h3
      simp only [Prod.mk.injEq] at h5
      obtain ⟨rfl, rfl⟩ := h5
      have hs := astore_spot hst
      obtain ⟨l, c2, hl, rfl, _, _⟩ := slice_inv hd hs (by omega)
      obtain ⟨ab, ao, asx9⟩ := a
      simp only at hs hl; subst hs
      obtain ⟨w', r1, r2, r3⟩ := hR.store P hl (hnv.take _) hst
      exact ⟨w', run _ _ _ _ rfl r1, r2, r3, .int _ _⟩
  · simp at h3
theorem run_acopyX (hR : Rel ρ H F w) {dt xt ty : TypeId} {d d' x x' v : Value} {H' : AHeap} (hd : VR ρ d d') (hx : VR ρ x x') (h : acopyX P H dt xt d x = some (v, H')) :
    ∃ w', (Builtin.copy_ #[dt, xt] ty #[d', x']).run P w = .ok v w' ∧ Rel ρ H' F w' ∧ H'.length = H.length ∧ VR ρ v v := by
  unfold acopyX at h
  obtain ⟨e, he, h1⟩ := Option.bind_eq_some_iff.1 h
  obtain ⟨k, hk, h2⟩ := Option.bind_eq_some_iff.1 h1
  obtain ⟨e2, he2, h3⟩ := Option.bind_eq_some_iff.1 h2
  clear h h1 h2
  have hu := elemT_und he
  split at h3
  · rename_i a len c0 b m c1
    split at h3
    · rename_i cs k' ext hrow
      split at h3
      · rename_i hc
        obtain ⟨q1, q2, q3, rfl, q5, q6, q7, q8, q9⟩ := hc
        simp only [Option.some.injEq, Prod.mk.injEq] at h3
        obtain ⟨rfl, rfl⟩ := h3
        generalize hcnt : min m len = cnt at *
        have hlen : cnt ≤ len := by omega
        have hm : cnt ≤ m := by omega
        obtain ⟨l, c', hl, rfl, _, _⟩ := slice_inv hd q1 (by omega)
        obtain ⟨l2, c'', hl2, rfl, _, _⟩ := slice_inv hx q2 (by omega)
        rw [q3, hl] at hl2; cases hl2
        obtain ⟨ab, ao, asx9⟩ := a
        obtain ⟨bb, bo, bs⟩ := b
        simp only at q1 q2 q3 q6 q7 q8 q9 hrow hl
        subst q1 q2 q3
        dsimp only
        obtain ⟨arr, et, fz, o1, o2, o3, o4, o5, o6, o7, o8⟩ := hR.obj _ _ _ hl hrow
        have hcsl : ((arr.toList.drop (l.base + bo)).take (cnt * k')).length = cnt * k' := by simp; omega
        have hfc : (Builtin.firstCells k' cnt (.slice (some ⟨l.blk, l.base + bo, none⟩) m c'')).run P w = .ok ((arr.toList.drop (l.base + bo)).take (cnt * k')).toArray w := run_firstCells_some w k' cnt _ m c'' _ hcsl fun j u hj => by
          rw [add_none, cell?_of o1]
          rw [List.getElem?_take] at hj
          split at hj
          · rw [List.getElem?_drop] at hj; rw [← hj, Array.getElem?_toList]
          · simp at hj
        have hv : VRs ρ ((cs.drop bo).take (cnt * k')) ((arr.toList.drop (l.base + bo)).take (cnt * k')) := by
          refine ⟨by rw [hcsl]; simp; omega, fun i u u' hu hu' => ?_⟩
          rw [List.getElem?_take] at hu hu'
          split at hu
          · rename_i hi
            rw [if_pos hi] at hu'
            rw [List.getElem?_drop] at hu hu'
            refine o3 (bo + i) u u' hu ?_
            rw [← Array.getElem?_toList]; rw [← hu']; congr 1; omega
          · simp at hu
        generalize (arr.toList.drop (l.base + bo)).take (cnt * k') = vs' at *
        generalize hvs : (cs.drop bo).take (cnt * k') = vs at *
        have hvl : vs.length = cnt * k' := by rw [hv.1, hcsl]
        have hst := run_storeCells_cells (P := P) l.blk (l.base + ao) vs' 0 w
          (fun j hj => by rw [cell?_of o1]; rw [hcsl] at hj; simp; omega)
          (fun j hj => by
            rw [hcsl] at hj
            have := o6 (l.base + ao + 0 + j) (by omega)
            simp only [World.frozen?, o1]; simpa using this)
          (fun u hu => by
            obtain ⟨j, hj⟩ := List.getElem?_of_mem hu
            have hj' : j < vs.length := by
              rw [hv.1]
              rcases Nat.lt_or_ge j vs'.length with h | h
              · exact h
              · simp [List.getElem?_eq_none h] at hj
            have := (hv.2 j vs[j] u (List.getElem?_eq_getElem hj') hj).oneCell
            rw [← this]
            exact List.all_eq_true.1 q9 _ (List.getElem_mem hj'))
        refine ⟨w.setCells l.blk (l.base + ao + 0) vs', ?_, ?_, by simp, .int _ _⟩
        rotate_left
        · rw [setCells_heap _ _ _ _ arr et fz o1]
          refine hR.turn hl hrow rfl ⟨_, et, fz, rfl, ?_, fun i v v' hvi hvi' => ?_, fun _ => ⟨o4, by rw [size_wr]; exact o5, by rw [size_wr]; exact o6, o7, o8⟩, by simp⟩
          · rw [size_wr]; simp only [List.length_append, List.length_take, List.length_drop, hvl]; omega
          · rw [Nat.add_zero] at hvi'
            rw [get_wr _ _ _ _ (by rw [hcsl]; omega), hcsl] at hvi'
            have htl : (cs.take ao).length = ao := by simp; omega
            by_cases hi1 : i < ao
            · rw [List.append_assoc, List.getElem?_append_left (by omega), List.getElem?_take, if_pos hi1] at hvi
              rw [if_neg (by omega)] at hvi'
              exact o3 i v v' hvi hvi'
            · rw [List.append_assoc, List.getElem?_append_right (by omega), htl] at hvi
              by_cases hi2 : i - ao < vs.length
              · rw [List.getElem?_append_left hi2] at hvi
                rw [if_pos (by omega)] at hvi'
                exact hv.2 _ v v' hvi (by rw [← hvi']; congr 1; omega)
              · rw [List.getElem?_append_right (by omega), List.getElem?_drop, hvl] at hvi
                rw [if_neg (by omega)] at hvi'
                exact o3 _ v v' hvi (by rw [← hvi']; congr 1; omega)
        · have e1 : (Builtin.lenOf (.slice (some ⟨l.blk, l.base + bo, none⟩) m c'')).run P w = .ok m w := rfl
          have e2 : Nat.min m len = cnt := hcnt
          simp [Builtin.copy_, run_underlying hu, e1, run_sizeOf hk, e2, hfc, hst]
          rfl
      · simp at h3
    · simp at h3
  · simp at h3
theorem run_acopy2 (hR : Rel ρ H F w) {dt xt ty : TypeId} {d d' x x' v : Value} {H' : AHeap} (hd : VR ρ d d') (hx : VR ρ x x') (h : acopy2 P H dt xt d x = some (v, H')) :
    ∃ w', (Builtin.copy_ #[dt, xt] ty #[d', x']).run P w = .ok v w' ∧ Rel ρ H' F w' ∧ H'.length = H.length ∧ VR ρ v v := by
  unfold acopy2 at h
  split at h
  · exact run_acopyX hR hd hx h
  · exact run_acopy hR hd hx h
theorem run_aclear (hR : Rel ρ H F w) {t ty : TypeId} {x x' : Value} {H' : AHeap} (hx : VR ρ x x') (h : aclear P H t x = some H') :
    ∃ w', (Builtin.clear_ #[t] ty #[x']).run P w = .ok (.tuple #[]) w' ∧ Rel ρ H' F w' ∧ H'.length = H.length := by
  unfold aclear at h
  split at h
  · rename_i e a n c hu
    cases a with
    | none =>
      cases h; cases hx
      exact ⟨w, by simp [Builtin.clear_, run_underlying hu], hR, rfl⟩
    | some a =>
      obtain ⟨a', c', hx'⟩ := slice_any hx
      simp only at h
      split at h
      · rename_i h0; subst h0; cases h; subst hx'
        exact ⟨w, by simp [Builtin.clear_, run_underlying hu], hR, rfl⟩
      · rename_i h0
        obtain ⟨k, hk, h1⟩ := Option.bind_eq_some_iff.1 h
        obtain ⟨z, hz, h2⟩ := Option.bind_eq_some_iff.1 h1
        clear h h1
        split at h2
        · rename_i hq
          have hs := astore_spot h2
          obtain ⟨l, c2, hl, rfl, _, _⟩ := slice_inv hx hs (by omega)
          obtain ⟨ab, ao, asx9⟩ := a
          simp only at hs hl; subst hs
          have hzv := (zero_vr (ρ := ρ) hz hq.1).cells
          have hv : VRs ρ (Builtin.zeroCells z.cells n).toList (Builtin.zeroCells z.cells n).toList := by
            refine ⟨rfl, fun j u u' hu hu' => ?_⟩
            rw [hu] at hu'; cases hu'
            have hj : j < n * z.cells.size := by
              rcases Nat.lt_or_ge j (n * z.cells.size) with h | h
              · exact h
              · simp [Builtin.zeroCells, h] at hu
            have hpos : 0 < z.cells.size := by
              rcases Nat.eq_zero_or_pos z.cells.size with q | q
              · rw [q] at hj; simp at hj
              · exact q
            have hm : j % z.cells.size < z.cells.size := Nat.mod_lt _ hpos
            simp [Builtin.zeroCells, hj] at hu
            rw [getElem!_pos z.cells _ hm] at hu
            subst hu
            exact hzv.2 (j % z.cells.size) _ _ (by rw [Array.getElem?_toList, Array.getElem?_eq_getElem hm]) (by rw [Array.getElem?_toList, Array.getElem?_eq_getElem hm])
          obtain ⟨w', r1, r2, r3⟩ := hR.store P hl hv h2
          refine ⟨w', ?_, r2, r3⟩
          obtain ⟨m, rfl⟩ : ∃ m, n = m + 1 := ⟨n - 1, by omega⟩
          simp [Builtin.clear_, run_underlying hu, run_zeroValue hz, r1]
        · simp at h2
  · rename_i hu
    cases hx; cases h
    exact ⟨w, by simp [Builtin.clear_, run_underlying hu], hR, rfl⟩
  · rename_i r hu
    split at h
    · rename_i es ck hr
      cases h
      obtain ⟨l, es', rfl, hM⟩ := hR.mapAt hx hr
      have hg := run_getObj (P := P) hM.blk (by simp)
      obtain ⟨s1, s2⟩ := hM.turn (P := P) (es2 := #[]) (es2' := #[]) (ck2 := ck) hR ERs.nil
      exact ⟨_, by simp [Builtin.clear_, run_underlying hu, hg, s1], s2, by simp⟩
    · simp at h
  · simp at h
theorem run_arange (hR : Rel ρ H F w) {t : TypeId} {x x' v : Value} {H' : AHeap} (hx : VR ρ x x') (h : arange P H t x = some (v, H')) :
    ∃ v' w' ρ', (Instr.range t x').run P w = .ok v' w' ∧ Rel ρ' H' F w' ∧ Ext H ρ ρ' ∧ H.length ≤ H'.length ∧ VR ρ' v v' := by
  have fin : ∀ (ob : AObj) (O : Obj), (∀ l : Loc, l.base = 0 → F.heap l.blk = none → ObjAt ρ F.heap l (some O) ob) →
      ∃ ρ', Rel ρ' (H ++ [ob]) F (w.alloc O) ∧ Ext H ρ ρ' ∧ VR ρ' (.pointer (some ⟨H.length, 0, none⟩)) (.pointer (some ⟨w.heap.size, 0, none⟩)) := fun ob O hO => by
    obtain ⟨h1, h2⟩ := hR.new (l := ⟨w.heap.size, 0, 0, 0⟩) (o := ob) (O := O) rfl (fun hF => hO _ rfl hF)
    refine ⟨_, h1, h2, ?_⟩
    have := VR.ptr (ρ := ρ.put H.length ⟨w.heap.size, 0, 0, 0⟩) (id := H.length) (off := 0) (Ren.put_same _ _ _)
    simpa using this
  unfold arange at h
  split at h
  · rename_i s hu
    cases hx; cases h
    obtain ⟨ρ', g1, g2, g3⟩ := fin (.strIter s 0) (.stringIter s 0) (fun l hb hF => ⟨hb, hF, rfl⟩)
    exact ⟨_, _, ρ', by simp [Instr.range, run_underlying hu], g1, g2, by simp, g3⟩
  · rename_i hu
    cases hx; cases h
    obtain ⟨ρ', g1, g2, g3⟩ := fin (.mapIter none 0 #[] 0) (.mapIter none 0 #[] 0) (fun l hb hF => ⟨hb, hF, rfl⟩)
    exact ⟨_, _, ρ', by simp [Instr.range, run_underlying hu], g1, g2, by simp, g3⟩
  · rename_i m hu
    split at h
    · rename_i es ck hr
      cases h
      obtain ⟨l, es', rfl, hM⟩ := hR.mapAt hx hr
      have hg := run_getObj (P := P) hM.blk (by simp)
      obtain ⟨ρ', g1, g2, g3⟩ := fin (.mapIter (some m) ck #[] ck) (.mapIter (some l.blk) ck #[] ck) (fun l' hb hF => ⟨hb, hF, l, hM.loc, rfl⟩)
      exact ⟨_, _, ρ', by simp [Instr.range, run_underlying hu, hg], g1, g2, by simp, g3⟩
    · simp at h
  · simp at h
theorem freeze_new (w : World) (arr : Array Value) (e : TypeId) : (w.alloc (.cells arr e)).freeze ⟨w.heap.size, arr.size, none⟩ 1 = w.alloc (.cells arr e (arr.size, arr.size + 1)) := by
  unfold World.freeze World.alloc
  simp only [Nat.one_ne_zero, if_false]
  congr 1
  apply Array.ext_getElem?
  intro i
  rw [Array.getElem?_modify]
  by_cases hi : w.heap.size = i
  · subst hi; simp
  · rw [if_neg hi, Array.getElem?_push, Array.getElem?_push, if_neg (Ne.symm hi), if_neg (Ne.symm hi)]
theorem run_aToBytes (hR : Rel ρ H F w) {s d : TypeId} {x x' v : Value} {H' : AHeap} (hx : VR ρ x x') (h : aToBytes P H s d x = some (v, H')) :
    ∃ v' w' ρ', (Go.convert s d x').run P w = .ok v' w' ∧ Rel ρ' H' F w' ∧ Ext H ρ ρ' ∧ H.length ≤ H'.length ∧ VR ρ' v v' := by
  unfold aToBytes at h
  split at h
  · rename_i sd e b hs hd
    split at h
    · rename_i he
      cases h; cases hx
      have he' : P.underlying e = some (.int .u8) := by simpa using he
      let cap := (Question.appendCap b.size 0 e).cut (w.tape w.drawn (.appendCap b.size 0 e))
      have hcap : b.size ≤ cap := by simp only [cap, Question.cut]; omega
      let arr : Array Value := (b.data.map fun b => Value.int .u8 b.toNat) ++ Array.replicate (cap - b.size) (.int .u8 0)
      have harr : arr.size = cap := by
        have : b.data.size = b.size := rfl
        simp only [arr, Array.size_append, Array.size_map, Array.size_replicate, this]; omega
      have hbl : (byteVals b).length = b.size := by simp [byteVals]
      have hD : Rel ρ H F w.drew := hR.drew 1
      obtain ⟨h1, h2⟩ := hD.new (l := ⟨w.drew.heap.size, 0, 1, cap⟩) (o := .row (byteVals b) 1 true) (O := .cells arr e (arr.size, arr.size + 1)) rfl fun hF => by
        refine ⟨arr, e, _, rfl, by rw [hbl, harr]; simpa using hcap, fun i v v' hv hv' => ?_, fun _ => ⟨rfl, harr.symm, fun i hi hq => by simp only at hq; omega, fun hk => absurd rfl hk, hF⟩, by simp⟩
        have hi : i < b.size := by
          rw [← hbl]
          rcases Nat.lt_or_ge i (byteVals b).length with h | h
          · exact h
          · simp [List.getElem?_eq_none h] at hv
        have : arr[0 + i]? = (byteVals b)[i]? := by
          simp only [arr, Nat.zero_add, byteVals]
          rw [Array.getElem?_append_left (by simpa using hi)]
          simp
        simp only at hv'
        rw [this, hv] at hv'
        cases hv'
        exact (byteVals_vr b).2 i v v hv hv
      refine ⟨.slice (some ⟨w.heap.size, 0, none⟩) b.size cap, _, _, ?_, h1, h2, by simp, ?_⟩
      · have e1 : (Conv.stringToBytes e b).run P w = .ok (.slice (some ⟨w.heap.size, 0, none⟩) b.size cap) ((w.drew.alloc (.cells arr e)).freeze ⟨w.heap.size, arr.size, none⟩ 1) := by
          simp only [Conv.stringToBytes, Sem.run_bind, run_choose, Question.forced, Bool.false_eq_true, if_false, Result.andThen_ok, newRow, run_newObj, Sem.run_pure, markStringish, run_shape]
          have hsh : (w.drew.alloc (.cells arr e)).shape? w.heap.size = some (e, arr.size) := by
            have : (w.drew.alloc (.cells arr e)).heap[w.heap.size]? = some (.cells arr e) := Array.getElem?_push_size
            unfold World.shape?; rw [this]
          show ((Sem.run P (match (w.drew.alloc (.cells arr e)).shape? w.heap.size with | some (_, n) => freeze { block := w.heap.size, off := n } 1 | x => pure ()) (w.drew.alloc (.cells arr e))).andThen _) = _
          rw [hsh]
          rfl
        simp only [Go.convert, Sem.run_bind, run_underlying hs, run_underlying hd, Result.andThen_ok, run_underlying he', e1]
        rw [show w.heap.size = w.drew.heap.size from rfl, freeze_new]
      · have := VR.sliceU (ρ := ρ.put H.length ⟨w.drew.heap.size, 0, 1, cap⟩) (id := H.length) (off := 0) (n := b.size) (c' := cap) (Ren.put_same _ _ _) hcap (by simp)
        simpa using this
    · simp at h
  · simp at h
theorem run_anextS (hR : Rel ρ H F w) {it it' v : Value} {ty : TypeId} {H' : AHeap} (hi : VR ρ it it') (h : anextS H it = some (v, H')) :
    ∃ w', (Instr.next it' true ty).run P w = .ok v w' ∧ Rel ρ H' F w' ∧ H'.length = H.length ∧ VR ρ v v := by
  unfold anextS at h
  split at h
  · rename_i r
    split at h
    · rename_i s pos hr
      cases hi with
      | ptr hl =>
        obtain ⟨hb, hF, hO⟩ := hR.obj _ _ _ hl hr
        rw [hb]
        have hg := run_getObj (P := P) hO (by simp)
        split at h
        · rename_i hp
          cases h
          refine ⟨_, by simp [Instr.next, hg, hp, setObj_run (P := P) hO (by simp : ∀ c e f, Obj.stringIter s pos ≠ .cells c e f), goInt], hR.turn hl hr rfl ⟨hb, hF, rfl⟩, by simp, VR.tuple' (VRs.cons (.bool _) (VRs.cons (.int _ _) (VRs.cons (.int _ _) VRs.nil)))⟩
        · rename_i hp
          cases h
          exact ⟨w, by simp [Instr.next, hg, hp], hR, rfl, VR.tuple' (VRs.cons (.bool _) VRs.nil)⟩
    · simp at h
  · simp at h
end Go.AW
namespace Go.AW
open Go
variable {P : Program} {ρ : Ren} {H : AHeap} {F : Frm} {w : World}
theorem ERs.filter (p : Nat → Bool) : ∀ {l l' : List MapEntry}, ERs ρ l l' → ERs ρ (l.filter fun e => p e.born) (l'.filter fun e => p e.born)
  | [], l', h => by cases l' with
    | nil => exact ERs.nil
    | cons => have := h.1; simp at this
  | e :: l, m, h => by
    obtain ⟨e', l', rfl, he, hl⟩ := h.inv
    have ih := ERs.filter p hl
    simp only [List.filter_cons, he.born]
    split
    · refine ⟨by simp [ih.1], fun i u u' hu hu' => ?_⟩
      cases i with
      | zero => simp at hu hu'; subst hu hu'; exact he
      | succ i => exact ih.2 i u u' (by simpa using hu) (by simpa using hu')
    · exact ih
theorem ERs.app {a a' b b' : List MapEntry} (h : ERs ρ a a') (h2 : ERs ρ b b') : ERs ρ (a ++ b) (a' ++ b') := by
  refine ⟨by simp [h.1, h2.1], fun i u u' hu hu' => ?_⟩
  by_cases hi : i < a.length
  · rw [List.getElem?_append_left hi] at hu
    rw [List.getElem?_append_left (by rw [← h.1]; exact hi)] at hu'
    exact h.2 i u u' hu hu'
  · rw [List.getElem?_append_right (by omega)] at hu
    rw [List.getElem?_append_right (by rw [← h.1]; omega), ← h.1] at hu'
    exact h2.2 _ u u' hu hu'
theorem ERs.allBorn (p : Nat → Bool) : ∀ {l l' : List MapEntry}, ERs ρ l l' → (l'.all fun e => p e.born) = l.all fun e => p e.born
  | [], l', h => by cases l' with
    | nil => rfl
    | cons => have := h.1; simp at this
  | e :: l, m, h => by
    obtain ⟨e', l', rfl, he, hl⟩ := h.inv
    simp only [List.all_cons, he.born, ERs.allBorn p hl]
theorem run_anext (hR : Rel ρ H F w) {it it' : Value} {ty : TypeId} {K : Value → AHeap → Prop} (hi : VR ρ it it') (h : anext H it K) :
    ∃ v' w' v H', (Instr.next it' false ty).run P w = .ok v' w' ∧ K v H' ∧ Rel ρ H' F w' ∧ H'.length = H.length ∧ VR ρ v v' := by
  unfold anext at h
  split at h
  · rename_i r s sn l hit
    obtain ⟨hr, lr, hlr, hb, rfl, _, _, hO⟩ := hR.iter hi hit
    have hg := run_getObj (P := P) hO (by simp)
    exact ⟨_, w, _, H, by simp [Instr.next, hg], h, hR, rfl, VR.tuple' (VRs.cons (.bool _) VRs.nil)⟩
  · rename_i r m since seen last hit
    obtain ⟨hr, lr, hlr, hb, rfl, _, hfree, lm, hlm, hO⟩ := hR.iter hi hit
    split at h
    · rename_i es clock hm
      obtain ⟨hcond, hover, hstep⟩ := h
      obtain ⟨es', hes, hE⟩ := hR.mapObj hlm hm
      have g1 := run_getObj (P := P) hO (by simp)
      have g2 := run_getObj (P := P) hes (by simp)
      have hsz : es'.isEmpty = es.isEmpty := by
        have := hE.1; simp at this
        rw [Array.isEmpty, Array.isEmpty, this]
      have hall : (es'.all fun e => decide (e.born ≥ last)) = es.all fun e => decide (e.born ≥ last) := by
        rw [← Array.all_toList, ← Array.all_toList]; exact ERs.allBorn (fun n => decide (n ≥ last)) hE
      have hcond' : (!seen.isEmpty && !es'.isEmpty && es'.all (fun e => decide (e.born ≥ last))) = false := by rw [hsz, hall]; exact hcond
      -- the candidates, side by side
      let left := es.filter fun e => !seen.contains e.born
      let left' := es'.filter fun e => !seen.contains e.born
      have hleft : ERs ρ left.toList left'.toList := by
        simp only [left, left', Array.toList_filter]; exact ERs.filter (fun n => !seen.contains n) hE
      let old := left.filter fun e => decide (e.born < since)
      let old' := left'.filter fun e => decide (e.born < since)
      have hold : ERs ρ old.toList old'.toList := by
        simp only [old, old', Array.toList_filter]; exact ERs.filter (fun n => decide (n < since)) hleft
      let new := left.filter fun e => decide (e.born ≥ since)
      let new' := left'.filter fun e => decide (e.born ≥ since)
      have hnew : ERs ρ new.toList new'.toList := by
        simp only [new, new', Array.toList_filter]; exact ERs.filter (fun n => decide (n ≥ since)) hleft
      have hboth : ERs ρ (old ++ new).toList (old' ++ new').toList := by simp only [Array.toList_append]; exact hold.app hnew
      have hemp : old'.isEmpty = old.isEmpty := by
        have := hold.1; simp at this
        rw [Array.isEmpty, Array.isEmpty, this]
      let cands := (if old'.isEmpty then #[none] else #[]) ++ (old' ++ new').map some
      have hpos : 0 < cands.size := by
        simp only [cands]
        by_cases q : old'.isEmpty = true
        · simp [q]; omega
        · have q' : 0 < old'.size := by
            rcases Nat.eq_zero_or_pos old'.size with z | z
            · simp [Array.isEmpty, z] at q
            · exact z
          simp [q]; omega
      -- whichever is asked for
      have pick : ∀ (c : Nat) (w1 : World), c < cands.size → Rel ρ H F w1 → w1.heap = w.heap → ∃ v' w' v H', ((match cands[c]? with
            | some (some e) => do
              setObj lr.blk (.mapIter (some lm.blk) since (seen.push e.born) clock)
              pure (.tuple #[.bool true, e.key, e.val])
            | some none => pure (.tuple #[.bool false])
            | none => stuck "Next: no such candidate" : Sem Value)).run P w1 = .ok v' w' ∧ K v H' ∧ Rel ρ H' F w' ∧ H'.length = H.length ∧ VR ρ v v' := by
        intro c w1 hc hR1 hw1
        have hget := Array.getElem?_eq_getElem hc
        cases hcc : cands[c] with
        | none =>
          have hemp2 : old = #[] := by
            by_cases q : old'.isEmpty = true
            · rw [hemp] at q; exact Array.isEmpty_iff.1 q
            · exfalso
              have : none ∈ cands := by rw [← hcc]; exact Array.getElem_mem hc
              simp [cands, q] at this
          exact ⟨_, w1, _, H, by rw [hget, hcc]; rfl, hover hemp2, hR1, rfl, VR.tuple' (VRs.cons (.bool _) VRs.nil)⟩
        | some e' =>
          have hmem : e' ∈ old' ++ new' := by
            have : some e' ∈ cands := by rw [← hcc]; exact Array.getElem_mem hc
            by_cases q : old'.isEmpty = true
            · simp only [cands, q, if_true] at this; simpa using this
            · simp only [cands, q] at this; simpa using this
          obtain ⟨j, hj⟩ := List.getElem?_of_mem (Array.mem_toList_iff.2 hmem)
          have hj2 : j < (old ++ new).toList.length := by
            rw [hboth.1]
            rcases Nat.lt_or_ge j (old' ++ new').toList.length with h | h
            · exact h
            · rw [List.getElem?_eq_none h] at hj; simp at hj
          have hgj := List.getElem?_eq_getElem hj2
          have he := hboth.2 j _ _ hgj hj
          have hmem2 : (old ++ new).toList[j] ∈ old ++ new := Array.mem_toList_iff.1 (List.getElem_mem hj2)
          have hK := hstep _ hmem2
          have hOw : w1.heap[lr.blk]? = some (.mapIter (some lm.blk) since seen last) := by rw [hw1]; exact hO
          refine ⟨.tuple #[.bool true, e'.key, e'.val], _, _, _, ?_, hK, hR1.turn (O2 := .mapIter (some lm.blk) since (seen.push e'.born) clock) hlr hr rfl ⟨hb, hfree, lm, hlm, by rw [he.born]⟩, by simp, ?_⟩
          · rw [hget, hcc]
            simp [setObj_run (P := P) hOw (by simp : ∀ c e f, Obj.mapIter (some lm.blk) since seen last ≠ .cells c e f)]
          · rw [he.key]; exact VR.tuple' (VRs.cons (.bool _) (VRs.cons (plain_refl 100 _ he.plain).1 (VRs.cons he.val VRs.nil)))
      have full : (Instr.next (.pointer (some ⟨lr.blk, 0, none⟩)) false ty).run P w = ((choose (.mapNext cands.size)).run P w).andThen fun c w1 => ((match cands[c]? with
            | some (some e) => do
              setObj lr.blk (.mapIter (some lm.blk) since (seen.push e.born) clock)
              pure (.tuple #[.bool true, e.key, e.val])
            | some none => pure (.tuple #[.bool false])
            | none => stuck "Next: no such candidate" : Sem Value)).run P w1 := by
        simp only [Instr.next, Sem.run_bind, g1, g2, Result.andThen_ok, hcond']
        rw [if_neg (by simp), Sem.run_bind]
        rfl
      rw [full, run_choose]
      by_cases hf : (Question.mapNext cands.size).forced = true
      · simp only [hf, if_true, Result.andThen_ok]
        exact pick 0 w hpos hR rfl
      · simp only [hf, Result.andThen_ok]
        refine pick _ { w with drawn := w.drawn + 1 } ?_ (hR.drew 1) rfl
        exact Nat.mod_lt _ hpos
    · exact h.elim
  · exact h.elim
theorem sim_eff (hR : Rel ρ H F w) {o : Oper} {T : Tm} {a : Act} {v : Value} {H' : AHeap} (hE : ∀ x ∈ o.op.operands, VR ρ (aev T x) (a.eval x)) (h : aeff P T o H = some (v, H')) :
    ∃ v' w' ρ', ((execOp a.eval o).run P w = .ok (.value v') w' ∨ ((execOp a.eval o).run P w = .ok .skip w' ∧ v' = undef)) ∧ Rel ρ' H' F w' ∧ Ext H ρ ρ' ∧ H.length ≤ H'.length ∧ VR ρ' v v' := by
  obtain ⟨dst, op, type, pos, after, guard⟩ := o
  unfold aeff at h
  simp only at hE h
  have skip : ∀ {s : Sem Unit} {H2 : AHeap}, (∃ w', s.run P w = .ok () w' ∧ Rel ρ H2 F w' ∧ H2.length = H.length) → v = undef → H' = H2 →
      ∃ v' w' ρ', ((do s; pure .skip : Sem Next).run P w = .ok (.value v') w' ∨ ((do s; pure .skip : Sem Next).run P w = .ok .skip w' ∧ v' = undef)) ∧ Rel ρ' H' F w' ∧ Ext H ρ ρ' ∧ H.length ≤ H'.length ∧ VR ρ' v v' := by
    rintro s H2 ⟨w', h1, h2, h3⟩ rfl rfl
    exact ⟨undef, w', ρ, .inr ⟨by simp [h1], rfl⟩, h2, Ext.refl _ _, by omega, VR.undef _⟩
  have val : ∀ {s : Sem Value}, (∃ v' w' ρ', s.run P w = .ok v' w' ∧ Rel ρ' H' F w' ∧ Ext H ρ ρ' ∧ H.length ≤ H'.length ∧ VR ρ' v v') →
      ∃ v' w' ρ', ((do pure (.value (← s)) : Sem Next).run P w = .ok (.value v') w' ∨ ((do pure (.value (← s)) : Sem Next).run P w = .ok .skip w' ∧ v' = undef)) ∧ Rel ρ' H' F w' ∧ Ext H ρ ρ' ∧ H.length ≤ H'.length ∧ VR ρ' v v' := by
    rintro s ⟨v', w', ρ', h1, h2⟩
    exact ⟨v', w', ρ', .inl (by simp [h1]), h2⟩
  cases op <;> simp only [Op.operands] at hE <;> (try simp only [reduceCtorEq] at h) <;> simp only [execOp]
  case store t x y =>
    obtain ⟨H2, h1, h2⟩ := Option.map_eq_some_iff.1 h
    cases h2
    exact skip (hR.storeT (hE x (by simp)) (hE y (by simp)) h1) rfl rfl
  case mapUpdate t m k x =>
    obtain ⟨H2, h1, h2⟩ := Option.map_eq_some_iff.1 h
    cases h2
    exact skip (run_amapPut hR (hE m (by simp)) (hE k (by simp)) (hE x (by simp)) h1) rfl rfl
  case insert t m k x =>
    obtain ⟨H2, h1, h2⟩ := Option.map_eq_some_iff.1 h
    cases h2
    exact skip (run_amapPut hR (hE m (by simp)) (hE k (by simp)) (hE x (by simp)) h1) rfl rfl
  case mapEntry t m k =>
    obtain ⟨v', w', h1, h2, h3, h4⟩ := run_amapEntry (P := P) hR (hE m (by simp)) (hE k (by simp)) h
    exact val ⟨v', w', ρ, h1, h2, Ext.refl _ _, by omega, h4⟩
  case entryStore t m s x =>
    obtain ⟨H2, h1, h2⟩ := Option.map_eq_some_iff.1 h
    cases h2
    exact skip (run_aentryStore hR (hE m (by simp)) (hE s (by simp)) (hE x (by simp)) h1) rfl rfl
  case range t x => exact val (run_arange hR (hE x (by simp)) h)
  case convert s d x => exact val (run_aToBytes hR (hE x (by simp)) h)
  case call c =>
    obtain ⟨callee, args, argTypes⟩ := c
    simp only [Call.operands] at hE
    cases callee <;> (try simp only [reduceCtorEq] at h)
    rename_i b
    have ea : ∀ {l : List Operand}, args.toList = l → args = l.toArray := fun hx => by apply Array.ext'; simpa using hx
    have et : ∀ {l : List TypeId}, argTypes.toList = l → argTypes = l.toArray := fun hx => by apply Array.ext'; simpa using hx
    cases b <;> (try simp only [reduceCtorEq] at h)
    case append =>
      split at h
      · rename_i s x st xt hx ht
        obtain rfl := ea hx
        obtain rfl := et ht
        obtain ⟨v', w', ρ', h1, h2⟩ := run_aappend (P := P) (ty := type) hR (hE s (by simp)) (hE x (by simp)) h
        exact ⟨v', w', ρ', .inl (by simp [resolve, invoke, builtin, h1]), h2⟩
      · simp at h
    case copy =>
      split at h
      · rename_i s x st xt hx ht
        obtain rfl := ea hx
        obtain rfl := et ht
        obtain ⟨w', h1, h2, h3, h4⟩ := run_acopy2 (P := P) (ty := type) hR (hE s (by simp)) (hE x (by simp)) h
        exact ⟨v, w', ρ, .inl (by simp [resolve, invoke, builtin, h1]), h2, Ext.refl _ _, by omega, h4⟩
      · simp at h
    case delete =>
      split at h
      · rename_i m k t ts hx ht
        obtain rfl := ea hx
        obtain rfl := et ht
        obtain ⟨H2, h1, h2⟩ := Option.map_eq_some_iff.1 h
        cases h2
        obtain ⟨w', h1, h2, h3⟩ := run_adelete (P := P) (ty := type) (ts := (t :: ts).toArray) hR (by simp) (hE m (by simp)) (hE k (by simp)) h1
        exact ⟨.tuple #[], w', ρ, .inl (by simp [resolve, invoke, builtin, h1]), h2, Ext.refl _ _, by omega, VR.undef _⟩
      · simp at h
    case clear =>
      split at h
      · rename_i x t hx ht
        obtain rfl := ea hx
        obtain rfl := et ht
        obtain ⟨H2, h1, h2⟩ := Option.map_eq_some_iff.1 h
        cases h2
        obtain ⟨w', h1, h2, h3⟩ := run_aclear (P := P) (ty := type) hR (hE x (by simp)) h1
        exact ⟨.tuple #[], w', ρ, .inl (by simp [resolve, invoke, builtin, h1]), h2, Ext.refl _ _, by omega, VR.undef _⟩
      · simp at h
end Go.AW
end
