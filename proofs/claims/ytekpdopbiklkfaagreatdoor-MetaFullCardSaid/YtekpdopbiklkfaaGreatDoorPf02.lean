/-
  Parts of the proof, joined: AwOps.
-/
import Derived.Laws.Cells
import Derived.Laws.StructEq
import Derived.Laws.Strings
import Derived.MapKept
import Derived.Test.YtekpdopbiklkfaaGreatDoorPf01
section
set_option linter.unusedVariables false
set_option linter.unusedSimpArgs false
namespace Go.AW
open Go
variable {P : Program} {ρ : Ren} {H : AHeap} {F : Frm} {w : World}
theorem run_underlying {t : TypeId} {d : TypeDesc} (h : P.underlying t = some d) : (Go.underlying t).run P w = .ok d w := by simp [Go.underlying, h]
theorem run_isAgg {t : TypeId} {g : Bool} (h : aggT P t = some g) : (Go.isAgg t).run P w = .ok g w := by
  unfold aggT at h
  cases hu : P.underlying t with
  | none => simp [hu] at h
  | some d => rw [hu] at h; simp only [Go.isAgg, Sem.run_bind, run_underlying hu, Result.andThen_ok]; cases d <;> simp at h <;> subst h <;> rfl
theorem run_sizeOf {t : TypeId} {n : Nat} (h : szT P t = some n) : (Go.sizeOf t).run P w = .ok n w := by
  unfold szT at h
  cases hi : P.info? t with
  | none => simp [hi] at h
  | some i => simp [hi] at h; subst h; simp [Go.sizeOf, Go.typeInfo, hi]
theorem run_zeroValue {t : TypeId} {z : Value} (h : zeroT P t = some z) : (Go.zeroValue t).run P w = .ok z w := by
  unfold zeroT at h
  cases hi : P.info? t with
  | none => simp [hi] at h
  | some i => simp [hi] at h; simp [Go.zeroValue, Go.typeInfo, hi, h]
theorem run_typeInfo {t : TypeId} {i : TypeInfo} (h : P.info? t = some i) : (Go.typeInfo t).run P w = .ok i w := by simp [Go.typeInfo, h]
theorem run_part {t : TypeId} {cs cs' : Array Value} {off : Nat} {v : Value} (hv : VRs ρ cs.toList cs'.toList) (h : apart P t cs off = some v) :
    ∃ v', (Go.part t cs' off).run P w = .ok v' w ∧ VR ρ v v' := by
  unfold apart at h
  cases hg : aggT P t with
  | none => simp [hg] at h
  | some g =>
    simp only [hg, Option.bind_some] at h
    cases g with
    | true =>
      simp only [] at h
      cases hs : szT P t with
      | none => simp [hs] at h
      | some n =>
        simp only [hs, Option.map_some, Option.some.injEq] at h
        subst h
        refine ⟨.agg (cs'.extract off (off + n)), by simp [Go.part, run_isAgg hg, run_sizeOf hs], ?_⟩
        have h2 := (hv.drop off).take n
        have e : ∀ a : Array Value, a.extract off (off + n) = ((a.toList.drop off).take n).toArray := fun a => by
          apply Array.ext'; simp [List.extract_eq_take_drop]
        rw [e, e]
        exact VR.agg' h2
    | false =>
      simp only [] at h
      rw [← Array.getElem?_toList] at h
      obtain ⟨v', hv', hr⟩ := hv.get h
      rw [Array.getElem?_toList] at hv'
      exact ⟨v', by simp [Go.part, run_isAgg hg, hv'], hr⟩
theorem Rel.loadT (hR : Rel ρ H F w) {t : TypeId} {x x' v : Value} (hx : VR ρ x x') (h : aloadT P H t x = some v) :
    ∃ v', (Instr.loadAt t x').run P w = .ok v' w ∧ VR ρ v v' := by
  unfold aloadT at h
  split at h
  · rename_i a
    obtain ⟨g, hg, h⟩ := Option.bind_eq_some_iff.1 h
    have key : ∀ n cs, aload H a n = some cs → ∃ a' cs', x' = .pointer (some a') ∧ VRs ρ cs cs' ∧ cs'.length = n ∧ ∀ j v, cs'[j]? = some v → w.cell? (a'.add j) = some v := fun n cs hc => by
      cases hx with
      | ptr hl => obtain ⟨cs', h1, h2, h3⟩ := hR.row hl hc; exact ⟨_, cs', rfl, h1, h2, h3⟩
      | glob g => simp [aload] at hc
    cases g with
    | true =>
      simp only [] at h
      obtain ⟨n, hn, h⟩ := Option.bind_eq_some_iff.1 h
      obtain ⟨cs, hc, rfl⟩ := Option.map_eq_some_iff.1 h
      obtain ⟨a', cs', rfl, h1, h2, h3⟩ := key n cs hc
      refine ⟨.agg cs'.toArray, ?_, VR.agg' h1⟩
      have := run_loadCells_list (P := P) w a' cs' h3
      rw [h2] at this
      simp [Instr.loadAt, Instr.sureAddr, loadVar, run_isAgg hg, run_sizeOf hn, this]
    | false =>
      simp only [] at h
      obtain ⟨cs, hc, h⟩ := Option.bind_eq_some_iff.1 h
      obtain ⟨a', cs', rfl, h1, h2, h3⟩ := key 1 cs hc
      obtain ⟨v', hv', hr⟩ := h1.get h
      refine ⟨v', ?_, hr⟩
      have := h3 0 v' hv'
      rw [show a'.add 0 = a' from by simp [Addr.add]] at this
      simp [Instr.loadAt, Instr.sureAddr, loadVar, run_isAgg hg, this]
  · simp at h
theorem run_field {t : TypeId} {x x' v : Value} {i : Nat} (hx : VR ρ x x') (h : afield P t x i = some v) : ∃ v', (Instr.field t x' i).run P w = .ok v' w ∧ VR ρ v v' := by
  unfold afield at h
  split at h
  · rename_i cs
    obtain ⟨cs', rfl, hc⟩ := hx.agg_inv
    obtain ⟨f, hf, h⟩ := Option.bind_eq_some_iff.1 h
    unfold fieldT at hf
    split at hf
    · rename_i fs hu
      obtain ⟨v', h1, h2⟩ := run_part (w := w) hc h
      exact ⟨v', by simp [Instr.field, run_underlying hu, hf, asAgg, h1], h2⟩
    · simp at hf
  · simp at h
theorem run_index {t : TypeId} {x x' ix v : Value} (hx : VR ρ x x') (h : aindex P t x ix = some v) : ∃ v', (Instr.index t x' ix).run P w = .ok v' w ∧ VR ρ v v' := by
  unfold aindex at h
  split at h
  · rename_i n e cs k i hu
    obtain ⟨cs', rfl, hc⟩ := hx.agg_inv
    split at h
    · rename_i hi
      obtain ⟨s, hs, h⟩ := Option.bind_eq_some_iff.1 h
      obtain ⟨v', h1, h2⟩ := run_part (w := w) hc h
      exact ⟨v', by simp [Instr.index, asIntOf, run_underlying hu, hi, run_sizeOf hs, h1], h2⟩
    · simp at h
  · rename_i s k i hu
    cases hx
    split at h
    · rename_i hi
      obtain ⟨b, hb, rfl⟩ := Option.map_eq_some_iff.1 h
      exact ⟨_, by simp [Instr.index, asIntOf, run_underlying hu, hi, hb], .int _ _⟩
    · simp at h
  · simp at h
theorem run_extract {x x' v : Value} {i : Nat} (hx : VR ρ x x') (h : aextract x i = some v) : ∃ v', (Instr.extract x' i).run P w = .ok v' w ∧ VR ρ v v' := by
  unfold aextract at h
  split at h
  · obtain ⟨cs', rfl, hc⟩ := hx.tuple_inv
    rw [← Array.getElem?_toList] at h
    obtain ⟨v', h1, h2⟩ := hc.get h
    rw [Array.getElem?_toList] at h1
    exact ⟨v', by simp [Instr.extract, h1], h2⟩
  · simp at h
theorem ptr_inv {a : Addr} {x' : Value} (h : VR ρ (.pointer (some a)) x') (hs : a.spot = none) : ∃ l, ρ a.block = some l ∧ x' = .pointer (some ⟨l.blk, l.base + a.off, none⟩) := by
  cases h with
  | ptr hl => exact ⟨_, hl, rfl⟩
  | glob g => simp at hs
theorem add_off (a : Addr) (h : a.spot = none) (n : Nat) : a.add n = ⟨a.block, a.off + n, none⟩ := by
  obtain ⟨b, o, s⟩ := a
  simp at h; subst h
  exact add_none b o n
theorem run_fieldAddr {s : TypeId} {x x' v : Value} {i : Nat} (hx : VR ρ x x') (h : afieldAddr P s x i = some v) : ∃ v', (Instr.fieldAt s x' i).run P w = .ok v' w ∧ VR ρ v v' := by
  unfold afieldAddr at h
  split at h
  · rename_i a
    split at h
    · simp at h
    · rename_i hs
      obtain ⟨f, hf, h⟩ := Option.bind_eq_some_iff.1 h
      obtain ⟨n, hn, h⟩ := Option.bind_eq_some_iff.1 h
      split at h
      · simp at h
      · rename_i hz
        cases h
        have hs' : a.spot = none := by simpa using hs
        obtain ⟨l, hl, rfl⟩ := ptr_inv hx hs'
        unfold fieldT at hf
        split at hf
        · rename_i fs hu
          refine ⟨.pointer (some ⟨l.blk, l.base + a.off + f.offset, none⟩), ?_, ?_⟩
          · simp [Instr.fieldAt, run_underlying hu, hf, Instr.sureAddr, fieldPlace, run_sizeOf hn, hz, add_none]
          · rw [add_off a hs', Nat.add_assoc]; exact .ptr hl
        · simp at hf
  · simp at h
theorem slice_inv {a : Addr} {n c : Nat} {x' : Value} (h : VR ρ (.slice (some a) n c) x') (hs : a.spot = none) (hn : 0 < n) :
    ∃ l c', ρ a.block = some l ∧ x' = .slice (some ⟨l.blk, l.base + a.off, none⟩) n c' ∧ n ≤ c' ∧ (c = c' ∨ (c = 0 ∧ l.base + a.off + c' * l.esz ≤ l.csz)) := by
  cases h with
  | slice hl hc hn => exact ⟨_, _, hl, rfl, hn, .inl rfl⟩
  | sliceU hl hn hb => exact ⟨_, _, hl, rfl, hn, .inr ⟨rfl, hb⟩⟩
  | sliceZ id off a' => omega
  | sliceE a' => simp at hs
theorem run_indexAddr {t : TypeId} {x x' ix v : Value} (hx : VR ρ x x') (h : aindexAddr P t x ix = some v) : ∃ v', (Instr.indexAt t x' ix).run P w = .ok v' w ∧ VR ρ v v' := by
  unfold aindexAddr at h
  split at h
  · rename_i e a n c k i hu
    split at h
    · simp at h
    · rename_i hs
      have hs' : a.spot = none := by simpa using hs
      split at h
      · rename_i hi
        obtain ⟨s, hss, h⟩ := Option.bind_eq_some_iff.1 h
        cases h
        obtain ⟨l, c', hl, rfl, _, _⟩ := slice_inv hx hs' (by omega)
        refine ⟨.pointer (some ⟨l.blk, l.base + a.off + i.toNat * s, none⟩), ?_, ?_⟩
        · simp [Instr.indexAt, asIntOf, run_underlying hu, hi, run_sizeOf hss, add_none]
        · rw [add_off a hs', Nat.add_assoc]; exact .ptr hl
      · simp at h
  · rename_i n e a k i hu
    split at h
    · simp at h
    · rename_i hs
      have hs' : a.spot = none := by simpa using hs
      split at h
      · rename_i hi
        obtain ⟨s, hss, h⟩ := Option.bind_eq_some_iff.1 h
        cases h
        obtain ⟨l, hl, rfl⟩ := ptr_inv hx hs'
        refine ⟨.pointer (some ⟨l.blk, l.base + a.off + i.toNat * s, none⟩), ?_, ?_⟩
        · simp [Instr.indexAt, asIntOf, run_underlying hu, hi, run_sizeOf hss, add_none, Instr.sureAddr]
        · rw [add_off a hs', Nat.add_assoc]; exact .ptr hl
      · simp at h
  · simp at h
end Go.AW
namespace Go.AW
open Go
variable {P : Program} {ρ : Ren} {H : AHeap} {F : Frm} {w : World}
def PtrOk (P : Program) (ρ : Ren) (H : AHeap) (w : World) : Prop :=
  ∀ (a b : Addr) (l m : Loc), a.spot = none → b.spot = none → ownRow H a.block = true → ownRow H b.block = true → ρ a.block = some l → ρ b.block = some m →
    (sameAddr ⟨l.blk, l.base + a.off, none⟩ ⟨m.blk, m.base + b.off, none⟩).run P w = .ok (a == b) w
theorem PtrOk.nil : PtrOk P ρ [] w := fun a b l m _ _ h => by simp [ownRow] at h
theorem ownRow_spec {id : Nat} (h : ownRow H id = true) : ∃ c cs k, H[id]? = some (.row (c :: cs) k true) ∧ k ≠ 1 := by
  unfold ownRow at h
  split at h
  · rename_i c cs k hr; exact ⟨c, cs, k, hr, by simpa using h⟩
  · simp at h
theorem Rel.ptrOk (hR : Rel ρ H F w) : PtrOk P ρ H w := by
  intro a b l m ha hb hoa hob hl hm
  obtain ⟨c, cs, k, h1, hk⟩ := ownRow_spec hoa
  obtain ⟨c', cs', k', h1', hk'⟩ := ownRow_spec hob
  obtain ⟨arr, e, fz, g1, g2, _, g4, _⟩ := hR.obj _ _ _ hl h1
  obtain ⟨arr', e', fz', g1', g2', _, g4', _⟩ := hR.obj _ _ _ hm h1'
  obtain ⟨_, _, g7, g8, _⟩ := g4 rfl
  obtain ⟨_, _, g7', g8', _⟩ := g4' rfl
  obtain ⟨ab, ao, asx9⟩ := a
  obtain ⟨bb, bo, bs⟩ := b
  simp only at ha hb hl hm h1 h1' ⊢
  subst ha hb
  simp only [List.length_cons] at g2 g2'
  by_cases hid : ab = bb
  · subst hid
    rw [hl] at hm; cases hm
    have : ((⟨l.blk, l.base + ao, none⟩ : Addr) == ⟨l.blk, l.base + bo, none⟩) = ((⟨ab, ao, none⟩ : Addr) == ⟨ab, bo, none⟩) := by
      rw [Bool.eq_iff_iff]; simp
    simp [sameAddr, this]
  · have hne : l.blk ≠ m.blk := hR.sep _ _ _ _ _ _ hl hm h1 h1' hid rfl rfl
    have hne' : ((⟨ab, ao, none⟩ : Addr) == ⟨bb, bo, none⟩) = false := by simp [hid]
    have fa : ∀ o, w.frozen? ⟨l.blk, o, none⟩ = false := fun o => by
      have := g8 hk
      simp only [World.frozen?, g1, Bool.and_eq_false_iff, decide_eq_false_iff_not]
      omega
    have fb : ∀ o, w.frozen? ⟨m.blk, o, none⟩ = false := fun o => by
      have := g8' hk'
      simp only [World.frozen?, g1', Bool.and_eq_false_iff, decide_eq_false_iff_not]
      omega
    have sa : w.shape? l.blk = some (e, arr.size) := by simp [World.shape?, g1]
    have sb : w.shape? m.blk = some (e', arr'.size) := by simp [World.shape?, g1']
    have z1 : arr.size ≠ 0 := by omega
    have z2 : arr'.size ≠ 0 := by omega
    have beq : (l.blk == m.blk) = false := by simp [hne]
    rw [hne']
    simp [sameAddr, beq, fa, fb, noView, viewAt, sa, sb, mayBeOne, stringish]
theorem VR.isNone_ptr {a : Option Addr} {x' : Value} (h : VR ρ (.pointer a) x') : ∃ a', x' = .pointer a' ∧ a'.isNone = a.isNone := by
  cases h <;> exact ⟨_, rfl, rfl⟩
theorem VR.isNone_slice {a : Option Addr} {n c : Nat} {x' : Value} (h : VR ρ (.slice a n c) x') : ∃ a' n' c', x' = .slice a' n' c' ∧ a'.isNone = a.isNone := by
  cases h <;> exact ⟨_, _, _, rfl, rfl⟩
theorem VR.isNone_map {a : Option Nat} {x' : Value} (h : VR ρ (.map a) x') : ∃ a', x' = .map a' ∧ a'.isNone = a.isNone := by
  cases h <;> exact ⟨_, rfl, rfl⟩
theorem run_aeq (hp : PtrOk P ρ H w) : ∀ (d : Nat) (t : TypeId) (x y x' y' : Value) (b : Bool), VR ρ x x' → VR ρ y y' → aeq P H d t x y = some b →
    ∀ n, d ≤ n → (Op.equalIn n t x' y').run P w = .ok b w := by
  intro d
  induction d with
  | zero => intro t x y x' y' b _ _ h; simp [aeq] at h
  | succ d ih =>
    intro t x y x' y' b hx hy h n hn
    obtain ⟨n, rfl⟩ : ∃ m, n = m + 1 := ⟨n - 1, by omega⟩
    have hn : d ≤ n := by omega
    unfold aeq at h
    split at h
    · rename_i hu; cases hx; cases hy; cases h; simp [Op.equalIn, run_underlying hu]
    · rename_i hu; cases hx; cases hy
      split at h
      · rename_i hk; cases h; simp [Op.equalIn, run_underlying hu, hk]
      · simp at h
    · rename_i hu; cases hx; cases hy; cases h; simp [Op.equalIn, run_underlying hu]
    · rename_i hu; cases hx
      obtain ⟨a', rfl, ha⟩ := hy.isNone_ptr
      cases h; simp [Op.equalIn, run_underlying hu, ha]
    · rename_i a hu
      obtain ⟨a', rfl, ha⟩ := hx.isNone_ptr
      cases hy; cases h
      cases a' with
      | none => simp at ha
      | some a' => simp [Op.equalIn, run_underlying hu]
    · rename_i e a b hu
      split at h
      · rename_i k hs
        split at h
        · rename_i hc
          cases h
          simp only [Bool.and_eq_true, Option.isNone_iff_eq_none] at hc
          obtain ⟨⟨⟨h1, h2⟩, h3⟩, h4⟩ := hc
          obtain ⟨l, hl, rfl⟩ := ptr_inv hx h1
          obtain ⟨m, hm, rfl⟩ := ptr_inv hy h2
          have := hp a b l m h1 h2 h3 h4 hl hm
          simp [Op.equalIn, run_underlying hu, run_sizeOf hs, this]
        · simp at h
      · simp at h
    · rename_i hu; cases hx; cases hy; cases h; simp [Op.equalIn, run_underlying hu]
    · rename_i hu; cases hx; cases hy; cases h; simp [Op.equalIn, run_underlying hu]
    · rename_i hu; cases hx; cases hy; cases h; simp [Op.equalIn, run_underlying hu]
    · rename_i hu
      cases hx; cases hy
      rename_i vx' hvx vy' hvy
      split at h
      · rename_i ht; cases h; simp [Op.equalIn, run_underlying hu, ht]
      · rename_i ht
        split at h
        · rename_i i hi
          split at h
          · rename_i hc
            have := ih _ _ _ _ _ _ hvx hvy h n hn
            simp [Op.equalIn, run_underlying hu, ht, run_typeInfo hi, hc, this]
          · simp at h
        · simp at h
    · rename_i fs xs ys hu
      obtain ⟨xs', rfl, hxs⟩ := hx.agg_inv
      obtain ⟨ys', rfl, hys⟩ := hy.agg_inv
      split at h
      · simp at h
      · rename_i hst
        have hf : P.fieldsOf t = fs := by simp [Program.fieldsOf, hu]
        rw [run_equalIn_struct w n t xs' ys' (by rw [hf]; exact hu) (by simpa using hst), hf]
        revert h
        generalize fs.toList = l
        induction l generalizing b with
        | nil => intro h; simp at h; subst h; simp [Op.eqFields]
        | cons f l ihl =>
          intro h
          simp only [List.foldr_cons] at h
          split at h
          · rename_i hname
            split at h
            · rename_i u v hu1 hv1
              obtain ⟨u', hu2, hur⟩ := run_part (w := w) hxs hu1
              obtain ⟨v', hv2, hvr⟩ := run_part (w := w) hys hv1
              split at h
              · rename_i heq
                have := ih _ _ _ _ _ _ hur hvr heq n hn
                simp only [Op.eqFields, if_pos hname, Sem.run_bind, hu2, hv2, this, Result.andThen_ok]
                simpa using ihl _ h
              · rename_i heq
                have := ih _ _ _ _ _ _ hur hvr heq n hn
                cases h
                simp [Op.eqFields, hname, hu2, hv2, this]
              · simp at h
            · simp at h
          · rename_i hname
            simp only [Op.eqFields, if_neg hname]
            exact ihl _ h
    · rename_i hu; 
      obtain ⟨b', n', c', rfl, hb⟩ := hy.isNone_slice
      cases hx; cases h; simp [Op.equalIn, run_underlying hu, hb]
    · rename_i hu
      obtain ⟨a', n', c', rfl, ha⟩ := hx.isNone_slice
      cases hy; cases h
      cases a' with
      | none => simp at ha
      | some a' => simp [Op.equalIn, run_underlying hu]
    · rename_i hu
      obtain ⟨b', rfl, hb⟩ := hy.isNone_map
      cases hx; cases h; simp [Op.equalIn, run_underlying hu, hb]
    · rename_i hu
      obtain ⟨a', rfl, ha⟩ := hx.isNone_map
      cases hy; cases h
      cases a' with
      | none => simp at ha
      | some a' => simp [Op.equalIn, run_underlying hu]
    · rename_i hu; cases hx; cases hy; cases h; simp [Op.equalIn, run_underlying hu]
    · rename_i hu; cases hx; cases hy; cases h; simp [Op.equalIn, run_underlying hu]
    · rename_i hu; cases hx; cases hy; cases h; simp [Op.equalIn, run_underlying hu]
    · simp at h
end Go.AW
namespace Go.AW
open Go
variable {P : Program} {ρ : Ren} {H : AHeap} {F : Frm} {w : World}
theorem run_aint {op : BinOp} {k : IntKind} {a b : Int} {v : Value} (h : aint op k a b = some v) (t : TypeId) :
    (Go.binOp op t (.int k a) (.int k b)).run P w = .ok v w := by
  unfold aint at h
  cases op <;> simp at h
  case quo => obtain ⟨h0, rfl⟩ := h; simp [Go.binOp, Op.intDiv, h0]
  case rem => obtain ⟨h0, rfl⟩ := h; simp [Go.binOp, Op.intDiv, h0]
  all_goals (subst h; simp [Go.binOp, Op.intArith, Op.intBits, Op.intCmp]; try rfl)
theorem run_ashift {op : BinOp} {k k' : IntKind} {a b : Int} {v : Value} (h : ashift op k a b = some v) (t : TypeId) :
    (Go.binOp op t (.int k a) (.int k' b)).run P w = .ok v w := by
  unfold ashift at h
  split at h
  · simp at h
  · rename_i hb
    cases op <;> simp at h <;> subst h <;> simp [Go.binOp, Op.shift, hb]
theorem run_astr {op : BinOp} {a b : ByteArray} {v : Value} (h : astr op a b = some v) (t : TypeId) :
    (Go.binOp op t (.string a) (.string b)).run P w = .ok v w := by
  unfold astr at h
  cases op <;> simp only [reduceCtorEq] at h
  case add =>
    split at h
    · simp at h
    · rename_i hs; cases h
      simp [Go.binOp, Op.stringOp]
      have e : IntKind.i64.max = 9223372036854775807 := rfl
      rw [e] at hs
      omega
  all_goals (cases h; simp [Go.binOp, Op.stringOp])
theorem eqGuardIn_nil' {t : TypeId} {ms : Array (String × TypeId)} (hu : P.underlying t = some (.interface ms)) (d : Nat) : (Op.eqGuardIn (d + 1) t .nilIface .nilIface).run P w = .ok (!ms.isEmpty) w := by
  simp [Op.eqGuardIn, run_underlying hu]
theorem eqGuardIn_nil {t : TypeId} {ms : Array (String × TypeId)} (hu : P.underlying t = some (.interface ms)) : (Op.eqGuardIn Op.maxDepth t .nilIface .nilIface).run P w = .ok (!ms.isEmpty) w := eqGuardIn_nil' hu 9999
theorem eqGuard_core (p : PtrOk P ρ H w) {t : TypeId} {op : BinOp} (ho : op = .eql ∨ op = .neq) {xo yo : Operand} {x y x' y' : Value} (hx : VR ρ x x') (hy : VR ρ y y') (h : aeqGuard P t xo yo x y = true) :
    (Go.eqGuard op t xo yo x' y').run P w = .ok () w := by
  have hop : Go.eqGuard op t xo yo x' y' = Go.eqGuard .eql t xo yo x' y' := by rcases ho with rfl | rfl <;> rfl
  rw [hop]
  unfold Go.eqGuard
  dsimp only
  simp only [Bool.not_true, Bool.false_eq_true, if_false]
  unfold aeqGuard at h
  split at h
  · cases hx; cases hy
    have key : noMeth P t = true →
        ((do if ← Op.eqGuardIn Op.maxDepth t .nilIface .nilIface then unsupported (.noEntry "binop/eql: two nil values of an interface type with methods, neither of them the literal nil") : Sem Unit)).run P w = .ok () w := fun h3 => by
      unfold noMeth at h3
      split at h3
      · rename_i ms hu
        rw [Sem.run_bind, eqGuardIn_nil hu, h3]; rfl
      · simp at h3
    cases xo <;> cases yo <;> first | rfl | (refine key ?_; simpa [isConst] using h)
  · obtain ⟨_, rfl, _⟩ := hx.agg_inv
    obtain ⟨_, rfl, _⟩ := hy.agg_inv
    have h' : P.eqGuardType P.depth t = false := by simpa using h
    simp [h']
  · rename_i n1 n2
    have e1 : x' = .nilIface → x = .nilIface := by rintro rfl; cases hx; rfl
    have e2 : y' = .nilIface → y = .nilIface := by rintro rfl; cases hy; rfl
    have a1 : ∀ cs, x' = .agg cs → ∃ cs, x = .agg cs := by rintro cs rfl; cases hx; exact ⟨_, rfl⟩
    have a2 : ∀ cs, y' = .agg cs → ∃ cs, y = .agg cs := by rintro cs rfl; cases hy; exact ⟨_, rfl⟩
    split
    · exact absurd (e2 rfl) (n1 (e1 rfl))
    · obtain ⟨c1, q1⟩ := a1 _ rfl
      obtain ⟨c2, q2⟩ := a2 _ rfl
      exact absurd q2 (n2 _ _ q1)
    · rfl
theorem eqGuard_gi {op : BinOp} {t : TypeId} {xo yo : Operand} {x y : Value} (h1 : x ≠ .nilIface) (h2 : ∀ cs, x ≠ .agg cs) : (Go.eqGuard op t xo yo x y).run P w = .ok () w := by
  have key : (Go.eqGuard .eql t xo yo x y).run P w = .ok () w := by
    unfold Go.eqGuard
    dsimp only
    simp only [Bool.not_true, Bool.false_eq_true, if_false]
    cases x <;> first | rfl | exact absurd rfl h1 | exact absurd rfl (h2 _)
  cases op <;> first | exact key | rfl
theorem aeq_float (d : Nat) (t : TypeId) (k k' : FloatKind) (a b : Nat) : aeq P H (d + 1) t (.float k a) (.float k' b) = none := by
  unfold aeq; split <;> simp_all
theorem binOp_eql {t : TypeId} {x y x' y' : Value} {b : Bool} (hx : VR ρ x x') (hy : VR ρ y y') (hb : aeq P H 10000 t x y = some b)
    (n1 : ∀ k a k' b, x = .int k a → y = .int k' b → False) (n2 : ∀ a b, x = .string a → y = .string b → False) :
    Go.binOp .eql t x' y' = (do pure (.bool (← Op.equal t x' y')) : Sem Value) := by
  cases hx <;> cases hy <;> first
    | rfl
    | exact absurd rfl (fun h => n1 _ _ _ _ rfl h)
    | exact absurd rfl (fun h => n2 _ _ rfl h)
    | (have := aeq_float (P := P) (H := H) 9999 t; rw [this] at hb; simp at hb)
theorem binOp_neq {t : TypeId} {x y x' y' : Value} {b : Bool} (hx : VR ρ x x') (hy : VR ρ y y') (hb : aeq P H 10000 t x y = some b)
    (n1 : ∀ k a k' b, x = .int k a → y = .int k' b → False) (n2 : ∀ a b, x = .string a → y = .string b → False) :
    Go.binOp .neq t x' y' = (do pure (.bool (!(← Op.equal t x' y'))) : Sem Value) := by
  cases hx <;> cases hy <;> first
    | rfl
    | exact absurd rfl (fun h => n1 _ _ _ _ rfl h)
    | exact absurd rfl (fun h => n2 _ _ rfl h)
    | (have := aeq_float (P := P) (H := H) 9999 t; rw [this] at hb; simp at hb)
theorem run_abin (hp : PtrOk P ρ H w) {op : BinOp} {t : TypeId} {xo yo : Operand} {x y x' y' v : Value} (hx : VR ρ x x') (hy : VR ρ y y') (h : abin P H op t xo yo x y = some v) :
    (do Go.eqGuard op t xo yo x' y'; Go.binOp op t x' y' : Sem Value).run P w = .ok v w ∧ VR ρ v v := by
  unfold abin at h
  split at h
  · cases hx; cases hy
    refine ⟨by rw [Sem.run_bind, eqGuard_gi (by simp) (by simp)]; exact run_ashift h t, ?_⟩
    unfold ashift at h
    split at h
    · simp at h
    · simp at h; subst h; exact .int _ _
  · cases hx; cases hy
    refine ⟨by rw [Sem.run_bind, eqGuard_gi (by simp) (by simp)]; exact run_ashift h t, ?_⟩
    unfold ashift at h
    split at h
    · simp at h
    · simp at h; subst h; exact .int _ _
  · cases hx; cases hy
    split at h
    · rename_i hk; subst hk
      refine ⟨by rw [Sem.run_bind, eqGuard_gi (by simp) (by simp)]; exact run_aint h t, ?_⟩
      unfold aint at h
      split at h <;> first
        | (cases h; first | exact .int _ _ | exact .bool _)
        | (split at h <;> first | (simp at h; done) | (cases h; exact .int _ _))
        | simp at h
    · simp at h
  · cases hx; cases hy
    refine ⟨by rw [Sem.run_bind, eqGuard_gi (by simp) (by simp)]; exact run_astr h t, ?_⟩
    unfold astr at h
    split at h <;> first
      | (cases h; first | exact .string _ | exact .bool _)
      | (split at h <;> first | (simp at h; done) | (cases h; exact .string _))
      | simp at h
  · rename_i n1 n2
    split at h
    · rename_i hg
      obtain ⟨b, hb, rfl⟩ := Option.map_eq_some_iff.1 h
      refine ⟨?_, .bool _⟩
      rw [Sem.run_bind, eqGuard_core hp (.inl rfl) hx hy hg]
      have he := run_aeq hp 10000 t x y x' y' b hx hy hb 10000 (Nat.le_refl _)
      simp only [Result.andThen_ok]
      rw [binOp_eql (H := H) hx hy hb n1 n2]
      simp [Op.equal, Op.maxDepth, he]
    · simp at h
  · rename_i n1 n2
    split at h
    · rename_i hg
      obtain ⟨b, hb, rfl⟩ := Option.map_eq_some_iff.1 h
      refine ⟨?_, .bool _⟩
      rw [Sem.run_bind, eqGuard_core hp (.inr rfl) hx hy hg]
      have he := run_aeq hp 10000 t x y x' y' b hx hy hb 10000 (Nat.le_refl _)
      simp only [Result.andThen_ok]
      rw [binOp_neq (H := H) hx hy hb n1 n2]
      simp [Op.equal, Op.maxDepth, he]
    · simp at h
  · simp at h
end Go.AW
namespace Go.AW
open Go
variable {P : Program} {ρ : Ren} {H : AHeap} {F : Frm} {w : World}
theorem run_aun {op : UnOp} {x x' v : Value} (hx : VR ρ x x') (h : aun op x = some v) : (Op.unary op x').run P w = .ok v w ∧ VR ρ v v := by
  unfold aun at h
  split at h <;> first
    | (cases hx; cases h; exact ⟨by simp [Op.unary, Op.intArith, Op.intBits], by first | exact .int _ _ | exact .bool _⟩)
    | simp at h
theorem run_aconv {s d : TypeId} {x x' v : Value} (hx : VR ρ x x') (h : aconv P s d x = some v) : (Go.convert s d x').run P w = .ok v w ∧ VR ρ v v := by
  unfold aconv at h
  split at h
  · rename_i hs hd
    cases hx; cases h
    exact ⟨by simp [Go.convert, run_underlying hs, run_underlying hd, Conv.intToInt], .int _ _⟩
  · rename_i hs hd
    cases hx; cases h
    exact ⟨by simp [Go.convert, run_underlying hs, run_underlying hd], .string _⟩
  · rename_i hs hd
    cases hx; cases h
    exact ⟨by simp [Go.convert, run_underlying hs, run_underlying hd, Conv.intToString], .string _⟩
  · simp at h
theorem run_abound {v v' : Value} {y n : Nat} (hv : VR ρ v v') (h : abound v y = some n) {y' : Nat} (hy : y ≤ y') (c : BoundsCode) :
    (Instr.sliceBound v' y' c).run P w = .ok n w ∧ n ≤ y := by
  unfold abound at h
  split at h
  · rename_i k i
    cases hv
    split at h
    · rename_i hi; cases h
      exact ⟨by simp [Instr.sliceBound, asIntOf, hi.1, show i ≤ (y' : Int) by omega], by omega⟩
    · simp at h
  · simp at h
def OVR (ρ : Ren) (a b : Option Value) : Prop := match a, b with | none, none => True | some a, some b => VR ρ a b | _, _ => False
theorem run_bounds {lo hi lo' hi' : Option Value} (hl : OVR ρ lo lo') (hh : OVR ρ hi hi') {Y len cap h l : Nat} (isS : Bool) (hY : Y ≤ cap)
    (h1 : optB hi (some len) Y = some h) (h2 : optB lo (some 0) h = some l) :
    (Instr.sliceBounds isS len cap lo' hi' none).run P w = .ok (l, h, cap) w ∧ l ≤ h ∧ (hi = none → h = len) ∧ (hi ≠ none → h ≤ Y) := by
  unfold Instr.sliceBounds
  cases hi with
  | none =>
    cases hi' with
    | some _ => simp [OVR] at hh
    | none =>
      simp [optB] at h1; subst h1
      cases lo with
      | none =>
        cases lo' with
        | some _ => simp [OVR] at hl
        | none => simp [optB] at h2; subst h2; simp
      | some v =>
        cases lo' with
        | none => simp [OVR] at hl
        | some v' =>
          have := run_abound (P := P) (w := w) hl h2 (Nat.le_refl _) .sliceB
          simp [this.1, this.2]
  | some u =>
    cases hi' with
    | none => simp [OVR] at hh
    | some u' =>
      have g := run_abound (P := P) (w := w) hh h1 hY (if isS then .sliceAcap else .sliceAlen)
      cases lo with
      | none =>
        cases lo' with
        | some _ => simp [OVR] at hl
        | none => simp [optB] at h2; subst h2; simp [g.1, g.2]
      | some v =>
        cases lo' with
        | none => simp [OVR] at hl
        | some v' =>
          have := run_abound (P := P) (w := w) hl h2 (Nat.le_refl _) .sliceB
          simp [this.1, this.2, g.1, g.2]
theorem run_bounds3 {lo hi lo' hi' : Option Value} {mx mx' : Value} (hl : OVR ρ lo lo') (hh : OVR ρ hi hi') (hm : VR ρ mx mx') {Y len cap m h l : Nat} (hY : Y ≤ cap)
    (h0 : abound mx Y = some m) (h1 : optB hi none m = some h) (h2 : optB lo (some 0) h = some l) :
    (Instr.sliceBounds true len cap lo' hi' (some mx')).run P w = .ok (l, h, m) w ∧ l ≤ h ∧ h ≤ m ∧ m ≤ Y := by
  unfold Instr.sliceBounds
  have g0 := run_abound (P := P) (w := w) hm h0 hY .slice3Acap
  cases hi with
  | none => simp [optB] at h1
  | some u =>
    cases hi' with
    | none => simp [OVR] at hh
    | some u' =>
      have g := run_abound (P := P) (w := w) hh h1 (Nat.le_refl _) .slice3B
      cases lo with
      | none =>
        cases lo' with
        | some _ => simp [OVR] at hl
        | none => simp [optB] at h2; subst h2; simp [g0.1, g.1, g.2, g0.2]
      | some v =>
        cases lo' with
        | none => simp [OVR] at hl
        | some v' =>
          have := run_abound (P := P) (w := w) hl h2 (Nat.le_refl _) .slice3C
          simp [this.1, this.2, g.1, g.2, g0.1, g0.2]
theorem sliceAt_slice {t e : TypeId} {k : Nat} {a : Option Addr} {n c l h m : Nat} {lo hi mx : Option Value} (hu : P.underlying t = some (.slice e)) (hk : szT P e = some k)
    (hb : (Instr.sliceBounds true n c lo hi mx).run P w = .ok (l, h, m) w) :
    (Instr.sliceAt t (.slice a n c) lo hi mx).run P w = .ok (.slice (if m = l then a else a.map (·.add (l * k))) (h - l) (m - l)) w := by
  simp [Instr.sliceAt, Instr.slice, run_underlying hu, hb, run_sizeOf hk]
theorem Rel.esz (hR : Rel ρ H F w) {id k : Nat} {l : Loc} (hl : ρ id = some l) (h : rowOf H id k = true) : l.esz = k := by
  unfold rowOf at h
  split at h
  · rename_i cs k' hr
    obtain ⟨_, _, _, _, _, _, h4, _⟩ := hR.obj _ _ _ hl hr
    rw [(h4 rfl).1]; simpa using h
  · simp at h
theorem run_aslice (hR : Rel ρ H F w) {t : TypeId} {x x' v : Value} {lo hi mx lo' hi' mx' : Option Value} (hx : VR ρ x x') (hl : OVR ρ lo lo') (hh : OVR ρ hi hi') (hm : OVR ρ mx mx')
    (h : aslice P H t x lo hi mx = some v) : ∃ v', (Instr.sliceAt t x' lo' hi' mx').run P w = .ok v' w ∧ VR ρ v v' := by
  unfold aslice at h
  split at h
  · rename_i s hu
    cases hx
    cases mx with
    | some m => simp at h
    | none =>
      cases mx' with
      | some m => simp [OVR] at hm
      | none =>
        simp only [] at h
        obtain ⟨hn, h1, h⟩ := Option.bind_eq_some_iff.1 h
        obtain ⟨ln, h2, h⟩ := Option.bind_eq_some_iff.1 h
        cases h
        have hb := run_bounds (P := P) (w := w) hl hh false (Nat.le_refl s.size) h1 h2
        exact ⟨.string (s.extract ln hn), by simp [Instr.sliceAt, Instr.slice, run_underlying hu, hb.1], .string _⟩
  · rename_i e a n c hu
    obtain ⟨k, hk, g0⟩ := Option.bind_eq_some_iff.1 h
    clear h; have h := g0; clear g0
    cases mx with
    | none =>
      cases mx' with
      | some m => simp [OVR] at hm
      | none =>
        simp only [] at h
        obtain ⟨hn, h1, g1⟩ := Option.bind_eq_some_iff.1 h
        obtain ⟨ln, h2, g2⟩ := Option.bind_eq_some_iff.1 g1
        clear h g1; have h := g2; clear g2
        cases hx with
        | sliceNil =>
          have hb := run_bounds (P := P) (w := w) hl hh true (Nat.le_refl 0) h1 h2
          simp only [Option.some.injEq] at h; subst h
          have h3 : hn = 0 := by
            by_cases q : hi = none
            · exact hb.2.2.1 q
            · have := hb.2.2.2 q; omega
          have h4 : ln = 0 := by omega
          subst h3 h4
          exact ⟨_, sliceAt_slice hu hk hb.1, by simpa using VR.sliceNil⟩
        | @slice id off n c l hl' hc hnc =>
          rw [if_neg (by omega)] at h1
          have hb := run_bounds (P := P) (w := w) hl hh true (Nat.le_refl c) h1 h2
          have hle : hn ≤ c := by
            by_cases q : hi = none
            · have := hb.2.2.1 q; omega
            · exact hb.2.2.2 q
          simp only [Option.isSome_none, Bool.false_eq_true, if_false, if_neg (show ¬ c = 0 by omega)] at h
          refine ⟨_, sliceAt_slice hu hk hb.1, ?_⟩
          split at h
          · rename_i q
            simp only [Option.some.injEq] at h; subst h
            rw [if_pos q, show hn - ln = 0 by omega, show c - ln = 0 by omega]
            exact .sliceE _
          · rename_i q
            simp only [Option.some.injEq] at h; subst h
            rw [if_neg q]
            simp only [Option.map_some, add_none, Nat.add_assoc]
            exact .slice hl' (by omega) (by omega)
        | @sliceU id off n c' l hl' hnc hbd =>
          rw [if_pos rfl] at h1
          have hb := run_bounds (P := P) (w := w) hl hh true hnc h1 h2
          have hle : hn ≤ n := by
            by_cases q : hi = none
            · have := hb.2.2.1 q; omega
            · exact hb.2.2.2 q
          simp only [Option.isSome_none, Bool.false_eq_true, if_false, if_true] at h
          split at h
          · rename_i hrow
            have hes := hR.esz hl' hrow
            simp only [Option.some.injEq] at h; subst h
            refine ⟨_, sliceAt_slice hu hk hb.1, ?_⟩
            by_cases q : c' = ln
            · rw [if_pos q, show hn - ln = 0 by omega, show c' - ln = 0 by omega, add_none]
              exact .sliceZ _ _ _
            · rw [if_neg q]
              simp only [Option.map_some, add_none, Nat.add_assoc]
              refine .sliceU hl' (by omega) ?_
              rw [hes] at hbd ⊢
              have : (c' - ln) * k + ln * k = c' * k := by rw [← Nat.add_mul]; congr 1; omega
              omega
          · simp at h
        | sliceZ id off a' =>
          have hb := run_bounds (P := P) (w := w) hl hh true (Nat.le_refl 0) h1 h2
          have h3 : hn = 0 := by
            by_cases q : hi = none
            · exact hb.2.2.1 q
            · have := hb.2.2.2 q; simpa using this
          have h4 : ln = 0 := by omega
          subst h3 h4
          simp only [Option.isSome_none, Bool.false_eq_true, if_false, if_true] at h
          split at h
          · simp only [Option.some.injEq] at h; subst h
            exact ⟨_, sliceAt_slice hu hk hb.1, by rw [if_pos rfl, Nat.zero_mul, add_none]; exact .sliceZ _ _ _⟩
          · simp at h
        | sliceE a' =>
          have hb := run_bounds (P := P) (w := w) hl hh true (Nat.le_refl 0) h1 h2
          have h3 : hn = 0 := by
            by_cases q : hi = none
            · exact hb.2.2.1 q
            · have := hb.2.2.2 q; simpa using this
          have h4 : ln = 0 := by omega
          subst h3 h4
          simp at h; subst h
          exact ⟨_, sliceAt_slice hu hk hb.1, by simpa using VR.sliceE _⟩
    | some m0 =>
      cases mx' with
      | none => simp [OVR] at hm
      | some m0' =>
        simp only [] at h
        obtain ⟨m, h0, g0⟩ := Option.bind_eq_some_iff.1 h
        obtain ⟨hn, h1, g1⟩ := Option.bind_eq_some_iff.1 g0
        obtain ⟨ln, h2, g2⟩ := Option.bind_eq_some_iff.1 g1
        clear h g0 g1; have h := g2; clear g2
        cases hx with
        | sliceNil =>
          have hb := run_bounds3 (P := P) (w := w) (len := 0) hl hh hm (Nat.le_refl 0) h0 h1 h2
          simp only [Option.some.injEq] at h; subst h
          obtain ⟨hb, q1, q2, q3⟩ := hb
          have : m = 0 := by omega
          have : hn = 0 := by omega
          have : ln = 0 := by omega
          subst m hn ln
          exact ⟨_, sliceAt_slice hu hk hb, by simpa using VR.sliceNil⟩
        | @slice id off n c l hl' hc hnc =>
          rw [if_neg (by omega)] at h0
          obtain ⟨hb, q1, q2, q3⟩ := run_bounds3 (P := P) (w := w) (len := n) hl hh hm (Nat.le_refl c) h0 h1 h2
          simp only [Option.isSome_none, Bool.false_eq_true, if_false] at h
          refine ⟨_, sliceAt_slice hu hk hb, ?_⟩
          split at h
          · rename_i q
            simp only [Option.some.injEq] at h; subst h
            rw [if_pos q, show hn - ln = 0 by omega, show m - ln = 0 by omega]
            exact .sliceE _
          · rename_i q
            simp only [Option.some.injEq] at h; subst h
            rw [if_neg q]
            simp only [Option.map_some, add_none, Nat.add_assoc]
            exact .slice hl' (by omega) (by omega)
        | @sliceU id off n c' l hl' hnc hbd =>
          rw [if_pos rfl] at h0
          obtain ⟨hb, q1, q2, q3⟩ := run_bounds3 (P := P) (w := w) (len := n) hl hh hm hnc h0 h1 h2
          simp only [Option.isSome_none, Bool.false_eq_true, if_false] at h
          refine ⟨_, sliceAt_slice hu hk hb, ?_⟩
          split at h
          · rename_i q
            simp only [Option.some.injEq] at h; subst h
            rw [if_pos q, show hn - ln = 0 by omega, show m - ln = 0 by omega]
            exact .sliceE _
          · rename_i q
            simp only [Option.some.injEq] at h; subst h
            rw [if_neg q]
            simp only [Option.map_some, add_none, Nat.add_assoc]
            exact .slice hl' (by omega) (by omega)
        | sliceZ id off a' =>
          obtain ⟨hb, q1, q2, q3⟩ := run_bounds3 (P := P) (w := w) (len := 0) hl hh hm (Nat.le_refl 0) h0 h1 h2
          have : m = 0 := by simpa using q3
          have : hn = 0 := by omega
          have : ln = 0 := by omega
          subst m hn ln
          simp at h; subst h
          exact ⟨_, sliceAt_slice hu hk hb, by simpa using VR.sliceE _⟩
        | sliceE a' =>
          obtain ⟨hb, q1, q2, q3⟩ := run_bounds3 (P := P) (w := w) (len := 0) hl hh hm (Nat.le_refl 0) h0 h1 h2
          have : m = 0 := by simpa using q3
          have : hn = 0 := by omega
          have : ln = 0 := by omega
          subst m hn ln
          simp at h; subst h
          exact ⟨_, sliceAt_slice hu hk hb, by simpa using VR.sliceE _⟩
  · simp at h
end Go.AW
namespace Go.AW
open Go
variable {P : Program} {ρ : Ren} {H : AHeap} {F : Frm} {w : World}
theorem VRs.set {l l' : List Value} (h : VRs ρ l l') {v v' : Value} (hv : VR ρ v v') (i : Nat) : VRs ρ (l.set i v) (l'.set i v') := by
  refine ⟨by simp [h.1], fun j u u' hu hu' => ?_⟩
  rw [List.getElem?_set] at hu hu'
  split at hu
  · rename_i e
    rw [if_pos e] at hu'
    split at hu
    · rename_i q
      rw [if_pos (by rw [← h.1]; exact q)] at hu'
      cases hu; cases hu'; exact hv
    · simp at hu
  · rename_i e
    rw [if_neg e] at hu'
    exact h.2 j u u' hu hu'
def PVR (ρ : Ren) (l l' : List (Nat × Value)) : Prop := l.length = l'.length ∧ ∀ (i : Nat) p p', l[i]? = some p → l'[i]? = some p' → p.1 = p'.1 ∧ VR ρ p.2 p'.2
theorem PVR.inv {p : Nat × Value} {l m : List (Nat × Value)} (h : PVR ρ (p :: l) m) : ∃ v' l', m = (p.1, v') :: l' ∧ VR ρ p.2 v' ∧ PVR ρ l l' := by
  cases m with
  | nil => have := h.1; simp at this
  | cons q l' =>
    have := h.2 0 p q rfl rfl
    refine ⟨q.2, l', ?_, this.2, by have := h.1; simpa using this, fun i u u' hu hu' => h.2 (i + 1) u u' (by simpa using hu) (by simpa using hu')⟩
    rw [this.1]
theorem foldl_set (off : Nat) : ∀ (vs vs' : List Value) (n : Nat) (c c' : Array Value), VRs ρ vs vs' → VRs ρ c.toList c'.toList →
    VRs ρ ((vs.zipIdx n).foldl (fun cs (x : Value × Nat) => cs.setIfInBounds (off + x.2) x.1) c).toList ((vs'.zipIdx n).foldl (fun cs (x : Value × Nat) => cs.setIfInBounds (off + x.2) x.1) c').toList := by
  intro vs
  induction vs with
  | nil => intro vs' n c c' h hc; cases vs' with
    | nil => exact hc
    | cons => have := h.1; simp at this
  | cons v vs ih =>
    intro vs' n c c' h hc
    obtain ⟨v', l', rfl, hv, hl⟩ := h.inv
    simp only [List.zipIdx_cons, List.foldl_cons]
    refine ih _ _ _ _ hl ?_
    simp only [Array.toList_setIfInBounds]
    exact hc.set hv _
theorem fill_vr (place : Nat → Option (Nat × Nat)) : ∀ (ps ps' : List (Nat × Value)) (c c' cs : Array Value), PVR ρ ps ps' → VRs ρ c.toList c'.toList → Instr.fill place c ps = some cs →
    ∃ cs', Instr.fill place c' ps' = some cs' ∧ VRs ρ cs.toList cs'.toList := by
  intro ps
  induction ps with
  | nil =>
    intro ps' c c' cs h hc hf
    cases ps' with
    | nil => simp [Instr.fill] at hf ⊢; subst hf; exact hc
    | cons => have := h.1; simp at this
  | cons p ps ih =>
    intro ps' c c' cs h hc hf
    obtain ⟨v', l', rfl, hv, hl⟩ := h.inv
    obtain ⟨i, v⟩ := p
    unfold Instr.fill at hf ⊢
    split at hf
    · simp at hf
    · rename_i off size hp
      have hcs := hv.cells
      have hsz : v'.cells.size = v.cells.size := by have := hcs.1; simpa using this.symm
      have hcz : c'.size = c.size := by have := hc.1; simpa using this.symm
      simp only [hp]
      rw [hsz, hcz]
      split at hf
      · simp at hf
      · rename_i hq
        rw [if_neg hq]
        have e : ∀ (u : Value) (d : Array Value), (u.cells.zipIdx.foldl (fun cs x => cs.setIfInBounds (off + x.2) x.1) d) = ((u.cells.toList.zipIdx 0).foldl (fun cs (x : Value × Nat) => cs.setIfInBounds (off + x.2) x.1) d) := fun u d => by
          rw [← Array.foldl_toList]; simp
        refine ih _ _ _ _ hl ?_ hf
        have := foldl_set (ρ := ρ) off v.cells.toList v'.cells.toList 0 c c' hcs hc
        rw [← e v c, ← e v' c'] at this
        exact this
theorem plainV_func {d : Nat} {f : FuncId} {asx9 bs : Array Value} (h : (decide (asx9.size = 0) && decide (bs.size = 0)) = true) :
    VR ρ (.func (.func f) asx9 bs) (.func (.func f) asx9 bs) ∧ ∀ v', VR ρ (.func (.func f) asx9 bs) v' → v' = .func (.func f) asx9 bs := by
  simp only [Bool.and_eq_true, decide_eq_true_eq] at h
  have ea : asx9 = #[] := Array.eq_empty_of_size_eq_zero h.1
  have eb : bs = #[] := Array.eq_empty_of_size_eq_zero h.2
  subst ea eb
  refine ⟨.func _ rfl rfl (by simp) (by simp), fun v' hv => ?_⟩
  obtain ⟨asx9', bs', rfl, h1, h2⟩ := hv.func_inv
  have e1 := h1.1
  have e2 := h2.1
  simp at e1 e2
  have ea : asx9' = #[] := Array.eq_empty_of_size_eq_zero e1.symm
  have eb : bs' = #[] := Array.eq_empty_of_size_eq_zero e2.symm
  rw [ea, eb]
theorem plain_refl : ∀ (d : Nat) (v : Value), plainV d v = true → VR ρ v v ∧ ∀ v', VR ρ v v' → v' = v := by
  intro d
  induction d with
  | zero =>
    intro v h
    unfold plainV at h
    split at h <;> first
      | exact ⟨.bool _, fun v' hv => by cases hv; rfl⟩
      | exact ⟨.int _ _, fun v' hv => by cases hv; rfl⟩
      | exact ⟨.string _, fun v' hv => by cases hv; rfl⟩
      | exact ⟨.nilIface, fun v' hv => by cases hv; rfl⟩
      | exact ⟨.ptrNil, fun v' hv => by cases hv; rfl⟩
      | exact ⟨.sliceNil, fun v' hv => by cases hv; rfl⟩
      | exact ⟨.mapNil, fun v' hv => by cases hv; rfl⟩
      | exact ⟨.nilFunc, fun v' hv => by cases hv; rfl⟩
      | exact plainV_func (d := 0) h
      | (simp at h; done)
      | (rename_i hd; simp at hd; done)
  | succ d ih =>
    intro v h
    unfold plainV at h
    split at h <;> first
      | exact ⟨.bool _, fun v' hv => by cases hv; rfl⟩
      | exact ⟨.int _ _, fun v' hv => by cases hv; rfl⟩
      | exact ⟨.string _, fun v' hv => by cases hv; rfl⟩
      | exact ⟨.nilIface, fun v' hv => by cases hv; rfl⟩
      | exact ⟨.ptrNil, fun v' hv => by cases hv; rfl⟩
      | exact ⟨.sliceNil, fun v' hv => by cases hv; rfl⟩
      | exact ⟨.mapNil, fun v' hv => by cases hv; rfl⟩
      | exact ⟨.nilFunc, fun v' hv => by cases hv; rfl⟩
      | exact plainV_func (d := 0) h
      | (simp at h; done)
      | skip
    · rename_i d' t v hd
      have : d' = d := by simpa using hd.symm
      subst this
      have g := ih v h
      exact ⟨.iface t g.1, fun v' hv => by cases hv with | iface _ h2 => rw [g.2 _ h2]⟩
    · rename_i d' cs hd
      have : d' = d := by simpa using hd.symm
      subst this
      have g : ∀ (i : Nat) u, cs[i]? = some u → plainV d' u = true := fun i u hu => List.all_eq_true.1 h u (by rw [← Array.getElem?_toList] at hu; exact List.mem_of_getElem? hu)
      refine ⟨.agg rfl fun i u u' hu hu' => ?_, fun v' hv => ?_⟩
      · rw [hu] at hu'; cases hu'; exact (ih u (g i u hu)).1
      · cases hv with
        | agg ha h2 =>
          rename_i asx9'
          congr 1
          apply Array.ext_getElem?
          intro i
          by_cases hi : i < cs.size
          · have h3 := Array.getElem?_eq_getElem hi
            have h4 := Array.getElem?_eq_getElem (show i < asx9'.size by omega)
            rw [h3, h4, (ih _ (g i _ h3)).2 _ (h2 i _ _ h3 h4)]
          · rw [Array.getElem?_eq_none (by omega), Array.getElem?_eq_none (by omega)]
theorem zero_vr {t : TypeId} {z : Value} (h : zeroT P t = some z) (hp : plainV 100 z = true) : VR ρ z z := (plain_refl 100 z hp).1
theorem run_part_eq {t : TypeId} {cs : Array Value} {off : Nat} {v : Value} (h : apart P t cs off = some v) : (Go.part t cs off).run P w = .ok v w := by
  unfold apart at h
  cases hg : aggT P t with
  | none => simp [hg] at h
  | some g =>
    simp only [hg, Option.bind_some] at h
    cases g with
    | true =>
      simp only [] at h
      obtain ⟨n, hs, rfl⟩ := Option.map_eq_some_iff.1 h
      simp [Go.part, run_isAgg hg, run_sizeOf hs]
    | false =>
      simp only [] at h
      simp [Go.part, run_isAgg hg, h]
theorem run_acheck (em : Bool) : ∀ (d : Nat) (t : TypeId) (v : Value), acheck P d t v = true → ∀ n, d ≤ n → (Instr.checkKey em n t v).run P w = .ok () w := by
  intro d
  induction d with
  | zero => intro t v h; simp [acheck] at h
  | succ d ih =>
    intro t v h n hn
    obtain ⟨n, rfl⟩ : ∃ m, n = m + 1 := ⟨n - 1, by omega⟩
    unfold acheck at h
    split at h
    · rename_i hu; simp [Instr.checkKey, run_underlying hu]
    · simp at h
    · simp at h
    · rename_i fs cs hu
      simp only [Instr.checkKey, Sem.run_bind, run_underlying hu, Result.andThen_ok]
      rw [← Array.forIn_toList]
      revert h
      generalize fs.toList = l
      induction l with
      | nil => intro _; simp
      | cons f l ihl =>
        intro h
        simp only [List.all_cons, Bool.and_eq_true] at h
        obtain ⟨h1, h2⟩ := h
        split at h1
        · rename_i u hu1
          have e1 := run_part_eq (w := w) hu1
          have e2 := ih _ _ h1 n (by omega)
          have e3 := ihl h2
          by_cases hname : f.name = "_"
          · simp only [List.forIn_cons, hname, ne_eq, not_true_eq_false, if_false, Sem.run_bind, Sem.run_pure, Result.andThen_ok]
            exact e3
          · simp only [List.forIn_cons, hname, ne_eq, not_false_eq_true, if_true, Sem.run_bind, Sem.run_pure, Result.andThen_ok, e1, e2]
            exact e3
        · simp at h1
    · simp at h
    · have hu := ‹P.underlying t = some _›
      simp only [Instr.checkKey, Sem.run_bind, run_underlying hu, Result.andThen_ok]
      split <;> first | rfl | simp_all
    · simp at h
end Go.AW
namespace Go.AW
open Go
variable {P : Program} {ρ : Ren} {H : AHeap} {F : Frm} {w : World}
theorem ERs.inv {e : MapEntry} {l m : List MapEntry} (h : ERs ρ (e :: l) m) : ∃ e' l', m = e' :: l' ∧ ER ρ e e' ∧ ERs ρ l l' := by
  cases m with
  | nil => have := h.1; simp at this
  | cons q l' =>
    exact ⟨q, l', rfl, h.2 0 e q rfl rfl, by have := h.1; simpa using this, fun i u u' hu hu' => h.2 (i + 1) u u' (by simpa using hu) (by simpa using hu')⟩
def FR (ρ : Ren) (r r' : Option (Nat × Value)) : Prop := match r, r' with | none, none => True | some (i, v), some (j, u) => i = j ∧ VR ρ v u | _, _ => False
theorem findNow_of {kt : TypeId} {d : TypeDesc} (hd : P.underlying kt = some d) {k : Value} : ∀ (es es' : List MapEntry) (i : Nat) (r : Option (Nat × Value)) (r2 : Option (Nat × Value)),
    ERs ρ es es' → afind P kt k es i = some r → Instr.findNow d k es' i = some r2 → FR ρ r r2 := by
  intro es
  induction es with
  | nil =>
    intro es' i r r2 h ha hf
    cases es' with
    | nil => simp [afind] at ha; simp [Instr.findNow] at hf; subst ha hf; trivial
    | cons => have := h.1; simp at this
  | cons e es ih =>
    intro es' i r r2 h ha hf
    obtain ⟨e', l', rfl, he, hl⟩ := h.inv
    simp only [afind] at ha
    simp only [Instr.findNow] at hf
    have agree : ∀ b, Instr.sameNow d k e'.key = some b → aeq P [] (9999 + 1) kt k e.key = some b ∨ aeq P [] (9999 + 1) kt k e.key = none := fun b hb => by
      rw [he.key] at hb
      unfold Instr.sameNow at hb
      split at hb
      · split at hb
        · rename_i hk; cases hb; left; rw [‹e.key = _›]; unfold aeq; simp [hd, hk]
        · simp at hb
      · cases hb; left; rw [‹e.key = _›]; unfold aeq; simp [hd]
      · cases hb; left; rw [‹e.key = _›]; unfold aeq; simp [hd]
      · simp at hb
    cases hs : Instr.sameNow d k e'.key with
    | none => simp [hs] at hf
    | some b =>
      rcases agree b hs with hq | hq
      · rw [hs] at hf
        have hq' : aeq P [] 10000 kt k e.key = some b := hq
        rw [hq'] at ha
        cases b with
        | true => simp at hf ha; subst hf ha; exact ⟨rfl, he.val⟩
        | false => simp at hf ha; exact ih _ _ _ _ hl ha hf
      · have hq' : aeq P [] 10000 kt k e.key = none := hq
        rw [hq'] at ha; simp at ha
theorem findAsking_of {kt : TypeId} {k : Value} (hk : plainV 100 k = true) : ∀ (es es' : List MapEntry) (i : Nat) (r : Option (Nat × Value)),
    ERs ρ es es' → afind P kt k es i = some r → ∃ r2, (Instr.findAsking kt k es' i).run P w = .ok r2 w ∧ FR ρ r r2 := by
  intro es
  induction es with
  | nil =>
    intro es' i r h ha
    cases es' with
    | nil => simp [afind] at ha; subst ha; exact ⟨none, rfl, trivial⟩
    | cons => have := h.1; simp at this
  | cons e es ih =>
    intro es' i r h ha
    obtain ⟨e', l', rfl, he, hl⟩ := h.inv
    simp only [afind] at ha
    split at ha
    · rename_i hq
      cases ha
      have := run_aeq (w := w) (ρ := ρ) PtrOk.nil 10000 kt k e.key k e'.key true (plain_refl 100 k hk).1 (by rw [he.key]; exact (plain_refl 100 _ he.plain).1) hq 10000 (Nat.le_refl _)
      exact ⟨some (i, e'.val), by simp [Instr.findAsking, Op.equal, Op.maxDepth, this], rfl, he.val⟩
    · rename_i hq
      have := run_aeq (w := w) (ρ := ρ) PtrOk.nil 10000 kt k e.key k e'.key false (plain_refl 100 k hk).1 (by rw [he.key]; exact (plain_refl 100 _ he.plain).1) hq 10000 (Nat.le_refl _)
      obtain ⟨r2, h1, h2⟩ := ih _ _ _ hl ha
      exact ⟨r2, by simp [Instr.findAsking, Op.equal, Op.maxDepth, this, h1], h2⟩
    · simp at ha
theorem run_afind {kt : TypeId} {d : TypeDesc} (hd : P.underlying kt = some d) {k : Value} (hk : plainV 100 k = true) {es es' : List MapEntry} {r : Option (Nat × Value)} (h : ERs ρ es es') (ha : afind P kt k es 0 = some r) :
    ∃ r2, (Instr.findKey kt k es').run P w = .ok r2 w ∧ FR ρ r r2 := by
  simp only [Instr.findKey, Sem.run_bind, run_underlying hd, Result.andThen_ok]
  cases hf : Instr.findNow d k es' 0 with
  | none => exact findAsking_of hk es es' 0 r h ha
  | some r2 => exact ⟨r2, rfl, findNow_of hd es es' 0 r r2 h ha hf⟩
theorem Rel.mapObj (hR : Rel ρ H F w) {id : Nat} {l : Loc} {es : Array MapEntry} {ck : Nat} (hl : ρ id = some l) (h : H[id]? = some (.map es ck)) :
    ∃ es', w.heap[l.blk]? = some (.map es' ck) ∧ ERs ρ es.toList es'.toList := by
  obtain ⟨_, _, es', h1, h2⟩ := hR.obj _ _ _ hl h
  exact ⟨es', h1, h2⟩
theorem run_getObj {b : Nat} {o : Obj} (h : w.heap[b]? = some o) (hn : ∀ c e f, o ≠ .cells c e f) : (Go.getObj b).run P w = .ok o w := by
  simp only [Go.getObj, Sem.run, h]
theorem ERs.nil : ERs ρ [] [] := ⟨rfl, by simp⟩
theorem Rel.entries (hR : Rel ρ H F w) {m m' : Value} {es : Array MapEntry} (hm : VR ρ m m') (h : entriesOf H m = some es) :
    ∃ es', ERs ρ es.toList es'.toList ∧ (m' = .map none ∧ es' = #[] ∨ ∃ b ck, m' = .map (some b) ∧ w.heap[b]? = some (.map es' ck)) := by
  unfold entriesOf at h
  split at h
  · cases hm; cases h; exact ⟨#[], ERs.nil, .inl ⟨rfl, rfl⟩⟩
  · rename_i r
    cases hm with
    | map hl =>
      split at h
      · rename_i es0 ck hr
        cases h
        obtain ⟨es', h1, h2⟩ := hR.mapObj hl hr
        exact ⟨es', h2, .inr ⟨_, ck, rfl, h1⟩⟩
      · simp at h
  · simp at h
theorem acheck_und {d : Nat} {t : TypeId} {v : Value} (h : acheck P d t v = true) : ∃ u, P.underlying t = some u := by
  cases d with
  | zero => simp [acheck] at h
  | succ d =>
    cases hu : P.underlying t with
    | some u => exact ⟨u, rfl⟩
    | none => unfold acheck at h; simp [hu] at h
theorem VR.okPair {v v' : Value} (h : VR ρ v v') (b : Bool) : VR ρ (.tuple #[v, .bool b]) (.tuple #[v', .bool b]) :=
  VR.tuple' (VRs.cons h (VRs.cons (.bool b) VRs.nil))
theorem run_alookup (hR : Rel ρ H F w) {t : TypeId} {m m' k k' v : Value} {ok : Bool} (hm : VR ρ m m') (hk : VR ρ k k') (h : alookup P H t m k ok = some v) :
    ∃ v', (Instr.lookup t m' k' ok).run P w = .ok v' w ∧ VR ρ v v' := by
  unfold alookup at h
  obtain ⟨⟨kt, e⟩, hmt, h1⟩ := Option.bind_eq_some_iff.1 h
  obtain ⟨es, hes, h2⟩ := Option.bind_eq_some_iff.1 h1
  clear h h1
  split at h2
  · rename_i hko
    simp only [keyOk, Bool.and_eq_true] at hko
    obtain rfl := (plain_refl 100 k hko.2).2 _ hk
    obtain ⟨r, hr, h⟩ := Option.bind_eq_some_iff.1 h2
    clear h2
    obtain ⟨es', hE, hm'⟩ := hR.entries hm hes
    obtain ⟨d, hd⟩ := acheck_und hko.1
    obtain ⟨r2, h1, h2⟩ := run_afind (w := w) hd hko.2 hE hr
    have hu : P.underlying t = some (.map kt e) := by
      unfold mapT at hmt
      split at hmt
      · rename_i hu; cases hmt; exact hu
      · simp at hmt
    have hchk := run_acheck (P := P) (w := w) es'.isEmpty 100 kt k' hko.1 10000 (by omega)
    have fin : ∃ v', ((match r2 with
          | some (_, v) => pure (if ok then .tuple #[v, .bool true] else v)
          | none => do let z ← zeroValue e; pure (if ok then .tuple #[z, .bool false] else z) : Sem Value)).run P w = .ok v' w ∧ VR ρ v v' := by
      cases r with
      | none =>
        cases r2 with
        | some _ => simp [FR] at h2
        | none =>
          simp only [] at h
          split at h
          · rename_i hz
            obtain ⟨z, hz1, rfl⟩ := Option.map_eq_some_iff.1 h
            have hz2 : plainV 100 z = true := by simpa [hz1] using hz
            have hzv := zero_vr (ρ := ρ) hz1 hz2
            refine ⟨_, by simp [run_zeroValue hz1]; rfl, ?_⟩
            cases ok
            · exact hzv
            · exact hzv.okPair false
          · simp at h
      | some x =>
        cases r2 with
        | none => simp [FR] at h2
        | some y =>
          obtain ⟨i, a⟩ := x
          obtain ⟨j, b⟩ := y
          simp only [Option.some.injEq] at h; subst h
          refine ⟨_, rfl, ?_⟩
          cases ok
          · exact h2.2
          · exact h2.2.okPair true
    obtain ⟨v', hv1, hv2⟩ := fin
    refine ⟨v', ?_, hv2⟩
    rw [← hv1]
    rcases hm' with ⟨rfl, rfl⟩ | ⟨b, ck, rfl, hb⟩
    · simp only [Instr.lookup, Sem.run_bind, run_underlying hu, Result.andThen_ok, Sem.run_pure, hchk, h1]
      cases r2 with
      | none => simp only [Sem.run_bind]; cases (zeroValue e).run P w <;> simp
      | some y => rfl
    · have hg := run_getObj (P := P) hb (by simp)
      simp only [Instr.lookup, Sem.run_bind, run_underlying hu, Result.andThen_ok, Sem.run_pure, hg, hchk, h1]
      cases r2 with
      | none => simp only [Sem.run_bind]; cases (zeroValue e).run P w <;> simp
      | some y => rfl
  · simp at h2
theorem run_alen (hR : Rel ρ H F w) {t ty : TypeId} {x x' v : Value} (hx : VR ρ x x') (h : alen P H t x = some v) :
    (Builtin.len_ #[t] ty #[x']).run P w = .ok v w ∧ VR ρ v v := by
  unfold alen at h
  split at h
  · rename_i hu; cases hx; cases h; exact ⟨by simp [Builtin.len_, run_underlying hu, goInt], .int _ _⟩
  · rename_i hu; cases h; exact ⟨by simp [Builtin.len_, run_underlying hu, goInt], .int _ _⟩
  · rename_i hu; cases hx <;> cases h <;> exact ⟨by simp [Builtin.len_, run_underlying hu, goInt], .int _ _⟩
  · rename_i hu
    obtain ⟨es, hes, rfl⟩ := Option.map_eq_some_iff.1 h
    obtain ⟨es', hE, hm'⟩ := hR.entries hx hes
    have hs : es'.size = es.size := by have := hE.1; simpa using this.symm
    refine ⟨?_, .int _ _⟩
    rcases hm' with ⟨rfl, rfl⟩ | ⟨b, ck, rfl, hb⟩
    · rw [← hs]; simp [Builtin.len_, run_underlying hu, goInt]
    · have hg := run_getObj (P := P) hb (by simp)
      rw [← hs]; simp [Builtin.len_, run_underlying hu, hg, goInt]
  · simp at h
theorem run_acap {t ty : TypeId} {x x' v : Value} (hx : VR ρ x x') (h : acap P t x = some v) :
    (Builtin.cap_ #[t] ty #[x']).run P w = .ok v w ∧ VR ρ v v := by
  unfold acap at h
  split at h
  · rename_i hu; cases hx; cases h; exact ⟨by simp [Builtin.cap_, run_underlying hu, goInt], .int _ _⟩
  · rename_i hu
    split at h
    · simp at h
    · rename_i hc
      cases h
      cases hx with
      | slice hl hc' hn => exact ⟨by simp [Builtin.cap_, run_underlying hu, goInt], .int _ _⟩
      | sliceNil => exact absurd rfl hc
      | sliceU hl hn hb => exact absurd rfl hc
      | sliceZ id off a' => exact absurd rfl hc
      | sliceE a' => exact absurd rfl hc
  · simp at h
theorem amax2_vr {x x' y y' z : Value} (hx : VR ρ x x') (hy : VR ρ y y') (h : amax2 x y = some z) : (Builtin.max2 x' y').run P w = .ok z w ∧ VR ρ z z := by
  unfold amax2 at h
  split at h
  · cases hx; cases hy; cases h; exact ⟨rfl, .int _ _⟩
  · simp at h
theorem amin2_vr {x x' y y' z : Value} (hx : VR ρ x x') (hy : VR ρ y y') (h : amin2 x y = some z) : (Builtin.min2 x' y').run P w = .ok z w ∧ VR ρ z z := by
  unfold amin2 at h
  split at h
  · cases hx; cases hy; cases h; exact ⟨rfl, .int _ _⟩
  · simp at h
theorem run_afold (msg : String) {f : Value → Value → Option Value} {g : Value → Value → Sem Value} (hfg : ∀ x x' y y' z, VR ρ x x' → VR ρ y y' → f x y = some z → (g x' y').run P w = .ok z w ∧ VR ρ z z) :
    ∀ (n : Nat) (l l' : List Value) (v : Value), l.length = n → VRs ρ l l' → afold f l = some v →
      ∃ v', ((match l' with | [] => stuck msg | x :: rest => rest.foldlM g x : Sem Value)).run P w = .ok v' w ∧ VR ρ v v' := by
  intro n
  induction n with
  | zero =>
    intro l l' v hl h ha
    have : l = [] := List.length_eq_zero_iff.1 hl
    subst this
    simp [afold] at ha
  | succ n ih =>
    intro l l' v hl h ha
    cases l with
    | nil => simp at hl
    | cons x l =>
      obtain ⟨x', m, rfl, hx, hm⟩ := h.inv
      cases l with
      | nil =>
        have : m = [] := by have := hm.1; exact List.length_eq_zero_iff.1 (by simpa using this.symm)
        subst this
        simp [afold] at ha; subst ha
        exact ⟨x', rfl, hx⟩
      | cons y l =>
        obtain ⟨y', m', rfl, hy, hm'⟩ := hm.inv
        unfold afold at ha
        obtain ⟨z, hz, ha'⟩ := Option.bind_eq_some_iff.1 ha
        obtain ⟨h1, h2⟩ := hfg _ _ _ _ _ hx hy hz
        obtain ⟨v', h3, h4⟩ := ih (z :: l) (z :: m') v (by simpa using hl) (VRs.cons h2 hm') ha'
        refine ⟨v', ?_, h4⟩
        simp only [List.foldlM_cons, Sem.run_bind, h1, Result.andThen_ok]
        exact h3
end Go.AW
namespace Go.AW
open Go
variable {P : Program} {ρ : Ren} {H : AHeap} {F : Frm} {w : World}
theorem run_abuild {t : TypeId} {ps ps' : List (Nat × Value)} {v : Value} (hp : PVR ρ ps ps') (h : abuild P t ps = some v) :
    ∃ v', (Instr.build t ps'.toArray).run P w = .ok v' w ∧ VR ρ v v' := by
  unfold abuild at h
  obtain ⟨z, hz, h1⟩ := Option.bind_eq_some_iff.1 h
  clear h
  split at h1
  · rename_i hpl
    have hz1 := zero_vr (ρ := ρ) hz hpl
    split at h1
    · rename_i fs hu
      obtain ⟨pl, hpl, h2⟩ := Option.bind_eq_some_iff.1 h1
      obtain ⟨cs, hcs, rfl⟩ := Option.map_eq_some_iff.1 h2
      obtain ⟨cs', h3, h4⟩ := fill_vr (ρ := ρ) (fun i => pl[i]?) ps ps' z.cells z.cells cs hp hz1.cells hcs
      refine ⟨.agg cs', ?_, by simpa using VR.agg' h4⟩
      have hm : ∀ (l : List Field) (pl : List (Nat × Nat)), mapOpt (fun (f : Field) => (szT P f.type).map fun n => (f.offset, n)) l = some pl →
          (l.mapM (fun f => do pure (f.offset, ← Go.sizeOf f.type) : Field → Sem (Nat × Nat))).run P w = .ok pl w := by
        intro l
        induction l with
        | nil => intro pl h; simp [mapOpt] at h; subst h; rfl
        | cons f l ih =>
          intro pl h
          unfold mapOpt at h
          split at h
          · rename_i y ys hy hys
            obtain ⟨n, hn, rfl⟩ := Option.map_eq_some_iff.1 hy
            cases h
            simp only [List.mapM_cons, Sem.run_bind, run_sizeOf hn, Result.andThen_ok, Sem.run_pure, ih _ hys]
          · simp at h
      have hm2 := hm _ _ hpl
      have hm3 : (fs.mapM (fun f => do pure (f.offset, ← Go.sizeOf f.type) : Field → Sem (Nat × Nat))).run P w = .ok pl.toArray w := by
        rw [Array.mapM_eq_mapM_toList]
        simp only [Sem.run_map, hm2, Result.andThen_ok]
      simp only [Instr.build, Sem.run_bind, run_zeroValue hz, Result.andThen_ok, run_underlying hu, hm3]
      simp [h3]
    · rename_i n e hu
      obtain ⟨k, hk, h2⟩ := Option.bind_eq_some_iff.1 h1
      obtain ⟨cs, hcs, rfl⟩ := Option.map_eq_some_iff.1 h2
      obtain ⟨cs', h3, h4⟩ := fill_vr (ρ := ρ) (fun i => some (i * k, k)) ps ps' z.cells z.cells cs hp hz1.cells hcs
      refine ⟨.agg cs', ?_, by simpa using VR.agg' h4⟩
      simp only [Instr.build, Sem.run_bind, run_zeroValue hz, Result.andThen_ok, run_underlying hu, run_sizeOf hk]
      simp [h3]
    · simp at h1
  · simp at h1
theorem Rel.iter (hR : Rel ρ H F w) {v v' : Value} {r : Nat} {m : Option Nat} {s : Nat} {sn : Array Nat} {l : Nat} (hv : VR ρ v v') (h : mapIterOf H v = some (r, m, s, sn, l)) :
    H[r]? = some (.mapIter m s sn l) ∧ ∃ lr, ρ r = some lr ∧ lr.base = 0 ∧ v' = .pointer (some ⟨lr.blk, 0, none⟩) ∧ ObjAt ρ F.heap lr w.heap[lr.blk]? (.mapIter m s sn l) := by
  unfold mapIterOf at h
  split at h
  · rename_i r0
    split at h
    · rename_i m0 s0 sn0 l0 hr
      cases h
      cases hv with
      | ptr hl =>
        have hO := hR.obj _ _ _ hl hr
        exact ⟨hr, _, hl, hO.1, by rw [hO.1], hO⟩
    · simp at h
  · simp at h
theorem run_aentry (hR : Rel ρ H F w) {it it' v : Value} (hi : VR ρ it it') (h : aentry H it = some v) : ∃ v', (Instr.entry it').run P w = .ok v' w ∧ VR ρ v v' := by
  unfold aentry at h
  obtain ⟨⟨r, m, s, seen, last⟩, hit, h1⟩ := Option.bind_eq_some_iff.1 h
  clear h
  obtain ⟨hr, lr, hlr, hb, rfl, hO⟩ := hR.iter hi hit
  cases m with
  | none => simp at h1
  | some m =>
    simp only [] at h1
    split at h1
    · rename_i es clock hm
      split at h1
      · simp at h1
      · rename_i hck
        obtain ⟨st, hst, h2⟩ := Option.bind_eq_some_iff.1 h1
        obtain ⟨e, he, rfl⟩ := Option.map_eq_some_iff.1 h2
        obtain ⟨_, _, lm, hlm, hO⟩ := hO
        have hck' : clock = last := by simpa using hck
        obtain ⟨es', hes, hE⟩ := hR.mapObj hlm hm
        have hf : ∃ e', es'.find? (fun e => e.born == st) = some e' ∧ ER ρ e e' := by
          rw [← Array.find?_toList] at he
          have : ∀ (a b : List MapEntry), ERs ρ a b → ∀ e, a.find? (fun e => e.born == st) = some e → ∃ e', b.find? (fun e => e.born == st) = some e' ∧ ER ρ e e' := by
            intro a
            induction a with
            | nil => intro b _ e h; simp at h
            | cons x a ih =>
              intro b hab e h
              obtain ⟨x', b', rfl, hx, hb⟩ := hab.inv
              rw [List.find?_cons] at h ⊢
              rw [hx.born]
              split at h
              · rename_i q; cases h; exact ⟨x', rfl, hx⟩
              · rename_i q
                obtain ⟨e', h1, h2⟩ := ih _ hb _ h
                exact ⟨e', h1, h2⟩
          obtain ⟨e', h1, h2⟩ := this _ _ hE e he
          rw [Array.find?_toList] at h1
          exact ⟨e', h1, h2⟩
        obtain ⟨e', he', hee⟩ := hf
        have g1 := run_getObj (P := P) hO (by simp)
        have g2 := run_getObj (P := P) hes (by simp)
        refine ⟨.tuple #[e'.key, e'.val], ?_, ?_⟩
        · simp [Instr.entry, g1, hst, g2, hck', he']
        · rw [hee.key]; exact VR.tuple' (VRs.cons (plain_refl 100 _ hee.plain).1 (VRs.cons hee.val VRs.nil))
    · simp at h1
theorem methOf_ahead {t : TypeId} {name : String} {g : FuncId} (h : methOf P t name = some g) (v : Value) : (nilAhead (P.types.size + Made.depth) t v name).run P w = .ok (some false) w := by
  unfold methOf at h
  split at h
  · rename_i i hi
    split at h
    · rename_i m hm
      split at h
      · rename_i hp
        have hp' : m.path.toList = [] := by simpa using hp
        split at h
        · rename_i f e hf hu
          have ht : (typeInfo t).run P w = .ok i w := run_typeInfo hi
          obtain ⟨fuel, hfu⟩ : ∃ fuel, P.types.size + Made.depth = fuel + 1 := ⟨P.types.size + 99, rfl⟩
          rw [hfu]
          simp only [nilAhead, Sem.run_bind, ht, Result.andThen_ok, hm, hp', followBlind, Sem.run_pure, hf]
        · simp at h
      · simp at h
    · simp at h
  · simp at h
theorem run_nilChk {ev : Operand → Value} {o : Oper} {y : Operand} (ho : o.op = .nilCheck y) {x v : Value} (hx : VR ρ x (ev y)) (h : nilChkM P x = some v) :
    (execOp ev o).run P w = .ok (.value (ev y)) w ∧ VR ρ v (ev y) := by
  simp only [execOp, ho]
  generalize ev y = x' at *
  unfold nilChkM at h
  split at h
  · rename_i name asx9 bs
    split at h
    · rename_i t u hu
      split at h
      · rename_i hm
        cases h
        obtain ⟨g, hg⟩ := Option.isSome_iff_exists.1 hm
        obtain ⟨asx9', bs', rfl, h1, h2⟩ := hx.func_inv
        obtain ⟨u', hu', hv⟩ := h1.get (by simpa using hu)
        cases hv with
        | iface _ hv =>
          rename_i w'
          have e : asx9'[0]? = some (.iface t w') := by simpa using hu'
          have ha := methOf_ahead (P := P) (w := w) hg w'
          refine ⟨?_, hx⟩
          simp only [e, Sem.run_bind, run_program, Sem.run_pure, Result.andThen_ok]
          simp only [ha, Result.andThen_ok]
          rfl
      · simp at h
    · simp at h
  · unfold nilChk at h
    split at h
    · cases h
      cases hx with
      | ptr hl => exact ⟨rfl, .ptr hl⟩
      | glob g => exact ⟨rfl, .glob g⟩
    · cases h
      cases hx with
      | iface _ hv => exact ⟨rfl, .iface _ hv⟩
    · cases h
      obtain ⟨asx9', bs', rfl, h1, h2⟩ := hx.func_inv
      exact ⟨rfl, hx⟩
    · simp at h
theorem aToStr_slice {x v x' : Value} (h : aToStr H x = some v) (hx : VR ρ x x') : ∃ a n c, x' = .slice a n c := by
  unfold aToStr at h
  split at h
  · cases hx; exact ⟨_, _, _, rfl⟩
  · cases hx <;> exact ⟨_, _, _, rfl⟩
  · simp at h
theorem run_aToStr (hR : Rel ρ H F w) {x x' v : Value} (hx : VR ρ x x') (h : aToStr H x = some v) : (Conv.bytesToString x').run P w = .ok v w ∧ VR ρ v v := by
  unfold aToStr at h
  split at h
  · cases hx; cases h; exact ⟨rfl, .string _⟩
  · rename_i a n c
    split at h
    · rename_i hn; subst hn
      cases h
      have : ∃ a' c', x' = .slice (some a') 0 c' := by cases hx <;> exact ⟨_, _, rfl⟩
      obtain ⟨a', c', rfl⟩ := this
      exact ⟨by simp [Conv.bytesToString, loadCells, loadCellsFrom], .string _⟩
    · rename_i hn
      obtain ⟨cs, hcs, h2⟩ := Option.bind_eq_some_iff.1 h
      obtain ⟨bs, hbs, rfl⟩ := Option.map_eq_some_iff.1 h2
      have hs : a.spot = none := by
        unfold aload at hcs
        split at hcs
        · assumption
        · simp at hcs
      obtain ⟨l, c', hl, rfl, _, _⟩ := slice_inv hx hs (by omega)
      obtain ⟨ab, ao, asx9⟩ := a
      simp only at hs hl; subst hs
      obtain ⟨cs', h3, h4, h5⟩ := hR.row hl hcs
      have hld := run_loadCells_list (P := P) w _ cs' h5
      rw [h4] at hld
      refine ⟨?_, .string _⟩
      have key : ∀ (cs cs' : List Value) (bs : List UInt8) (acc : ByteArray), VRs ρ cs cs' → mapOpt (fun v => match v with | .int .u8 b => some (UInt8.ofNat b.toNat) | _ => none) cs = some bs →
          (forIn cs' acc (fun c s => do
            match c with
            | .int .u8 n => pure (ForInStep.yield (s.push (UInt8.ofNat n.toNat)))
            | _ => do
              stuck "bytesToString: byte expected"
              pure (ForInStep.yield s) : Value → ByteArray → Sem (ForInStep ByteArray))).run P w = .ok ⟨acc.data ++ bs.toArray⟩ w := by
        intro cs
        induction cs with
        | nil =>
          intro cs' bs acc h hb
          cases cs' with
          | nil => simp [mapOpt] at hb; subst hb; simp
          | cons => have := h.1; simp at this
        | cons x cs ih =>
          intro cs' bs acc h hb
          obtain ⟨x', m, rfl, hx, hm⟩ := h.inv
          unfold mapOpt at hb
          split at hb
          · rename_i y ys hy hys
            cases hb
            split at hy
            · rename_i n
              cases hx; cases hy
              have := ih m ys (acc.push (UInt8.ofNat n.toNat)) hm hys
              simp only [List.forIn_cons, Sem.run_bind, Sem.run_pure, Result.andThen_ok]
              rw [this]
              congr 1
              obtain ⟨d⟩ := acc
              simp [ByteArray.push]
            · simp at hy
          · simp at hb
      have k2 := key cs cs' bs ByteArray.empty h3 hbs
      simp only [Conv.bytesToString, Sem.run_bind, hld, Result.andThen_ok]
      rw [← Array.forIn_toList]
      have e0 : ByteArray.empty.data ++ bs.toArray = bs.toArray := by show #[] ++ bs.toArray = bs.toArray; simp
      rw [e0] at k2
      exact congrArg (fun r : Result ByteArray => r.andThen fun a w' => Sem.run P (pure (Value.string a) : Sem Value) w') k2
  · simp at h
end Go.AW
namespace Go.AW
open Go
variable {P : Program} {ρ : Ren} {H : AHeap} {F : Frm} {w : World}
theorem VRs.map {ev ev' : Operand → Value} : ∀ {l : List Operand}, (∀ x ∈ l, VR ρ (ev x) (ev' x)) → VRs ρ (l.map ev) (l.map ev')
  | [], _ => VRs.nil
  | x :: l, h => VRs.cons (h x (by simp)) (VRs.map fun y hy => h y (by simp [hy]))
theorem PVR.map {ev ev' : Operand → Value} : ∀ {l : List (Nat × Operand)}, (∀ x ∈ l.map (·.2), VR ρ (ev x) (ev' x)) → PVR ρ (l.map fun p => (p.1, ev p.2)) (l.map fun p => (p.1, ev' p.2))
  | [], _ => ⟨rfl, by simp⟩
  | x :: l, h => by
    have ih := PVR.map (ev := ev) (ev' := ev') (l := l) fun y hy => h y (by simp at hy ⊢; exact .inr hy)
    refine ⟨by simp, fun i p p' hp hp' => ?_⟩
    cases i with
    | zero => simp at hp hp'; subst hp hp'; exact ⟨rfl, h x.2 (by simp)⟩
    | succ i => exact ih.2 i p p' (by simpa using hp) (by simpa using hp')
theorem OVR.map {ev ev' : Operand → Value} {o : Option Operand} (h : ∀ x ∈ o.toArray, VR ρ (ev x) (ev' x)) : OVR ρ (o.map ev) (o.map ev') := by
  cases o with
  | none => trivial
  | some x => exact h x (by simp)
theorem run_val {s : Sem Value} {v : Value} (h : s.run P w = .ok v w) : (do pure (.value (← s)) : Sem Next).run P w = .ok (.value v) w := by simp [h]
theorem sim_read (hR : Rel ρ H F w) {o : Oper} {T : Tm} {a : Act} {v : Value} (hE : ∀ x ∈ o.op.operands, VR ρ (aev T x) (a.eval x)) (h : aread P T o H = some v) :
    ∃ v', (execOp a.eval o).run P w = .ok (.value v') w ∧ VR ρ v v' := by
  obtain ⟨dst, op, type, pos, after, guard⟩ := o
  have val : ∀ {s : Sem Value}, (∃ v', s.run P w = .ok v' w ∧ VR ρ v v') → ∃ v', (do pure (.value (← s)) : Sem Next).run P w = .ok (.value v') w ∧ VR ρ v v' :=
    fun ⟨v', h1, h2⟩ => ⟨v', run_val h1, h2⟩
  unfold aread at h
  simp only at hE h
  cases op <;> simp only [Op.operands] at hE <;> (try simp only [reduceCtorEq, Option.some.injEq] at h) <;> simp only [execOp]
  case move x => subst h; exact ⟨_, rfl, hE x (by simp)⟩
  case assign x => subst h; exact ⟨_, rfl, hE x (by simp)⟩
  case pick c x y =>
    have hc := hE c (by simp)
    split at h
    · rename_i b hb
      rw [hb] at hc
      cases h
      have hc' : a.eval c = .bool b := by revert hc; generalize a.eval c = u; intro hc; cases hc; rfl
      cases b
      · exact ⟨_, by simp [hc', asBool], hE y (by simp)⟩
      · exact ⟨_, by simp [hc', asBool], hE x (by simp)⟩
    · simp at h
  case nilCheck x =>
    exact ⟨_, run_nilChk (P := P) (w := w) (o := ⟨dst, .nilCheck x, type, pos, after, guard⟩) rfl (hE x (by simp)) h⟩
  case binOp op t x y yt =>
    obtain ⟨h1, h2⟩ := run_abin (P := P) (w := w) hR.ptrOk (hE x (by simp)) (hE y (by simp)) h
    exact ⟨v, run_val h1, h2⟩
  case unOp op t x =>
    obtain ⟨h1, h2⟩ := run_aun (P := P) (w := w) (hE x (by simp)) h
    exact ⟨v, run_val h1, h2⟩
  case convert s d x =>
    have hx := hE x (by simp)
    split at h
    · rename_i e hs hd
      split at h
      · rename_i he
        obtain ⟨h1, h2⟩ := run_aToStr (P := P) hR hx h
        refine ⟨v, run_val ?_, h2⟩
        have he' : P.underlying e = some (.int .u8) := by simpa using he
        obtain ⟨b, n, c, hb⟩ := aToStr_slice h hx
        rw [hb] at h1 ⊢
        simp only [Go.convert, Sem.run_bind, run_underlying hs, run_underlying hd, Result.andThen_ok, run_underlying he']
        exact h1
      · simp at h
    · obtain ⟨h1, h2⟩ := run_aconv (P := P) (w := w) hx h
      exact ⟨v, run_val h1, h2⟩
  case makeInterface t x =>
    split at h
    · simp at h
    · simp at h
    · rename_i d n1 hu
      cases h
      refine val ⟨.iface t (a.eval x), ?_, .iface t (hE x (by simp))⟩
      simp only [Instr.makeInterface, Sem.run_bind, run_underlying hu, Result.andThen_ok]
      rfl
  case makeFunc fn first captured =>
    subst h
    refine val ⟨_, rfl, .func fn (by simp) (by simp) ?_ ?_⟩
    · have := (VRs.map (ρ := ρ) (ev := aev T) (ev' := a.eval) (l := first.toList) fun x hx => hE x (by simp at hx ⊢; exact .inl hx)).2
      intro i u u' hu hu'
      exact this i u u' (by rw [← Array.toList_map, Array.getElem?_toList]; exact hu) (by rw [← Array.toList_map, Array.getElem?_toList]; exact hu')
    · have := (VRs.map (ρ := ρ) (ev := aev T) (ev' := a.eval) (l := captured.toList) fun x hx => hE x (by simp at hx ⊢; exact .inr hx)).2
      intro i u u' hu hu'
      exact this i u u' (by rw [← Array.toList_map, Array.getElem?_toList]; exact hu) (by rw [← Array.toList_map, Array.getElem?_toList]; exact hu')
  case field t x i => exact val (run_field (hE x (by simp)) h)
  case index t x i =>
    have hi := hE i (by simp)
    have : ∃ k n, aev T i = .int k n := by
      unfold aindex at h; split at h
      · exact ⟨_, _, ‹_›⟩
      · exact ⟨_, _, ‹_›⟩
      · simp at h
    obtain ⟨k, n, hn⟩ := this
    have hi' : a.eval i = .int k n := by rw [hn] at hi; revert hi; generalize a.eval i = u; intro hi; cases hi; rfl
    rw [hi', ← hn]
    exact val (run_index (hE x (by simp)) h)
  case fieldAddr t x i => exact val (run_fieldAddr (hE x (by simp)) h)
  case indexAddr t x i =>
    have hi := hE i (by simp)
    have : ∃ k n, aev T i = .int k n := by
      unfold aindexAddr at h; split at h
      · exact ⟨_, _, ‹_›⟩
      · exact ⟨_, _, ‹_›⟩
      · simp at h
    obtain ⟨k, n, hn⟩ := this
    have hi' : a.eval i = .int k n := by rw [hn] at hi; revert hi; generalize a.eval i = u; intro hi; cases hi; rfl
    rw [hi', ← hn]
    exact val (run_indexAddr (hE x (by simp)) h)
  case slice t x lo hi mx =>
    exact val (run_aslice hR (hE x (by simp)) (OVR.map fun y hy => hE y (by simp at hy ⊢; simp [hy])) (OVR.map fun y hy => hE y (by simp at hy ⊢; simp [hy])) (OVR.map fun y hy => hE y (by simp at hy ⊢; simp [hy])) h)
  case build t ps =>
    obtain ⟨v', h1, h2⟩ := run_abuild (P := P) (w := w) (PVR.map (ρ := ρ) (ev := aev T) (ev' := a.eval) (l := ps.toList) fun x hx => hE x (by simpa using hx)) h
    refine val ⟨v', ?_, h2⟩
    rw [← h1]
    congr 2
    apply Array.ext'
    simp
  case extract t i => exact val (run_extract (hE t (by simp)) h)
  case load t x => exact val (hR.loadT (hE x (by simp)) h)
  case lookup t m k ok => exact val (run_alookup hR (hE m (by simp)) (hE k (by simp)) h)
  case entry it => exact val (run_aentry hR (hE it (by simp)) h)
  case call c =>
    obtain ⟨callee, args, argTypes⟩ := c
    simp only [Call.operands] at hE
    cases callee <;> (try simp only [reduceCtorEq] at h)
    rename_i b
    cases b <;> (try simp only [reduceCtorEq] at h)
    case len =>
      split at h
      · rename_i x t hx ht
        have ea : args = #[x] := by apply Array.ext'; simpa using hx
        have et : argTypes = #[t] := by apply Array.ext'; simpa using ht
        subst ea et
        obtain ⟨h1, h2⟩ := run_alen (P := P) (ty := type) hR (hE x (by simp)) h
        exact ⟨v, by simp [resolve, invoke, builtin, h1], h2⟩
      · simp at h
    case cap =>
      split at h
      · rename_i x t hx ht
        have ea : args = #[x] := by apply Array.ext'; simpa using hx
        have et : argTypes = #[t] := by apply Array.ext'; simpa using ht
        subst ea et
        obtain ⟨h1, h2⟩ := run_acap (P := P) (w := w) (ty := type) (hE x (by simp)) h
        exact ⟨v, by simp [resolve, invoke, builtin, h1], h2⟩
      · simp at h
    case max =>
      have hv := VRs.map (ρ := ρ) (ev := aev T) (ev' := a.eval) (l := args.toList) fun x hx => hE x (by simpa using hx)
      obtain ⟨v', h1, h2⟩ := run_afold (P := P) (w := w) "max: at least one argument expected" (g := Builtin.max2) (fun x x' y y' z hx hy hz => amax2_vr hx hy hz) _ _ _ v rfl hv h
      refine ⟨v', ?_, h2⟩
      simp only [resolve, invoke, builtin, Sem.run_bind, Sem.run_pure, Result.andThen_ok, Builtin.max_, Array.toList_map]
      exact congrArg (fun r : Result Value => r.andThen fun a w' => Result.ok (Next.value a) w') h1
    case min =>
      have hv := VRs.map (ρ := ρ) (ev := aev T) (ev' := a.eval) (l := args.toList) fun x hx => hE x (by simpa using hx)
      obtain ⟨v', h1, h2⟩ := run_afold (P := P) (w := w) "min: at least one argument expected" (g := Builtin.min2) (fun x x' y y' z hx hy hz => amin2_vr hx hy hz) _ _ _ v rfl hv h
      refine ⟨v', ?_, h2⟩
      simp only [resolve, invoke, builtin, Sem.run_bind, Sem.run_pure, Result.andThen_ok, Builtin.min_, Array.toList_map]
      exact congrArg (fun r : Result Value => r.andThen fun a w' => Result.ok (Next.value a) w') h1
end Go.AW
end
