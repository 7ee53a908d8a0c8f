/-
  AW, part 32: what is handed to a law, as an abstract heap; a law's row out of a contract of the calculus.
-/
import Derived.Test.YtpehfhnmcpdllaaGreatDoorAwSort
import Derived.Test.YtpehfhnmcpdllaaGreatDoorAwMore
import Derived.Deep.Slices
import Derived.ProofKit
import Derived.OpenShut
import Derived.ShutString
import Derived.ChangeOld
import Derived.Below
import Derived.SizedLaws
set_option linter.unusedVariables false
set_option linter.unusedSimpArgs false
namespace Go.AW
open Go Go.RowKit
variable {P : Program}

/-! ### plain data, by its leaves -/
inductive LK where
  | int (k : IntKind) | bool | str
def LK.fits : LK → Value → Prop
  | .int k, v => ∃ n, v = .int k n ∧ (Lit.int k n).wf = true
  | .bool, v => ∃ b, v = .bool b
  | .str, v => ∃ s : ByteArray, v = .string s ∧ s.size ≤ maxLen
/-- a plain type's leaves -/
def leafs (P : Program) : Nat → TypeId → Option (List LK)
  | 0, _ => none
  | d + 1, t =>
    match P.underlying t with
    | some (.int k) => some [.int k]
    | some .bool => some [.bool]
    | some .string => some [.str]
    | some (.struct fs) =>
      (fs.toList.foldl (fun (acc : Option (List LK)) f => acc.bind fun ks => (leafs P d f.type).bind fun l => if f.offset = ks.length ∧ P.cellsOf f.type = l.length then some (ks ++ l) else none) (some [])).bind fun ks => if P.cellsOf t = ks.length then some ks else none
    | _ => none

def Fits (ks : List LK) (cs : List Value) : Prop := cs.length = ks.length ∧ ∀ (i : Nat) k v, ks[i]? = some k → cs[i]? = some v → k.fits v
theorem Fits.nil : Fits [] [] := ⟨rfl, by simp⟩
theorem Fits.one {k : LK} {v : Value} (h : k.fits v) : Fits [k] [v] := ⟨rfl, fun i k' v' h1 h2 => by
  cases i with
  | zero => simp at h1 h2; subst h1; subst h2; exact h
  | succ i => simp at h1⟩
theorem Fits.app {a b : List LK} {c d : List Value} (h : Fits a c) (h2 : Fits b d) : Fits (a ++ b) (c ++ d) := by
  refine ⟨by simp [h.1, h2.1], fun i k v hk hv => ?_⟩
  by_cases hi : i < a.length
  · rw [List.getElem?_append_left hi] at hk
    rw [List.getElem?_append_left (by rw [h.1]; exact hi)] at hv
    exact h.2 i k v hk hv
  · rw [List.getElem?_append_right (by omega)] at hk
    rw [List.getElem?_append_right (by rw [h.1]; omega), h.1] at hv
    exact h2.2 _ k v hk hv
theorem Fits.cons {k : LK} {ks : List LK} {cs : List Value} (h : Fits (k :: ks) cs) : ∃ v r, cs = v :: r ∧ k.fits v ∧ Fits ks r := by
  cases cs with
  | nil => have := h.1; simp at this
  | cons v r => exact ⟨v, r, rfl, h.2 0 k v rfl rfl, by have := h.1; simpa using this, fun i k' v' h1 h2 => h.2 (i + 1) k' v' (by simpa using h1) (by simpa using h2)⟩
theorem Fits.end_ {cs : List Value} (h : Fits [] cs) : cs = [] := List.eq_nil_of_length_eq_zero h.1
theorem LK.plain {k : LK} {v : Value} (h : k.fits v) : plain1 v = true := by
  cases k with
  | int k => obtain ⟨n, rfl, _⟩ := h; rfl
  | bool => obtain ⟨n, rfl⟩ := h; rfl
  | str => obtain ⟨n, rfl, _⟩ := h; rfl
theorem Fits.plain {ks : List LK} {cs : List Value} (h : Fits ks cs) : ∀ v ∈ cs, plain1 v = true := fun v hv => by
  obtain ⟨i, hi⟩ := List.getElem?_of_mem hv
  have hl : i < ks.length := by
    rw [← h.1]
    rcases Nat.lt_or_ge i cs.length with q | q
    · exact q
    · rw [List.getElem?_eq_none q] at hi; cases hi
  exact LK.plain (h.2 i _ v (List.getElem?_eq_getElem hl) hi)

section
variable {H : Type} {enc : TypeId × Value → H} {w : World} {base : Nat} {spare : Nat → Bool} {held : Bool}
theorem trod_leafs : ∀ (d : Nat) (t : TypeId) (ks : List LK) (fuel : Nat) (cs : List Value) (x : DataW H × List MemPlace), leafs P d t = some ks → DataW.trod enc P w base spare held fuel t cs = some x → Fits ks cs
  | 0, t, ks, fuel, cs, x, h, _ => by simp [leafs] at h
  | d + 1, t, ks, fuel, cs, x, h, hx => by
    unfold leafs at h
    split at h
    · rename_i k hu
      cases h
      obtain ⟨n, rfl, _, hw⟩ := DataW.trod_int hu hx
      exact Fits.one ⟨n, rfl, hw⟩
    · rename_i hu
      cases h
      obtain ⟨b, rfl, _⟩ := DataW.trod_bool hu hx
      exact Fits.one ⟨b, rfl⟩
    · rename_i hu
      cases h
      obtain ⟨s, rfl, _, hs⟩ := DataW.trod_string hu hx
      exact Fits.one ⟨s, rfl, hs⟩
    · rename_i fs hu
      simp only [Option.bind_eq_some_iff] at h
      obtain ⟨ks', hf, h⟩ := h
      split at h
      · rename_i hc
        cases h
        obtain ⟨xs, n, _, _, hl, hxl, hall⟩ := DataW.trod_struct hu hx
        have key : ∀ (l : List Field) (i : Nat) (acc : List LK), fs.toList.drop i = l → Fits acc (cs.take acc.length) →
            l.foldl (fun (acc : Option (List LK)) f => acc.bind fun ks => (leafs P d f.type).bind fun l => if f.offset = ks.length ∧ P.cellsOf f.type = l.length then some (ks ++ l) else none) (some acc) = some ks → Fits ks (cs.take ks.length) := by
          intro l
          induction l with
          | nil => intro i acc _ ha h; simp at h; subst h; exact ha
          | cons f l ih =>
            intro i acc hi ha h
            simp only [List.foldl_cons, Option.bind_some] at h
            have none_ : ∀ (l : List Field), l.foldl (fun (acc : Option (List LK)) f => acc.bind fun ks => (leafs P d f.type).bind fun l => if f.offset = ks.length ∧ P.cellsOf f.type = l.length then some (ks ++ l) else none) none = none := by
              intro l; induction l with
              | nil => rfl
              | cons g l ih => simpa using ih
            cases hlf : leafs P d f.type with
            | none => simp only [hlf, Option.bind_none] at h; rw [none_] at h; cases h
            | some lf =>
              simp only [hlf, Option.bind_some] at h
              split at h
              · rename_i hof
                have hi2 : i < fs.size := by
                  have := congrArg List.length hi; simp at this; omega
                have hfi : fs[i]? = some f := by
                  rw [← Array.getElem?_toList]
                  have := congrArg (·[0]?) hi
                  simpa using this
                have ht := hall i f hfi
                rw [List.getElem?_eq_getElem (by omega)] at ht
                have hfit := trod_leafs d f.type lf n _ _ hlf ht
                refine ih (i + 1) (acc ++ lf) ?_ ?_ h
                · rw [← List.tail_drop, hi]; rfl
                · have e : cs.take (acc ++ lf).length = cs.take acc.length ++ (cs.drop f.offset).take (P.cellsOf f.type) := by
                    rw [List.length_append, List.take_add, hof.1, hof.2]
                  rw [e]
                  exact ha.app hfit
              · rw [none_] at h; cases h
        have := key fs.toList 0 [] rfl (by simpa using Fits.nil) hf
        rwa [List.take_of_length_le (by omega)] at this
      · cases h
    · cases h
end

/-! ### what is handed in, as abstract objects -/
abbrev Given := Option (Loc × List Value)
def objOf : Given → AObj
  | none => .gone
  | some p => .row p.2 0 false
def Good (W : World) : Given → Prop
  | none => True
  | some p => ∃ arr e fz, W.heap[p.1.blk]? = some (.cells arr e fz) ∧ p.1.base + p.2.length ≤ arr.size ∧ ∀ (i : Nat) v, p.2[i]? = some v → arr[p.1.base + i]? = some v ∧ plain1 v = true
def renOf (os : List Given) : Ren := fun id => (os[id]?).bind fun o => o.map Prod.fst
theorem VR.plain {ρ : Ren} {v : Value} (h : plain1 v = true) : VR ρ v v := by
  cases v <;> first | (simp [plain1] at h; done) | constructor
theorem rel_of {W : World} (os : List Given) (h : ∀ o ∈ os, Good W o) : Rel (renOf os) (os.map objOf) (full W) W := by
  have key : ∀ id l, renOf os id = some l → ∃ cs, os[id]? = some (some (l, cs)) := fun id l hl => by
    unfold renOf at hl
    simp only [Option.bind_eq_some_iff, Option.map_eq_some_iff] at hl
    obtain ⟨o, ho, p, hp, rfl⟩ := hl
    subst hp
    exact ⟨p.2, ho⟩
  refine ⟨fun id l hl => ?_, full_ok W, fun id l o hl ho => ?_, fun i j l m o p hl hm ho hp hij h1 h2 => ?_⟩
  · obtain ⟨cs, hc⟩ := key id l hl
    rw [List.length_map]
    rcases Nat.lt_or_ge id os.length with q | q
    · exact q
    · rw [List.getElem?_eq_none q] at hc; cases hc
  · obtain ⟨cs, hc⟩ := key id l hl
    rw [List.getElem?_map, hc] at ho
    simp only [Option.map_some, Option.some.injEq, objOf] at ho
    subst ho
    obtain ⟨arr, e, fz, a1, a2, a3⟩ := h _ (List.mem_of_getElem? hc)
    refine ⟨arr, e, fz, a1, a2, fun i v v' hv hv' => ?_, fun q => Bool.noConfusion q, fun _ => by simp only [full]; rw [a1]; rfl⟩
    obtain ⟨b1, b2⟩ := a3 i v hv
    rw [hv'] at b1
    cases b1
    exact VR.plain b2
  · obtain ⟨cs, hc⟩ := key i l hl
    rw [List.getElem?_map, hc] at ho
    simp only [Option.map_some, Option.some.injEq, objOf] at ho
    subst ho
    simp [isOwn] at h1

theorem flat_of {α : Type} {enc : α → List Value} {cap : Nat} (f : Nat → α) : ((List.range cap).map f).flatMap enc = (List.range cap).flatMap fun i => enc (f i) := by
  rw [List.flatMap_map]

/-- a slice that is handed in -/
def ArgSl (a : Option Addr) (n c : Nat) : Prop := (a = none ∧ n = 0) ∨ (a = some ⟨0, 0, some 0⟩ ∧ n = 0 ∧ c = 0) ∨ ∃ id off, a = some ⟨id, off, none⟩ ∧ 0 < c ∧ n ≤ c
theorem ArgSl.cap {a : Option Addr} {n c : Nat} (h : ArgSl a n c) : n ≤ capOf n c := by
  unfold capOf
  rcases h with ⟨_, rfl⟩ | ⟨_, rfl, _⟩ | ⟨id, off, _, h1, h2⟩
  · exact Nat.zero_le _
  · exact Nat.zero_le _
  · rw [if_neg (by omega)]; exact h2
theorem ArgSl.cut {a : Option Addr} {n c : Nat} (h : ArgSl a n c) {m : Nat} (hm : m ≤ n) (H : AHeap) (k : Nat) :
    ∃ a' c', AW.cut H k a c 0 m = some (.slice a' m c') ∧ ArgSl a' m c' ∧ ∀ {α : Type} (enc : α → List Value) (l : List α), SlA H enc k a l → l.length = n → SlA H enc k a' (l.take m) := by
  rcases h with ⟨rfl, rfl⟩ | ⟨rfl, rfl, rfl⟩ | ⟨id, off, rfl, h1, h2⟩
  · obtain rfl : m = 0 := by omega
    exact ⟨none, 0, rfl, .inl ⟨rfl, rfl⟩, fun enc l h _ => by simpa using SlA.nil _ _ _ _⟩
  · obtain rfl : m = 0 := by omega
    exact ⟨_, 0, rfl, .inr (.inl ⟨rfl, rfl, rfl⟩), fun enc l h _ => by simpa using SlA.nil _ _ _ _⟩
  · refine ⟨some ⟨id, off, none⟩, c, ?_, .inr (.inr ⟨id, off, rfl, h1, by omega⟩), fun enc l h _ => h.take m⟩
    simp only [AW.cut, Option.isSome_none, Bool.false_eq_true, if_false, add_none, Nat.zero_mul, Nat.add_zero, Nat.sub_zero]
    rw [if_neg (by omega), if_neg (by omega)]

section
variable {H : Type} {enc : TypeId × Value → H} {W : World}
/-- a slice of plain structs that is handed in -/
theorem read_slice {α : Type} [Inhabited α] {cells : α → List Value} {wf : α → Prop} {t e k d : Nat} {ks : List LK} {a : Option Addr} {len cap : Nat} {x : DataW H} {p : List MemPlace} (hu : P.underlying t = some (.slice e)) (hl : leafs P d e = some ks) (hk : ks.length = k) (hk0 : 0 < k)
    (dec : ∀ cs, Fits ks cs → ∃ y : α, cs = cells y ∧ wf y) (h : DataW.Trod enc P W 0 (fun _ => true) true t (.slice a len cap) x p) (hco : P.cellsOf e = k) :
    ∃ o : Given, Good W o ∧ ∃ (l : List α) (c : Nat), l.length = len ∧ (∀ y ∈ l, wf y) ∧ ∀ (id : Nat) (ρ : Ren) (H0 : AHeap), ρ id = o.map Prod.fst → H0[id]? = some (objOf o) → ∃ a', VR ρ (.slice a' l.length c) (.slice a len cap) ∧ SlA H0 cells k a' l ∧ ArgSl a' l.length c := by
  obtain ⟨fuel, hf⟩ := h
  rcases Go.Deep.open_slice hu hf with ⟨hcs, _⟩ | ⟨ad, l, c, m, n, D, Pl, hcs, _, hlc, hm, hmm, _, hi⟩
  · simp [Value.cells] at hcs
    obtain ⟨rfl, rfl, rfl⟩ := hcs
    exact ⟨none, trivial, [], 0, rfl, by simp, fun id ρ H0 _ _ => ⟨none, .sliceNil, SlA.nil _ _ _ _, .inl ⟨rfl, rfl⟩⟩⟩
  · simp [Value.cells] at hcs
    obtain ⟨rfl, rfl, rfl⟩ := hcs
    simp only [if_true] at hmm
    subst hmm
    rw [hco] at hi
    by_cases hc0 : m = 0
    · subst hc0
      obtain rfl : len = 0 := by omega
      exact ⟨none, trivial, [], 0, rfl, by simp, fun id ρ H0 _ _ => ⟨some ⟨0, 0, some 0⟩, .sliceE ad, SlA.nil _ _ _ _, .inr (.inl ⟨rfl, rfl, rfl⟩)⟩⟩
    · have each : ∀ i, i < m → ∃ y : α, wf y ∧ ∀ j, j < k → W.cell? ((ad.add (i * k)).add j) = (cells y)[j]? := fun i him => by
        obtain ⟨cs, h1, h2⟩ := hi i him
        have hfit := trod_leafs d e ks n cs _ hl h2
        obtain ⟨y, rfl, hy⟩ := dec cs hfit
        obtain ⟨_, _, h3⟩ := World.cells?_some h1
        exact ⟨y, hy, h3⟩
      have clen : ∀ i, i < m → ∃ y : α, wf y ∧ (cells y).length = k ∧ (∀ v ∈ cells y, plain1 v = true) ∧ ∀ j, j < k → W.cell? ((ad.add (i * k)).add j) = (cells y)[j]? := fun i him => by
        obtain ⟨cs, h1, h2⟩ := hi i him
        have hfit := trod_leafs d e ks n cs _ hl h2
        obtain ⟨y, rfl, hy⟩ := dec cs hfit
        obtain ⟨_, h4, h3⟩ := World.cells?_some h1
        exact ⟨y, hy, h4, hfit.plain, h3⟩
      have hch : ∃ f : Nat → α, ∀ i, i < m → wf (f i) ∧ (cells (f i)).length = k ∧ (∀ v ∈ cells (f i), plain1 v = true) ∧ ∀ j, j < k → W.cell? ((ad.add (i * k)).add j) = (cells (f i))[j]? := by
        refine ⟨fun i => if h : i < m then Classical.choose (clen i h) else default, fun i him => ?_⟩
        simp only [him, dif_pos]
        exact Classical.choose_spec (clen i him)
      obtain ⟨f, hf⟩ := hch
      -- the place
      have hspot : ad.spot = none := by
        obtain ⟨_, h2, _, h4⟩ := hf 0 (by omega)
        have := h4 0 hk0
        rw [List.getElem?_eq_getElem (by omega)] at this
        cases hs : ad.spot with
        | none => rfl
        | some s =>
          exfalso
          have e : ((ad.add (0 * k)).add 0).spot.isSome = true := by simp [Addr.add, hs]
          unfold World.cell? at this
          split at this
          · rw [if_pos e] at this; cases this
          · cases this
      obtain ⟨blk, off, sp⟩ := ad
      simp only at hspot
      subst hspot
      simp only [add_none] at hf
      have hblk : ∃ arr e fz, W.heap[blk]? = some (.cells arr e fz) := by
        obtain ⟨_, h2, _, h4⟩ := hf 0 (by omega)
        have := h4 0 hk0
        rw [List.getElem?_eq_getElem (by omega)] at this
        unfold World.cell? at this
        split at this
        · exact ⟨_, _, _, by assumption⟩
        · cases this
      obtain ⟨arr, e2, fz, harr⟩ := hblk
      have hcl : ∀ i, i < m → ∀ j, j < k → arr[off + i * k + j]? = (cells (f i))[j]? := fun i him j hj => by
        rw [← (hf i him).2.2.2 j hj, cell?_of harr]
      have hflen : ∀ q, q ≤ m → ((List.range q).flatMap fun i => cells (f i)).length = q * k := fun q => by
        induction q with
        | zero => intro _; simp
        | succ q ih =>
          intro hq
          rw [List.range_succ, List.flatMap_append, List.length_append, ih (by omega)]
          simp [(hf q (by omega)).2.1, Nat.add_mul]
      have hat : ∀ q, q ≤ m → ∀ (i : Nat) v, ((List.range q).flatMap fun i => cells (f i))[i]? = some v → arr[off + i]? = some v ∧ plain1 v = true := fun q => by
        induction q with
        | zero => intro _ i v h; simp at h
        | succ q ih =>
          intro hq i v h
          rw [List.range_succ, List.flatMap_append] at h
          by_cases hi : i < q * k
          · rw [List.getElem?_append_left (by rw [hflen q (by omega)]; exact hi)] at h
            exact ih (by omega) i v h
          · rw [List.getElem?_append_right (by rw [hflen q (by omega)]; omega), hflen q (by omega)] at h
            simp only [List.flatMap_cons, List.flatMap_nil, List.append_nil] at h
            have hj : i - q * k < k := by
              rcases Nat.lt_or_ge (i - q * k) k with z | z
              · exact z
              · rw [List.getElem?_eq_none (by rw [(hf q (by omega)).2.1]; exact z)] at h; cases h
            have := hcl q (by omega) (i - q * k) hj
            rw [h] at this
            refine ⟨by rw [← this]; congr 1; omega, (hf q (by omega)).2.2.1 v (List.mem_of_getElem? h)⟩
      refine ⟨some (⟨blk, off, 0, 0⟩, (List.range m).flatMap fun i => cells (f i)), ⟨arr, e2, fz, harr, ?_, fun i v hv => hat m (Nat.le_refl _) i v hv⟩, (List.range len).map f, m, by simp, ?_, fun id ρ H0 hρ hH => ⟨some ⟨id, 0, none⟩, ?_, ?_, .inr (.inr ⟨id, 0, rfl, by omega, by simpa using hlc⟩)⟩⟩
      · simp only
        rw [hflen m (Nat.le_refl _)]
        have h1 := hcl (m - 1) (by omega) (k - 1) (by omega)
        rw [List.getElem?_eq_getElem (by rw [(hf (m - 1) (by omega)).2.1]; omega)] at h1
        have h2 : off + (m - 1) * k + (k - 1) < arr.size := by
          rcases Nat.lt_or_ge (off + (m - 1) * k + (k - 1)) arr.size with z | z
          · exact z
          · rw [Array.getElem?_eq_none z] at h1; cases h1
        have h3 : (m - 1) * k + k = m * k := by rw [← Nat.succ_mul]; congr 1; omega
        omega
      · intro y hy
        obtain ⟨i, hi, rfl⟩ := List.mem_map.1 hy
        exact (hf i (by have := List.mem_range.1 hi; omega)).1
      · have : VR ρ (.slice (some ⟨id, 0, none⟩) len m) (.slice (some ⟨blk, off + 0, none⟩) len m) := .slice (l := ⟨blk, off, 0, 0⟩) hρ (by omega) hlc
        simpa using this
      · intro i y hy
        simp only [List.getElem?_map, Option.map_eq_some_iff] at hy
        obtain ⟨j, hj, rfl⟩ := hy
        have hij : j = i ∧ i < len := by
          rw [List.getElem?_eq_some_iff] at hj
          obtain ⟨h1, h2⟩ := hj
          simp at h1 h2
          exact ⟨h2.symm, h1⟩
        obtain ⟨rfl, hjl⟩ := hij
        refine ⟨id, 0, rfl, ?_⟩
        have hle : j * k + k ≤ m * k := by
          have := Nat.mul_le_mul_right k (show j + 1 ≤ m by omega); rwa [Nat.add_mul, Nat.one_mul] at this
        rw [aload_row (by rw [hH]; rfl) _ _ (by rw [hflen m (Nat.le_refl _)]; omega)]
        congr 1
        -- the j-th element's cells
        have split3 : (List.range m) = List.range j ++ j :: (List.range (m - (j + 1))).map (j + 1 + ·) := by
          conv => lhs; rw [show m = j + 1 + (m - (j + 1)) by omega]
          rw [List.range_add, List.range_succ, List.append_assoc]; rfl
        rw [split3, List.flatMap_append, List.flatMap_cons, Nat.zero_add, ← hflen j (by omega), List.drop_left', ← (hf j (by omega)).2.1, List.take_left']
        · rfl
        · rfl
end

/-! ### the call -/
theorem below_of {W w : World} (h : (full W).ok w) : Below W.heap.size W w :=
  ⟨h.os, h.tape, h.output, h.size, fun k hk => by
    have := h.heap k _ (Array.getElem?_eq_getElem hk)
    rw [this, Array.getElem?_eq_getElem hk]⟩
/-- a law's contract, as the row asks it -/
theorem calls_true {f : FuncId} {args args' : List Value} {W : World} (os : List Given) (h : ∀ o ∈ os, Good W o) (hs : Sound P f args (os.map objOf) fun v _ => v = .bool true) (hv : VRs (renOf os) args args') :
    Calls P f args'.toArray W fun e W' => e = .returned (.bool true) ∧ Below W.heap.size W W' := by
  refine (hs.2 (renOf os) (full W) W args' (rel_of os h) hv).mono ?_
  rintro e W' ⟨v, v', H', ρ', rfl, rfl, hR, _, _, hvr⟩
  cases hvr
  exact ⟨rfl, below_of hR.frm⟩
/-- a struct of plain parts that is handed in -/
theorem open_struct {H : Type} {enc : TypeId × Value → H} {W : World} {r : Reach} {b0 b1 d : Nat} {spare : Nat → Bool} {held : Bool} {t : TypeId} {fs : Array Field} {ks : List LK} {v : Value} {x : DataW H} {ps : List MemPlace} (ht : P.underlying t = some (.struct fs)) (hl : leafs P d t = some ks) (hval : Value.okWide P W r b0 t v)
    (hd : DataW.Trod enc P W b1 spare held t v x ps) : ∃ cs : List Value, v = .agg cs.toArray ∧ Fits ks cs := by
  obtain ⟨cs, rfl, -⟩ := Go.WideShapes.okWide_struct ht hval
  obtain ⟨m, hm⟩ := hd
  have hf := trod_leafs d t _ m _ _ hl hm
  exact ⟨cs.toList, rfl, hf⟩
theorem vr_struct {ks : List LK} {cs : List Value} (h : Fits ks cs) (ρ : Ren) : VR ρ (.agg cs.toArray) (.agg cs.toArray) :=
  .agg rfl fun i u u' hu hu' => by
    cases hu.symm.trans hu'
    exact VR.plain (h.plain u (by have := List.mem_of_getElem? (l := cs) (i := i) (a := u) (by simpa using hu); exact this))
theorem and_true2 {a b : Bool} (h : a = true) (k : b = true) : (a && b) = true := by rw [h, k]; rfl
end Go.AW
