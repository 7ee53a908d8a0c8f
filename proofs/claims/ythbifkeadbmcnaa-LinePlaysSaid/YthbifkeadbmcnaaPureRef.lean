/-
  Plain: what the document's Line says. Plain: the document's Lookup, Visible and Covered.
-/
import Derived.Test.YthbifkeadbmcnaaRefL
import Derived.Test.YthbifkeadbmcnaaPureCov
set_option linter.unusedVariables false
set_option linter.unusedSimpArgs false
namespace Go.Proofs.Ythbifkeadbmcnaa
open Go Go.AW Go.Bub

/-- a Line with the segments of a timeline -/
structure LineC (L : List Seg) (C : List KL) : Prop where
  sort : StandL L
  mem : ∀ s, s ∈ L ↔ ∃ x ∈ C, s ∈ x.2
theorem LineC.perm {L : List Seg} {C : List KL} (h : LineC L C) (hg : GoodC C) : L.Perm (C.flatMap fun x => x.2) := by
  have e : L = sortL (C.flatMap fun x => x.2) := standL_ext h.sort (sortL_sorted (once_flat hg)) fun s => by
    rw [(sortL_perm _).mem_iff, List.mem_flatMap, h.mem]
  rw [e]; exact sortL_perm _
theorem LineC.of_key {L : List Seg} {C : List KL} (h : LineC L C) (hg : GoodC C) {x : KL} (hx : x ∈ C) {s : Seg} : s ∈ L ∧ s.key = x.1 ↔ s ∈ x.2 := by
  constructor
  · rintro ⟨hs, hk⟩
    obtain ⟨y, hy, hsy⟩ := (h.mem s).1 hs
    have := (hg.good y hy).key s hsy
    rw [hg.keys.uniq hx hy (by rw [← hk, this])]
    exact hsy
  · intro hs
    exact ⟨(h.mem s).2 ⟨x, hx, hs⟩, (hg.good x hx).key s hs⟩
theorem count_set {C : List KL} (hg : GoodC C) {x : KL} (hx : x ∈ C) (f : Seg → Bool) : (C.flatMap fun y => y.2).countP (fun z => decide (z.key = x.1) && f z) = x.2.countP f := by
  obtain ⟨A, B, rfl⟩ := List.append_of_mem hx
  have hk := hg.keys
  rw [KeysC, List.pairwise_append, List.pairwise_cons] at hk
  rw [List.flatMap_append, List.flatMap_cons, List.countP_append, List.countP_append]
  have e1 : (A.flatMap fun y => y.2).countP (fun z => decide (z.key = x.1) && f z) = 0 := by
    rw [List.countP_eq_zero]
    intro z hz
    obtain ⟨y, hy, hzy⟩ := List.mem_flatMap.1 hz
    have := hk.2.2 y hy x (by simp)
    rw [(hg.good y (by simp [hy])).key z hzy]
    simp [this]
  have e2 : (B.flatMap fun y => y.2).countP (fun z => decide (z.key = x.1) && f z) = 0 := by
    rw [List.countP_eq_zero]
    intro z hz
    obtain ⟨y, hy, hzy⟩ := List.mem_flatMap.1 hz
    have := Ne.symm (hk.2.1.1 y hy)
    rw [(hg.good y (by simp [hy])).key z hzy]
    simp [this]
  have e3 : x.2.countP (fun z => decide (z.key = x.1) && f z) = x.2.countP f := by
    refine List.countP_congr fun z hz => ?_
    rw [(hg.good x hx).key z hz]; simp
  omega
/-- parts below a number: as many as that only if all are there -/
theorem parts_count {F : List Seg} (hr : Rises F) {c : Nat} (h0 : ∀ z ∈ F, 0 ≤ z.p ∧ z.p < c) : F.length = c ↔ ∀ p : Int, 0 ≤ p → p < c → ∃ z ∈ F, z.p = p := by
  constructor
  · intro hl p hp0 hpc
    obtain ⟨z, hz⟩ := get_ex (show p.toNat < F.length by omega)
    refine ⟨z, List.mem_of_getElem? hz, ?_⟩
    have h1 := rise_ge (n := 0) hr (fun y hy => (h0 y hy).1) hz
    obtain ⟨y, hy⟩ := get_ex (show p.toNat + (c - 1 - p.toNat) < F.length by omega)
    have h2 := rise_gap hr hz (c - 1 - p.toNat) hy
    have := (h0 y (List.mem_of_getElem? hy)).2
    omega
  · intro hall
    have e : F.map (fun z => z.p) = (List.range c).map fun i : Nat => (i : Int) := by
      refine sorted_ext (lt := fun a b : Int => a < b) (fun x => by omega) (fun x y h => by omega) ?_ ?_ fun n => ?_
      · rw [List.pairwise_map]; exact hr
      · rw [List.pairwise_map]
        refine List.pairwise_lt_range.imp fun {a b} h => ?_
        omega
      · rw [List.mem_map, List.mem_map]
        constructor
        · rintro ⟨z, hz, rfl⟩
          have := h0 z hz
          exact ⟨z.p.toNat, List.mem_range.2 (by omega), by omega⟩
        · rintro ⟨i, hi, rfl⟩
          have := List.mem_range.1 hi
          exact hall i (by omega) (by omega)
    have := congrArg List.length e
    simpa using this
theorem compB_eq {L : List Seg} {C : List KL} (h : LineC L C) (hg : GoodC C) {x : KL} (hx : x ∈ C) {s : Seg} (hs : s ∈ x.2) : compB L s = whole x.2 := by
  have gx := hg.good x hx
  have hm := mayB_iff.1 (gx.may s hs)
  rw [Bool.eq_iff_iff, whole_iff gx hs]
  unfold compB compP
  rw [(h.perm hg).countP_eq, gx.key s hs, count_set hg hx, beq_iff_eq]
  rw [List.countP_eq_length_filter]
  have hF : Rises (x.2.filter fun z => decide (z.p < s.c)) := gx.rise.filter _
  have hF0 : ∀ z ∈ x.2.filter fun z => decide (z.p < s.c), 0 ≤ z.p ∧ z.p < ((s.c.toNat : Nat) : Int) := fun z hz => by
    obtain ⟨h1, h2⟩ := List.mem_filter.1 hz
    have := mayB_iff.1 (gx.may z h1)
    have := of_decide_eq_true h2
    omega
  have hc := parts_count hF hF0
  have e1 : ((((x.2.filter fun z => decide (z.p < s.c)).length : Nat) : Int) = s.c) ↔ (x.2.filter fun z => decide (z.p < s.c)).length = s.c.toNat := by omega
  rw [e1, hc]
  constructor
  · intro q p h1 h2
    obtain ⟨z, hz, hp⟩ := q p h1 (by omega)
    exact ⟨z, (List.mem_filter.1 hz).1, hp⟩
  · intro q p h1 h2
    obtain ⟨z, hz, hp⟩ := q p h1 (by omega)
    exact ⟨z, List.mem_filter.2 ⟨hz, by simp; omega⟩, hp⟩
/-! ### At -/
def candB (L : List Seg) (time : Int) (z : Seg) : Bool := covers z.key time && compB L z
theorem ahead_ntrans {a b c : Key} (h : ¬ aheadR a b = true) (h2 : ¬ aheadR b c = true) : ¬ aheadR a c = true := by rw [aheadR_iff] at *; omega
theorem fold_best (L : List Seg) (time : Int) : ∀ (L0 : List Seg) (o : Option Seg), match L0.foldl (atStep L time) o with
    | none => o = none ∧ ∀ z ∈ L0, candB L time z = false
    | some b => (o = some b ∨ (b ∈ L0 ∧ candB L time b = true)) ∧ (∀ z ∈ L0, candB L time z = true → ¬ aheadR z.key b.key = true) ∧ ∀ y, o = some y → ¬ aheadR y.key b.key = true
  | [], o => by
    cases o with
    | none => simp
    | some b => exact ⟨.inl rfl, by simp, fun y hy => by cases hy; exact aheadR_irrefl _⟩
  | z :: L0, o => by
    rw [List.foldl_cons]
    have ih := fold_best L time L0 (atStep L time o z)
    have e : atStep L time o z = if candB L time z = true ∧ better o z = true then some z else o := by
      unfold atStep candB; simp only [Bool.and_eq_true, and_assoc]
    cases hr : L0.foldl (atStep L time) (atStep L time o z) with
    | none =>
      rw [hr] at ih
      simp only at ih ⊢
      obtain ⟨h1, h2⟩ := ih
      rw [e] at h1
      split at h1
      · cases h1
      · rename_i q
        refine ⟨h1, fun y hy => ?_⟩
        rcases List.mem_cons.1 hy with rfl | hy
        · subst h1
          cases hc : candB L time y with
          | false => rfl
          | true => exact absurd ⟨hc, rfl⟩ q
        · exact h2 y hy
    | some b =>
      rw [hr] at ih
      simp only at ih ⊢
      obtain ⟨h1, h2, h3⟩ := ih
      rw [e] at h1 h3
      split at h1
      · rename_i q
        rw [if_pos q] at h3
        have hzb := h3 z rfl
        refine ⟨?_, fun y hy hc => ?_, fun y hy => ?_⟩
        · rcases h1 with h1 | h1
          · cases h1; exact .inr ⟨by simp, q.1⟩
          · exact .inr ⟨by simp [h1.1], h1.2⟩
        · rcases List.mem_cons.1 hy with rfl | hy
          · exact hzb
          · exact h2 y hy hc
        · subst hy
          have := q.2
          simp only [better] at this
          exact ahead_ntrans (aheadR_asymm this) hzb
      · rename_i q
        rw [if_neg q] at h3
        refine ⟨?_, fun y hy hc => ?_, h3⟩
        · rcases h1 with h1 | h1
          · exact .inl h1
          · exact .inr ⟨by simp [h1.1], h1.2⟩
        · rcases List.mem_cons.1 hy with rfl | hy
          · cases o with
            | none => exact absurd ⟨hc, rfl⟩ q
            | some w =>
              have hw := h3 w rfl
              have : ¬ aheadR y.key w.key = true := fun h => q ⟨hc, h⟩
              exact ahead_ntrans this hw
          · exact h2 y hy hc
theorem cand_iff {L : List Seg} {C : List KL} (h : LineC L C) (hg : GoodC C) {x : KL} (hx : x ∈ C) {s : Seg} (hs : s ∈ x.2) (time : Int) : candB L time s = true ↔ x ∈ wholes C ∧ covers x.1 time = true := by
  unfold candB
  rw [compB_eq h hg hx hs, (hg.good x hx).key s hs, Bool.and_eq_true, wholes_mem]
  exact ⟨fun h => ⟨⟨hx, h.2⟩, h.1⟩, fun h => ⟨h.2, h.1.2⟩⟩
/-- what At answers, by what counts -/
theorem atL_eq {L : List Seg} {C : List KL} (h : LineC L C) (hg : GoodC C) (time : Int) : match atL L time with
    | none => atC (wholes C) time = none
    | some b => ∃ x, atC (wholes C) time = some x ∧ b ∈ x.2 := by
  have hf := fold_best L time L none
  unfold atL
  cases hr : L.foldl (atStep L time) none with
  | none =>
    rw [hr] at hf
    simp only at hf ⊢
    cases ha : atC (wholes C) time with
    | none => rfl
    | some x =>
      exfalso
      obtain ⟨h1, h2, _⟩ := (atC_iff (wholes_sorted hg.keys) hg.keys.wholes).1 ha
      have hx := (wholes_mem.1 h1).1
      obtain ⟨s, hs⟩ := get_ex (hg.good x hx).ne
      have hsm := List.mem_of_getElem? hs
      have := hf.2 s ((h.mem s).2 ⟨x, hx, hsm⟩)
      rw [(cand_iff h hg hx hsm time).2 ⟨h1, h2⟩] at this
      cases this
  | some b =>
    rw [hr] at hf
    simp only at hf ⊢
    obtain ⟨h1, h2, _⟩ := hf
    rcases h1 with h1 | ⟨hb, hcb⟩
    · cases h1
    obtain ⟨x, hx, hbx⟩ := (h.mem b).1 hb
    obtain ⟨hw, hcx⟩ := (cand_iff h hg hx hbx time).1 hcb
    refine ⟨x, (atC_iff (wholes_sorted hg.keys) hg.keys.wholes).2 ⟨hw, hcx, fun z hz hzc hne => ?_⟩, hbx⟩
    have hzC := (wholes_mem.1 hz).1
    obtain ⟨s, hs⟩ := get_ex (hg.good z hzC).ne
    have hsm := List.mem_of_getElem? hs
    have h3 := h2 s ((h.mem s).2 ⟨z, hzC, hsm⟩) ((cand_iff h hg hzC hsm time).2 ⟨hz, hzc⟩)
    rw [(hg.good z hzC).key s hsm, (hg.good x hx).key b hbx] at h3
    exact aheadR_tri (Ne.symm hne) h3
/-! ### Next -/
theorem next_spec {time : Int} : ∀ {L : List Seg} {e : Int}, time < e → (time < nextL L time e ∧ nextL L time e ≤ e) ∧ ∀ s ∈ L, ¬ (time < s.f ∧ s.f < nextL L time e) ∧ ¬ (time < s.t ∧ s.t < nextL L time e)
  | [], e, h => ⟨⟨h, Int.le_refl _⟩, by simp⟩
  | z :: L, e, h => by
    have h1 : time < nxStep time e z ∧ nxStep time e z ≤ e ∧ ¬ (time < z.f ∧ z.f < nxStep time e z) ∧ ¬ (time < z.t ∧ z.t < nxStep time e z) := by
      unfold nxStep; dsimp only
      split <;> split <;> omega
    have ih := next_spec (L := L) h1.1
    show (time < nextL L time (nxStep time e z) ∧ nextL L time (nxStep time e z) ≤ e) ∧ ∀ s ∈ z :: L, ¬ (time < s.f ∧ s.f < nextL L time (nxStep time e z)) ∧ ¬ (time < s.t ∧ s.t < nextL L time (nxStep time e z))
    refine ⟨by omega, fun s hs => ?_⟩
    rcases List.mem_cons.1 hs with rfl | hs
    · omega
    · exact ih.2 s hs
/-- between them nothing changes -/
theorem next_const {L : List Seg} {C : List KL} (h : LineC L C) (hg : GoodC C) {time e : Int} (ht : time < e) {m : Int} (h1 : time ≤ m) (h2 : m < nextL L time e) : atC (wholes C) m = atC (wholes C) time := by
  have hs := (next_spec (L := L) ht).2
  have hc : ∀ x ∈ wholes C, covers x.1 m = covers x.1 time := fun x hx => by
    have hxC := (wholes_mem.1 hx).1
    obtain ⟨s, hs0⟩ := get_ex (hg.good x hxC).ne
    have hsm := List.mem_of_getElem? hs0
    have hb := hs s ((h.mem s).2 ⟨x, hxC, hsm⟩)
    have hk := (hg.good x hxC).key s hsm
    have kf : s.f = x.1.f := congrArg Key.f hk
    have kt : s.t = x.1.t := congrArg Key.t hk
    rw [Bool.eq_iff_iff]
    simp only [covers, Bool.and_eq_true, decide_eq_true_eq]
    omega
  have key : ∀ W : List KL, (∀ x ∈ W, covers x.1 m = covers x.1 time) → atC W m = atC W time := by
    intro W
    induction W with
    | nil => intro _; rfl
    | cons x W ih =>
      intro hW
      unfold atC at ih ⊢
      rw [List.find?_cons, List.find?_cons, hW x (by simp), ih fun y hy => hW y (by simp [hy])]
  exact key _ hc
/-- no stretch goes over a time -/
def CutAt (S : List CStr) (n : Int) : Prop := ∀ s ∈ S, ¬ (s.f < n ∧ n < s.t)
theorem lookS_append (S U : List CStr) (a b : Int) : lookS (S ++ U) a b = lookS S a b ++ lookS U a b := by simp [lookS]
theorem lookS_nil {S : List CStr} {a b : Int} (h : ∀ s ∈ S, ¬ max s.f a < min s.t b) : lookS S a b = [] := by
  rw [lookS, List.flatMap_eq_nil_iff]
  intro s hs
  rw [if_neg (h s hs)]
theorem lookS_congr {S : List CStr} {a b b' : Int} (h : ∀ s ∈ S, min s.t b = min s.t b') : lookS S a b = lookS S a b' := by
  unfold lookS
  induction S with
  | nil => rfl
  | cons s S ih =>
    rw [List.flatMap_cons, List.flatMap_cons, ih fun u hu => h u (by simp [hu]), h s (by simp)]
theorem flat_congr {α β : Type} {f g : α → List β} : ∀ {S : List α}, (∀ s ∈ S, f s = g s) → S.flatMap f = S.flatMap g
  | [], _ => rfl
  | s :: S, h => by rw [List.flatMap_cons, List.flatMap_cons, h s (by simp), flat_congr fun u hu => h u (by simp [hu])]
/-- a run in which nothing counts -/
theorem look_none {W : List KL} {S : List CStr} (ht : ToldA W S) {a from_ to : Int} (hft : from_ < to) (hn : ∀ m, from_ ≤ m → m < to → atC W m = none) : lookS S a to = lookS S a from_ ∧ CutAt S to := by
  have hno : ∀ s ∈ S, s.t ≤ from_ ∨ to ≤ s.f := fun s hs => by
    rcases Int.lt_or_le from_ s.t with q | q
    · rcases Int.lt_or_le s.f to with q2 | q2
      · exfalso
        have lt := ht.lt s hs
        have h1 := ht.at_ s hs (max s.f from_) (by omega) (by omega)
        rw [hn _ (by omega) (by omega)] at h1
        cases h1
      · exact .inr q2
    · exact .inl q
  refine ⟨?_, fun s hs => by have := hno s hs; omega⟩
  unfold lookS
  refine flat_congr fun s hs => ?_
  have lt := ht.lt s hs
  rcases hno s hs with q | q
  · rw [show min s.t to = min s.t from_ by omega]
  · rw [if_neg (by omega), if_neg (by omega)]
/-- a run of one set -/
theorem look_run {W : List KL} {S : List CStr} (ht : ToldA W S) {a b from_ to : Int} {x : KL} (ha : a ≤ from_) (hft : from_ < to) (htb : to ≤ b) (hcut : from_ = a ∨ CutAt S from_) (hr : ∀ m, from_ ≤ m → m < to → atC W m = some x) (hend : to = b ∨ ∀ y, atC W to = some y → y.1 ≠ x.1) :
    lookS S a to = lookS S a from_ ++ x.2.map (fun z => ⟨z, from_, to⟩) ∧ (to = b ∨ CutAt S to) := by
  have h1 := hr from_ (Int.le_refl _) hft
  obtain ⟨s, hs, hsf, hst⟩ := ht.all from_ x h1
  have hsx := ht.at_ s hs from_ hsf hst
  rw [h1] at hsx
  have hx : x = (s.k, s.l) := Option.some.inj hsx
  obtain ⟨A, B, hAB⟩ := List.append_of_mem hs
  have hsep := ht.sep
  rw [hAB, List.pairwise_append, List.pairwise_cons] at hsep
  have hto : to ≤ s.t := by
    rcases Int.lt_or_le s.t to with q | q
    · exfalso
      have h2 := hr s.t (by omega) q
      obtain ⟨u, hu, h3, h4⟩ := ht.all s.t x h2
      have h5 := ht.at_ u hu s.t h3 h4
      rw [h2] at h5
      have hk : u.k = s.k := by have := Option.some.inj h5; rw [hx] at this; exact (congrArg Prod.fst this).symm
      rw [hAB] at hu
      rcases List.mem_append.1 hu with hu | hu
      · have := hsep.2.2 u hu s (by simp)
        have := ht.lt s hs
        omega
      · rcases List.mem_cons.1 hu with rfl | hu
        · omega
        · rcases hsep.2.1.1 u hu with q2 | ⟨_, q2⟩
          · omega
          · exact q2 hk.symm
    · exact q
  have hsA : ∀ u ∈ A, u.t ≤ s.f := fun u hu => by have := hsep.2.2 u hu s (by simp); omega
  have hsB : ∀ u ∈ B, s.t ≤ u.f := fun u hu => by have := hsep.2.1.1 u hu; omega
  have hmax : max s.f a = from_ := by
    rcases hcut with q | q
    · omega
    · have := q s hs; omega
  refine ⟨?_, ?_⟩
  · rw [hAB, lookS_append, lookS_append, show s :: B = [s] ++ B from rfl, lookS_append, lookS_append]
    rw [lookS_congr (b := to) (b' := from_) (S := A) fun u hu => by have := hsA u hu; omega]
    rw [lookS_nil (S := B) (b := to) fun u hu => by have := hsB u hu; omega, lookS_nil (S := B) (b := from_) fun u hu => by have := hsB u hu; omega]
    rw [lookS_nil (S := [s]) (b := from_) fun u hu => by rw [List.mem_singleton] at hu; subst hu; omega]
    have e : lookS [s] a to = x.2.map fun z => ⟨z, from_, to⟩ := by
      unfold lookS
      rw [List.flatMap_cons, List.flatMap_nil, List.append_nil, if_pos (by omega), hmax, show min s.t to = to by omega, hx]
    rw [e]; simp
  · rcases hend with q | q
    · exact .inl q
    · refine .inr fun u hu => ?_
      rintro ⟨h2, h3⟩
      have h4 := ht.at_ u hu to (by omega) h3
      have h5 := ht.at_ u hu (to - 1) (by omega) (by omega)
      rw [hr (to - 1) (by omega) (by omega)] at h5
      exact q _ h4 (by rw [Option.some.inj h5])
/-- the segments of a set, off the Line -/
theorem line_set {L : List Seg} {C : List KL} (h : LineC L C) (hg : GoodC C) {x : KL} (hx : x ∈ C) : (L.filter fun z => decide (z.key = x.1)) = x.2 := by
  have gx := hg.good x hx
  refine standL_ext (h.sort.filter _) ?_ fun z => ?_
  · refine List.Pairwise.imp_of_mem (fun {a b} ha hb hab => ?_) gx.rise
    have ka := gx.key a ha
    have kb := gx.key b hb
    have e : a.key = b.key := by rw [ka, kb]
    rw [standsR_iff]
    have kf : a.f = b.f := congrArg Key.f e
    have kt : a.t = b.t := congrArg Key.t e
    have kv : a.v = b.v := congrArg Key.v e
    omega
  · rw [List.mem_filter, decide_eq_true_eq, h.of_key hg hx]
/-! ### Visible -/
theorem vis_line {L : List Seg} {C : List KL} (h : LineC L C) (hg : GoodC C) : (L.filter fun z => (lookC C 0 1099511627776).any fun p => decide (p.seg = z)) = visL C := by
  refine standL_ext (h.sort.filter _) (visL_sorted hg) fun z => ?_
  rw [List.mem_filter, visL_mem, List.any_eq_true]
  have ht := told_strs hg.keys
  constructor
  · rintro ⟨hz, p, hp, hpz⟩
    have hpz := of_decide_eq_true hpz
    unfold lookC lookS at hp
    obtain ⟨s, hs, hps⟩ := List.mem_flatMap.1 hp
    split at hps
    · obtain ⟨y, hy, rfl⟩ := List.mem_map.1 hps
      simp only at hpz
      subst hpz
      have hW := (wholes_mem.1 (strs_mem hg hs).1).1
      exact ⟨(s.k, s.l), hW, ⟨s, hs, rfl⟩, hy⟩
    · cases hps
  · rintro ⟨x, hx, ⟨s, hs, hk⟩, hz⟩
    refine ⟨(h.mem z).2 ⟨x, hx, hz⟩, ?_⟩
    obtain ⟨hW, h1, h2⟩ := strs_mem hg hs
    have hsx : (s.k, s.l) = x := hg.keys.uniq (wholes_mem.1 hW).1 hx hk
    have lt := ht.lt s hs
    have gx := hg.good x hx
    have hm := mayB_iff.1 (gx.may z hz)
    have hzk := gx.key z hz
    have kf : z.f = x.1.f := congrArg Key.f hzk
    have kt : z.t = x.1.t := congrArg Key.t hzk
    rw [hk] at h1 h2
    refine ⟨⟨z, max s.f 0, min s.t 1099511627776⟩, ?_, by simp⟩
    unfold lookC lookS
    rw [List.mem_flatMap]
    refine ⟨s, hs, ?_⟩
    rw [if_pos (by omega)]
    exact List.mem_map.2 ⟨z, by rw [show s.l = x.2 from congrArg Prod.snd hsx]; exact hz, rfl⟩
/-! ### Covered -/
theorem covStep_ge (k : Key) (n : Int) (s : CStr) (h : s.f < s.t) : n ≤ covStep k n s := by
  unfold covStep; split <;> omega
theorem covFold_ge (k : Key) : ∀ (S : List CStr) (n : Int), (∀ s ∈ S, s.f < s.t) → n ≤ S.foldl (covStep k) n
  | [], n, _ => Int.le_refl _
  | s :: S, n, h => by
    have h1 := covStep_ge k n s (h s (by simp))
    have h2 := covFold_ge k S (covStep k n s) fun u hu => h u (by simp [hu])
    rw [List.foldl_cons]; omega
theorem cov_conv {W : List KL} {S : List CStr} (ht : ToldA W S) {k : Key} (hk : k.f < k.t) (h : ∀ n, k.f ≤ n → n < k.t → ∃ y, atC W n = some y ∧ aheadR y.1 k = true) : coveredC k S = true := by
  have key : ∀ (S0 : List CStr) (n : Int), (∀ s ∈ S0, s ∈ S) → S0.Pairwise (fun y x => y.t < x.f ∨ (y.t = x.f ∧ y.k ≠ x.k)) → k.f ≤ n → (∀ u ∈ S, n < u.t → u ∈ S0) → k.t ≤ S0.foldl (covStep k) n := by
    intro S0
    induction S0 with
    | nil =>
      intro n _ _ hn hall
      rcases Int.lt_or_le n k.t with q | q
      · obtain ⟨y, hy, _⟩ := h n hn q
        obtain ⟨u, hu, h1, h2⟩ := ht.all n y hy
        exact absurd (hall u hu h2) (by simp)
      · exact q
    | cons s S0 ih =>
      intro n hsub hsep hn hall
      have hsep := List.pairwise_cons.1 hsep
      have hss := hsub s (by simp)
      have lt := ht.lt s hss
      rw [List.foldl_cons]
      have hrest : ∀ m, n ≤ m → s.t ≤ m → ∀ u ∈ S, m < u.t → u ∈ S0 := fun m h1 h2 u hu hm => by
        rcases List.mem_cons.1 (hall u hu (by omega)) with rfl | hu0
        · omega
        · exact hu0
      by_cases q : s.f ≤ n ∧ n < s.t ∧ aheadR s.k k = true
      · rw [show covStep k n s = s.t from if_pos q]
        exact ih s.t (fun u hu => hsub u (by simp [hu])) hsep.2 (by omega) (hrest s.t (by omega) (Int.le_refl _))
      · rw [show covStep k n s = n from if_neg q]
        rcases Int.lt_or_le n k.t with q2 | q2
        · refine ih n (fun u hu => hsub u (by simp [hu])) hsep.2 hn ?_
          obtain ⟨y, hy, hah⟩ := h n hn q2
          obtain ⟨u, hu, h1, h2⟩ := ht.all n y hy
          have hst : s.t ≤ n := by
            rcases Int.lt_or_le n s.t with q3 | q3
            · exfalso
              rcases List.mem_cons.1 (hall u hu h2) with rfl | hu0
              · have h3 := ht.at_ u hss n h1 q3
                rw [hy] at h3
                cases h3
                exact q ⟨h1, q3, hah⟩
              · have := hsep.1 u hu0
                omega
            · exact q3
          exact hrest n (Int.le_refl _) hst
        · have := covFold_ge k S0 n fun u hu => ht.lt u (hsub u (by simp [hu]))
          omega
  unfold coveredC
  rw [decide_eq_true_eq]
  exact key S k.f (fun s hs => hs) ht.sep (Int.le_refl _) fun u hu _ => hu
theorem cov_iff {W : List KL} {S : List CStr} (ht : ToldA W S) {k : Key} (hk : k.f < k.t) : coveredC k S = true ↔ ∀ n, k.f ≤ n → n < k.t → ∃ y, atC W n = some y ∧ aheadR y.1 k = true :=
  ⟨cov_of ht, cov_conv ht hk⟩
theorem cover_line {L : List Seg} {C : List KL} (h : LineC L C) (hg : GoodC C) : (L.filter fun z => coveredC z.key (strsC C)) = coverL C := by
  refine standL_ext (h.sort.filter _) (coverL_sorted hg) fun z => ?_
  rw [List.mem_filter, coverL_mem, h.mem]
  constructor
  · rintro ⟨⟨x, hx, hz⟩, hc⟩
    rw [(hg.good x hx).key z hz] at hc
    exact ⟨x, hx, hc, hz⟩
  · rintro ⟨x, hx, hc, hz⟩
    rw [(hg.good x hx).key z hz]
    exact ⟨⟨x, hx, hz⟩, hc⟩
end Go.Proofs.Ythbifkeadbmcnaa
