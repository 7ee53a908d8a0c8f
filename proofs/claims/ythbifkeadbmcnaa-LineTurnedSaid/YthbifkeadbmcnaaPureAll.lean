/-
  Plain: LineAll.
-/
import Derived.Test.YthbifkeadbmcnaaPure1
set_option linter.unusedVariables false
set_option linter.unusedSimpArgs false
namespace Go.Proofs.Ythbifkeadbmcnaa
open Go Go.AW

theorem count_key {C : List KL} (hg : GoodC C) {x : KL} (hx : x ∈ C) : (C.flatMap fun y => y.2).countP (fun z => decide (z.key = x.1)) = x.2.length := by
  obtain ⟨A, B, rfl⟩ := List.append_of_mem hx
  have hk := hg.keys
  rw [KeysC, List.pairwise_append, List.pairwise_cons] at hk
  rw [List.flatMap_append, List.flatMap_cons, List.countP_append, List.countP_append]
  have e1 : (A.flatMap fun y => y.2).countP (fun z => decide (z.key = x.1)) = 0 := by
    rw [List.countP_eq_zero]
    intro z hz
    obtain ⟨y, hy, hzy⟩ := List.mem_flatMap.1 hz
    rw [(hg.good y (by simp [hy])).key z hzy]
    simpa using hk.2.2 y hy x (by simp)
  have e2 : (B.flatMap fun y => y.2).countP (fun z => decide (z.key = x.1)) = 0 := by
    rw [List.countP_eq_zero]
    intro z hz
    obtain ⟨y, hy, hzy⟩ := List.mem_flatMap.1 hz
    rw [(hg.good y (by simp [hy])).key z hzy]
    simpa using Ne.symm (hk.2.1.1 y hy)
  have e3 : x.2.countP (fun z => decide (z.key = x.1)) = x.2.length := by
    rw [List.countP_eq_length]
    intro z hz
    simpa using (hg.good x hx).key z hz
  omega
/-- what is told of one time -/
theorem look_time {C : List KL} (hg : GoodC C) (n : Int) : lookC C n (n + 1) = match atC (wholes C) n with | none => [] | some x => x.2.map fun z => ⟨z, n, n + 1⟩ := look_one (told_strs hg.keys) n
def holdsAt (l : List Seg) (n : Int) (z : Seg) : Bool := decide (z.f ≤ n) && (decide (n < z.t) && wholeB l z)
theorem all_holds {l : List Seg} {C : List KL} (h : Made l C) (hg : GoodC C) (n : Int) : l.any (holdsAt l n) = decide (0 < (lookC C n (n + 1)).length) := by
  rw [look_time hg, Bool.eq_iff_iff, List.any_eq_true, decide_eq_true_eq]
  constructor
  · rintro ⟨z, hz, hh⟩
    simp only [holdsAt, Bool.and_eq_true, decide_eq_true_eq] at hh
    obtain ⟨x, hx, hzx⟩ := h.mem.1 hz
    rw [wholeB_eq h hg hx hzx] at hh
    have hk := (hg.good x hx).key z hzx
    have hf : x.1.f = z.f := by rw [← hk]; rfl
    have ht : x.1.t = z.t := by rw [← hk]; rfl
    obtain ⟨y, hy⟩ := atC_ex (W := wholes C) (n := n) (wholes_mem.2 ⟨hx, hh.2.2⟩) (by simp [covers]; omega)
    rw [hy]
    have := (wholes_good hg (atC_some hy).1).ne
    simpa using this
  · intro hp
    cases ha : atC (wholes C) n with
    | none => rw [ha] at hp; simp at hp
    | some x =>
      obtain ⟨hx, h1, h2⟩ := atC_some ha
      have hgx := wholes_good hg hx
      obtain ⟨hxC, hw⟩ := wholes_mem.1 hx
      obtain ⟨z, hz⟩ := get_ex hgx.ne
      have hzm := List.mem_of_getElem? hz
      have hk := hgx.key z hzm
      have hf : x.1.f = z.f := by rw [← hk]; rfl
      have ht : x.1.t = z.t := by rw [← hk]; rfl
      refine ⟨z, h.mem.2 ⟨x, hxC, hzm⟩, ?_⟩
      simp only [holdsAt, Bool.and_eq_true, decide_eq_true_eq, wholeB_eq h hg hxC hzm]
      exact ⟨by omega, by omega, hw⟩
theorem all_count {l : List Seg} {C : List KL} (h : Made l C) (hg : GoodC C) (n : Int) {q : Piece} (hq : (lookC C n (n + 1))[0]? = some q) : l.countP (fun z => decide (z.key = q.seg.key)) = (lookC C n (n + 1)).length := by
  rw [look_time hg] at hq ⊢
  cases ha : atC (wholes C) n with
  | none => rw [ha] at hq; simp at hq
  | some x =>
    rw [ha] at hq
    obtain ⟨hx, h1, h2⟩ := atC_some ha
    have hgx := wholes_good hg hx
    simp only at hq
    have hm := List.mem_of_getElem? hq
    obtain ⟨z, hz, rfl⟩ := List.mem_map.1 hm
    simp only [List.length_map]
    rw [hgx.key z hz, h.perm.countP_eq, count_key hg (wholes_mem.1 hx).1]
end Go.Proofs.Ythbifkeadbmcnaa
