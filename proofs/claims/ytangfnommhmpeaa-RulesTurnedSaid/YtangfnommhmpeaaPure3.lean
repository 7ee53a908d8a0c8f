/-
  Plain: in whatever order and however often things are told, what is answered is the same.
-/
import Derived.Test.YtangfnommhmpeaaPure1
set_option linter.unusedVariables false
set_option linter.unusedSimpArgs false
namespace Go.Proofs.Ytangfnommhmpeaa
open Go Go.AW Go.Bub

theorem living_congr {l m : List Int} (h : ∀ n, n ∈ l ↔ n ∈ m) : livingL l = livingL m := livingL_uniq (livingL_sorted l) fun n => by rw [livingL_mem, h]
theorem wanted_congr {l m : List Seg} (h : ∀ n, n ∈ l ↔ n ∈ m) : wantedL l = wantedL m := wantedL_uniq (wantedL_sorted l) fun n => by rw [wantedL_mem, h]
theorem apply_congr {h h' : List Order} (e : hasW h = hasW h') : applyL h [] = applyL h' [] := by
  refine applyL_uniq (applyL_sorted h []) fun y => ?_
  rw [applyL_mem]
  cases hd : y.drop with
  | true =>
    constructor
    · intro q; have := setS_drop q; rw [hd] at this; cases this
    · intro q; have := setS_drop q; rw [hd] at this; cases this
  | false =>
    have ey : y = ⟨false, y.seg, y.node⟩ := (Order.eq_iff _ _).2 ⟨hd, rfl, rfl⟩
    rw [ey, ← any_of_applyS, ← any_of_applyS, hasW_nil, hasW_nil, e]
theorem assign_congr {segs segs' : List Seg} {h h' : List Order} {nodes nodes' : List Int} (r : Int) (hs : ∀ s, s ∈ segs ↔ s ∈ segs') (hh : hasW h = hasW h') (hn : ∀ n, n ∈ nodes ↔ n ∈ nodes') : assignL segs h nodes r = assignL segs' h' nodes' r := by
  have e : ∀ N W, who0 N W h = who0 N W h' := fun N W => by
    funext s n
    have : h.any (holdsP s n) = h'.any (holdsP s n) := congrFun (congrFun hh s) n
    simp only [who0, this]
  unfold assignL
  rw [living_congr hn, wanted_congr hs, apply_congr hh, e]
theorem balance_congr {segs segs' : List Seg} {h h' : List Order} {nodes nodes' : List Int} (hs : ∀ s, s ∈ segs ↔ s ∈ segs') (hh : hasW h = hasW h') (hn : ∀ n, n ∈ nodes ↔ n ∈ nodes') : balanceL segs h nodes = balanceL segs' h' nodes' := by
  have e : (fun s n => h.any (holdsP s n)) = fun s n => h'.any (holdsP s n) := hh
  have e2 : ∀ s n, h.any (holdsP s n) = h'.any (holdsP s n) := fun s n => congrFun (congrFun hh s) n
  unfold balanceL
  rw [living_congr hn, wanted_congr hs]
  simp only [e2]

/-! ### turned -/
def tix (L t i : Nat) : Nat := (L - 1 - i % L + t % L) % L
theorem tix_lt {L : Nat} (hL : 0 < L) (t i : Nat) : tix L t i < L := Nat.mod_lt _ hL
theorem tix_back {L : Nat} (t p : Nat) (hp : p < L) : ∃ i, i < L ∧ tix L t i = p := by
  have ha : t % L < L := Nat.mod_lt _ (by omega)
  refine ⟨(L - 1 - p + t % L) % L, Nat.mod_lt _ (by omega), ?_⟩
  unfold tix
  rw [Nat.mod_mod]
  generalize t % L = a at *
  by_cases h : L - 1 - p + a < L
  · rw [Nat.mod_eq_of_lt h, show L - 1 - (L - 1 - p + a) + a = p by omega, Nat.mod_eq_of_lt hp]
  · have e : (L - 1 - p + a) % L = L - 1 - p + a - L := by rw [Nat.mod_eq_sub_mod (by omega), Nat.mod_eq_of_lt (by omega)]
    rw [e, show L - 1 - (L - 1 - p + a - L) + a = p + L by omega, Nat.add_mod_right, Nat.mod_eq_of_lt hp]
structure TurnAt (L t i : Nat) : Prop where
  e0 : ((L : Int) = 0) = False
  e1 : IntKind.i64.wrap ((L : Int) - 1) = ((L - 1 : Nat) : Int)
  e2 : (i : Int).tmod (L : Int) = ((i % L : Nat) : Int)
  e3 : IntKind.i64.wrap (((L - 1 : Nat) : Int) - ((i % L : Nat) : Int)) = ((L - 1 - i % L : Nat) : Int)
  e4 : (t : Int).tmod (L : Int) = ((t % L : Nat) : Int)
  e5 : IntKind.i64.wrap (((L - 1 - i % L : Nat) : Int) + ((t % L : Nat) : Int)) = ((L - 1 - i % L + t % L : Nat) : Int)
  e6 : ((L - 1 - i % L + t % L : Nat) : Int).tmod (L : Int) = ((tix L t i : Nat) : Int)
theorem turnAt {L : Nat} (t i : Nat) (hL : 0 < L) (hL2 : L < 1000) : TurnAt L t i := by
  have h1 : i % L < L := Nat.mod_lt _ hL
  have h2 : t % L < L := Nat.mod_lt _ hL
  refine ⟨by simp; omega, ?_, Int.ofNat_tmod _ _ |>.symm, ?_, Int.ofNat_tmod _ _ |>.symm, ?_, Int.ofNat_tmod _ _ |>.symm⟩
  · rw [wrB (by omega) (by omega)]; omega
  · rw [wrB (by omega) (by omega)]; omega
  · rw [wrB (by omega) (by omega)]; omega

def turnedL {α : Type} [Inhabited α] (l : List α) (t n : Nat) : List α := (List.range n).map fun i => l.getD (tix l.length t i) default
theorem turnedL_succ {α : Type} [Inhabited α] {l : List α} {t i : Nat} {x : α} (hx : l[tix l.length t i]? = some x) : turnedL l t (i + 1) = turnedL l t i ++ [x] := by
  unfold turnedL
  rw [List.range_succ, List.map_append, List.map_singleton, List.getD_eq_getElem?_getD, hx]
  rfl
theorem turnedL_len {α : Type} [Inhabited α] (l : List α) (t n : Nat) : (turnedL l t n).length = n := by simp [turnedL]
theorem turnedL_mem {α : Type} [Inhabited α] (l : List α) (t : Nat) (x : α) : x ∈ l ↔ x ∈ turnedL l t (2 * l.length) := by
  unfold turnedL
  rw [List.mem_map]
  constructor
  · intro h
    obtain ⟨p, hp⟩ := List.mem_iff_getElem?.1 h
    have hpl : p < l.length := (List.getElem?_eq_some_iff.1 hp).1
    obtain ⟨i, hi, e⟩ := tix_back t p hpl
    exact ⟨i, List.mem_range.2 (by omega), by rw [e, List.getD_eq_getElem?_getD, hp]; rfl⟩
  · rintro ⟨i, hi, rfl⟩
    have : 0 < l.length := by rw [List.mem_range] at hi; omega
    obtain ⟨y, hy⟩ := get_ex (tix_lt this t i)
    rw [List.getD_eq_getElem?_getD, hy]
    exact List.mem_of_getElem? hy
def turnedO (l : List Order) (t n : Nat) : List Order := (List.range n).map fun i => { l.getD (tix l.length t i) ⟨false, ⟨0, 0, 0, 0, 0⟩, 0⟩ with drop := i % 2 == 0 }
theorem turnedO_succ {l : List Order} {t i : Nat} {x : Order} (hx : l[tix l.length t i]? = some x) : turnedO l t (i + 1) = turnedO l t i ++ [{ x with drop := i % 2 == 0 }] := by
  unfold turnedO
  rw [List.range_succ, List.map_append, List.map_singleton, List.getD_eq_getElem?_getD, hx]
  rfl
theorem turnedO_len (l : List Order) (t n : Nat) : (turnedO l t n).length = n := by simp [turnedO]
theorem turnedO_has (l : List Order) (t : Nat) : hasW l = hasW (turnedO l t (2 * l.length)) := by
  funext s n
  rw [Bool.eq_iff_iff, List.any_eq_true, List.any_eq_true]
  unfold turnedO
  constructor
  · rintro ⟨x, hx, hp⟩
    obtain ⟨p, hp'⟩ := List.mem_iff_getElem?.1 hx
    have hpl : p < l.length := (List.getElem?_eq_some_iff.1 hp').1
    obtain ⟨i, hi, e⟩ := tix_back t p hpl
    refine ⟨_, List.mem_map.2 ⟨i, List.mem_range.2 (by omega), rfl⟩, ?_⟩
    rw [e, List.getD_eq_getElem?_getD, hp']
    exact hp
  · rintro ⟨x, hx, hp⟩
    obtain ⟨i, hi, rfl⟩ := List.mem_map.1 hx
    have : 0 < l.length := by rw [List.mem_range] at hi; omega
    obtain ⟨y, hy⟩ := get_ex (tix_lt this t i)
    rw [List.getD_eq_getElem?_getD, hy] at hp
    exact ⟨y, List.mem_of_getElem? hy, hp⟩
end Go.Proofs.Ytangfnommhmpeaa
