/-
  Plain: what nodes are told; a move.
-/
import Derived.Test.YtangfnommhmpeaaRApply
set_option linter.unusedVariables false
set_option linter.unusedSimpArgs false
namespace Go.Proofs.Ytangfnommhmpeaa
open Go Go.AW Go.Bub

abbrev Who := Seg → Int → Bool
def loadW (W : List Seg) (S : Who) (n : Int) : Nat := W.countP fun s => S s n
def pick (drop : Bool) (ld : Int → Nat) : List Int → Int
  | [] => 0
  | x :: l => pickBy (fun y m => if drop then decide (ld m ≤ ld y) else decide (ld y < ld m)) x l
def upd (S : Who) (o : Order) : Who := fun s n => if s = o.seg ∧ n = o.node then !o.drop else S s n
def stepO (N : List Int) (W : List Seg) (S : Who) (s : Seg) (drop : Bool) : Order := ⟨drop, s, pick drop (loadW W S) (N.filter fun n => S s n == drop)⟩
def segRun (N : List Int) (W : List Seg) (r : Nat) (s : Seg) : Nat → Who → List Order × Who
  | 0, S => ([], S)
  | k + 1, S =>
    if N.countP (S s) = r then ([], S)
    else
      let o := stepO N W S s (decide (r < N.countP (S s)))
      (o :: (segRun N W r s k (upd S o)).1, (segRun N W r s k (upd S o)).2)
def allRun (N : List Int) (W : List Seg) (r : Nat) : List Seg → Who → List Order
  | [], _ => []
  | s :: ws, S => (segRun N W r s N.length S).1 ++ allRun N W r ws (segRun N W r s N.length S).2
def allRunS (N : List Int) (W : List Seg) (r : Nat) : List Seg → Who → Who
  | [], S => S
  | s :: ws, S => allRunS N W r ws (segRun N W r s N.length S).2

/-- who has what, of the living and the wanted -/
def who0 (N : List Int) (W : List Seg) (h : List Order) : Who := fun s n => decide (n ∈ N) && decide (s ∈ W) && h.any (holdsP s n)
def oddL (N : List Int) (W : List Seg) (now : List Order) : List Order := (now.filter fun o => decide (o.node ∈ N) && !decide (o.seg ∈ W)).map fun o => ⟨true, o.seg, o.node⟩
def replN (r : Int) (n : Nat) : Nat := (replicasZ r n).toNat
/-- what nodes are told -/
def assignL (segs : List Seg) (h : List Order) (nodes : List Int) (r : Int) : List Order :=
  oddL (livingL nodes) (wantedL segs) (applyL h []) ++ allRun (livingL nodes) (wantedL segs) (replN r (livingL nodes).length) (wantedL segs) (who0 (livingL nodes) (wantedL segs) h)
/-- a move -/
def balanceL (segs : List Seg) (h : List Order) (nodes : List Int) : List Order :=
  match livingL nodes with
  | [] => []
  | x :: l =>
    let ld := loadW (wantedL segs) (fun s n => h.any (holdsP s n))
    let b := pickBy (fun y m => decide (ld y < ld m)) x l
    let a := pickBy (fun y m => decide (ld m < ld y)) x l
    if ld a < ld b + 2 then [] else
    match (wantedL segs).find? fun s => h.any (holdsP s a) && !h.any (holdsP s b) with
    | none => []
    | some s => [⟨false, s, b⟩, ⟨true, s, a⟩]

/-! ### the best of a list that rises -/
theorem pickBy_congr (c c' : Int → Int → Bool) (h : ∀ x y, x < y → c y x = c' y x) : ∀ (l : List Int) (m : Int), (m :: l).Pairwise (· < ·) → pickBy c m l = pickBy c' m l
  | [], m, _ => rfl
  | y :: l, m, hs => by
    have h1 := List.pairwise_cons.1 hs
    have h2 := List.pairwise_cons.1 h1.2
    simp only [pickBy]
    rw [h m y (h1.1 y (List.mem_cons_self ..))]
    split
    · exact pickBy_congr c c' h l y h1.2
    · exact pickBy_congr c c' h l m (List.pairwise_cons.2 ⟨fun z hz => h1.1 z (List.mem_cons_of_mem _ hz), h2.2⟩)
theorem or_lt (a b x y : Int) (h : x < y) : decide (orZ [cmpZ b a, cmpZ y x] < 0) = decide (b < a) := by
  have e : cmpZ y x = 1 := by unfold cmpZ; rw [if_neg (by omega), if_pos h]
  rw [Bool.eq_iff_iff]
  simp only [orZ, e, decide_eq_true_eq]
  have h1 := @cmpZ_lt b a
  have h2 := @cmpZ_eq b a
  by_cases q : cmpZ b a = 0
  · rw [if_neg (by simpa using q)]; have := h2.1 q; simp; omega
  · rw [if_pos q]; exact h1
theorem or_gt (a b x y : Int) (h : x < y) : decide (0 < orZ [cmpZ b a, cmpZ y x]) = decide (a ≤ b) := by
  have e : cmpZ y x = 1 := by unfold cmpZ; rw [if_neg (by omega), if_pos h]
  rw [Bool.eq_iff_iff]
  simp only [orZ, e, decide_eq_true_eq]
  have h1 := @cmpZ_lt b a
  have h2 := @cmpZ_eq b a
  by_cases q : cmpZ b a = 0
  · rw [if_neg (by simpa using q)]; have := h2.1 q; simp; omega
  · rw [if_pos q]
    unfold cmpZ at q ⊢
    split
    · omega
    · split
      · omega
      · omega

/-! ### one step -/
theorem filter_eq_countP {S : Int → Bool} (N : List Int) : (N.filter fun n => S n == true).length = N.countP S := by
  rw [List.countP_eq_length_filter]; congr 1; refine List.filter_congr fun x _ => by simp
theorem filter_ne_countP {S : Int → Bool} (N : List Int) : (N.filter fun n => S n == false).length + N.countP S = N.length := by
  induction N with
  | nil => rfl
  | cons x N ih =>
    rw [List.filter_cons, List.countP_cons]
    cases h : S x
    · simp only [beq_self_eq_true, if_true, List.length_cons, Bool.false_eq_true, if_false]; omega
    · simp only [show (true == false) = false from rfl, Bool.false_eq_true, if_false, if_true, List.length_cons]; omega
theorem filt_true (S : Int → Bool) (N : List Int) : (N.filter fun n => S n == true) = N.filter S := List.filter_congr fun x _ => by simp
theorem filt_false (S : Int → Bool) (N : List Int) : (N.filter fun n => S n == false) = N.filter fun n => !S n := List.filter_congr fun x _ => by simp
theorem pick_mem (drop : Bool) (ld : Int → Nat) {L : List Int} (h : L ≠ []) : pick drop ld L ∈ L := by
  cases L with
  | nil => exact absurd rfl h
  | cons x l => exact pickBy_mem _ l x

structure StepOk (N : List Int) (W : List Seg) (S : Who) (s : Seg) (drop : Bool) (o : Order) : Prop where
  seg : o.seg = s
  dr : o.drop = drop
  mem : o.node ∈ N
  was : S s o.node = drop
theorem stepO_ok {N : List Int} {W : List Seg} {S : Who} {s : Seg} {drop : Bool} (h : N.filter (fun n => S s n == drop) ≠ []) : StepOk N W S s drop (stepO N W S s drop) := by
  have hm := pick_mem drop (loadW W S) h
  rw [List.mem_filter] at hm
  exact ⟨rfl, rfl, hm.1, eq_of_beq hm.2⟩
theorem ne_add {N : List Int} {S : Who} {s : Seg} {r : Nat} (h : N.countP (S s) < r) (hr : r ≤ N.length) : N.filter (fun n => S s n == false) ≠ [] := fun q => by
  have := filter_ne_countP (S := S s) N; rw [q] at this; simp only [List.length_nil] at this; omega
theorem ne_drop {N : List Int} {S : Who} {s : Seg} {r : Nat} (h : r < N.countP (S s)) : N.filter (fun n => S s n == true) ≠ [] := fun q => by
  have := filter_eq_countP (S := S s) N; rw [q] at this; simp only [List.length_nil] at this; omega
theorem ne_step {N : List Int} {S : Who} {s : Seg} {r : Nat} (hr : r ≤ N.length) (h : N.countP (S s) ≠ r) : N.filter (fun n => S s n == decide (r < N.countP (S s))) ≠ [] := by
  by_cases q : r < N.countP (S s)
  · rw [decide_eq_true q]; exact ne_drop q
  · rw [decide_eq_false q]; exact ne_add (by omega) hr

theorem countP_two {α : Type} {p q : α → Bool} {x : α} {l : List α} (hn : l.Nodup) (hx : x ∈ l) (hp : p x = true) (hq : q x = false) (hs : ∀ y, y ≠ x → q y = p y) : l.countP q + 1 = l.countP p :=
  (countP_one hn hx hq hp (fun y hy => (hs y hy).symm)).symm
theorem living_nodup {N : List Int} (h : N.Pairwise (· < ·)) : N.Nodup := h.imp fun h => by omega
/-- how many hold it behind a step -/
theorem upd_count {N : List Int} {W : List Seg} {S : Who} {s : Seg} {drop : Bool} {o : Order} (hN : N.Pairwise (· < ·)) (h : StepOk N W S s drop o) : if drop then N.countP (upd S o s) + 1 = N.countP (S s) else N.countP (upd S o s) = N.countP (S s) + 1 := by
  have e : ∀ n, upd S o s n = if n = o.node then !drop else S s n := fun n => by simp [upd, h.seg, h.dr]
  have he : upd S o s o.node = !drop := by rw [e]; simp
  have ho : ∀ n, n ≠ o.node → upd S o s n = S s n := fun n hn => by rw [e, if_neg hn]
  cases drop with
  | true => exact countP_two (living_nodup hN) h.mem h.was he ho
  | false => exact countP_one (living_nodup hN) h.mem h.was he ho
/-- loads behind a step -/
theorem upd_load {N : List Int} {W : List Seg} {S : Who} {s : Seg} {drop : Bool} {o : Order} (hW : StandL W) (hs : s ∈ W) (h : StepOk N W S s drop o) (n : Int) :
    (loadW W (upd S o) n : Int) = if n = o.node then (loadW W S n : Int) + (if drop then -1 else 1) else (loadW W S n : Int) := by
  have e : ∀ t, upd S o t n = if t = s ∧ n = o.node then !drop else S t n := fun t => by simp [upd, h.seg, h.dr]
  by_cases q : n = o.node
  · subst q
    rw [if_pos rfl]
    have he : upd S o s o.node = !drop := by rw [e]; simp
    have ho : ∀ t, t ≠ s → upd S o t o.node = S t o.node := fun t ht => by rw [e, if_neg (fun q => ht q.1)]
    unfold loadW
    cases drop with
    | true => have := countP_two (p := fun t => S t o.node) (q := fun t => upd S o t o.node) (standL_nodup hW) hs h.was he ho; simp; omega
    | false => have := countP_one (p := fun t => S t o.node) (q := fun t => upd S o t o.node) (standL_nodup hW) hs h.was he ho; simp; omega
  · rw [if_neg q]
    unfold loadW
    congr 1
    exact List.countP_congr fun t _ => by rw [e, if_neg (fun h => q h.2)]
theorem upd_other {N : List Int} {W : List Seg} {S : Who} {s t : Seg} {drop : Bool} {o : Order} (h : StepOk N W S s drop o) (ht : t ≠ s) (n : Int) : upd S o t n = S t n := by
  simp only [upd, h.seg]
  rw [if_neg (fun q => ht q.1)]

theorem segRun_succ {N : List Int} {W : List Seg} {r : Nat} {s : Seg} {k : Nat} {S : Who} (h : N.countP (S s) ≠ r) :
    segRun N W r s (k + 1) S = (stepO N W S s (decide (r < N.countP (S s))) :: (segRun N W r s k (upd S (stepO N W S s (decide (r < N.countP (S s)))))).1, (segRun N W r s k (upd S (stepO N W S s (decide (r < N.countP (S s)))))).2) := by
  rw [segRun, if_neg h]
theorem segRun_done {N : List Int} {W : List Seg} {r : Nat} {s : Seg} {k : Nat} {S : Who} (h : N.countP (S s) = r) : segRun N W r s k S = ([], S) := by
  cases k with
  | zero => rfl
  | succ k => rw [segRun, if_pos h]

theorem replN_le (r : Int) (n : Nat) : replN r n ≤ n := by
  unfold replN replicasZ
  simp only
  split <;> split <;> omega
theorem replN_cast (r : Int) (n : Nat) : replicasZ r n = (replN r n : Int) := by
  unfold replN replicasZ
  simp only
  split <;> split <;> omega
theorem replN_minmax (r : Int) (n : Nat) : (if (n : Int) < (if 1 > r then 1 else r) then (n : Int) else (if 1 > r then 1 else r)) = (replN r n : Int) := by
  unfold replN replicasZ
  simp only
  by_cases h : r < 1
  · rw [if_pos h]; split <;> omega
  · rw [if_neg h]; split <;> omega
end Go.Proofs.Ytangfnommhmpeaa
