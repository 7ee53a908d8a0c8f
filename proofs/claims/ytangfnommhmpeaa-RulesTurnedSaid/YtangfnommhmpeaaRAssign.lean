/-
  rules.Assign: what nodes are told.
-/
import Derived.Test.YtangfnommhmpeaaSpec
set_option linter.unusedVariables false
set_option linter.unusedSimpArgs false
namespace Go.Proofs.Ytangfnommhmpeaa
open Go Go.AW Go.Bub
set_option linter.unusedSimpArgs false
set_option maxRecDepth 20000

/-- a field says who has what -/
structure Fits (F : FieldS) (N : List Int) (W : List Seg) (S : Who) : Prop where
  nodes : F.nodes = N
  wanted : F.wanted = W
  hd : ∀ s n, F.hd s n = if S s n = true then 1 else 0
  ld : ∀ n, n ∈ N → F.ld n = (loadW W S n : Int)
theorem Fits.step {F F' : FieldS} {N : List Int} {W : List Seg} {S : Who} {s : Seg} {drop : Bool} {o : Order} (h : Fits F N W S) (hW : StandL W) (hs : s ∈ W) (hk : StepOk N W S s drop o) (ho : Ordered F F' o) : Fits F' N W (upd S o) where
  nodes := ho.nodes.trans h.nodes
  wanted := ho.wanted.trans h.wanted
  hd t n := by
    rw [ho.hd, h.hd]
    by_cases q : t = o.seg ∧ n = o.node
    · have e : upd S o t n = !o.drop := if_pos q
      rw [if_pos q, e]; cases o.drop <;> rfl
    · have e : upd S o t n = S t n := if_neg q
      rw [if_neg q, e]
  ld n hn := by
    rw [ho.ld, upd_load hW hs hk n, h.ld n hn, hk.dr]
theorem Fits.yes {F : FieldS} {N : List Int} {W : List Seg} {S : Who} (h : Fits F N W S) (s : Seg) : (F.nodes.filter fun n => decide (0 < F.hd s n)) = N.filter (S s) := by
  rw [h.nodes]; refine List.filter_congr fun n _ => ?_
  rw [h.hd]; cases S s n <;> rfl
theorem Fits.no {F : FieldS} {N : List Int} {W : List Seg} {S : Who} (h : Fits F N W S) (s : Seg) : (F.nodes.filter fun n => !decide (0 < F.hd s n)) = N.filter fun n => !S s n := by
  rw [h.nodes]; refine List.filter_congr fun n _ => ?_
  rw [h.hd]; cases S s n <;> rfl
theorem Fits.bound {F : FieldS} {N : List Int} {W : List Seg} {S : Who} (h : Fits F N W S) (hW : W.length < 1000) {n : Int} (hn : n ∈ N) : -1000000 ≤ F.ld n ∧ F.ld n ≤ 1000000 := by
  have : loadW W S n ≤ W.length := List.countP_le_length
  rw [h.ld n hn]; omega
theorem Begun.fits {F : FieldS} {segs : List Seg} {have_ : List Order} {nodes : List Int} (h : Begun F segs have_ nodes) : Fits F (livingL nodes) (wantedL segs) (who0 (livingL nodes) (wantedL segs) have_) := by
  have e1 := livingL_uniq h.sortN h.memN
  have e2 := wantedL_uniq h.sortW h.memW
  refine ⟨e1, e2, fun s n => ?_, fun n hn => ?_⟩
  · rw [h.hd, ← e1, ← e2]
    unfold who0
    by_cases q : n ∈ F.nodes ∧ s ∈ F.wanted ∧ have_.any (holdsP s n) = true
    · rw [if_pos q]; simp [q.1, q.2.1, q.2.2]
    · rw [if_neg q, if_neg]
      intro h; apply q
      simpa [and_assoc] using h
  · rw [h.ld, if_pos (by rw [e1]; exact hn), ← e2, ← e1]
    unfold loadW who0
    congr 1
    refine List.countP_congr fun s hs => ?_
    rw [← e1] at hn
    simp [hn, hs]

/-- the pick of 'min' and 'max' -/
theorem pick_min {F : FieldS} {N : List Int} {W : List Seg} {S : Who} (h : Fits F N W S) {x : Int} {l : List Int} (hs : (x :: l).Pairwise (· < ·)) (hm : ∀ n ∈ x :: l, n ∈ N) :
    pickBy (fun y m => decide (orZ [cmpZ (F.ld y) (F.ld m), cmpZ y m] < 0)) x l = pick false (loadW W S) (x :: l) := by
  have e : pickBy (fun y m => decide (orZ [cmpZ (F.ld y) (F.ld m), cmpZ y m] < 0)) x l = pickBy (fun y m => decide (F.ld y < F.ld m)) x l :=
    pickBy_congr _ _ (fun x y hxy => or_lt _ _ _ _ hxy) l x hs
  rw [e]
  have key : ∀ (l : List Int) (m : Int), (∀ n ∈ m :: l, n ∈ N) → pickBy (fun y m => decide (F.ld y < F.ld m)) m l = pickBy (fun y m => decide (loadW W S y < loadW W S m)) m l := by
    intro l
    induction l with
    | nil => intro m _; rfl
    | cons y l ih =>
      intro m hm
      simp only [pickBy]
      have e1 := h.ld y (hm y (by simp))
      have e2 := h.ld m (hm m (by simp))
      have e3 : decide (F.ld y < F.ld m) = decide (loadW W S y < loadW W S m) := by rw [e1, e2, Bool.eq_iff_iff]; simp
      simp only [e3]
      refine ih _ fun n hn => ?_
      rcases List.mem_cons.1 hn with rfl | hn
      · split <;> exact hm _ (by simp)
      · exact hm n (by simp [hn])
  exact key l x hm
theorem pick_max {F : FieldS} {N : List Int} {W : List Seg} {S : Who} (h : Fits F N W S) {x : Int} {l : List Int} (hs : (x :: l).Pairwise (· < ·)) (hm : ∀ n ∈ x :: l, n ∈ N) :
    pickBy (fun y m => decide (0 < orZ [cmpZ (F.ld y) (F.ld m), cmpZ y m])) x l = pick true (loadW W S) (x :: l) := by
  have e : pickBy (fun y m => decide (0 < orZ [cmpZ (F.ld y) (F.ld m), cmpZ y m])) x l = pickBy (fun y m => decide (F.ld m ≤ F.ld y)) x l :=
    pickBy_congr _ _ (fun x y hxy => or_gt _ _ _ _ hxy) l x hs
  rw [e]
  have key : ∀ (l : List Int) (m : Int), (∀ n ∈ m :: l, n ∈ N) → pickBy (fun y m => decide (F.ld m ≤ F.ld y)) m l = pickBy (fun y m => decide (loadW W S m ≤ loadW W S y)) m l := by
    intro l
    induction l with
    | nil => intro m _; rfl
    | cons y l ih =>
      intro m hm
      simp only [pickBy]
      have e1 := h.ld y (hm y (by simp))
      have e2 := h.ld m (hm m (by simp))
      have e3 : decide (F.ld m ≤ F.ld y) = decide (loadW W S m ≤ loadW W S y) := by rw [e1, e2, Bool.eq_iff_iff]; simp
      simp only [e3]
      refine ih _ fun n hn => ?_
      rcases List.mem_cons.1 hn with rfl | hn
      · split <;> exact hm _ (by simp)
      · exact hm n (by simp [hn])
  exact key l x hm

/-- the document's pairs, and the ones that are handed in -/
theorem applyL_any (h : List Order) (s : Seg) (n : Int) : (applyL h []).any (holdsP s n) = h.any (holdsP s n) := by
  have hs : ∀ (l : List Order) (S : Order → Bool) (y : Order), (l.map fun o => (clr o, false)).foldl stepS S y = true ↔ S y = true ∨ ∃ o ∈ l, clr o = y := by
    intro l
    induction l with
    | nil => intro S y; simp
    | cons o l ih =>
      intro S y
      simp only [List.map_cons, List.foldl_cons, ih, List.mem_cons, exists_eq_or_imp]
      simp only [stepS]
      by_cases q : y = clr o
      · simp [q]
      · simp [q, Ne.symm q]
  have hm : ∀ y, y ∈ applyL h [] ↔ ∃ o ∈ h, clr o = y := fun y => by
    rw [applyL_mem]
    unfold applyS setS stepsOf
    rw [List.map_nil, List.append_nil, hs]
    simp
  rw [Bool.eq_iff_iff, List.any_eq_true, List.any_eq_true]
  constructor
  · rintro ⟨y, hy, hp⟩
    obtain ⟨o, ho, rfl⟩ := (hm y).1 hy
    exact ⟨o, ho, hp⟩
  · rintro ⟨o, ho, hp⟩
    exact ⟨clr o, (hm _).2 ⟨o, ho, rfl⟩, hp⟩
end Go.Proofs.Ytangfnommhmpeaa
