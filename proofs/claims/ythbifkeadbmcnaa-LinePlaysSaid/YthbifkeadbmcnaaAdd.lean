/-
  Timeline.Add.
-/
import Derived.Test.YthbifkeadbmcnaaTl
set_option linter.unusedVariables false
set_option linter.unusedSimpArgs false
namespace Go.Proofs.Ythbifkeadbmcnaa
open Go Go.AW
set_option linter.unusedSimpArgs false
set_option maxRecDepth 20000

abbrev cont (M : List SetS) : List (Key × List Seg) := M.map fun x => (x.k, x.l)
/-- what Add makes of it -/
inductive AddTo (C : List (Key × List Seg)) (s : Seg) : Int → List (Key × List Seg) → Prop
  | bad (h : mayB s = false) : AddTo C s 1 C
  | first (h : mayB s = true) (hn : ∀ x ∈ C, x.1 ≠ s.key) : AddTo C s 0 (C ++ [(s.key, [s])])
  | twice {A B : List (Key × List Seg)} {l : List Seg} (h : mayB s = true) (hc : C = A ++ (s.key, l) :: B) {z : Seg} (hz : z ∈ l) (hp : z.p = s.p) : AddTo C s 121 C
  | form {A B : List (Key × List Seg)} {l : List Seg} (h : mayB s = true) (hc : C = A ++ (s.key, l) :: B) (hp : ∀ z ∈ l, z.p ≠ s.p) {z : Seg} (hz : z ∈ l) (hzc : z.c ≠ s.c) : AddTo C s 12 C
  | more {A B : List (Key × List Seg)} {l : List Seg} (h : mayB s = true) (hc : C = A ++ (s.key, l) :: B) (hp : ∀ z ∈ l, z.p ≠ s.p) (hz : ∀ z ∈ l, z.c = s.c) {i : Nat} (hi : PlaceOf l s.p i) : AddTo C s 0 (A ++ (s.key, l.take i ++ s :: l.drop i) :: B)

theorem place_none {l : List Seg} {n : Int} {i : Nat} (hr : Rises l) (h : PlaceOf l n i) (hn : ¬ ∃ z, l[i]? = some z ∧ z.p = n) : ∀ z ∈ l, z.p ≠ n := fun z hz q => by
  rw [← List.take_append_drop i l, List.mem_append] at hz
  rcases hz with hz | hz
  · have := h.lo z hz; omega
  · rcases Nat.lt_or_ge i l.length with hi | hi
    · obtain ⟨y, hy⟩ := get_ex hi
      have hd := drop_get hy
      rw [hd] at hz
      rcases List.mem_cons.1 hz with rfl | hz
      · exact hn ⟨_, hy, q⟩
      · have := h.hi y (by rw [hd]; simp)
        have hp : l.Pairwise fun a b => a.p < b.p := hr
        rw [← List.take_append_drop i l, hd, List.pairwise_append] at hp
        have := (List.pairwise_cons.1 hp.2.1).1 z hz
        omega
    · rw [List.drop_of_length_le hi] at hz; cases hz
theorem good_ins {k : Key} {l : List Seg} {s : Seg} {i : Nat} (h : GoodS k l) (hi : PlaceOf l s.p i) (hno : ∀ z ∈ l, z.p ≠ s.p) (hc : ∀ z ∈ l, z.c = s.c) (hk : s.key = k) (hm : mayB s = true) : GoodS k (l.take i ++ s :: l.drop i) := by
  have mem : ∀ z, z ∈ l.take i ++ s :: l.drop i ↔ z = s ∨ z ∈ l := fun z => by
    rw [List.mem_append, List.mem_cons]
    constructor
    · rintro (q | rfl | q)
      · exact .inr (List.mem_of_mem_take q)
      · exact .inl rfl
      · exact .inr (List.mem_of_mem_drop q)
    · rintro (rfl | q)
      · exact .inr (.inl rfl)
      · rw [← List.take_append_drop i l, List.mem_append] at q
        exact q.imp id .inr
  have hr : l.Pairwise fun a b => a.p < b.p := h.rise
  rw [← List.take_append_drop i l, List.pairwise_append] at hr
  refine ⟨by simp; omega, ?_, fun z hz => ?_, fun z hz y hy => ?_, fun z hz => ?_⟩
  · show (l.take i ++ s :: l.drop i).Pairwise fun a b => a.p < b.p
    rw [List.pairwise_append, List.pairwise_cons]
    refine ⟨hr.1, ⟨fun y hy => ?_, hr.2.1⟩, fun y hy z hz => ?_⟩
    · have := hi.hi y hy; have := hno y (List.mem_of_mem_drop hy); omega
    · rcases List.mem_cons.1 hz with rfl | hz
      · exact hi.lo y hy
      · exact hr.2.2 y hy z hz
  · rcases (mem z).1 hz with rfl | q
    · exact hk
    · exact h.key z q
  · rcases (mem z).1 hz with rfl | q <;> rcases (mem y).1 hy with rfl | q2
    · rfl
    · exact (hc y q2).symm
    · exact hc z q
    · rw [hc z q, hc y q2]
  · rcases (mem z).1 hz with rfl | q
    · exact hm
    · exact h.may z q
theorem tlAdd (s : Seg) (b : Nat) (H : AHeap) (p m : Nat) (M : List SetS) (h : TimeAt b H p m M) (hb : b ≤ H.length) (hM : ∀ x ∈ M, x.l.length < 800) :
    Sound Try.prog 17 [ptrV p, s.val] H fun v H' => ∃ M' e, v = .int .i64 e ∧ TimeAt b H' p m M' ∧ AddTo (cont M) s e (cont M') ∧ H.length ≤ H'.length ∧
      (∀ j, j < H.length → ¬ footT p m M j → H'[j]? = H[j]?) ∧ (∀ j, footT p m M' j → footT p m M j ∨ H.length ≤ j) := by
  refine Sound.of_body (rs := [.tmp 4]) mixed Try.func17 rfl (by kernel_rfl) rfl (by kernel_rfl) ?_
  simp -dsimp only [go_sem, ↓reduceIte, Nat.reduceEqDiff, Nat.reduceAdd, Nat.reduceMul, Nat.reduceSub, Nat.reduceLeDiff, Nat.reduceLT]
  refine SoundP_of (may s _) ?_
  rintro _ H1 ⟨rfl, hp1⟩
  have hb1 := pre_get hp1 (get_end H _ [])
  have p01 : H <+: H1 := (List.prefix_append _ _).trans hp1
  simp -dsimp only [go_sem, ↓reduceIte, Nat.reduceEqDiff, Nat.reduceAdd, Nat.reduceMul, Nat.reduceSub, Nat.reduceLeDiff, Nat.reduceLT]
  refine acondP_of (fun hm => ?_) (fun hm => ?_)
  · simp at hm
    simp -dsimp only [go_sem, ↓reduceIte, Nat.reduceEqDiff, Nat.reduceAdd, Nat.reduceMul, Nat.reduceSub, Nat.reduceLeDiff, Nat.reduceLT]
    refine ⟨M, 1, rfl, h.pre p01, .bad hm, pre_len p01, fun j hj _ => ?_, fun j hj => .inl hj⟩
    rw [pre_get p01 (List.getElem?_eq_getElem hj), List.getElem?_eq_getElem hj]
  simp at hm
  have h1 := h.pre p01
  have hk := h1.pre (List.prefix_append H1 [AObj.row [.int .i64 s.f, .int .i64 s.t, .int .i64 s.v] 3 true])
  have lk := look_sets hk s.key
  have hm1 := hk.at_
  simp -dsimp only [go_sem, ↓reduceIte, Nat.reduceEqDiff, Nat.reduceAdd, Nat.reduceMul, Nat.reduceSub, Nat.reduceLeDiff, Nat.reduceLT, hb1]
  refine adrawnP_of2 [(0, false), (1, false), (2, false), (3, false), (4, false), (5, false), (6, false)] (by kernel_rfl) ?_
  cases hg : mget (idsOf M) s.key with
  | none =>
    rw [hg] at lk
    simp -dsimp only [go_sem, ↓reduceIte, Nat.reduceEqDiff, Nat.reduceAdd, Nat.reduceMul, Nat.reduceSub, Nat.reduceLeDiff, Nat.reduceLT, hm1, show (Value.agg #[.int .i64 s.f, .int .i64 s.t, .int .i64 s.v]) = s.key.val from rfl, lk, Option.map_none, Option.getD_none]
    have hb2 := get_app hb1
    have hkm := get_end H1 (AObj.row [.int .i64 s.f, .int .i64 s.t, .int .i64 s.v] 3 true) []
    refine adrawnP_of2 [(0, false), (1, false), (2, false), (3, false), (4, false), (5, false), (6, false), (7, false), (8, false), (9, false), (10, false)] (by kernel_rfl) ?_
    generalize hH4 : H1 ++ [AObj.row [.int .i64 s.f, .int .i64 s.t, .int .i64 s.v] 3 true, AObj.row s.cells 5 true, AObj.row [.int .i64 s.f, .int .i64 s.t, .int .i64 s.v, .slice (some ⟨H1.length + 1, 0, none⟩) 1 1] 4 true] = H4
    have p14 : H1 <+: H4 := by rw [← hH4]; exact List.prefix_append _ _
    have h4 := h1.pre p14
    have lH4 : H4.length = H1.length + 3 := by rw [← hH4]; simp
    have ltM : ∀ y ∈ M, y.id < H1.length ∧ ∀ j, owner y.sv = some j → j < H1.length := fun y hy => ⟨get_lt (h1.sets y hy).at_, fun j hj => by obtain ⟨cs, hr⟩ := own_row (h1.sets y hy).own hj; exact get_lt hr⟩
    have hb1l := pre_len p01
    have r5 : H4[H1.length + 1]? = some (.row s.cells 5 true) := by rw [← hH4]; exact get_end1 _ _ _ _
    have r4 : H4[H1.length + 2]? = some (.row [.int .i64 s.f, .int .i64 s.t, .int .i64 s.v, .slice (some ⟨H1.length + 1, 0, none⟩) 1 1] 4 true) := by rw [← hH4]; exact get_end2 _ _ _ _ _
    obtain ⟨o, ep, hT⟩ := h4.put ⟨H1.length + 2, s.key, .slice (some ⟨H1.length + 1, 0, none⟩) 1 1, [s]⟩ ⟨(by omega : b ≤ H1.length + 2), r4, .inr ⟨H1.length + 1, [], 1, by omega, rfl, by simpa using r5, .inr ⟨by decide, by simp⟩⟩⟩ hg
      (fun y hy => ⟨fun (q : y.id = H1.length + 2) => by have := (ltM y hy).1; omega, fun j hj q => by have := (ltM y hy).2 j hj; simp only [owner, Option.some.injEq] at q; omega⟩)
      ⟨by simp, by simp, by simp, by simp, by simpa using hm⟩ (by simp)
    simp -dsimp only [go_sem, ↓reduceIte, Nat.reduceEqDiff, Nat.reduceAdd, Nat.reduceMul, Nat.reduceSub, Nat.reduceLeDiff, Nat.reduceLT, hm1, hb2, hkm, get_app hm1]
    rw [hH4, show (Value.agg #[.int .i64 s.f, .int .i64 s.t, .int .i64 s.v]) = s.key.val from rfl]
    simp -dsimp only [go_sem, ↓reduceIte, Nat.reduceEqDiff, Nat.reduceAdd, Nat.reduceMul, Nat.reduceSub, Nat.reduceLeDiff, Nat.reduceLT, ep]
    refine ⟨_, 0, rfl, hT, ?_, by rw [List.length_set]; omega, fun j hj hf => ?_, fun j hj => ?_⟩
    · have ec : ∀ x : SetS, cont (M ++ [x]) = cont M ++ [(x.k, x.l)] := fun x => List.map_append
      rw [ec]
      exact .first hm fun y hy => by
        obtain ⟨x, hx, rfl⟩ := List.mem_map.1 hy
        exact mget_ids_none hg x hx
    · have hjm : m ≠ j := fun q => hf (.inr (.inl q.symm))
      rw [List.getElem?_set_ne hjm, pre_get (p01.trans p14) (List.getElem?_eq_getElem hj), List.getElem?_eq_getElem hj]
    · rcases hj with rfl | rfl | ⟨x, hx, hj⟩
      · exact .inl (.inl rfl)
      · exact .inl (.inr (.inl rfl))
      · rcases List.mem_append.1 hx with hx | hx
        · exact .inl (.inr (.inr ⟨x, hx, hj⟩))
        · rw [List.mem_singleton] at hx; subst hx
          right
          rcases hj with rfl | hj
          · show H.length ≤ H1.length + 2; omega
          · simp only [owner, Option.some.injEq] at hj; omega
  | some id =>
    rw [hg] at lk
    obtain ⟨A, x, B, rfl, hxk, rfl⟩ := mget_ids hg
    have hb2 := get_app hb1
    have hx := hk.sets x (by simp)
    have hg := hk.good x (by simp)
    have hl := hM x (by simp)
    simp -dsimp only [go_sem, ↓reduceIte, Nat.reduceEqDiff, Nat.reduceAdd, Nat.reduceMul, Nat.reduceSub, Nat.reduceLeDiff, Nat.reduceLT, hm1, show (Value.agg #[.int .i64 s.f, .int .i64 s.t, .int .i64 s.v]) = s.key.val from rfl, lk, Option.map_some, Option.getD_some, hb2]
    refine SoundP_of (tlPart x s.p b _ hx (by omega) hg.rise) ?_
    rintro _ H2 ⟨i, rfl, hi, hp2⟩
    have k2 := hk.pre hp2
    have hb3 := pre_get hp2 (hb2 _)
    have p02 := (p01.trans (List.prefix_append _ _)).trans hp2
    clear hk lk hm1 hx
    have same : ∀ j, j < H.length → H2[j]? = H[j]? := fun j hj => by rw [pre_get p02 (List.getElem?_eq_getElem hj), List.getElem?_eq_getElem hj]
    have hcont : cont (A ++ x :: B) = cont A ++ (s.key, x.l) :: cont B := by rw [← hxk]; simp [cont]
    simp -dsimp only [go_sem, ↓reduceIte, Nat.reduceEqDiff, Nat.reduceAdd, Nat.reduceMul, Nat.reduceSub, Nat.reduceLeDiff, Nat.reduceLT]
    refine acondP_of (fun hc => ?_) (fun hc => ?_)
    · obtain ⟨z, hz, hzp⟩ := of_decide_eq_true hc
      simp -dsimp only [go_sem, ↓reduceIte, Nat.reduceEqDiff, Nat.reduceAdd, Nat.reduceMul, Nat.reduceSub, Nat.reduceLeDiff, Nat.reduceLT]
      exact ⟨_, 121, rfl, k2, .twice hm hcont (List.mem_of_getElem? hz) hzp, pre_len p02, fun j hj _ => same j hj, fun j hj => .inl hj⟩
    have hno := place_none hg.rise hi (of_decide_eq_false hc)
    obtain ⟨z0, hz0⟩ := get_ex hg.ne
    have hx2 := k2.sets x (by simp)
    obtain ⟨a, c, hv, hsl⟩ := hx2.own.sl (fun _ => rfl)
    obtain ⟨ia, oa, rfl, hat⟩ := hsl.at hg.ne
    have hxat := hx2.at_
    rw [hv] at hxat
    have l0 : ∀ mm, (H2[ia]?).bind (rowLoad (some false) mm (oa + 0 + 4)) = some (.int .i64 z0.c) := fun mm => by
      have := rowLoad_cell (hat 0 z0 hz0) mm 4 (by decide)
      rw [Nat.zero_mul] at this
      exact this
    simp -dsimp only [go_sem, ↓reduceIte, Nat.reduceEqDiff, Nat.reduceAdd, Nat.reduceMul, Nat.reduceSub, Nat.reduceLeDiff, Nat.reduceLT]
    refine adrawnP_of2 [(0, false), (1, false), (2, false), (3, false), (4, false), (5, false), (6, false), (7, false), (8, false), (9, false), (10, false)] (by kernel_rfl) ?_
    simp -dsimp only [go_sem, ↓reduceIte, Nat.reduceEqDiff, Nat.reduceAdd, Nat.reduceMul, Nat.reduceSub, Nat.reduceLeDiff, Nat.reduceLT, hxat, hb3, show (0 : Int) ≤ 0 ∧ (0 : Int) < (x.l.length : Int) from ⟨by omega, by have := hg.ne; omega⟩, l0]
    have hz0m := List.mem_of_getElem? hz0
    refine acondP_of (fun hc => ?_) (fun hc => ?_)
    · simp -dsimp only [go_sem, ↓reduceIte, Nat.reduceEqDiff, Nat.reduceAdd, Nat.reduceMul, Nat.reduceSub, Nat.reduceLeDiff, Nat.reduceLT]
      exact ⟨_, 12, rfl, k2, .form hm hcont hno hz0m (by simpa using hc), pre_len p02, fun j hj _ => same j hj, fun j hj => .inl hj⟩
    have hcore : ∀ z ∈ x.l, z.c = s.c := fun z hz => by rw [hg.core z hz z0 hz0m]; simpa using hc
    simp -dsimp only [go_sem, ↓reduceIte, Nat.reduceEqDiff, Nat.reduceAdd, Nat.reduceMul, Nat.reduceSub, Nat.reduceLeDiff, Nat.reduceLT]
    refine adrawnP_of2 [(0, false), (1, false), (2, false), (3, false), (4, false), (5, false), (6, false), (7, false), (8, false), (9, false), (10, false), (11, false)] (by kernel_rfl) ?_
    simp -dsimp only [go_sem, ↓reduceIte, Nat.reduceEqDiff, Nat.reduceAdd, Nat.reduceMul, Nat.reduceSub, Nat.reduceLeDiff, Nat.reduceLT, hxat, hb3]
    have pA : H2 <+: H2 ++ [AObj.row s.cells 5 true] := List.prefix_append _ _
    have kA := k2.pre pA
    have hxM : x ∈ A ++ x :: B := by simp
    have own3 := (kA.sets x hxM).own
    have l2 := pre_len p02
    have own3' := own3
    rw [hv] at own3'
    refine SoundP_of (insertS x.l s i hi.le b H2.length _ _ own3' (get_end _ _ _) (fun q => by rw [← hv] at q; have := ((k2.old hxM).2 _ q).1; omega) (by rw [List.length_append]; omega) hg.ne (by omega)) ?_
    rintro v5 H5 ⟨own5, len5, fr5, ow5⟩
    rw [← hv] at fr5 ow5
    have lA : (H2 ++ [AObj.row s.cells 5 true]).length = H2.length + 1 := by simp
    have old := kA.old hxM
    have xr : H5[x.id]? = some (.row [.int .i64 x.k.f, .int .i64 x.k.t, .int .i64 x.k.v, x.sv] 4 true) := by
      rw [fr5 _ old.1 (fun q => (old.2 _ q).2 rfl)]; exact (kA.sets x hxM).at_
    obtain ⟨a5, c5, hv5, -⟩ := own5.sl (fun _ => rfl)
    generalize hn5 : (x.l.take i ++ s :: x.l.drop i).length = n5 at hv5
    subst hv5
    simp -dsimp only [go_sem, ↓reduceIte, Nat.reduceEqDiff, Nat.reduceAdd, Nat.reduceMul, Nat.reduceSub, Nat.reduceLeDiff, Nat.reduceLT, xr]
    have hxp : x.id ≠ p := fun q => by have h1 := hx2.at_; rw [q, k2.at_] at h1; simp at h1
    have len6 : (x.l.take i ++ s :: x.l.drop i).length = x.l.length + 1 := by simp only [List.length_append, List.length_take, List.length_cons, List.length_drop]; have := hi.le; omega
    have gS := good_ins hg hi hno hcore hxk.symm hm
    have len5' : H2.length + 1 ≤ H5.length := by simpa using len5
    have xlt := get_lt xr
    have fr5' : ∀ j, j < H2.length + 1 → owner x.sv ≠ some j → H5[j]? = (H2 ++ [AObj.row s.cells 5 true])[j]? := fun j hj h2 => fr5 j (by simpa using hj) h2
    have ow5' : ∀ j, owner (.slice a5 n5 c5) = some j → owner x.sv = some j ∨ H2.length + 1 ≤ j := fun j hj => by simpa using ow5 j hj
    have oldid : x.id < H2.length := (k2.old hxM).1
    have own6 : ∀ o, OwnS b (H5.set x.id o) (.slice a5 n5 c5) (x.l.take i ++ s :: x.l.drop i) := fun o => own5.keep fun j hj => List.getElem?_set_ne (by
      rintro rfl
      rcases ow5' _ hj with q | q
      · exact (old.2 _ q).2 rfl
      · omega)
    refine ⟨A ++ ⟨x.id, x.k, .slice a5 n5 c5, x.l.take i ++ s :: x.l.drop i⟩ :: B, 0, rfl, ?_, ?_, by rw [List.length_set]; omega, fun j hj hf => ?_, fun j hj => ?_⟩
    · exact kA.swap rfl rfl hxp (fun j hj h1 h2 => by rw [List.getElem?_set_ne (Ne.symm h1)]; exact fr5 j hj h2) ⟨hx2.ge, List.getElem?_set_self (by omega), own6 _⟩ ow5 gS (show (x.l.take i ++ s :: x.l.drop i).length < 900 by omega)
    · have := AddTo.more (C := cont (A ++ x :: B)) hm hcont hno hcore hi
      rw [← hxk] at this
      simpa [cont] using this
    · have f1 : x.id ≠ j := fun q => hf (.inr (.inr ⟨x, hxM, .inl q.symm⟩))
      have f2 : owner x.sv ≠ some j := fun q => hf (.inr (.inr ⟨x, hxM, .inr q⟩))
      rw [List.getElem?_set_ne f1, fr5' j (by omega) f2, ← same j hj]
      exact List.getElem?_append_left (by omega)
    · rcases hj with rfl | rfl | ⟨y, hy, hj⟩
      · exact .inl (.inl rfl)
      · exact .inl (.inr (.inl rfl))
      · have other : y ∈ A ++ B → footT p m (A ++ x :: B) j := fun q => .inr (.inr ⟨y, by rcases List.mem_append.1 q with q | q <;> simp [q], hj⟩)
        rcases List.mem_append.1 hy with hy | hy
        · exact .inl (other (by simp [hy]))
        · rcases List.mem_cons.1 hy with rfl | hy
          · rcases hj with rfl | hj
            · exact .inl (.inr (.inr ⟨x, hxM, .inl rfl⟩))
            · rcases ow5' j hj with q | q
              · exact .inl (.inr (.inr ⟨x, hxM, .inr q⟩))
              · right; omega
          · exact .inl (other (by simp [hy]))
end Go.Proofs.Ythbifkeadbmcnaa
