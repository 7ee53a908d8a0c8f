/-
  rules.begin: the walk.
-/
import Derived.Test.YtangfnommhmpeaaBegin
set_option linter.unusedVariables false
set_option linter.unusedSimpArgs false
namespace Go.Proofs.Ytangfnommhmpeaa
open Go Go.AW Go.Bub
set_option linter.unusedSimpArgs false
set_option maxRecDepth 20000

/-- one more that is counted -/
theorem countP_one {α : Type} {p q : α → Bool} {x : α} : ∀ {l : List α}, l.Nodup → x ∈ l → p x = false → q x = true → (∀ y, y ≠ x → q y = p y) → l.countP q = l.countP p + 1
  | [], _, h, _, _, _ => by cases h
  | y :: l, hn, h, hp, hq, hs => by
    rw [List.nodup_cons] at hn
    rw [List.countP_cons, List.countP_cons]
    by_cases e : y = x
    · subst e
      have : l.countP q = l.countP p := List.countP_congr fun z hz => by rw [hs z (fun q => hn.1 (q ▸ hz))]
      rw [this, hp, hq]; simp
    · have hx : x ∈ l := by rcases List.mem_cons.1 h with h | h; exact absurd h.symm e; exact h
      rw [countP_one hn.2 hx hp hq hs, hs y e]; omega

theorem standL_nodup {l : List Seg} (h : StandL l) : l.Nodup := List.Pairwise.imp (S := (· ≠ ·)) (fun {a b} (h : standsR a b = true) (q : a = b) => standsR_irrefl a (by subst q; exact h)) h

/-- what a field begins as -/
structure Begun (F : FieldS) (segs : List Seg) (have_ : List Order) (nodes : List Int) : Prop where
  sortN : F.nodes.Pairwise (· < ·)
  memN : ∀ n, n ∈ F.nodes ↔ n ∈ nodes
  sortW : StandL F.wanted
  memW : ∀ s, s ∈ F.wanted ↔ s ∈ segs
  lenN : F.nodes.length ≤ nodes.length
  lenW : F.wanted.length ≤ segs.length
  out : F.out = []
  hd : ∀ s n, F.hd s n = if n ∈ F.nodes ∧ s ∈ F.wanted ∧ have_.any (holdsP s n) = true then 1 else 0
  ld : ∀ n, F.ld n = if n ∈ F.nodes then ((F.wanted.countP fun s => have_.any (holdsP s n) : Nat) : Int) else 0

theorem begin_ (segs : List Seg) (have_ : List Order) (nodes : List Int) (a1 a2 a3 : Option Addr) (c1 c2 c3 : Nat) (H : AHeap) (h1 : SegsAt H a1 segs) (h2 : OrdersAt H a2 have_) (h3 : IntsAt H a3 nodes) (l1 : segs.length < 1000) (l2 : have_.length < 1000) (l3 : nodes.length < 1000) :
    Sound Try.prog 25 [.slice a1 segs.length c1, .slice a2 have_.length c2, .slice a3 nodes.length c3] H fun v H' => ∃ F, v = .pointer (some ⟨F.p, 0, none⟩) ∧ FieldAt H.length H' F ∧ H <+: H' ∧ Begun F segs have_ nodes := by
  refine Sound.of_body (rs := [.tmp 6]) mixed Try.func25 rfl (by kernel_rfl) rfl (by kernel_rfl) ?_
  simp -dsimp only [go_sem, ↓reduceIte, Nat.reduceEqDiff, Nat.reduceAdd, Nat.reduceMul, Nat.reduceSub, Nat.reduceLeDiff, Nat.reduceLT]
  refine SoundP_of (cloneI nodes a3 c3 H h3 l3) ?_
  rintro vn H1 ⟨own1, p1⟩
  simp -dsimp only [go_sem, ↓reduceIte, Nat.reduceEqDiff, Nat.reduceAdd, Nat.reduceMul, Nat.reduceSub, Nat.reduceLeDiff, Nat.reduceLT]
  refine SoundP_of (cloneS segs a1 c1 H1 (h1.pre p1) l1) ?_
  rintro vw H2 ⟨own2, p2⟩
  obtain ⟨an, cn, rfl, -⟩ := own1.sl (fun _ => rfl)
  obtain ⟨aw, cw, rfl, -⟩ := own2.sl (fun _ => rfl)
  have hlen1 := pre_len p1
  have hlen2 := pre_len p2
  simp -dsimp only [go_sem, ↓reduceIte, Nat.reduceEqDiff, Nat.reduceAdd, Nat.reduceMul, Nat.reduceSub, Nat.reduceLeDiff, Nat.reduceLT]
  have p3 : H2 <+: H2 ++ [AObj.map #[] 0, AObj.map #[] 0, AObj.row [.slice an nodes.length cn, .slice aw segs.length cw, .map (some H2.length), .map (some (H2.length + 1)), .slice none 0 0] 5 true] := List.prefix_append _ _
  have hf0 : FieldAt H.length (H2 ++ [AObj.map #[] 0, AObj.map #[] 0, AObj.row [.slice an nodes.length cn, .slice aw segs.length cw, .map (some H2.length), .map (some (H2.length + 1)), .slice none 0 0] 5 true])
      ⟨H2.length + 2, .slice an nodes.length cn, .slice aw segs.length cw, H2.length, H2.length + 1, .slice none 0 0, nodes, segs, [], [], []⟩ :=
    ⟨by simp only; omega, by simp only; omega, by simp only; omega, by simp, get_end2 _ _ _ _ _, (own1.pre p2).pre p3, (own2.pre p3).mono hlen1, fun q => by have := (own2.owner_ge (id := H2.length + 2) q).2; omega,
      DictAt.ofGet _ _ (get_end _ _ _), DictAt.ofGet _ _ (get_end1 _ _ _ _), Own.nil _ _ _ _⟩
  have pre0 : H <+: H2 ++ [AObj.map #[] 0, AObj.map #[] 0, AObj.row [.slice an nodes.length cn, .slice aw segs.length cw, .map (some H2.length), .map (some (H2.length + 1)), .slice none 0 0] 5 true] := (p1.trans p2).trans p3
  generalize hHe : H2 ++ [AObj.map #[] 0, AObj.map #[] 0, AObj.row [.slice an nodes.length cn, .slice aw segs.length cw, .map (some H2.length), .map (some (H2.length + 1)), .slice none 0 0] 5 true] = H3 at *
  refine SoundP_of (sortInts hf0.nodes l3) ?_
  rintro _ H4 ⟨rfl, nl, perm1, sort1, own4, len4, keep4⟩
  have hf1 := turnNodes hf0 keep4 own4
  have hat1 := hf1.at_
  simp only at hat1
  have lnl : nl.length = nodes.length := perm1.length_eq
  have perm1' : nl.Perm nodes := perm1
  simp -dsimp only [go_sem, ↓reduceIte, Nat.reduceEqDiff, Nat.reduceAdd, Nat.reduceMul, Nat.reduceSub, Nat.reduceLeDiff, Nat.reduceLT, hat1]
  refine SoundP_of (compactI nl _ H4 _ own4 (by omega)) ?_
  rintro vn2 H5 ⟨own5, len5, keep5, ow5⟩
  obtain ⟨an2, cn2, rfl, -⟩ := own5.sl (fun _ => rfl)
  obtain ⟨o1, e1, hf2⟩ := putNodes hf1 keep5 own5 ow5
  simp only at e1
  have hat2 := hf2.at_
  simp only at hat2
  simp -dsimp only [go_sem, ↓reduceIte, Nat.reduceEqDiff, Nat.reduceAdd, Nat.reduceMul, Nat.reduceSub, Nat.reduceLeDiff, Nat.reduceLT, e1, hat2]
  refine SoundP_of (sortSegs hf2.wanted l1) ?_
  rintro _ H6 ⟨rfl, wl, perm2, sort2, own6, len6, keep6⟩
  have hf3 := turnWanted hf2 keep6 own6
  have hat3 := hf3.at_
  simp only at hat3
  have lwl : wl.length = segs.length := perm2.length_eq
  have perm2' : wl.Perm segs := perm2
  simp -dsimp only [go_sem, ↓reduceIte, Nat.reduceEqDiff, Nat.reduceAdd, Nat.reduceMul, Nat.reduceSub, Nat.reduceLeDiff, Nat.reduceLT, hat3]
  rw [← lwl] at own6 ⊢
  refine SoundP_of (compactS wl _ H6 _ own6 (by omega)) ?_
  rintro vw2 H7 ⟨own7, len7, keep7, ow7⟩
  obtain ⟨aw2, cw2, rfl, -⟩ := own7.sl (fun _ => rfl)
  obtain ⟨o2, e2, hf4⟩ := putWanted hf3 (by simpa only [lwl] using keep7) own7 (by simpa only [lwl] using ow7)
  simp only at e2
  simp -dsimp only [go_sem, ↓reduceIte, Nat.reduceEqDiff, Nat.reduceAdd, Nat.reduceMul, Nat.reduceSub, Nat.reduceLeDiff, Nat.reduceLT, e2]
  have ge1 := fun j q => (hf0.nodes.owner_ge (id := j) q).1
  have ge2 := fun j q => (own4.owner_ge (id := j) q).1
  have ge3 := fun j q => (hf2.wanted.owner_ge (id := j) q).1
  have ge4 := fun j q => (own6.owner_ge (id := j) q).1
  have pre8 : H <+: H7.set (H2.length + 2) o2 := by
    refine pre_of_keep pre0 ?_ fun j hj => ?_
    · have := pre_len pre0; simp at len6 ⊢; omega
    · rw [List.getElem?_set_ne (by omega), keep7 j (fun q => by have := ge4 j q; omega), keep6 j (fun q => by have := ge3 j q; omega), List.getElem?_set_ne (by omega), keep5 j (fun q => by have := ge2 j q; omega), keep4 j (fun q => by have := ge1 j q; omega)]
  obtain ⟨F, hFp, hf, fN, fW, fH, fL, fO⟩ : ∃ F : FieldS, F.p = H2.length + 2 ∧ FieldAt H.length (H7.set (H2.length + 2) o2) F ∧ F.nodes = comp nl ∧ F.wanted = comp wl ∧ F.holds = [] ∧ F.loads = [] ∧ F.out = [] := ⟨_, rfl, hf4, rfl, rfl, rfl, rfl, rfl⟩
  have sN : F.nodes.Pairwise (· < ·) := by rw [fN]; exact comp_sorted (le := (· ≤ ·)) (lt := (· < ·)) (fun x y h1 h2 => by omega) (fun x y z h1 h2 => by omega) sort1
  have sW : StandL F.wanted := by rw [fW]; exact comp_sorted (le := leS) (lt := fun a b => standsR a b = true) (fun x y => leS_lt) (fun x y z => leS_trans) sort2
  have mN : ∀ n, n ∈ F.nodes ↔ n ∈ nodes := fun n => by rw [fN, comp_mem, perm1'.mem_iff]
  have mW : ∀ s, s ∈ F.wanted ↔ s ∈ segs := fun n => by rw [fW, comp_mem, perm2'.mem_iff]
  have nN : F.nodes.length ≤ nodes.length := by rw [fN]; have := comp_len nl; omega
  have nW : F.wanted.length ≤ segs.length := by rw [fW]; have := comp_len wl; omega
  refine aloopP_of (fun m T H' => ∃ i F', m = have_.length - i ∧ i ≤ have_.length ∧ T 7 = .pointer (some ⟨F'.p, 0, none⟩) ∧ T 45 = .slice a2 have_.length c2 ∧ T 46 = .int .i64 have_.length ∧ T 47 = .int .i64 i ∧ FieldAt H.length H' F' ∧ H <+: H' ∧ F'.nodes = F.nodes ∧ F'.wanted = F.wanted ∧ F'.out = [] ∧
      (∀ s n, F'.hd s n = if n ∈ F.nodes ∧ s ∈ F.wanted ∧ (have_.take i).any (holdsP s n) = true then 1 else 0) ∧ (∀ n, F'.ld n = if n ∈ F.nodes then ((F.wanted.countP fun s => (have_.take i).any (holdsP s n) : Nat) : Int) else 0)) (n := have_.length) ?_ ?_
  · refine ⟨0, F, ?_⟩
    simp -dsimp only [go_sem, ↓reduceIte, Nat.reduceEqDiff, Nat.reduceAdd, Nat.reduceMul, Nat.reduceSub, Nat.reduceLeDiff, Nat.reduceLT]
    refine ⟨by omega, by omega, by rw [hFp], rfl, hf, pre8, fO, fun s n => ?_, fun n => ?_⟩
    · simp [FieldS.hd, fH, mget]
    · simp [FieldS.ld, fL, mget]
  · rintro m T H' ⟨i, F', rfl, hi, g7, g45, g46, g47, hf', hp, eN, eW, eO, hhd, hld⟩
    simp -dsimp only [go_sem, ↓reduceIte, Nat.reduceEqDiff, Nat.reduceAdd, Nat.reduceMul, Nat.reduceSub, Nat.reduceLeDiff, Nat.reduceLT, g7, g45, g46, g47]
    refine acondP_of (fun h => ?_) (fun h => ?_)
    · simp at h
      obtain ⟨o, ho⟩ := get_ex h
      obtain ⟨id, off, rfl, hat⟩ := (h2.pre hp).at (by omega)
      simp -dsimp only [go_sem, ↓reduceIte, Nat.reduceEqDiff, Nat.reduceAdd, Nat.reduceMul, Nat.reduceSub, Nat.reduceLeDiff, Nat.reduceLT, g7, g45, g46, g47, inRange h, rowLoad_whole (hat i o ho)]
      have hA : ∀ s n, (have_.take (i + 1)).any (holdsP s n) = ((have_.take i).any (holdsP s n) || (decide (o.seg = s) && decide (o.node = n))) := fun s n => any_take _ ho
      have same : (∀ s n, n ∈ F.nodes → s ∈ F.wanted → (have_.take (i + 1)).any (holdsP s n) = (have_.take i).any (holdsP s n)) →
          (∀ s n, F'.hd s n = if n ∈ F.nodes ∧ s ∈ F.wanted ∧ (have_.take (i + 1)).any (holdsP s n) = true then 1 else 0) ∧ (∀ n, F'.ld n = if n ∈ F.nodes then ((F.wanted.countP fun s => (have_.take (i + 1)).any (holdsP s n) : Nat) : Int) else 0) := fun hs => by
        refine ⟨fun s n => ?_, fun n => ?_⟩
        · rw [hhd]
          by_cases q : n ∈ F.nodes ∧ s ∈ F.wanted
          · rw [hs s n q.1 q.2]
          · rw [if_neg (fun h => q ⟨h.1, h.2.1⟩), if_neg (fun h => q ⟨h.1, h.2.1⟩)]
        · rw [hld]
          by_cases q : n ∈ F.nodes
          · have : (F.wanted.countP fun s => (have_.take i).any (holdsP s n)) = F.wanted.countP fun s => (have_.take (i + 1)).any (holdsP s n) := List.countP_congr fun s hs' => by rw [hs s n q hs']
            rw [if_pos q, if_pos q, this]
          · rw [if_neg q, if_neg q]
      have pE : H' <+: H' ++ [AObj.row o.cells 7 true, AObj.row [.int .i64 o.seg.f, .int .i64 o.seg.t, .int .i64 o.seg.v, .int .i64 o.seg.p, .int .i64 o.seg.c, .int .i64 o.node] 6 true] := List.prefix_append _ _
      have w1 := wrS (show i < 4611686018427387904 by omega)
      refine adrawnP_of2 [(0, false), (1, false), (2, false), (3, false), (4, false), (5, false), (6, false), (7, false), (8, false), (9, false), (10, false), (11, false), (12, false), (13, false), (14, false), (15, false), (16, false), (17, false), (18, false)] (by kernel_rfl) ?_
      simp -dsimp only [go_sem, ↓reduceIte, Nat.reduceEqDiff, Nat.reduceAdd, Nat.reduceMul, Nat.reduceSub, Nat.reduceLeDiff, Nat.reduceLT, g7, g45, g46, g47]
      refine SoundP_of (lives F' o.node _ _ (hf'.pre pE) (by rw [eN]; omega) (by rw [eN]; exact sN)) ?_
      rintro _ _ ⟨rfl, rfl⟩
      cases hd1 : decide (o.node ∈ F'.nodes) with
      | false =>
        simp -dsimp only [go_sem, ↓reduceIte, Nat.reduceEqDiff, Nat.reduceAdd, Nat.reduceMul, Nat.reduceSub, Nat.reduceLeDiff, Nat.reduceLT, g7, g45, g46, g47, hd1, w1]
        obtain ⟨r1, r2⟩ := same fun s n hn _ => by
          have : o.node ≠ n := fun q => by rw [eN] at hd1; simp at hd1; exact hd1 (q ▸ hn)
          rw [hA]; simp [this]
        exact ⟨_, by omega, i + 1, F', rfl, h, rfl, rfl, hf'.pre pE, hp.trans pE, eN, eW, eO, r1, r2⟩
      | true =>
        simp -dsimp only [go_sem, ↓reduceIte, Nat.reduceEqDiff, Nat.reduceAdd, Nat.reduceMul, Nat.reduceSub, Nat.reduceLeDiff, Nat.reduceLT, g7, g45, g46, g47, hd1]
        refine SoundP_of (wants F' o.seg _ _ (hf'.pre pE) (by rw [eW]; omega) (by rw [eW]; exact sW)) ?_
        rintro _ H1' ⟨rfl, hq⟩
        refine grown_any hq ?_
        have hf1 := (hf'.pre pE).pre hq
        have hat1 := hf1.at_
        have hb1 := pre_get hq (get_end _ _ _)
        have hb2 := pre_get hq (get_end1 _ _ _ _)
        have hpp := (hp.trans pE).trans hq
        cases hd2 : decide (o.seg ∈ F'.wanted) with
        | false =>
          simp -dsimp only [go_sem, ↓reduceIte, Nat.reduceEqDiff, Nat.reduceAdd, Nat.reduceMul, Nat.reduceSub, Nat.reduceLeDiff, Nat.reduceLT, g7, g45, g46, g47, hd2, w1]
          obtain ⟨r1, r2⟩ := same fun s n _ hs => by
            have : o.seg ≠ s := fun q => by rw [eW] at hd2; simp at hd2; exact hd2 (q ▸ hs)
            rw [hA]; simp [this]
          exact ⟨_, by omega, i + 1, F', rfl, h, rfl, rfl, hf1, hpp, eN, eW, eO, r1, r2⟩
        | true =>
          have oN : o.node ∈ F.nodes := by rw [eN] at hd1; simpa using hd1
          have oW : o.seg ∈ F.wanted := by rw [eW] at hd2; simpa using hd2
          have lk := look_holds hf1 o.seg o.node
          simp -dsimp only [go_sem, ↓reduceIte, Nat.reduceEqDiff, Nat.reduceAdd, Nat.reduceMul, Nat.reduceSub, Nat.reduceLeDiff, Nat.reduceLT, g7, g45, g46, g47, hd2, hat1, hb2, lk]
          refine acondP_of (fun hz => ?_) (fun hz => ?_)
          · simp at hz
            have hno : (have_.take i).any (holdsP o.seg o.node) = false := by
              have := hhd o.seg o.node
              rw [hz] at this
              cases hany : (have_.take i).any (holdsP o.seg o.node) with
              | false => rfl
              | true => rw [if_pos ⟨oN, oW, hany⟩] at this; cases this
            obtain ⟨o4, e4, hf4, k4⟩ := setHolds hf1 o.seg o.node 1
            obtain ⟨o5, e5, hf5, k5⟩ := setLoads hf4 o.node (F'.ld o.node + 1)
            have hat4 : (H1'.set F'.ih o4)[F'.p]? = some (.row [F'.vn, F'.vw, .map (some F'.ih), .map (some F'.il), F'.vo] 5 true) := hf4.at_
            have lk4 : alookup Try.prog (H1'.set F'.ih o4) 52 (.map (some F'.il)) (intV o.node) false = some (.int .i64 (F'.ld o.node)) := look_loads hf4 o.node
            have hb4 : (H1'.set F'.ih o4)[H'.length]? = some (AObj.row o.cells 7 true) := by
              rw [List.getElem?_set_ne (by have := hf'.holds.lt; omega)]; exact hb1
            have hle : F'.ld o.node ≤ 1000 := by
              rw [hld, if_pos oN]
              have : F.wanted.countP (fun s => (have_.take i).any (holdsP s o.node)) ≤ F.wanted.length := List.countP_le_length
              omega
            have hge : 0 ≤ F'.ld o.node := by rw [hld, if_pos oN]; omega
            have w2 : IntKind.i64.wrap (F'.ld o.node + 1) = F'.ld o.node + 1 := wrB (by omega) (by omega)
            simp -dsimp only [go_sem, ↓reduceIte, Nat.reduceEqDiff, Nat.reduceAdd, Nat.reduceMul, Nat.reduceSub, Nat.reduceLeDiff, Nat.reduceLT, g7, g45, g46, g47]
            refine adrawnP_of2 [(0, false), (1, false), (2, false), (3, false), (4, false), (5, false)] (by kernel_rfl) ?_
            simp -dsimp only [go_sem, ↓reduceIte, Nat.reduceEqDiff, Nat.reduceAdd, Nat.reduceMul, Nat.reduceSub, Nat.reduceLeDiff, Nat.reduceLT, g7, g45, g46, g47, hat1, hb2, e4]
            refine adrawnP_of2 [(0, false), (1, false), (2, false), (3, false), (4, false), (5, false), (6, false), (7, false), (8, false)] (by kernel_rfl) ?_
            simp -dsimp only [go_sem, ↓reduceIte, Nat.reduceEqDiff, Nat.reduceAdd, Nat.reduceMul, Nat.reduceSub, Nat.reduceLeDiff, Nat.reduceLT, g7, g45, g46, g47, hat4, hb4, lk4, w2, e5, w1]
            refine ⟨_, by omega, i + 1, { F' with holds := mput F'.holds ⟨o.seg, o.node⟩ 1, loads := mput F'.loads o.node (F'.ld o.node + 1) }, rfl, h, rfl, rfl, hf5, hf1.base (k4.trans k5) hpp (Nat.le_refl _), eN, eW, eO, fun s n => ?_, fun n => ?_⟩
            · simp only [FieldS.hd, mget_put, Pair.mk.injEq]
              by_cases q : o.seg = s ∧ o.node = n
              · obtain ⟨rfl, rfl⟩ := q
                rw [if_pos ⟨rfl, rfl⟩, if_pos ⟨oN, oW, by rw [hA]; simp⟩]; rfl
              · rw [if_neg q]
                have := hhd s n
                simp only [FieldS.hd] at this
                rw [this, hA, show (decide (o.seg = s) && decide (o.node = n)) = false by simp; exact fun h1 h2 => q ⟨h1, h2⟩, Bool.or_false]
            · simp only [FieldS.ld, mget_put]
              by_cases q : o.node = n
              · subst q
                rw [if_pos rfl, if_pos oN]
                have := hld o.node
                rw [if_pos oN] at this
                simp only [FieldS.ld] at this
                rw [this, countP_one (p := fun s => (have_.take i).any (holdsP s o.node)) (q := fun s => (have_.take (i + 1)).any (holdsP s o.node)) (standL_nodup sW) oW hno (by rw [hA]; simp) (fun y hy => by rw [hA]; simp [Ne.symm hy])]
                simp
              · rw [if_neg q]
                have := hld n
                simp only [FieldS.ld] at this
                rw [this]
                simp only [hA, q, decide_false, Bool.and_false, Bool.or_false]
          · simp at hz
            simp -dsimp only [go_sem, ↓reduceIte, Nat.reduceEqDiff, Nat.reduceAdd, Nat.reduceMul, Nat.reduceSub, Nat.reduceLeDiff, Nat.reduceLT, g7, g45, g46, g47, w1]
            have hyes : (have_.take i).any (holdsP o.seg o.node) = true := by
              have := hhd o.seg o.node
              cases hany : (have_.take i).any (holdsP o.seg o.node) with
              | true => rfl
              | false => rw [if_neg (fun h => by rw [hany] at h; exact absurd h.2.2 (by decide))] at this; exact absurd this hz
            obtain ⟨r1, r2⟩ := same fun s n _ _ => by
              rw [hA]
              by_cases q : o.seg = s ∧ o.node = n
              · obtain ⟨rfl, rfl⟩ := q; rw [hyes]; simp
              · rw [show (decide (o.seg = s) && decide (o.node = n)) = false by simp; exact fun h1 h2 => q ⟨h1, h2⟩, Bool.or_false]
            exact ⟨_, by omega, i + 1, F', rfl, h, rfl, rfl, hf1, hpp, eN, eW, eO, r1, r2⟩
    · simp at h
      obtain rfl : i = have_.length := by omega
      rw [List.take_length] at hhd hld
      simp -dsimp only [go_sem, ↓reduceIte, Nat.reduceEqDiff, Nat.reduceAdd, Nat.reduceMul, Nat.reduceSub, Nat.reduceLeDiff, Nat.reduceLT, g7, g45, g46, g47]
      exact ⟨F', rfl, hf', hp, by rw [eN]; exact sN, by rw [eN]; exact mN, by rw [eW]; exact sW, by rw [eW]; exact mW, by rw [eN]; exact nN, by rw [eW]; exact nW, eO, by rw [eN, eW]; exact hhd, by rw [eN, eW]; exact hld⟩
end Go.Proofs.Ytangfnommhmpeaa
