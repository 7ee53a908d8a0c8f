/-
  rules.Assign: the walk.
-/
import Derived.Test.YtangfnommhmpeaaRAssign
set_option linter.unusedVariables false
set_option linter.unusedSimpArgs false
namespace Go.Proofs.Ytangfnommhmpeaa
open Go Go.AW Go.Bub
set_option linter.unusedSimpArgs false
set_option maxRecDepth 20000

theorem Kept.clear {H H' : AHeap} {F F' : FieldS} (h : Kept H H' F F') {k : Nat} (hk : k < H.length) (hn : ¬ foot F k) : ¬ foot F' k ∧ H'[k]? = H[k]? :=
  ⟨fun q => by rcases h.mine k q with q | q; exact hn q; omega, h.same k hk hn⟩
theorem foot_lt {b : Nat} {H : AHeap} {F : FieldS} (h : FieldAt b H F) {k : Nat} (hf : foot F k) : b ≤ k ∧ k < H.length := by
  rcases hf with rfl | rfl | rfl | q
  · exact ⟨h.bp, get_lt h.at_⟩
  · exact ⟨h.bh, h.holds.lt⟩
  · exact ⟨h.bl, h.loads.lt⟩
  · exact h.out.owner_ge q
theorem clear_new {b : Nat} {H : AHeap} {F : FieldS} (h : FieldAt b H F) {k : Nat} (hk : H.length ≤ k) : ¬ foot F k := fun q => by have := (foot_lt h q).2; omega

theorem segRun_len (N : List Int) (W : List Seg) (r : Nat) (s : Seg) : ∀ (k : Nat) (S : Who), (segRun N W r s k S).1.length ≤ k
  | 0, S => by simp [segRun]
  | k + 1, S => by
    rw [segRun]
    split
    · simp
    · have := segRun_len N W r s k (upd S (stepO N W S s (decide (r < N.countP (S s)))))
      simp; omega
theorem allRun_len (N : List Int) (W : List Seg) (r : Nat) : ∀ (ws : List Seg) (S : Who), (allRun N W r ws S).length ≤ ws.length * N.length
  | [], S => by simp [allRun]
  | s :: ws, S => by
    have h1 := segRun_len N W r s N.length S
    have h2 := allRun_len N W r ws (segRun N W r s N.length S).2
    simp only [allRun, List.length_append, List.length_cons, Nat.add_mul]
    omega

/-- 'emptier', bound to its field -/
theorem emptierC {b : Nat} {H : AHeap} {F : FieldS} (hf : FieldAt b H F) (L : List Int) : ∀ H' x y, H <+: H' → x ∈ L → y ∈ L → Sound Try.prog 30 ((#[.pointer (some ⟨F.p, 0, none⟩)] : Array Value).toList ++ .int .i64 x :: .int .i64 y :: (#[] : Array Value).toList) H' fun v H'' => v = .int .i64 (orZ [cmpZ (F.ld x) (F.ld y), cmpZ x y]) ∧ H' <+: H'' :=
  fun H' x y hp _ _ => emptier F x y b H' (hf.pre hp)

/-- one segment's rounds, as they are gone through -/
structure Rounds (N : List Int) (W : List Seg) (r : Nat) (s : Seg) (S0 : Who) (done : List Order) (S1 : Who) (k : Nat) : Prop where
  one : (segRun N W r s N.length S0).1 = done ++ (segRun N W r s k S1).1
  two : (segRun N W r s N.length S0).2 = (segRun N W r s k S1).2
  far : N.countP (S1 s) ≤ r + k
  near : r ≤ N.countP (S1 s) + k
theorem Rounds.start {N : List Int} {W : List Seg} {r : Nat} {s : Seg} {S0 : Who} (hr : r ≤ N.length) : Rounds N W r s S0 [] S0 N.length :=
  ⟨by simp, rfl, by have : N.countP (S0 s) ≤ N.length := List.countP_le_length; omega, by omega⟩
theorem Rounds.step {N : List Int} {W : List Seg} {r : Nat} {s : Seg} {S0 : Who} {done : List Order} {S1 : Who} {k : Nat} (h : Rounds N W r s S0 done S1 k) (hN : N.Pairwise (· < ·)) (hr : r ≤ N.length) (hne : N.countP (S1 s) ≠ r) :
    ∃ k', k = k' + 1 ∧ StepOk N W S1 s (decide (r < N.countP (S1 s))) (stepO N W S1 s (decide (r < N.countP (S1 s)))) ∧ Rounds N W r s S0 (done ++ [stepO N W S1 s (decide (r < N.countP (S1 s)))]) (upd S1 (stepO N W S1 s (decide (r < N.countP (S1 s))))) k' := by
  have h1 := h.far
  have h2 := h.near
  obtain ⟨k', rfl⟩ : ∃ k', k = k' + 1 := ⟨k - 1, by omega⟩
  have hok := stepO_ok (W := W) (ne_step hr hne)
  have hc := upd_count hN hok
  refine ⟨k', rfl, hok, ⟨?_, ?_, ?_, ?_⟩⟩
  · rw [h.one, segRun_succ hne]; simp
  · rw [h.two, segRun_succ hne]
  · by_cases q : r < N.countP (S1 s)
    · rw [if_pos (by simpa using q)] at hc; omega
    · rw [if_neg (by simpa using q)] at hc; omega
  · by_cases q : r < N.countP (S1 s)
    · rw [if_pos (by simpa using q)] at hc; omega
    · rw [if_neg (by simpa using q)] at hc; omega
theorem Rounds.end_ {N : List Int} {W : List Seg} {r : Nat} {s : Seg} {S0 : Who} {done : List Order} {S1 : Who} {k : Nat} (h : Rounds N W r s S0 done S1 k) (he : N.countP (S1 s) = r) : (segRun N W r s N.length S0).1 = done ∧ (segRun N W r s N.length S0).2 = S1 := by
  have h1 := h.one
  have h2 := h.two
  rw [segRun_done he] at h1 h2
  exact ⟨by simpa using h1, h2⟩
theorem oddL_take {N : List Int} {W : List Seg} {now : List Order} {i : Nat} {o : Order} (ho : now[i]? = some o) : oddL N W (now.take (i + 1)) = oddL N W (now.take i) ++ if decide (o.node ∈ N) && !decide (o.seg ∈ W) then [⟨true, o.seg, o.node⟩] else [] := by
  unfold oddL
  rw [take_get ho, List.filter_append, List.map_append]
  congr 1
  rw [List.filter_cons]
  split <;> simp

theorem rAssign (segs : List Seg) (have_ : List Order) (nodes : List Int) (r : Int) (a1 a2 a3 : Option Addr) (c1 c2 c3 : Nat) (H : AHeap) (h1 : SegsAt H a1 segs) (h2 : OrdersAt H a2 have_) (h3 : IntsAt H a3 nodes) (l1 : segs.length ≤ 60) (l2 : have_.length < 450) (l3 : nodes.length ≤ 60) :
    Sound Try.prog 12 [.slice a1 segs.length c1, .slice a2 have_.length c2, .slice a3 nodes.length c3, .int .i64 r] H fun v H' => OwnO H.length H' v (assignL segs have_ nodes r) ∧ H <+: H' := by
  refine Sound.of_body (rs := [.tmp 8]) mixed Try.func12 rfl (by kernel_rfl) rfl (by kernel_rfl) ?_
  simp -dsimp only [go_sem, ↓reduceIte, Nat.reduceEqDiff, Nat.reduceAdd, Nat.reduceMul, Nat.reduceSub, Nat.reduceLeDiff, Nat.reduceLT]
  refine SoundP_of (begin_ segs have_ nodes a1 a2 a3 c1 c2 c3 H h1 h2 h3 (by omega) (by omega) (by omega)) ?_
  rintro _ H1 ⟨F, rfl, hf, p1, hbeg⟩
  have hfit := hbeg.fits
  have hN' := livingL_sorted nodes
  have sW := wantedL_sorted segs
  have nN := livingL_len nodes
  have nW := wantedL_len segs
  have hrN := replN_le r (livingL nodes).length
  have hout0 := hbeg.out
  generalize hN : livingL nodes = N at *
  generalize hW : wantedL segs = W at *
  have eN := hfit.nodes
  obtain ⟨an, cn, hvn, -⟩ := hf.nodes.sl (fun _ => rfl)
  have hat := hf.at_
  rw [hvn] at hat
  simp -dsimp only [go_sem, ↓reduceIte, Nat.reduceEqDiff, Nat.reduceAdd, Nat.reduceMul, Nat.reduceSub, Nat.reduceLeDiff, Nat.reduceLT, hat, replN_minmax]
  rw [eN]
  generalize hR : replN r N.length = R at *
  refine SoundP_of (rApply have_ [] a2 none c2 0 H1 (h2.pre p1) (SlA.nil _ _ _ _) l2 (by simp)) ?_
  rintro vo H2 ⟨own2, p2⟩
  obtain ⟨ao, co, rfl, -⟩ := own2.sl (fun _ => rfl)
  have hnow := applyL_len have_ []
  have hdef : assignL segs have_ nodes r = oddL N W (applyL have_ []) ++ allRun N W R W (who0 N W have_) := by
    unfold assignL; rw [hN, hW, hR]
  rw [hdef]
  generalize hA : applyL have_ [] = now at *
  have hSg : ∀ x, x = who0 N W have_ → x = who0 N W have_ := fun _ h => h
  generalize hS0 : who0 N W have_ = S0 at *
  have hodd : (oddL N W now).length ≤ now.length := by unfold oddL; rw [List.length_map]; exact List.length_filter_le _ _
  have hall := allRun_len N W R W S0
  have hWN : W.length * N.length ≤ 60 * 60 := Nat.mul_le_mul (by omega) (by omega)
  simp only [List.length_nil, Nat.add_zero] at hnow
  simp -dsimp only [go_sem, ↓reduceIte, Nat.reduceEqDiff, Nat.reduceAdd, Nat.reduceMul, Nat.reduceSub, Nat.reduceLeDiff, Nat.reduceLT]
  refine aloopP_of (fun n T H' => ∃ i F', n = now.length - i ∧ i ≤ now.length ∧ T 3 = .int .i64 R ∧ T 9 = .pointer (some ⟨F'.p, 0, none⟩) ∧ T 33 = .slice ao now.length co ∧ T 34 = .int .i64 now.length ∧ T 35 = .int .i64 i ∧ FieldAt H.length H' F' ∧ H <+: H' ∧ Fits F' N W S0 ∧ F'.out = oddL N W (now.take i) ∧ OwnO H.length H' (.slice ao now.length co) now ∧ (∀ k, owner (.slice ao now.length co) = some k → ¬ foot F' k)) (n := now.length) ?_ ?_
  · refine ⟨0, F, ?_⟩
    simp -dsimp only [go_sem, ↓reduceIte, Nat.reduceEqDiff, Nat.reduceAdd, Nat.reduceMul, Nat.reduceSub, Nat.reduceLeDiff, Nat.reduceLT]
    refine ⟨by omega, by omega, rfl, hf.pre p2, p1.trans p2, hfit, ?_, own2.mono (pre_len p1), fun k hk => clear_new hf (own2.owner_ge hk).1⟩
    rw [hout0]; rfl
  rintro n T H' ⟨i, F', rfl, hi, g3, g9, g33, g34, g35, hf', hp, hfit', hout, hodd', hclr⟩
  simp -dsimp only [go_sem, ↓reduceIte, Nat.reduceEqDiff, Nat.reduceAdd, Nat.reduceMul, Nat.reduceSub, Nat.reduceLeDiff, Nat.reduceLT, g3, g9, g33, g34, g35]
  refine acondP_of (fun hc => ?_) (fun hc => ?_)
  · simp at hc
    obtain ⟨o, ho⟩ := get_ex hc
    obtain ⟨_, hsl⟩ := hodd'.slA (fun _ => rfl)
    obtain ⟨id, off, hao, hat2⟩ := hsl.at (by omega)
    subst hao
    have pE : H' <+: H' ++ [AObj.row o.cells 7 true] := List.prefix_append _ _
    simp -dsimp only [go_sem, ↓reduceIte, Nat.reduceEqDiff, Nat.reduceAdd, Nat.reduceMul, Nat.reduceSub, Nat.reduceLeDiff, Nat.reduceLT, g3, g9, g33, g34, g35, inRange hc, rowLoad_whole (hat2 i o ho)]
    refine SoundP_of (strange F' o _ _ (hf'.pre pE) (by rw [hfit'.nodes]; omega) (by rw [hfit'.nodes]; exact hN') (by rw [hfit'.wanted]; omega) (by rw [hfit'.wanted]; exact sW)) ?_
    rintro _ H3 ⟨rfl, hq⟩
    rw [hfit'.nodes, hfit'.wanted]
    have hf3 := (hf'.pre pE).pre hq
    have hp3 := (hp.trans pE).trans hq
    have ho3 := (hodd'.pre pE).pre hq
    have hb3 := pre_get hq (get_end _ _ _)
    have hlt3 := pre_len (pE.trans hq)
    simp -dsimp only [go_sem, ↓reduceIte, Nat.reduceEqDiff, Nat.reduceAdd, Nat.reduceMul, Nat.reduceSub, Nat.reduceLeDiff, Nat.reduceLT, g3, g9, g33, g34, g35]
    refine acondP_of (fun hs => ?_) (fun hs => ?_)
    · have hol : F'.out.length < 10000 := by
        rw [hout]; unfold oddL; rw [List.length_map]
        exact Nat.lt_of_le_of_lt (List.length_filter_le _ _) (by simp; omega)
      have hbl : H.length ≤ H3.length := pre_len hp3
      obtain ⟨a, c, H4, e, ho4, hle, hk, hmine⟩ := appOb hbl hf3.out ⟨true, o.seg, o.node⟩ (by omega)
      obtain ⟨o5, e5, hf5, hk5⟩ := setOut hf3 hle hk ho4 hmine
      rw [show (Value.slice a (F'.out.length + 1) c).cells.toList = [.slice a (F'.out.length + 1) c] from rfl] at e5
      have hat3 := hf3.at_
      simp only [Order.cells] at e
      simp -dsimp only [go_sem, ↓reduceIte, Nat.reduceEqDiff, Nat.reduceAdd, Nat.reduceMul, Nat.reduceSub, Nat.reduceLeDiff, Nat.reduceLT, g3, g9, g33, g34, g35]
      refine adrawnP_of2 [(0, false), (1, false), (2, false), (3, false), (4, false), (5, false), (6, false), (7, false), (8, false), (9, false), (10, false), (11, false), (12, false), (13, false), (14, false)] (by kernel_rfl) ?_
      simp -dsimp only [go_sem, ↓reduceIte, Nat.reduceEqDiff, Nat.reduceAdd, Nat.reduceMul, Nat.reduceSub, Nat.reduceLeDiff, Nat.reduceLT, g3, g9, g33, g34, g35, hat3, hb3, e, e5, wrS (show i < 4611686018427387904 by omega)]
      refine ⟨_, by omega, i + 1, { F' with vo := .slice a (F'.out.length + 1) c, out := F'.out ++ [⟨true, o.seg, o.node⟩] }, rfl, hc, rfl, rfl, hf5, hf3.base hk5 hp3 (Nat.le_refl _), ⟨hfit'.nodes, hfit'.wanted, hfit'.hd, hfit'.ld⟩, ?_, ho3.keep fun k hk => (hk5.clear (ho3.owner_ge hk).2 (hclr k hk)).2, fun k hk => (hk5.clear (ho3.owner_ge hk).2 (hclr k hk)).1⟩
      rw [oddL_take ho, if_pos hs, hout]
    · simp -dsimp only [go_sem, ↓reduceIte, Nat.reduceEqDiff, Nat.reduceAdd, Nat.reduceMul, Nat.reduceSub, Nat.reduceLeDiff, Nat.reduceLT, g3, g9, g33, g34, g35, wrS (show i < 4611686018427387904 by omega)]
      refine ⟨_, by omega, i + 1, F', rfl, hc, rfl, rfl, hf3, hp3, hfit', ?_, ho3, hclr⟩
      rw [oddL_take ho, if_neg (by simpa using hs), hout, List.append_nil]
  simp at hc
  obtain rfl : i = now.length := by omega
  rw [List.take_length] at hout
  clear hf hfit hout0 hat hvn own2 hodd' hclr hbeg
  obtain ⟨aw, cw, hvw, -⟩ := hf'.wanted.sl (fun _ => rfl)
  have hat := hf'.at_
  rw [hvw] at hat
  rw [hfit'.wanted] at hat hvw
  simp -dsimp only [go_sem, ↓reduceIte, Nat.reduceEqDiff, Nat.reduceAdd, Nat.reduceMul, Nat.reduceSub, Nat.reduceLeDiff, Nat.reduceLT, g3, g9, g33, g34, g35, hat]
  clear g33 g34 g35
  refine aloopP_of (fun n T H2 => ∃ i F2 S done, n = W.length - i ∧ i ≤ W.length ∧ T 3 = .int .i64 R ∧ T 9 = .pointer (some ⟨F2.p, 0, none⟩) ∧ T 60 = .slice aw W.length cw ∧ T 61 = .int .i64 W.length ∧ T 62 = .int .i64 i ∧ FieldAt H.length H2 F2 ∧ H <+: H2 ∧ F2.vw = .slice aw W.length cw ∧ Fits F2 N W S ∧ F2.out = oddL N W now ++ done ∧ allRun N W R W S0 = done ++ allRun N W R (W.drop i) S) (n := W.length) ?_ ?_
  · refine ⟨0, F', S0, [], ?_⟩
    simp -dsimp only [go_sem, ↓reduceIte, Nat.reduceEqDiff, Nat.reduceAdd, Nat.reduceMul, Nat.reduceSub, Nat.reduceLeDiff, Nat.reduceLT, g3, g9]
    exact ⟨by omega, by omega, rfl, hf', hp, hvw, hfit', by rw [hout, List.append_nil]⟩
  clear g3 g9 hf' hp hvw hfit' hout hat F' T H'
  rintro n T H' ⟨i, F', S, done, rfl, hi, g3, g9, g60, g61, g62, hf', hp, hvw, hfit', hout, hrest⟩
  simp -dsimp only [go_sem, ↓reduceIte, Nat.reduceEqDiff, Nat.reduceAdd, Nat.reduceMul, Nat.reduceSub, Nat.reduceLeDiff, Nat.reduceLT, g3, g9, g60, g61, g62]
  refine acondP_of (fun hc => ?_) (fun hc => ?_)
  · simp at hc
    obtain ⟨s, hs⟩ := get_ex hc
    have hsW : s ∈ W := List.mem_of_getElem? hs
    have hwown := hf'.wanted
    rw [hvw, hfit'.wanted] at hwown
    obtain ⟨_, hsl⟩ := hwown.slA (fun _ => rfl)
    obtain ⟨id, off, hao, hat2⟩ := hsl.at (by omega)
    subst hao
    have pE : H' <+: H' ++ [AObj.row s.cells 5 true] := List.prefix_append _ _
    simp -dsimp only [go_sem, ↓reduceIte, Nat.reduceEqDiff, Nat.reduceAdd, Nat.reduceMul, Nat.reduceSub, Nat.reduceLeDiff, Nat.reduceLT, g3, g9, g60, g61, g62, inRange hc, rowLoad_whole (hat2 i s hs)]
    rw [drop_get hs] at hrest
    simp only [allRun] at hrest
    have hdone : ∀ d : List Order, (∃ rest, allRun N W R W S0 = done ++ (d ++ rest)) → (oddL N W now ++ (done ++ d)).length + 1 < 10000 := fun d ⟨rest, hd⟩ => by
      rw [hd] at hall; simp only [List.length_append] at hall ⊢; omega
    refine SoundP_of (holders F' s _ _ (hf'.pre pE) (by rw [hfit'.nodes]; omega)) ?_
    rintro _ H3 ⟨vy, vn, rfl, hy, hn, hq⟩
    rw [hfit'.yes s] at hy
    rw [hfit'.no s] at hn
    have hf3 := (hf'.pre pE).pre hq
    have hp3 := (hp.trans pE).trans hq
    have hb3 := pre_get hq (get_end _ _ _)
    have hc3 : ¬ foot F' H'.length := clear_new hf' (Nat.le_refl _)
    have hlt3 : H'.length < H3.length := get_lt hb3
    simp -dsimp only [go_sem, ↓reduceIte, Nat.reduceEqDiff, Nat.reduceAdd, Nat.reduceMul, Nat.reduceSub, Nat.reduceLeDiff, Nat.reduceLT, g3, g9, g60, g61, g62]
    -- the first rounds: one more, and one more
    refine aloopP_of (fun n T3 H4 => ∃ F4 S4 d k vy vn, n = k ∧ T3 3 = .int .i64 R ∧ T3 9 = .pointer (some ⟨F4.p, 0, none⟩) ∧ T3 14 = .pointer (some ⟨H'.length, 0, none⟩) ∧ T3 15 = vy ∧ T3 16 = vn ∧ T3 60 = .slice (some ⟨id, off, none⟩) W.length cw ∧ T3 61 = .int .i64 W.length ∧ T3 62 = .int .i64 i ∧
        FieldAt H.length H4 F4 ∧ H <+: H4 ∧ F4.vw = .slice (some ⟨id, off, none⟩) W.length cw ∧ Fits F4 N W S4 ∧ F4.out = oddL N W now ++ (done ++ d) ∧ Rounds N W R s S d S4 k ∧ H4[H'.length]? = some (.row s.cells 5 true) ∧ ¬ foot F4 H'.length ∧ OwnI 0 H4 vy (N.filter (S4 s)) ∧ OwnI 0 H4 vn (N.filter fun n => !S4 s n)) (n := N.length) ?_ ?_
    · refine ⟨F', S, [], N.length, vy, vn, ?_⟩
      simp -dsimp only [go_sem, ↓reduceIte, Nat.reduceEqDiff, Nat.reduceAdd, Nat.reduceMul, Nat.reduceSub, Nat.reduceLeDiff, Nat.reduceLT, g3, g9, g60, g61, g62]
      exact ⟨hf3, hp3, hvw, hfit', by rw [hout, List.append_nil], Rounds.start hrN, hb3, hc3, hy.mono (Nat.zero_le _), hn.mono (Nat.zero_le _)⟩
    clear g3 g9 g60 g61 g62 hf3 hp3 hb3 hc3 hy hn hat2 hsl hwown
    rintro k T3 H4 ⟨F4, S4, d, _, vy, vn, rfl, g3, g9, g14, g15, g16, g60, g61, g62, hf4, hp4, hvw4, hfit4, hout4, hr4, hb4, hc4, hy, hn⟩
    obtain ⟨ay, cy, rfl, hyl⟩ := hy.sl (fun _ => rfl)
    have hlt4 := get_lt hb4
    have eY : (N.filter (S4 s)).length = N.countP (S4 s) := (List.countP_eq_length_filter ..).symm
    have hcN : N.countP (S4 s) ≤ N.length := List.countP_le_length
    rw [eY] at g15 hy
    simp -dsimp only [go_sem, ↓reduceIte, Nat.reduceEqDiff, Nat.reduceAdd, Nat.reduceMul, Nat.reduceSub, Nat.reduceLeDiff, Nat.reduceLT, g3, g9, g14, g15, g16, g60, g61, g62]
    have hlen4 : F4.out.length < 10000 := by
      rw [hout4]; exact Nat.lt_of_succ_lt (hdone d ⟨_, by rw [hrest, hr4.one, List.append_assoc]⟩)
    have hat4 := hf4.at_
    refine acondP_of (fun hlt => ?_) (fun hlt => ?_)
    · simp at hlt
      have hd : decide (R < N.countP (S4 s)) = false := by simp; omega
      obtain ⟨k', rfl, hok, hr5⟩ := hr4.step hN' hrN (by omega)
      rw [hd] at hok hr5
      obtain ⟨x, l, hxl⟩ := List.exists_cons_of_ne_nil (ne_add (S := S4) (s := s) hlt hrN)
      have hxl2 := hxl
      rw [filt_false] at hxl
      have hxs : (x :: l).Pairwise (· < ·) := by rw [← hxl]; exact hN'.filter _
      have hxm : ∀ n ∈ x :: l, n ∈ N := fun n hn => by rw [← hxl] at hn; exact (List.mem_filter.1 hn).1
      have hxlen : (x :: l).length ≤ N.length := by rw [← hxl]; exact List.length_filter_le _ _
      rw [hxl] at hn
      obtain ⟨an, cn, rfl, hnl⟩ := hn.sl (fun _ => rfl)
      have hbd := hfit4.bound (by omega) hok.mem
      simp -dsimp only [go_sem, ↓reduceIte, Nat.reduceEqDiff, Nat.reduceAdd, Nat.reduceMul, Nat.reduceSub, Nat.reduceLeDiff, Nat.reduceLT, g3, g9, g14, g15, g16, g60, g61, g62]
      refine adrawnP_of2 [(0, false), (1, false), (2, false), (3, false), (4, false), (5, true), (6, false)] (by kernel_rfl) ?_
      simp -dsimp only [go_sem, ↓reduceIte, Nat.reduceEqDiff, Nat.reduceAdd, Nat.reduceMul, Nat.reduceSub, Nat.reduceLeDiff, Nat.reduceLT, g3, g9, g14, g15, g16, g60, g61, g62, hb4]
      refine SoundP_of (minFunc l x (fun x y => orZ [cmpZ (F4.ld x) (F4.ld y), cmpZ x y]) 30 #[.pointer (some ⟨F4.p, 0, none⟩)] #[] an cn H4 hnl (by omega) (emptierC hf4 _)) ?_
      rintro _ H5 ⟨rfl, hq5⟩
      rw [pick_min hfit4 hxs hxm, show pick false (loadW W S4) (x :: l) = (stepO N W S4 s false).node by simp only [stepO, hxl2]]
      refine grown_any hq5 ?_
      simp -dsimp only [go_sem, ↓reduceIte, Nat.reduceEqDiff, Nat.reduceAdd, Nat.reduceMul, Nat.reduceSub, Nat.reduceLeDiff, Nat.reduceLT, g3, g9, g14, g15, g16, g60, g61, g62]
      refine SoundP_of (order F4 (stepO N W S4 s false) _ H5 (hf4.pre hq5) hlen4 hbd.1 hbd.2) ?_
      rintro _ H6 ⟨rfl, F6, hf6, hk6, ho6⟩
      obtain ⟨hc6, hb6⟩ := hk6.clear (k := H'.length) (Nat.lt_of_lt_of_le hlt4 (pre_len hq5)) hc4
      rw [pre_get hq5 hb4] at hb6
      have hfit6 := hfit4.step sW hsW hok ho6
      have hp6 := (hf4.pre hq5).base hk6 (hp4.trans hq5) (Nat.le_refl _)
      rw [← ho6.p] at g9
      simp -dsimp only [go_sem, ↓reduceIte, Nat.reduceEqDiff, Nat.reduceAdd, Nat.reduceMul, Nat.reduceSub, Nat.reduceLeDiff, Nat.reduceLT, g3, g9, g14, g15, g16, g60, g61, g62, hb6]
      refine SoundP_of (holders F6 s _ _ hf6 (by rw [hfit6.nodes]; omega)) ?_
      rintro _ H7 ⟨vy7, vn7, rfl, hy7, hn7, hq7⟩
      rw [hfit6.yes s] at hy7
      rw [hfit6.no s] at hn7
      simp -dsimp only [go_sem, ↓reduceIte, Nat.reduceEqDiff, Nat.reduceAdd, Nat.reduceMul, Nat.reduceSub, Nat.reduceLeDiff, Nat.reduceLT, g3, g9, g14, g15, g16, g60, g61, g62]
      exact ⟨k', Nat.lt_succ_self _, F6, _, d ++ [stepO N W S4 s false], k', vy7, vn7, rfl, rfl, rfl, rfl, hf6.pre hq7, hp6.trans hq7, ho6.vw.trans hvw4, hfit6, by rw [ho6.out, hout4]; simp, hr5, pre_get hq7 hb6, hc6, hy7.mono (Nat.zero_le _), hn7.mono (Nat.zero_le _)⟩
    simp at hlt
    simp -dsimp only [go_sem, ↓reduceIte, Nat.reduceEqDiff, Nat.reduceAdd, Nat.reduceMul, Nat.reduceSub, Nat.reduceLeDiff, Nat.reduceLT, g3, g9, g14, g15, g16, g60, g61, g62, hb4]
    refine SoundP_of (holders F4 s _ _ hf4 (by rw [hfit4.nodes]; omega)) ?_
    rintro _ H5 ⟨vy5, vn5, rfl, hy5, hn5, hq5⟩
    rw [hfit4.yes s] at hy5
    simp -dsimp only [go_sem, ↓reduceIte, Nat.reduceEqDiff, Nat.reduceAdd, Nat.reduceMul, Nat.reduceSub, Nat.reduceLeDiff, Nat.reduceLT, g3, g9, g14, g15, g16, g60, g61, g62]
    -- the second rounds: one less, and one less
    refine aloopP_of (fun n T3 H4 => ∃ F4 S4 d k vy, n = k ∧ T3 3 = .int .i64 R ∧ T3 9 = .pointer (some ⟨F4.p, 0, none⟩) ∧ T3 14 = .pointer (some ⟨H'.length, 0, none⟩) ∧ T3 17 = vy ∧ T3 60 = .slice (some ⟨id, off, none⟩) W.length cw ∧ T3 61 = .int .i64 W.length ∧ T3 62 = .int .i64 i ∧
        FieldAt H.length H4 F4 ∧ H <+: H4 ∧ F4.vw = .slice (some ⟨id, off, none⟩) W.length cw ∧ Fits F4 N W S4 ∧ F4.out = oddL N W now ++ (done ++ d) ∧ Rounds N W R s S d S4 k ∧ H4[H'.length]? = some (.row s.cells 5 true) ∧ ¬ foot F4 H'.length ∧ OwnI 0 H4 vy (N.filter (S4 s)) ∧ R ≤ N.countP (S4 s)) (n := k) ?_ ?_
    · refine ⟨F4, S4, d, k, vy5, ?_⟩
      simp -dsimp only [go_sem, ↓reduceIte, Nat.reduceEqDiff, Nat.reduceAdd, Nat.reduceMul, Nat.reduceSub, Nat.reduceLeDiff, Nat.reduceLT, g3, g9, g14, g15, g16, g60, g61, g62]
      exact ⟨hf4.pre hq5, hp4.trans hq5, hvw4, hfit4, hout4, hr4, pre_get hq5 hb4, hc4, hy5.mono (Nat.zero_le _), hlt⟩
    clear g3 g9 g14 g15 g16 g60 g61 g62 hf4 hp4 hvw4 hfit4 hout4 hr4 hb4 hc4 hy hn hy5 hn5 hlt hat4 hlen4 eY hcN hlt4 hyl hq5
    rintro k T4 H4 ⟨F4, S4, d, _, vy, rfl, g3, g9, g14, g17, g60, g61, g62, hf4, hp4, hvw4, hfit4, hout4, hr4, hb4, hc4, hy, hge⟩
    obtain ⟨ay, cy, rfl, hyl⟩ := hy.sl (fun _ => rfl)
    have hlt4 := get_lt hb4
    have eY : (N.filter (S4 s)).length = N.countP (S4 s) := (List.countP_eq_length_filter ..).symm
    have hcN : N.countP (S4 s) ≤ N.length := List.countP_le_length
    rw [eY] at g17
    have hlen4 : F4.out.length < 10000 := by
      rw [hout4]; exact Nat.lt_of_succ_lt (hdone d ⟨_, by rw [hrest, hr4.one, List.append_assoc]⟩)
    simp -dsimp only [go_sem, ↓reduceIte, Nat.reduceEqDiff, Nat.reduceAdd, Nat.reduceMul, Nat.reduceSub, Nat.reduceLeDiff, Nat.reduceLT, g3, g9, g14, g17, g60, g61, g62]
    refine acondP_of (fun hlt => ?_) (fun hlt => ?_)
    · simp at hlt
      have hd : decide (R < N.countP (S4 s)) = true := by simp; omega
      obtain ⟨k', rfl, hok, hr5⟩ := hr4.step hN' hrN (by omega)
      rw [hd] at hok hr5
      obtain ⟨x, l, hxl⟩ := List.exists_cons_of_ne_nil (ne_drop (S := S4) (s := s) hlt)
      have hxl2 := hxl
      rw [filt_true] at hxl
      have hxs : (x :: l).Pairwise (· < ·) := by rw [← hxl]; exact hN'.filter _
      have hxm : ∀ n ∈ x :: l, n ∈ N := fun n hn => by rw [← hxl] at hn; exact (List.mem_filter.1 hn).1
      have hxlen : (x :: l).length ≤ N.length := by rw [← hxl]; exact List.length_filter_le _ _
      rw [← eY, hxl] at g17
      rw [hxl] at hyl
      have hbd := hfit4.bound (by omega) hok.mem
      simp -dsimp only [go_sem, ↓reduceIte, Nat.reduceEqDiff, Nat.reduceAdd, Nat.reduceMul, Nat.reduceSub, Nat.reduceLeDiff, Nat.reduceLT, g3, g9, g14, g17, g60, g61, g62]
      refine adrawnP_of2 [(0, false), (1, false), (2, false), (3, false), (4, false), (5, true), (6, false)] (by kernel_rfl) ?_
      simp -dsimp only [go_sem, ↓reduceIte, Nat.reduceEqDiff, Nat.reduceAdd, Nat.reduceMul, Nat.reduceSub, Nat.reduceLeDiff, Nat.reduceLT, g3, g9, g14, g17, g60, g61, g62, hb4]
      refine SoundP_of (maxFunc l x (fun x y => orZ [cmpZ (F4.ld x) (F4.ld y), cmpZ x y]) 30 #[.pointer (some ⟨F4.p, 0, none⟩)] #[] ay cy H4 hyl (by omega) (emptierC hf4 _)) ?_
      rintro _ H5 ⟨rfl, hq5⟩
      rw [pick_max hfit4 hxs hxm, show pick true (loadW W S4) (x :: l) = (stepO N W S4 s true).node by simp only [stepO, hxl2]]
      refine grown_any hq5 ?_
      simp -dsimp only [go_sem, ↓reduceIte, Nat.reduceEqDiff, Nat.reduceAdd, Nat.reduceMul, Nat.reduceSub, Nat.reduceLeDiff, Nat.reduceLT, g3, g9, g14, g17, g60, g61, g62]
      refine SoundP_of (order F4 (stepO N W S4 s true) _ H5 (hf4.pre hq5) hlen4 hbd.1 hbd.2) ?_
      rintro _ H6 ⟨rfl, F6, hf6, hk6, ho6⟩
      obtain ⟨hc6, hb6⟩ := hk6.clear (k := H'.length) (Nat.lt_of_lt_of_le hlt4 (pre_len hq5)) hc4
      rw [pre_get hq5 hb4] at hb6
      have hfit6 := hfit4.step sW hsW hok ho6
      have hp6 := (hf4.pre hq5).base hk6 (hp4.trans hq5) (Nat.le_refl _)
      have hct := upd_count hN' hok
      rw [if_pos rfl] at hct
      rw [← ho6.p] at g9
      simp -dsimp only [go_sem, ↓reduceIte, Nat.reduceEqDiff, Nat.reduceAdd, Nat.reduceMul, Nat.reduceSub, Nat.reduceLeDiff, Nat.reduceLT, g3, g9, g14, g17, g60, g61, g62, hb6]
      refine SoundP_of (holders F6 s _ _ hf6 (by rw [hfit6.nodes]; omega)) ?_
      rintro _ H7 ⟨vy7, vn7, rfl, hy7, hn7, hq7⟩
      rw [hfit6.yes s] at hy7
      simp -dsimp only [go_sem, ↓reduceIte, Nat.reduceEqDiff, Nat.reduceAdd, Nat.reduceMul, Nat.reduceSub, Nat.reduceLeDiff, Nat.reduceLT, g3, g9, g14, g17, g60, g61, g62]
      exact ⟨k', Nat.lt_succ_self _, F6, _, d ++ [stepO N W S4 s true], k', vy7, rfl, rfl, rfl, hf6.pre hq7, hp6.trans hq7, ho6.vw.trans hvw4, hfit6, by rw [ho6.out, hout4]; simp, hr5, pre_get hq7 hb6, hc6, hy7.mono (Nat.zero_le _), by omega⟩
    · simp at hlt
      obtain ⟨e1, e2⟩ := hr4.end_ (by omega)
      simp -dsimp only [go_sem, ↓reduceIte, Nat.reduceEqDiff, Nat.reduceAdd, Nat.reduceMul, Nat.reduceSub, Nat.reduceLeDiff, Nat.reduceLT, g3, g9, g14, g17, g60, g61, g62, wrS (show i < 4611686018427387904 by omega)]
      refine ⟨_, by omega, i + 1, F4, S4, done ++ d, rfl, hc, rfl, rfl, hf4, hp4, hvw4, hfit4, hout4, ?_⟩
      rw [hrest, e1, e2, List.append_assoc]
  · simp at hc
    obtain rfl : i = W.length := by omega
    rw [List.drop_of_length_le (Nat.le_refl _)] at hrest
    simp only [allRun, List.append_nil] at hrest
    have hat := hf'.at_
    obtain ⟨ao2, co2, hvo, -⟩ := hf'.out.sl (fun _ => rfl)
    have ho := hf'.out
    rw [hvo] at hat ho
    simp -dsimp only [go_sem, ↓reduceIte, Nat.reduceEqDiff, Nat.reduceAdd, Nat.reduceMul, Nat.reduceSub, Nat.reduceLeDiff, Nat.reduceLT, g3, g9, g60, g61, g62, hat]
    rw [hrest, ← hout]
    exact ⟨ho, hp⟩
end Go.Proofs.Ytangfnommhmpeaa
