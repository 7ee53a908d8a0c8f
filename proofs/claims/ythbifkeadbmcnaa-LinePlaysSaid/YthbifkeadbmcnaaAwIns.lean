/-
  AW: a slice's capacity that is not known, looked at: it is settled for the time of a call; slices.overlaps.
-/
import Derived.Test.YthbifkeadbmcnaaAwMore
import Derived.Lib.Overlaps
import Derived.Laws.Externs
set_option linter.unusedVariables false
set_option linter.unusedSimpArgs false
namespace Go.AW
open Go
variable {P : Program}

/-- a row of our own, and the room behind its cells -/
theorem Rel.toX {ρ : Ren} {H : AHeap} {F : Frm} {w : World} (hR : Rel ρ H F w) {id : Nat} {l : Loc} {cs : List Value} {k m ext : Nat} (hl : ρ id = some l) (h : H[id]? = some (.row cs k true)) (hm : m ≤ cs.length) (he : l.base + m + ext ≤ l.csz) :
    Rel ρ (H.set id (.rowx (cs.take m) k ext)) F w := by
  obtain ⟨arr, e, fz, o1, o2, o3, o4, o5⟩ := hR.obj _ _ _ hl h
  obtain ⟨p1, p2, p3, p4, p5⟩ := o4 rfl
  have hb : l.blk < w.heap.size := by
    rcases Nat.lt_or_ge l.blk w.heap.size with h' | h'
    · exact h'
    · simp [Array.getElem?_eq_none h'] at o1
  have hw : ({ w with heap := w.heap.setIfInBounds l.blk (.cells arr e fz) } : World) = w := by
    have : w.heap.setIfInBounds l.blk (.cells arr e fz) = w.heap := by
      apply Array.ext_getElem?
      intro i
      by_cases hi : l.blk = i
      · subst hi
        rw [Array.getElem?_setIfInBounds_self_of_lt hb, o1]
      · rw [Array.getElem?_setIfInBounds_ne hi]
    rw [this]
  have := hR.turn (o2 := .rowx (cs.take m) k ext) (O2 := .cells arr e fz) hl h rfl ⟨arr, e, fz, rfl, by rw [List.length_take, Nat.min_eq_left hm, ← p2]; exact he, fun i v v' hv hv' => by
    rw [List.getElem?_take] at hv
    split at hv
    · exact o3 i v v' hv hv'
    · simp at hv, p1, p2, p3, p4, p5⟩
  rwa [hw] at this

/-- a slice of our own whose capacity is not known: it is settled for the call, and forgotten behind it -/
theorem Sound.cap {f : FuncId} {id n k : Nat} {args cs : List Value} {H : AHeap} {K : Value → AHeap → Prop} (hrow : H[id]? = some (.row cs k true)) (hn : 0 < n) (hcs : n * k ≤ cs.length)
    (h : ∀ c, n ≤ c → Sound P f (.slice (some ⟨id, 0, none⟩) n c :: args) H (fun v H2 => K v H2 ∨ ∃ m, m ≤ c ∧ v = .slice (some ⟨id, 0, none⟩) m c ∧ K (.slice (some ⟨id, 0, none⟩) m 0) H2) ∨
      Sound P f (.slice (some ⟨id, 0, none⟩) n c :: args) (H.set id (.rowx (cs.take (n * k)) k ((c - n) * k))) (fun v H2 => K v H2 ∨ ∃ m, m ≤ c ∧ v = .slice (some ⟨id, 0, none⟩) m c ∧ K (.slice (some ⟨id, 0, none⟩) m 0) H2)) :
    Sound P f (.slice (some ⟨id, 0, none⟩) n 0 :: args) H K := by
  refine ⟨by rcases h n (Nat.le_refl _) with h | h <;> exact h.1, fun ρ F w args' hR hv => ?_⟩
  obtain ⟨hlen, hvs⟩ := hv
  cases args' with
  | nil => simp at hlen
  | cons s' rest =>
    have hs := hvs 0 _ s' rfl rfl
    have hrest : VRs ρ args rest := ⟨by simpa using hlen, fun i u u' hu hu' => hvs (i + 1) u u' (by simpa using hu) (by simpa using hu')⟩
    generalize hx : Value.slice (some ⟨id, 0, none⟩) n 0 = x at hs
    cases hs with
    | sliceU hl hn' hb =>
      rename_i id' off n' c' l
      simp only [Value.slice.injEq, Option.some.injEq, Addr.mk.injEq, and_true] at hx
      obtain ⟨⟨rfl, rfl⟩, rfl⟩ := hx
      have hc : 0 < c' := by omega
      have hv2 : VRs ρ (.slice (some ⟨id, 0, none⟩) n c' :: args) (.slice (some ⟨l.blk, l.base + 0, none⟩) n c' :: rest) := ⟨by simpa using hlen, fun i u u' hu hu' => by
        cases i with
        | zero => simp at hu hu'; subst hu hu'; exact .slice hl hc hn'
        | succ i => exact hrest.2 i u u' (by simpa using hu) (by simpa using hu')⟩
      have fin : ∀ e w', (∃ v v' H' ρ', e = Ending.returned v' ∧ (K v H' ∨ ∃ m, m ≤ c' ∧ v = .slice (some ⟨id, 0, none⟩) m c' ∧ K (.slice (some ⟨id, 0, none⟩) m 0) H') ∧ Rel ρ' H' F w' ∧ Ext H ρ ρ' ∧ H.length ≤ H'.length ∧ VR ρ' v v') →
          ∃ v v' H' ρ', e = Ending.returned v' ∧ K v H' ∧ Rel ρ' H' F w' ∧ Ext H ρ ρ' ∧ H.length ≤ H'.length ∧ VR ρ' v v' := by
        rintro e w' ⟨v, v', H', ρ', rfl, hk, r1, r2, r3, r4⟩
        rcases hk with hk | ⟨m, hm, rfl, hk⟩
        · exact ⟨v, v', H', ρ', rfl, hk, r1, r2, r3, r4⟩
        · refine ⟨_, v', H', ρ', rfl, hk, r1, r2, r3, ?_⟩
          have hl' : ρ' id = some l := by rw [r2 id (hR.dom _ _ hl)]; exact hl
          generalize hy : Value.slice (some ⟨id, 0, none⟩) m c' = y at r4
          cases r4 with
          | slice hl2 hc2 hn2 =>
            simp only [Value.slice.injEq, Option.some.injEq, Addr.mk.injEq, and_true] at hy
            obtain ⟨⟨rfl, rfl⟩, rfl, rfl⟩ := hy
            rw [hl'] at hl2; cases hl2
            exact .sliceU hl' hn2 hb
          | sliceU hl2 hn2 hb2 => simp only [Value.slice.injEq] at hy; omega
          | sliceZ id2 off2 a2 => simp only [Value.slice.injEq] at hy; omega
          | sliceE a2 => simp [Go.AW.emp] at hy
          | _ => simp at hy
      rcases h c' hn' with h | h
      · exact (h.2 ρ F w _ hR hv2).mono fin
      · obtain ⟨arr, e, fz, o1, o2, o3, o4, o5⟩ := hR.obj _ _ _ hl hrow
        obtain ⟨p1, p2, p3, p4, p5⟩ := o4 rfl
        have hR2 := hR.toX (m := n * k) (ext := (c' - n) * k) hl hrow hcs (by
          rw [p1] at hb
          have : n * k + (c' - n) * k = c' * k := by rw [← Nat.add_mul]; congr 1; omega
          omega)
        refine (h.2 ρ F w _ hR2 hv2).mono fun e w' ⟨v, v', H', ρ', g1, g2, g3, g4, g5, g6⟩ => fin e w' ⟨v, v', H', ρ', g1, g2, g3, fun i hi => g4 i (by simpa using hi), by simpa using g5, g6⟩
    | sliceZ id2 off2 a2 => simp only [Value.slice.injEq] at hx; omega
    | slice hl hc hn' => simp only [Value.slice.injEq] at hx; omega
    | sliceE a2 => simp [Go.AW.emp] at hx
    | _ => simp at hx

/-- a capacity that is known may be forgotten -/
theorem Sound.forget {f : FuncId} {id n c k : Nat} {args cs : List Value} {H : AHeap} {K : Value → AHeap → Prop} (hrow : H[id]? = some (.row cs k true)) (hcs : c * k ≤ cs.length)
    (h : Sound P f (.slice (some ⟨id, 0, none⟩) n 0 :: args) H K) : Sound P f (.slice (some ⟨id, 0, none⟩) n c :: args) H K := by
  refine ⟨h.1, fun ρ F w args' hR hv => h.2 ρ F w args' hR ?_⟩
  obtain ⟨hlen, hvs⟩ := hv
  refine ⟨by simpa using hlen, fun i u u' hu hu' => ?_⟩
  cases i with
  | succ i => exact hvs (i + 1) u u' (by simpa using hu) hu'
  | zero =>
    simp at hu; subst hu
    have hs := hvs 0 _ u' rfl hu'
    generalize hx : Value.slice (some ⟨id, 0, none⟩) n c = x at hs
    cases hs with
    | slice hl hc hn' =>
      simp only [Value.slice.injEq, Option.some.injEq, Addr.mk.injEq, and_true] at hx
      obtain ⟨⟨rfl, rfl⟩, rfl, rfl⟩ := hx
      obtain ⟨arr, e, fz, o1, o2, o3, o4, o5⟩ := hR.obj _ _ _ hl hrow
      obtain ⟨p1, p2, p3, p4, p5⟩ := o4 rfl
      exact .sliceU hl hn' (by rw [p1, p2]; omega)
    | sliceU hl hn' hb =>
      simp only [Value.slice.injEq, Option.some.injEq, Addr.mk.injEq, and_true] at hx
      obtain ⟨⟨rfl, rfl⟩, rfl, -⟩ := hx
      exact .sliceU hl hn' hb
    | sliceZ id2 off2 a2 =>
      simp only [Value.slice.injEq, Option.some.injEq, Addr.mk.injEq, and_true] at hx
      obtain ⟨⟨rfl, rfl⟩, rfl, -⟩ := hx
      exact .sliceZ _ _ _
    | sliceE a2 => simp [Go.AW.emp] at hx
    | _ => simp at hx

/-- a block of our own, as the model sees it -/
def ownK (o : AObj) (k : Nat) : Prop := (∃ cs, o = .row cs k true ∧ 0 < cs.length) ∨ ∃ cs ext, o = .rowx cs k ext ∧ 0 < cs.length
theorem ownK_at {ρ : Ren} {F : Nat → Option Obj} {l : Loc} {O : Option Obj} {o : AObj} {k : Nat} (h : ObjAt ρ F l O o) (ho : ownK o k) (hk : k ≠ 1) : ∃ arr e fz, O = some (.cells arr e fz) ∧ 0 < arr.size ∧ fz.2 ≤ fz.1 := by
  rcases ho with ⟨cs, rfl, hl⟩ | ⟨cs, ext, rfl, hl⟩
  · obtain ⟨arr, e, fz, o1, o2, o3, o4, o5⟩ := h
    exact ⟨arr, e, fz, o1, by omega, (o4 rfl).2.2.2.1 hk⟩
  · obtain ⟨arr, e, fz, o1, o2, o3, o4, o5, o6, o7, o8⟩ := h
    exact ⟨arr, e, fz, o1, by omega, o7 hk⟩
theorem ownK_own {o : AObj} {k : Nat} (ho : ownK o k) : isOwn o = true := by
  rcases ho with ⟨cs, rfl, _⟩ | ⟨cs, ext, rfl, _⟩ <;> rfl
/-- slices.overlaps of two blocks of our own: false -/
theorem overlaps_apart {f : FuncId} {fn : Func} {tS tR e : TypeId} {k : Nat} (hf : P.funcs[f]? = some fn) (hname : (fn.name == "runtime.NumGoroutine") = false) (hb : fn.body.isNone = true) (hn : Extern.findNext fn = none)
    (he : Extern.find fn = some (Extern.SlicesOverlaps.overlaps #[tS, tS] #[tR])) (ht : P.underlying tS = some (.slice e)) (hz : szT P e = some k) (hk : k ≠ 1)
    {H : AHeap} {i1 i2 o1 o2 n1 n2 c1 c2 : Nat} {p1 p2 : AObj} (h1 : H[i1]? = some p1) (h2 : H[i2]? = some p2) (w1 : ownK p1 k) (w2 : ownK p2 k) (hne : i1 ≠ i2) (m1 : 0 < n1) (m2 : 0 < n2) :
    SoundX P f [.slice (some ⟨i1, o1, none⟩) n1 c1, .slice (some ⟨i2, o2, none⟩) n2 c2] H fun v H' => v = .bool false ∧ H' = H := by
  intro ρ F w args' hR hv
  obtain ⟨hlen, hvs⟩ := hv
  obtain ⟨x, y, rfl⟩ : ∃ x y, args' = [x, y] := by
    match args', hlen with
    | [x, y], _ => exact ⟨x, y, rfl⟩
  obtain ⟨l1, c1', hl1, rfl, _⟩ := slice_inv (hvs 0 _ x rfl rfl) rfl m1
  obtain ⟨l2, c2', hl2, rfl, _⟩ := slice_inv (hvs 1 _ y rfl rfl) rfl m2
  obtain ⟨arr1, e1, fz1, q1, q2, q3⟩ := ownK_at (hR.obj _ _ _ hl1 h1) w1 hk
  obtain ⟨arr2, e2, fz2, r1, r2, r3⟩ := ownK_at (hR.obj _ _ _ hl2 h2) w2 hk
  have hblk := hR.sep i1 i2 l1 l2 p1 p2 hl1 hl2 h1 h2 hne (ownK_own w1) (ownK_own w2)
  have fr : ∀ o, w.frozen? ⟨l1.blk, o, none⟩ = false := fun o => by
    simp only [World.frozen?, q1]
    simp; omega
  refine .inr ⟨.bool false, w, ?_, .bool false, H, ρ, ⟨rfl, rfl⟩, hR, Ext.refl _ _, Nat.le_refl _, .bool _⟩
  rw [run_callFunc_extern hf hname hb hn he]
  have := Lib.run_overlaps_apart (P := P) w tS tR e ht k (fun w => run_sizeOf hz) ⟨l1.blk, l1.base + o1, none⟩ ⟨l2.blk, l2.base + o2, none⟩ n1 c1' n2 c2' hblk e1 e2 arr1.size arr2.size (by simp [World.shape?, q1]) (by simp [World.shape?, r1]) (by omega) (fr _) (fr _)
  rw [this]
  rfl

section
variable {T : Tm} {d : Option Tmp} {ty : TypeId} {pos : String} {aft : Array Edge} {gd : Option (Nat × Bool)} {H : AHeap} {K : Value → AHeap → Prop}
theorem aop_max3 (x y z : Operand) (ts : Array TypeId) : aop P T ⟨d, .call { callee := .builtin .max, args := #[x, y, z], argTypes := ts }, ty, pos, aft, gd⟩ H K = abind (aev T x) (fun x => abind (aev T y) (fun y => abind (aev T z) (fun z => bindP (afold amax2 [x, y, z]) (fun v => K v H) (tk _)) (tk _)) (tk _)) (tk _) := (rfl)
theorem aop_min3 (x y z : Operand) (ts : Array TypeId) : aop P T ⟨d, .call { callee := .builtin .min, args := #[x, y, z], argTypes := ts }, ty, pos, aft, gd⟩ H K = abind (aev T x) (fun x => abind (aev T y) (fun y => abind (aev T z) (fun z => bindP (afold amin2 [x, y, z]) (fun v => K v H) (tk _)) (tk _)) (tk _)) (tk _) := (rfl)
end
theorem amin3_int (k : IntKind) (a b c : Int) : afold amin2 [.int k a, .int k b, .int k c] = some (.int k (min a (min b c))) := by
  unfold afold
  rw [amin2_int, Option.bind_some, afold_two, amin2_int]
  congr 2
  split <;> split <;> omega
theorem amax3_int (k : IntKind) (a b c : Int) : afold amax2 [.int k a, .int k b, .int k c] = some (.int k (max a (max b c))) := by
  unfold afold
  rw [amax2_int, Option.bind_some, afold_two, amax2_int]
  congr 2
  split <;> split <;> omega
attribute [go_sem ↓] aop_max3 aop_min3
attribute [go_sem] amin3_int amax3_int

/-! ### copy, append of zeros -/
theorem copy_row {H : AHeap} {h off n c m k t tx e : Nat} {cs news : List Value} {x : Value} (he : elemT P t = some e) (hk : szT P e = some k) (hrow : H[h]? = some (.row cs k true)) (hs : asrc P H k tx x = some (m, news)) (hpos : 0 < min m n)
    (hfit : off + min m n * k ≤ cs.length) (hlen : news.length = m * k) (hone : news.all oneCell = true) :
    acopy2 P H t tx (.slice (some ⟨h, off, none⟩) n c) x = some (.int .i64 (min m n : Nat), H.set h (.row (cs.take off ++ news.take (min m n * k) ++ cs.drop (off + min m n * k)) k true)) := by
  have hx : isX H (.slice (some ⟨h, off, none⟩) n c) = false := by simp [isX, hrow]
  have hl : (news.take (min m n * k)).length = min m n * k := by
    rw [List.length_take, hlen, Nat.min_eq_left (Nat.mul_le_mul_right _ (Nat.min_le_left _ _))]
  have ho : (news.take (min m n * k)).all oneCell = true := List.all_eq_true.2 fun v hv => List.all_eq_true.1 hone v (List.mem_of_mem_take hv)
  simp only [acopy2, hx, Bool.false_eq_true, if_false, acopy, he, hk, hs, Option.bind_some, if_neg (show ¬ min m n = 0 by omega), astore, hrow, hl, ho, Bool.and_true, decide_eq_true_eq]
  rw [if_pos hfit]
  rfl
theorem copy_rowX {H : AHeap} {h off b n m c c2 k t tx e e2 ext : Nat} {cs : List Value} (he : elemT P t = some e) (he2 : elemT P tx = some e2) (hk : szT P e = some k) (hrow : H[h]? = some (.rowx cs k ext)) (hpos : 0 < min m n)
    (h1 : b + min m n * k ≤ cs.length) (h2 : off ≤ cs.length) (h3 : off + min m n * k ≤ cs.length + ext) (hone : cs.all oneCell = true) :
    acopy2 P H t tx (.slice (some ⟨h, off, none⟩) n c) (.slice (some ⟨h, b, none⟩) m c2) = some (.int .i64 (min m n : Nat), H.set h (.row (cs.take off ++ (cs.drop b).take (min m n * k) ++ cs.drop (off + min m n * k)) k true)) := by
  have hx : isX H (.slice (some ⟨h, off, none⟩) n c) = true := by simp [isX, hrow]
  have ho : ((cs.drop b).take (min m n * k)).all oneCell = true := List.all_eq_true.2 fun v hv => List.all_eq_true.1 hone v (List.mem_of_mem_drop (List.mem_of_mem_take hv))
  simp only [acopy2, hx, if_true, acopyX, he, he2, hk, Option.bind_some, hrow]
  rw [if_pos ⟨trivial, trivial, trivial, trivial, hpos, h1, h2, h3, ho⟩]
theorem append_zeros {H : AHeap} {id i c m k t tx e bt : Nat} {ik : IntKind} {old : List Value} {z : Value} (hu : P.underlying t = some (.slice e)) (he : elemT P t = some e) (htx : P.underlying tx = some (.int ik))
    (hi : ∃ i, P.info? e = some i ∧ i.zero = some z ∧ i.size = k ∧ i.bytes = bt) (hz : z.cells.size = k) (hp : plainV 100 z = true) (hk0 : 0 < k) (hb : bt ≤ 100000)
    (hold : aload H ⟨id, 0, none⟩ (i * k) = some old) (hc : 0 < c) (hm : 0 < m) (hcm : c < i + m) (hbig : i + m < 1000000) :
    ∃ Z : List Value, Z.length = m * k ∧ aappend P H t tx (.slice (some ⟨id, 0, none⟩) i c) (.int .i64 (m : Nat)) = some (.slice (some ⟨H.length, 0, none⟩) (i + m) 0, H ++ [.row (old ++ Z) k true]) := by
  obtain ⟨inf, hi1, hi2, hi3, hi4⟩ := hi
  refine ⟨(Builtin.zeroCells z.cells m).toList, by simp [Builtin.zeroCells, hz], ?_⟩
  have h0 : aappend0 P H t tx (.slice (some ⟨id, 0, none⟩) i c) (.int .i64 (m : Nat)) = none := by
    simp [aappend0, he, hi1, hi2, asrc, htx]
  have hmul : (i + m) * bt ≤ 1000000 * 100000 := Nat.mul_le_mul (by omega) hb
  simp only [aappend, h0, aappendZ, he, hi1, hi2, htx, hi3, hi4, Option.bind_some, Int.toNat_natCast]
  rw [if_pos ⟨hk0, hz, hp, trivial, hc, by omega, hcm, by omega, by omega⟩, hold]
  rfl

theorem append_none {H : AHeap} {a : Addr} {i c k t tx e bt : Nat} {x z : Value} {news : List Value} (he : elemT P t = some e) (hi : ∃ i, P.info? e = some i ∧ i.zero = some z ∧ i.size = k ∧ i.bytes = bt) (hz : z.cells.size = k) (hk0 : 0 < k) (hb : bt ≤ 100000) (hs : asrc P H k tx x = some (0, news)) (hbig : i < 1000000) :
    aappend P H t tx (.slice (some a) i c) x = some (.slice (some a) i c, H) := by
  obtain ⟨inf, hi1, hi2, hi3, hi4⟩ := hi
  have hmul : i * bt ≤ 1000000 * 100000 := Nat.mul_le_mul (by omega) hb
  have h0 : aappend0 P H t tx (.slice (some a) i c) x = some (.slice (some a) i c, H) := by
    simp only [aappend0, he, hi1, hi2, Option.bind_some, hi3, hi4, hs, Nat.add_zero]
    rw [if_pos ⟨hk0, hz, by omega, by omega⟩, if_pos trivial]
  simp only [aappend, h0]
theorem append_room {H : AHeap} {id off i c m k t tx e bt : Nat} {x z : Value} {cs news : List Value} (he : elemT P t = some e) (hi : ∃ i, P.info? e = some i ∧ i.zero = some z ∧ i.size = k ∧ i.bytes = bt) (hz : z.cells.size = k) (hk0 : 0 < k) (hb : bt ≤ 100000)
    (hrow : H[id]? = some (.row cs k true)) (hs : asrc P H k tx x = some (m, news)) (hlen : news.length = m * k) (hone : news.all oneCell = true) (hm : 0 < m) (hc : 0 < c) (hroom : i + m ≤ c) (hfit : off + i * k + m * k ≤ cs.length) (hbig : i + m < 1000000) :
    aappend P H t tx (.slice (some ⟨id, off, none⟩) i c) x = some (.slice (some ⟨id, off, none⟩) (i + m) c, H.set id (.row (cs.take (off + i * k) ++ news ++ cs.drop (off + i * k + m * k)) k true)) := by
  obtain ⟨inf, hi1, hi2, hi3, hi4⟩ := hi
  have hmul : (i + m) * bt ≤ 1000000 * 100000 := Nat.mul_le_mul (by omega) hb
  have h0 : aappend0 P H t tx (.slice (some ⟨id, off, none⟩) i c) x = some (.slice (some ⟨id, off, none⟩) (i + m) c, H.set id (.row (cs.take (off + i * k) ++ news ++ cs.drop (off + i * k + m * k)) k true)) := by
    simp only [aappend0, he, hi1, hi2, Option.bind_some, hi3, hi4, hs]
    rw [if_pos ⟨hk0, hz, by omega, by omega⟩, if_neg (by omega)]
    simp only [Option.isSome_none, Bool.false_eq_true, if_false]
    rw [if_neg (by omega), if_pos hroom]
    simp only [add_none, astore, hrow, hone, Bool.and_true, hlen]
    rw [if_pos (by simpa using hfit)]
    rfl
  simp only [aappend, h0]
end Go.AW
