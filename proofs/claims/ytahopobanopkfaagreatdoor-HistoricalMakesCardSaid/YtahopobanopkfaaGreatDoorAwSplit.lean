/-
  AW: a range over a function amid a text: a contract out of such a body.
-/
import Derived.Test.YtahopobanopkfaaGreatDoorAwRange
set_option linter.unusedVariables false
set_option linter.unusedSimpArgs false
namespace Go.AW
open Go
variable {P : Program} {n : Nat} {F : Frm}

/-- the statement, and what stands behind it -/
structure RangeS where
  g : Operand
  ps : Array Tmp
  assign : Code
  body : Code
  post : List Code
/-- is there such a statement? -/
def hasR : Code → Bool
  | .block _ (.rangeFunc _ _ _ _) => true
  | .seq a b => hasR a || hasR b
  | _ => false
/-- codes, one behind the other -/
def awpL (P : Program) (Q : Exit → Tm → AHeap → Prop) : List Code → Tm → AHeap → Prop
  | [], T, H => Q .normal T H
  | b :: bs, T, H => awp P b (Exit.thenA (awpL P Q bs) Q) T H
/-- a text with one such statement, ahead of it and behind it nothing special -/
def awpR (P : Program) (Mid : RangeS → Tm → AHeap → Prop) (Q : Exit → Tm → AHeap → Prop) : Code → List Code → Tm → AHeap → Prop
  | .block _ (.rangeFunc g ps x y), post, T, H => Mid ⟨g, ps, x, y, post⟩ T H
  | .seq a b, post, T, H => match hasR a with
    | true => awpR P Mid Q a (b :: post) T H
    | false => awp P a (Exit.thenA (awpR P Mid Q b post) Q) T H
  | _, _, _, _ => False
section
variable (P : Program) (Mid : RangeS → Tm → AHeap → Prop) (Q : Exit → Tm → AHeap → Prop) (T : Tm) (H : AHeap)
theorem awpL_nil : awpL P Q [] T H = Q .normal T H := (rfl)
theorem awpL_cons (b : Code) (bs : List Code) : awpL P Q (b :: bs) T H = awp P b (Exit.thenA (awpL P Q bs) Q) T H := (rfl)
theorem awpR_here (id : Nat) (g : Operand) (ps : Array Tmp) (x y : Code) (post : List Code) : awpR P Mid Q (.block id (.rangeFunc g ps x y)) post T H = Mid ⟨g, ps, x, y, post⟩ T H := (rfl)
theorem awpR_in {a : Code} (h : hasR a = true) (b : Code) (post : List Code) : awpR P Mid Q (.seq a b) post T H = awpR P Mid Q a (b :: post) T H := by simp only [awpR, h]
theorem awpR_next {a : Code} (h : hasR a = false) (b : Code) (post : List Code) : awpR P Mid Q (.seq a b) post T H = awp P a (Exit.thenA (awpR P Mid Q b post) Q) T H := by simp only [awpR, h]
end
theorem hasR_region (id : Nat) (ops : Array Oper) (d : Bool) : hasR (.region id ops d) = false := (rfl)
theorem hasR_cond (c : Operand) (x y : Code) : hasR (.cond c x y) = false := (rfl)
theorem hasR_loop (x : Code) : hasR (.loop x) = false := (rfl)
theorem hasR_seq (x y : Code) : hasR (.seq x y) = (hasR x || hasR y) := (rfl)
theorem hasR_range (id : Nat) (g : Operand) (ps : Array Tmp) (x y : Code) : hasR (.block id (.rangeFunc g ps x y)) = true := (rfl)
theorem hasR_bseq (id : Nat) (x y : Code) : hasR (.block id (.seq x y)) = false := (rfl)
theorem hasR_bcond (id : Nat) (c : Operand) (x y : Code) : hasR (.block id (.cond c x y)) = false := (rfl)
theorem hasR_bloop (id : Nat) (x : Code) : hasR (.block id (.loop x)) = false := (rfl)
theorem hasR_bregion (id i : Nat) (ops : Array Oper) (d : Bool) : hasR (.block id (.region i ops d)) = false := (rfl)
theorem hasR_bblock (id i : Nat) (x : Code) : hasR (.block id (.block i x)) = false := (rfl)
attribute [go_sem] awpL_nil awpL_cons hasR_region hasR_cond hasR_loop hasR_seq hasR_range hasR_bseq hasR_bcond hasR_bloop hasR_bregion hasR_bblock Bool.or_false Bool.or_true Bool.false_or
attribute [go_sem ↓] awpR_here awpR_in awpR_next
def okR (n : Nat) : Code → List Code → Bool
  | .block _ (.rangeFunc g _ _ _), post => opdOk n g && post.all fun c => codeOk n c && quietC c
  | .seq a b, post => match hasR a with
    | true => okR n a (b :: post)
    | false => codeOk n a && quietC a && okR n b post
  | _, _ => false

/-- the same, at the model's side -/
def contL (P : Program) (G : Fence) (m : Nat) (Q : Exit → Act → World → Prop) : List Code → Act → World → Prop
  | [], a, w => Q .normal a w
  | b :: bs, a, w => b.wpIn G m P (Exit.then (contL P G m Q bs) Q) a w
theorem then_then {K K' : Act → World → Prop} {Q : Exit → Act → World → Prop} : Exit.then K (Exit.then K' Q) = Exit.then K Q := by
  funext e a w; cases e <;> rfl
theorem noOut_thenK {Q : Exit → Act → World → Prop} {K : Act → World → Prop} (h : ¬ LetsOut Q) : ¬ LetsOut (Exit.then K Q) := h

theorem sim_awpL (hm : P.follows .mixedOrders = true) {G : Fence} (hG : Open P G) {m : Nat} {ds : List Deferred} {Qa : Exit → Tm → AHeap → Prop} {Q : Exit → Act → World → Prop} (hno : ¬ LetsOut Q) : ∀ (l : List Code), (l.all fun c => codeOk n c && quietC c) = true →
    ∀ {ρ : Ren} {H : AHeap} {w : World} {T : Tm} {a : Act}, awpL P Qa l T H → Rel ρ H F w → TR ρ n ds T a → QR n ds F ρ H Qa Q → contL P G m Q l a w
  | [], _, ρ, H, w, T, a, h, hR, hT, hQ => hQ .normal T H ρ a w h hR (Ext.refl _ _) (Nat.le_refl _) hT
  | c :: cs, hok, ρ, H, w, T, a, h, hR, hT, hQ => by
    simp only [List.all_cons, Bool.and_eq_true] at hok
    refine sim_codeIn hm hG c hok.1.1 hok.1.2 h hR hT (fun e T' H' ρ' a' w' hq hr hx hl ht => ?_) (noOut_thenK hno)
    cases e with
    | normal => exact sim_awpL hm hG hno cs (by simpa using hok.2) hq hr ht (hQ.step hx hl)
    | exit id => exact hQ (.exit id) T' H' ρ' a' w' hq hr hx hl ht
    | goto l => exact hQ (.goto l) T' H' ρ' a' w' hq hr hx hl ht
    | ret => exact hQ .ret T' H' ρ' a' w' hq hr hx hl ht
    | panic ch => exact hQ (.panic ch) T' H' ρ' a' w' hq hr hx hl ht
    | outgrown => exact hQ .outgrown T' H' ρ' a' w' hq hr hx hl ht

theorem sim_awpR (hm : P.follows .mixedOrders = true) {G : Fence} (hG : Open P G) {m : Nat} {ds : List Deferred} {Mid : RangeS → Tm → AHeap → Prop} {Q : Exit → Act → World → Prop} (hno : ¬ LetsOut Q) : ∀ (c : Code) (post : List Code), okR n c post = true →
    ∀ {ρ : Ren} {H : AHeap} {w : World} {T : Tm} {a : Act} {Qa : Exit → Tm → AHeap → Prop}, awpR P Mid Qa c post T H → Rel ρ H F w → TR ρ n ds T a → (∀ e, e ≠ .normal → ∀ T' H' ρ' a' w', Qa e T' H' → Rel ρ' H' F w' → Ext H ρ ρ' → H.length ≤ H'.length → TR ρ' n ds T' a' → Q e a' w') →
    (∀ (id : Nat) (r : RangeS) (T' : Tm) (H' : AHeap) (ρ' : Ren) (a' : Act) (w' : World), opdOk n r.g = true → (r.post.all fun c => codeOk n c && quietC c) = true → Mid r T' H' → Rel ρ' H' F w' → Ext H ρ ρ' → H.length ≤ H'.length → TR ρ' n ds T' a' →
      (Code.block id (.rangeFunc r.g r.ps r.assign r.body)).wpIn G m P (Exit.then (contL P G m Q r.post) Q) a' w') → c.wpIn G m P (Exit.then (contL P G m Q post) Q) a w := by
  intro c
  induction c with
  | block id c _ =>
    intro post hok ρ H w T a Qa h hR hT hQ hM
    cases c with
    | rangeFunc g ps x y =>
      simp only [okR, Bool.and_eq_true] at hok
      exact hM id ⟨g, ps, x, y, post⟩ T H ρ a w hok.1 hok.2 h hR (Ext.refl _ _) (Nat.le_refl _) hT
    | _ => simp [okR] at hok
  | seq x y ihx ihy =>
    intro post hok ρ H w T a Qa h hR hT hQ hM
    simp only [okR] at hok
    simp only [awpR] at h
    cases hh : hasR x with
    | true =>
      rw [hh] at h hok
      refine wpIn_seq ?_
      rw [then_then]
      exact ihx (y :: post) hok h hR hT hQ hM
    | false =>
      rw [hh] at h hok
      simp only [Bool.and_eq_true] at hok
      refine wpIn_seq ?_
      rw [then_then]
      refine sim_codeIn hm hG x hok.1.1 hok.1.2 h hR hT (fun e T' H' ρ' a' w' hq hr hx hl ht => ?_) (noOut_thenK hno)
      have other : ∀ e, e ≠ .normal → ∀ T2 H2 ρ2 a2 w2, Qa e T2 H2 → Rel ρ2 H2 F w2 → Ext H' ρ' ρ2 → H'.length ≤ H2.length → TR ρ2 n ds T2 a2 → Q e a2 w2 := fun e he T2 H2 ρ2 a2 w2 hq2 hr2 hx2 hl2 ht2 => hQ e he T2 H2 ρ2 a2 w2 hq2 hr2 (hx.trans hx2 hl) (by omega) ht2
      cases e with
      | normal => exact ihy post hok.2 hq hr ht other fun id r T2 H2 ρ2 a2 w2 o1 o2 hm' hr2 hx2 hl2 ht2 => hM id r T2 H2 ρ2 a2 w2 o1 o2 hm' hr2 (hx.trans hx2 hl) (by omega) ht2
      | exit id => exact hQ (.exit id) (by simp) T' H' ρ' a' w' hq hr hx hl ht
      | goto l => exact hQ (.goto l) (by simp) T' H' ρ' a' w' hq hr hx hl ht
      | ret => exact hQ .ret (by simp) T' H' ρ' a' w' hq hr hx hl ht
      | panic ch => exact hQ (.panic ch) (by simp) T' H' ρ' a' w' hq hr hx hl ht
      | outgrown => exact hQ .outgrown (by simp) T' H' ρ' a' w' hq hr hx hl ht
  | _ => intro post hok; simp [okR] at hok

/-- an iterator runs its rounds: what it leaves -/
def IterA (P : Program) (n : Nat) (kf : FuncId) (cap : Array Value) (T : Tm) (px : Tmp) (assign body : Code) (H : AHeap) (J : AHeap → Prop) : Prop :=
  ∀ (k : Nat) (ρ : Ren) (F : Frm) (D L : Nat) (fn : FuncId) (W : World) (tmps : Array Value) (cap' : Array Value), D ≠ L → F.heap D = none → F.heap L = none →
    Rel ρ H (F.two D L (.deferred (some [])) (.loop { state := .ready, pending := none, fn, tmps, params := #[px], assign, body, defers := D })) W → TR ρ n [] T { tmps := tmps, defers := [] } → VRs ρ cap.toList cap'.toList →
    CallsIn Fence.wide k P kf (#[.func (.yield L) #[] #[]] ++ cap') W fun e W' => (∃ v, e = .returned v) ∧ ∃ ρ' H', J H' ∧ Rel ρ' H' (F.two D L (.deferred (some [])) (.loop { state := .ready, pending := none, fn, tmps, params := #[px], assign, body, defers := D })) W' ∧ Ext H ρ ρ' ∧ H.length ≤ H'.length

/-- one that runs none -/
theorem IterA.none {kf : FuncId} {cap : Array Value} {T : Tm} {px : Tmp} {assign body : Code} {H : AHeap} {J : AHeap → Prop} (h : ∀ L, Sound P kf (.func (.yield L) #[] #[] :: cap.toList) H fun _ H' => J H') : IterA P n kf cap T px assign body H J := by
  intro k ρ F D L fn W tmps cap' _ _ _ hR _ hc
  refine open_wide.calls ?_
  have := (h L).2 ρ _ W (.func (.yield L) #[] #[] :: cap'.toList) hR (VRs.cons (.func _ rfl rfl (by simp) (by simp)) hc)
  have e : (Value.func (.yield L) #[] #[] :: cap'.toList).toArray = #[.func (.yield L) #[] #[]] ++ cap' := by apply Array.ext'; simp
  rw [e] at this
  exact this.mono fun e w' ⟨v, v', H', ρ', h1, h2, h3, h4, h5, _⟩ => ⟨⟨v', h1⟩, ρ', H', h2, h3, h4, h5⟩

def rangeOk (fn : Func) : Bool :=
  fn.results.toList.all (resOk fn.ntmps) && (match fn.body with | some c => okR fn.ntmps c [] | none => false) && fn.name != "runtime.NumGoroutine"

/-- what is owed between the text ahead and the text behind -/
def RangeMid (P : Program) (n : Nat) (Q : Exit → Tm → AHeap → Prop) (r : RangeS) (T : Tm) (H : AHeap) : Prop :=
  ∃ (px : Tmp) (kf : FuncId) (cap : Array Value) (J : AHeap → Prop), r.ps = #[px] ∧ aev T r.g = .func (.func kf) #[] cap ∧ (∀ args w, (callFunc kf args).run P w = .ok (.enter kf args) w) ∧
    IterA P n kf cap T px r.assign r.body H J ∧ ∀ H', J H' → H.length ≤ H'.length → awpL P Q r.post T H'

/-- A CONTRACT OUT OF A BODY WITH A RANGE OVER A FUNCTION. -/
theorem Sound.of_range (hm : P.follows .mixedOrders = true) {f : FuncId} {fn : Func} {c : Code} (hf : P.funcs[f]? = some fn) (hb : fn.body = some c) (hok : rangeOk fn = true) {rs : List ResultVar} (hrs : fn.results.toList = rs) {args : List Value} {H : AHeap} {K : Value → AHeap → Prop}
    (hn : Nat.ble args.length fn.ntmps = true) (h : awpR P (RangeMid P fn.ntmps (abody P rs K)) (abody P rs K) c [] (fun t => args.getD t undef) H) : Sound P f args H K := by
  subst hrs
  have hn := Nat.le_of_ble_eq_true hn
  simp only [rangeOk, hb, Bool.and_eq_true] at hok
  obtain ⟨⟨o1, o2⟩, o7⟩ := hok
  refine ⟨fun as w => ?_, fun ρ F w args' hR hv => callsIn_wide.1 (callsIn_of_wp_marks (n := 2) hf hb trivial ?_)⟩
  · have h3' : ¬ fn.name = "runtime.NumGoroutine" := by simpa using o7
    simp [callFunc, hf, h3', hb]
  have hT0 := TR.start (n := fn.ntmps) hv hn
  generalize ({ tmps := args'.toArray ++ Array.replicate (fn.ntmps - args'.toArray.size) undef, defers := [] } : Act) = a0 at hT0 ⊢
  -- the end, without a mark
  have fin0 : ∀ {T1 : Tm} {H1 : AHeap} {ρ1 : Ren} {a1 : Act} {w1 : World}, (bindO (aresults fn.results.toList P T1 H1) fun vs => K (ares vs) H1) → Rel ρ1 H1 F w1 → Ext H ρ ρ1 → H.length ≤ H1.length → TR ρ1 fn.ntmps [] T1 a1 →
      LeavesInM Fence.wide 2 P fn a1.tmps (fun e w' => ∃ v v' H' ρ', e = .returned v' ∧ K v H' ∧ Rel ρ' H' F w' ∧ Ext H ρ ρ' ∧ H.length ≤ H'.length ∧ VR ρ' v v') a1.defers .returning w1 := fun {T1 H1 ρ1 a1 w1} hq hr hx hl ht => by
    obtain ⟨vs, hvs, hk⟩ := bindO_iff.1 hq
    obtain ⟨v', g1, g2⟩ := sim_results o1 hr ht hvs
    rw [ht.defers]
    exact ⟨v', g1, ares vs, v', H1, ρ1, rfl, hk, hr, hx, hl, g2⟩
  generalize hPost : bodyPostM Fence.wide 2 P fn (fun e w' => ∃ v v' H' ρ', e = .returned v' ∧ K v H' ∧ Rel ρ' H' F w' ∧ Ext H ρ ρ' ∧ H.length ≤ H'.length ∧ VR ρ' v v') = Post
  have hno : ¬ LetsOut Post := by rw [← hPost]; exact fun ⟨_, _, _, _, _, _, q, _⟩ => by cases q
  have key := sim_awpR (n := fn.ntmps) (F := F) (ds := []) (Q := Post) hm open_wide (m := 2) hno c [] o2 h hR hT0 (fun e he T1 H1 ρ1 a1 w1 hq hr hx hl ht => ?_) fun id r T1 H1 ρ1 a1 w1 o6 o4 hq hr hx hl ht => ?_
  · have e0 : Exit.then (contL P Fence.wide 2 Post []) Post = Post := by funext e a w; cases e <;> rfl
    rw [e0] at key
    exact key
  · rw [← hPost]
    cases e with
    | normal => exact absurd rfl he
    | ret => exact fin0 hq hr hx hl ht
    | exit id => exact hq.elim
    | goto l => exact hq.elim
    | panic ch => exact hq.elim
    | outgrown => exact hq.elim
  · obtain ⟨px, kf, cap, J, hps, hg, hent, hit, hpost⟩ := hq
    rw [hps]
    have hv1 := ht.eval o6
    rw [hg] at hv1
    obtain ⟨as', cap', hval, ha, hcap⟩ := hv1.func_inv
    have e1 : as' = #[] := by
      have := ha.1; apply Array.toList_inj.1; exact List.length_eq_zero_iff.1 (by simpa using this.symm)
    rw [e1] at hval
    refine wpIn_block ?_
    refine sim_range (J := J) hval hent hr (fun fn' D L W hDL hFD hFL hRW => hit _ _ _ D L fn' W _ cap' hDL hFD hFL hRW ⟨ht.size, rfl, ht.vr⟩ hcap) ?_
    intro D L y ρ' H' w' hDL hFD hFL hy hJ hR' hX hLn
    simp only [Exit.inBlock, Exit.then]
    have x1 : Ext H ρ ρ' := hx.trans hX (by omega)
    refine sim_awpL (n := fn.ntmps) (ds := [{ target := .collected D, args := #[] }]) hm open_wide hno r.post o4 (hpost H' hJ hLn) hR' ⟨ht.size, by simp [ht.defers], fun t htt => (ht.vr t htt).mono (hr.ext hX)⟩ ?_
    intro e T6 H6 ρ6 a6 w6 hq6 hR6 hX6 hL6 hT6
    rw [← hPost]
    have hK := hR6.frm.heap D _ (Frm.two_D _ _ _ hDL)
    have hRf := (hR6.turnD hDL (odd_deferred _) (.deferred none)).back hDL (odd_deferred _) hy hFD hFL
    have fin : (bindO (aresults fn.results.toList P T6 H6) fun vs => K (ares vs) H6) → LeavesInM Fence.wide 2 P fn a6.tmps (fun e w' => ∃ v v' H' ρ', e = .returned v' ∧ K v H' ∧ Rel ρ' H' F w' ∧ Ext H ρ ρ' ∧ H.length ≤ H'.length ∧ VR ρ' v v') a6.defers .returning w6 := fun hq => by
      obtain ⟨vs, hvs, hk⟩ := bindO_iff.1 hq
      obtain ⟨v', g1, g2⟩ := sim_results o1 hRf hT6 hvs
      rw [hT6.defers]
      exact ⟨by simp, .inl ⟨D, _, rfl, run_takeDeferred hK, v', g1, ares vs, v', H6, ρ6, rfl, hk, hRf, x1.trans hX6 (by omega), by omega, g2⟩⟩
    cases e with
    | normal => exact fin hq6
    | ret => exact fin hq6
    | exit id => exact hq6.elim
    | goto l => exact hq6.elim
    | panic ch => exact hq6.elim
    | outgrown => exact hq6.elim
end Go.AW
