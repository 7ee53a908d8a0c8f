/-
  How what is handed in is read.
-/
import Derived.Test.YthbifkeadbmcnaaLawAll
set_option linter.unusedVariables false
set_option linter.unusedSimpArgs false
namespace Go.Proofs.Ythbifkeadbmcnaa
open Go Go.AW Go.ChangeShapes Go.WideShapes

instance : Inhabited Seg := ⟨⟨0, 0, 0, 0, 0⟩⟩
theorem decSeg : ∀ cs, AW.Fits [.int .i64, .int .i64, .int .i64, .int .i64, .int .i64] cs → ∃ s : Seg, cs = s.cells ∧ SegI s := by
  intro cs h
  obtain ⟨v0, r1, rfl, ⟨n0, rfl, w0⟩, h1⟩ := h.cons
  obtain ⟨v1, r2, rfl, ⟨n1, rfl, w1⟩, h2⟩ := h1.cons
  obtain ⟨v2, r3, rfl, ⟨n2, rfl, w2⟩, h3⟩ := h2.cons
  obtain ⟨v3, r4, rfl, ⟨n3, rfl, w3⟩, h4⟩ := h3.cons
  obtain ⟨v4, r5, rfl, ⟨n4, rfl, w4⟩, h5⟩ := h4.cons
  obtain rfl := h5.end_
  exact ⟨⟨n0, n1, n2, n3, n4⟩, rfl, wfI w0, wfI w1, wfI w2, wfI w3, wfI w4⟩
/-- a span that is handed in -/
theorem openSpan {H : Type} {enc : TypeId × Value → H} {P : Program} {W : World} {r : Reach} {b0 b1 d : Nat} {spare : Nat → Bool} {held : Bool} {t : TypeId} {fs : Array Field} {v : Value} {x : DataW H} {ps : List MemPlace} (ht : P.underlying t = some (.struct fs)) (hl : leafs P d t = some [.int .i64, .int .i64]) (hval : Value.okWide P W r b0 t v)
    (hd : DataW.Trod enc P W b1 spare held t v x ps) : ∃ f t : Int, v = spanV f t ∧ InI f ∧ InI t ∧ ∀ ρ : Ren, VR ρ (spanV f t) v := by
  obtain ⟨cs, rfl, -⟩ := okWide_struct ht hval
  obtain ⟨m, hm⟩ := hd
  have hf := trod_leafs d t _ m _ _ hl hm
  obtain ⟨v0, r1, h0, ⟨n0, rfl, w0⟩, h1⟩ := hf.cons
  obtain ⟨v1, r2, rfl, ⟨n1, rfl, w1⟩, h2⟩ := h1.cons
  obtain rfl := h2.end_
  have e : cs = #[.int .i64 n0, .int .i64 n1] := by
    apply Array.toList_inj.1
    simpa [Value.cells] using h0
  subst e
  refine ⟨n0, n1, rfl, wfI w0, wfI w1, fun ρ => .agg rfl fun i u u' h h' => ?_⟩
  cases h.symm.trans h'
  match i, h with
  | 0, h => cases h; exact .int _ _
  | 1, h => cases h; exact .int _ _
end Go.Proofs.Ythbifkeadbmcnaa
