/-
  How the elements of what is handed in are read.
-/
import Derived.Test.YtangfnommhmpeaaLaw0
set_option linter.unusedVariables false
set_option linter.unusedSimpArgs false
namespace Go.Proofs.Ytangfnommhmpeaa
open Go Go.AW

instance : Inhabited Seg := ⟨⟨0, 0, 0, 0, 0⟩⟩
instance : Inhabited Order := ⟨⟨false, default, 0⟩⟩
theorem decInt : ∀ cs, AW.Fits [.int .i64] cs → ∃ n : Int, cs = encI n ∧ (Lit.int .i64 n).wf = true := by
  intro cs h
  obtain ⟨v0, r1, rfl, ⟨n0, rfl, w0⟩, h1⟩ := h.cons
  obtain rfl := h1.end_
  exact ⟨n0, rfl, w0⟩
theorem decSeg : ∀ cs, AW.Fits [.int .i64, .int .i64, .int .i64, .int .i64, .int .i64] cs → ∃ s : Seg, cs = s.cells ∧ True := by
  intro cs h
  obtain ⟨v0, r1, rfl, ⟨n0, rfl, w0⟩, h1⟩ := h.cons
  obtain ⟨v1, r2, rfl, ⟨n1, rfl, w1⟩, h2⟩ := h1.cons
  obtain ⟨v2, r3, rfl, ⟨n2, rfl, w2⟩, h3⟩ := h2.cons
  obtain ⟨v3, r4, rfl, ⟨n3, rfl, w3⟩, h4⟩ := h3.cons
  obtain ⟨v4, r5, rfl, ⟨n4, rfl, w4⟩, h5⟩ := h4.cons
  obtain rfl := h5.end_
  exact ⟨⟨n0, n1, n2, n3, n4⟩, rfl, trivial⟩
theorem decOrder : ∀ cs, AW.Fits [.bool, .int .i64, .int .i64, .int .i64, .int .i64, .int .i64, .int .i64] cs → ∃ o : Order, cs = o.cells ∧ True := by
  intro cs h
  obtain ⟨v, r1, rfl, ⟨b, rfl⟩, h1⟩ := h.cons
  obtain ⟨v0, r2, rfl, ⟨n0, rfl, w0⟩, h2⟩ := h1.cons
  obtain ⟨v1, r3, rfl, ⟨n1, rfl, w1⟩, h3⟩ := h2.cons
  obtain ⟨v2, r4, rfl, ⟨n2, rfl, w2⟩, h4⟩ := h3.cons
  obtain ⟨v3, r5, rfl, ⟨n3, rfl, w3⟩, h5⟩ := h4.cons
  obtain ⟨v4, r6, rfl, ⟨n4, rfl, w4⟩, h6⟩ := h5.cons
  obtain ⟨v5, r7, rfl, ⟨n5, rfl, w5⟩, h7⟩ := h6.cons
  obtain rfl := h7.end_
  exact ⟨⟨b, ⟨n0, n1, n2, n3, n4⟩, n5⟩, rfl, trivial⟩
end Go.Proofs.Ytangfnommhmpeaa
