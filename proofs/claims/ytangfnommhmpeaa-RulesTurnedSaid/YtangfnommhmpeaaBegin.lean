/-
  rules.begin: a field out of segments, pairs and nodes.
-/
import Derived.Test.YtangfnommhmpeaaField2
set_option linter.unusedVariables false
set_option linter.unusedSimpArgs false
namespace Go.Proofs.Ytangfnommhmpeaa
open Go Go.AW Go.Bub
set_option linter.unusedSimpArgs false
set_option maxRecDepth 20000

theorem pre_of_keep {H0 H H' : AHeap} (hp : H0 <+: H) (hl : H.length ≤ H'.length) (hk : ∀ j, j < H0.length → H'[j]? = H[j]?) : H0 <+: H' := by
  refine List.prefix_iff_getElem?.2 fun i hi => ?_
  rw [hk i hi]
  exact pre_get hp (by simp [hi])
theorem FieldAt.base {b : Nat} {H0 H H' : AHeap} {F F' : FieldS} (hf : FieldAt b H F) (hk : Kept H H' F F') (hp : H0 <+: H) (hb : H0.length ≤ b) : H0 <+: H' :=
  pre_of_keep hp hk.len fun j hj => hk.same j (Nat.lt_of_lt_of_le hj (pre_len hp)) fun q => by
    have h1 := hf.bp; have h2 := hf.bh; have h3 := hf.bl
    rcases q with q | q | q | q
    · omega
    · omega
    · omega
    · have := (hf.out.owner_ge q).1; omega

theorem turnNodes {b : Nat} {H H2 : AHeap} {F : FieldS} (hf : FieldAt b H F) {l : List Int} (hk : ∀ j, owner F.vn ≠ some j → H2[j]? = H[j]?) (ho : OwnI b H2 F.vn l) : FieldAt b H2 { F with nodes := l } := by
  refine ⟨hf.bp, hf.bh, hf.bl, hf.ne, ?_, ho, ?_, hf.nep, ?_, ?_, ?_⟩
  · show H2[F.p]? = _; rw [hk _ (own_not_row hf.nodes hf.at_ (by decide))]; exact hf.at_
  · exact hf.wanted.keep fun id hid => hk id fun q => own_not_own hf.nodes hf.wanted (by decide) id q hid
  · exact hf.holds.keep (hk _ (own_not_map hf.nodes hf.holds))
  · exact hf.loads.keep (hk _ (own_not_map hf.nodes hf.loads))
  · exact hf.out.keep fun id hid => hk id fun q => own_not_own hf.nodes hf.out (by decide) id q hid
theorem putNodes {b : Nat} {H H2 : AHeap} {F : FieldS} (hf : FieldAt b H F) {l : List Int} {v : Value} (hk : ∀ j, owner F.vn ≠ some j → H2[j]? = H[j]?) (ho : OwnI b H2 v l) (hov : owner v = owner F.vn) :
    ∃ o, (H2[F.p]?).bind (rowStore 0 [v]) = some o ∧ FieldAt b (H2.set F.p o) { F with vn := v, nodes := l } := by
  have hn := own_not_row hf.nodes hf.at_ (by decide)
  have hat : H2[F.p]? = some (.row [F.vn, F.vw, .map (some F.ih), .map (some F.il), F.vo] 5 true) := by rw [hk _ hn]; exact hf.at_
  refine ⟨.row [v, F.vw, .map (some F.ih), .map (some F.il), F.vo] 5 true, by rw [hat]; rfl, hf.bp, hf.bh, hf.bl, hf.ne, List.getElem?_set_self (get_lt hat), ?_, ?_, hf.nep, ?_, ?_, ?_⟩
  · exact ho.keep fun id hid => List.getElem?_set_ne (by rintro rfl; exact hn (hov ▸ hid))
  · exact hf.wanted.keep fun id hid => by rw [List.getElem?_set_ne (by rintro rfl; exact hf.nep hid)]; exact hk id fun q => own_not_own hf.nodes hf.wanted (by decide) id q hid
  · exact hf.holds.keep (by rw [List.getElem?_set_ne (Ne.symm (dict_not_row hf.holds hf.at_))]; exact hk _ (own_not_map hf.nodes hf.holds))
  · exact hf.loads.keep (by rw [List.getElem?_set_ne (Ne.symm (dict_not_row hf.loads hf.at_))]; exact hk _ (own_not_map hf.nodes hf.loads))
  · exact hf.out.keep fun id hid => by rw [List.getElem?_set_ne (by rintro rfl; exact own_not_row hf.out hf.at_ (by decide) hid)]; exact hk id fun q => own_not_own hf.nodes hf.out (by decide) id q hid
theorem turnWanted {b : Nat} {H H2 : AHeap} {F : FieldS} (hf : FieldAt b H F) {l : List Seg} (hk : ∀ j, owner F.vw ≠ some j → H2[j]? = H[j]?) (ho : OwnS b H2 F.vw l) : FieldAt b H2 { F with wanted := l } := by
  refine ⟨hf.bp, hf.bh, hf.bl, hf.ne, ?_, ?_, ho, hf.nep, ?_, ?_, ?_⟩
  · show H2[F.p]? = _; rw [hk _ hf.nep]; exact hf.at_
  · exact hf.nodes.keep fun id hid => hk id fun q => own_not_own hf.wanted hf.nodes (by decide) id q hid
  · exact hf.holds.keep (hk _ (own_not_map hf.wanted hf.holds))
  · exact hf.loads.keep (hk _ (own_not_map hf.wanted hf.loads))
  · exact hf.out.keep fun id hid => hk id fun q => own_not_own hf.wanted hf.out (by decide) id q hid
theorem putWanted {b : Nat} {H H2 : AHeap} {F : FieldS} (hf : FieldAt b H F) {l : List Seg} {v : Value} (hk : ∀ j, owner F.vw ≠ some j → H2[j]? = H[j]?) (ho : OwnS b H2 v l) (hov : owner v = owner F.vw) :
    ∃ o, (H2[F.p]?).bind (rowStore 1 [v]) = some o ∧ FieldAt b (H2.set F.p o) { F with vw := v, wanted := l } := by
  have hn := hf.nep
  have hat : H2[F.p]? = some (.row [F.vn, F.vw, .map (some F.ih), .map (some F.il), F.vo] 5 true) := by rw [hk _ hn]; exact hf.at_
  refine ⟨.row [F.vn, v, .map (some F.ih), .map (some F.il), F.vo] 5 true, by rw [hat]; rfl, hf.bp, hf.bh, hf.bl, hf.ne, List.getElem?_set_self (get_lt hat), ?_, ?_, by rw [hov]; exact hn, ?_, ?_, ?_⟩
  · exact hf.nodes.keep fun id hid => by rw [List.getElem?_set_ne (by rintro rfl; exact own_not_row hf.nodes hf.at_ (by decide) hid)]; exact hk id fun q => own_not_own hf.wanted hf.nodes (by decide) id q hid
  · exact ho.keep fun id hid => List.getElem?_set_ne (by rintro rfl; exact hn (hov ▸ hid))
  · exact hf.holds.keep (by rw [List.getElem?_set_ne (Ne.symm (dict_not_row hf.holds hf.at_))]; exact hk _ (own_not_map hf.wanted hf.holds))
  · exact hf.loads.keep (by rw [List.getElem?_set_ne (Ne.symm (dict_not_row hf.loads hf.at_))]; exact hk _ (own_not_map hf.wanted hf.loads))
  · exact hf.out.keep fun id hid => by rw [List.getElem?_set_ne (by rintro rfl; exact own_not_row hf.out hf.at_ (by decide) hid)]; exact hk id fun q => own_not_own hf.wanted hf.out (by decide) id q hid

/-- what a sort of segments leans on -/
theorem cmpSeg_on (l : List Seg) : CmpOn cmpSeg l where
  irrefl x _ := by rw [cmpSeg_lt]; exact standsR_irrefl x
  trans x _ y _ z _ h1 h2 := by rw [cmpSeg_lt] at *; exact standsR_trans h1 h2
  ntrans x _ y _ z _ h1 h2 h3 := by
    rw [cmpSeg_lt] at *
    by_cases e : x = y
    · subst e; exact h2 h3
    · have := standsR_tri h1 e
      exact h2 (standsR_trans this h3)
/-- rising or the same -/
def leS (a b : Seg) : Prop := ¬ standsR b a = true
theorem leS_lt {a b : Seg} (h : leS a b) (hn : a ≠ b) : standsR a b = true := standsR_tri h (Ne.symm hn)
theorem leS_trans {a b c : Seg} (h1 : standsR a b = true) (h2 : leS b c) : standsR a c = true := by
  by_cases e : b = c
  · subst e; exact h1
  · exact standsR_trans h1 (leS_lt h2 e)

theorem sortSegs {b : Nat} {H : AHeap} {v : Value} {l : List Seg} (hown : OwnS b H v l) (hlen : l.length < 1000) :
    Sound Try.prog 42 [v, .func (.func 43) #[] #[]] H fun r H' => r = .tuple #[] ∧ ∃ l', l'.Perm l ∧ l'.Pairwise leS ∧ OwnS b H' v l' ∧ H'.length = H.length ∧ ∀ j, owner v ≠ some j → H'[j]? = H[j]? := by
  refine (sortFunc_struct Try.laysSF_f42 (k := 5) ag40 sz40 (by decide) (fun _ => rfl) (fun x _ => rfl) cmpSeg (cmpSeg_on l) 43 #[] hown (by omega) ?_).mono ?_
  · exact fun H' x y _ _ _ _ => (stands x y H').mono fun _ _ h => h.1
  · rintro r H' ⟨rfl, l', h1, h2, h3⟩
    exact ⟨rfl, l', h1, h2.imp (fun h => by unfold leS; rwa [cmpSeg_lt] at h), h3⟩
theorem sortInts {b : Nat} {H : AHeap} {v : Value} {l : List Int} (hown : OwnI b H v l) (hlen : l.length < 1000) :
    Sound Try.prog 40 [v] H fun r H' => r = .tuple #[] ∧ ∃ l', l'.Perm l ∧ l'.Pairwise (· ≤ ·) ∧ OwnI b H' v l' ∧ H'.length = H.length ∧ ∀ j, owner v ≠ some j → H'[j]? = H[j]? :=
  sort_int Try.laysS_f40 hown (by omega)
end Go.Proofs.Ytangfnommhmpeaa
