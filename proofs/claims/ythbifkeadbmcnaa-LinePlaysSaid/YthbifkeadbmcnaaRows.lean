/-
  No cell of these rows narrows 'for every input' (looked for: loops, veiled, ifaces, maps, wideKeys, modest, calm, conditions, laid).
  DERIVED. THE GIVEN ROWS OF THIS SEAT. 7 by the template 'for every input the law returns true; each argument reads behind the call as it read before'; 0 by the template 'total and deterministic' (their statements: YthbifkeadbmcnaaTotals.lean).
  GIVEN WITH THE SEED: the statements are not yours to turn. If you find one false, say at which input.
  Laid BY PROGRAM, IN A SANDBOX (cutbox-rows.mjs): the forced cells as the released guide's own fill.sh prints them over the translation ac4a82d573f53934… (all of the seat's roots in one cut). By AI agents, Wed Nov 11 2026. No macro, syntax, notation, axiom, sorry.
-/
import Derived.Test.YthbifkeadbmcnaaChecked
import GoSem.Claim
import GoSem.ClaimJoined
import GoSem.ClaimMapViews
import Derived.JoinedTies
import Derived.KernelRfl
namespace Go.Proofs.Ythbifkeadbmcnaa
/- THE CELL 'sum', in the pinned program and in every row, IS THE sha256 OF THE DUMP (.gsa) THAT YthbifkeadbmcnaaProg.lean LOADS. Nothing in Lean hashes anything: it is a label: what it is worth is what the hold of that sum in a sandbox is worth. -/
noncomputable def Try.pinned : Pinned := { name := "ythbifkeadbmcnaa", sum := "ac4a82d573f539344bbee11f2ed1c66cdf17c23f13a7c3a85fefaa6611b771d1", checked := Try.checked }
namespace Rows
def none {H : Type} : Left H := { results := [], args := [] }

/-- 'gristmilllaw15.LineOne': WHATEVER THE INPUT: true; the input reads as it did. -/
def lineOneSpec : ChangeSpec := { name := "lineOne", fn := fun _ => fun
  | [d1, d2] => { results := [.lit (.bool true)], args := [d1, d2] }
  | _ => none }
def lineOneRow : OpenClaim := { program := "ythbifkeadbmcnaa", sum := "ac4a82d573f539344bbee11f2ed1c66cdf17c23f13a7c3a85fefaa6611b771d1", func := "gristmill/gristmilllaw15.LineOne", spec := "lineOne", inPlace := ["slices.overlaps[gristmill/api.Seg]"], unfollowed := true, recurses := true, plainKeys := false, apart := false }
def LineOneSaid : Prop := lineOneRow.holds Try.pinned (OpenSpec.ofChange lineOneSpec)

/-- ITS FALSE NEIGHBOUR: 'it returns false'. Refute it at one input. -/
def lineOneWrong : ChangeSpec := { name := "lineOne", fn := fun _ => fun
  | [d1, d2] => { results := [.lit (.bool false)], args := [d1, d2] }
  | _ => none }
def LineOneWrongFalsely : Prop := lineOneRow.holds Try.pinned (OpenSpec.ofChange lineOneWrong)

/-- 'gristmilllaw15.LineAll': WHATEVER THE INPUT: true; the input reads as it did. -/
def lineAllSpec : ChangeSpec := { name := "lineAll", fn := fun _ => fun
  | [d1, d2] => { results := [.lit (.bool true)], args := [d1, d2] }
  | _ => none }
def lineAllRow : OpenClaim := { program := "ythbifkeadbmcnaa", sum := "ac4a82d573f539344bbee11f2ed1c66cdf17c23f13a7c3a85fefaa6611b771d1", func := "gristmill/gristmilllaw15.LineAll", spec := "lineAll", inPlace := ["slices.overlaps[gristmill/api.Seg]"], unfollowed := true, recurses := true, plainKeys := false, apart := false }
def LineAllSaid : Prop := lineAllRow.holds Try.pinned (OpenSpec.ofChange lineAllSpec)

/-- ITS FALSE NEIGHBOUR: 'it returns false'. Refute it at one input. -/
def lineAllWrong : ChangeSpec := { name := "lineAll", fn := fun _ => fun
  | [d1, d2] => { results := [.lit (.bool false)], args := [d1, d2] }
  | _ => none }
def LineAllWrongFalsely : Prop := lineAllRow.holds Try.pinned (OpenSpec.ofChange lineAllWrong)

/-- 'gristmilllaw15.LineCut': WHATEVER THE INPUT: true; the input reads as it did. -/
def lineCutSpec : ChangeSpec := { name := "lineCut", fn := fun _ => fun
  | [d1, d2, d3] => { results := [.lit (.bool true)], args := [d1, d2, d3] }
  | _ => none }
def lineCutRow : OpenClaim := { program := "ythbifkeadbmcnaa", sum := "ac4a82d573f539344bbee11f2ed1c66cdf17c23f13a7c3a85fefaa6611b771d1", func := "gristmill/gristmilllaw15.LineCut", spec := "lineCut", inPlace := ["slices.overlaps[gristmill/api.Seg]"], unfollowed := true, recurses := true, plainKeys := false, apart := false }
def LineCutSaid : Prop := lineCutRow.holds Try.pinned (OpenSpec.ofChange lineCutSpec)

/-- ITS FALSE NEIGHBOUR: 'it returns false'. Refute it at one input. -/
def lineCutWrong : ChangeSpec := { name := "lineCut", fn := fun _ => fun
  | [d1, d2, d3] => { results := [.lit (.bool false)], args := [d1, d2, d3] }
  | _ => none }
def LineCutWrongFalsely : Prop := lineCutRow.holds Try.pinned (OpenSpec.ofChange lineCutWrong)

/-- 'gristmilllaw15.LineWaits': WHATEVER THE INPUT: true; the input reads as it did. -/
def lineWaitsSpec : ChangeSpec := { name := "lineWaits", fn := fun _ => fun
  | [d1, d2, d3] => { results := [.lit (.bool true)], args := [d1, d2, d3] }
  | _ => none }
def lineWaitsRow : OpenClaim := { program := "ythbifkeadbmcnaa", sum := "ac4a82d573f539344bbee11f2ed1c66cdf17c23f13a7c3a85fefaa6611b771d1", func := "gristmill/gristmilllaw15.LineWaits", spec := "lineWaits", inPlace := ["slices.overlaps[gristmill/api.Seg]"], unfollowed := true, recurses := true, plainKeys := false, apart := false }
def LineWaitsSaid : Prop := lineWaitsRow.holds Try.pinned (OpenSpec.ofChange lineWaitsSpec)

/-- ITS FALSE NEIGHBOUR: 'it returns false'. Refute it at one input. -/
def lineWaitsWrong : ChangeSpec := { name := "lineWaits", fn := fun _ => fun
  | [d1, d2, d3] => { results := [.lit (.bool false)], args := [d1, d2, d3] }
  | _ => none }
def LineWaitsWrongFalsely : Prop := lineWaitsRow.holds Try.pinned (OpenSpec.ofChange lineWaitsWrong)

/-- 'gristmilllaw15.LinePlays': WHATEVER THE INPUT: true; the input reads as it did. -/
def linePlaysSpec : ChangeSpec := { name := "linePlays", fn := fun _ => fun
  | [d1, d2] => { results := [.lit (.bool true)], args := [d1, d2] }
  | _ => none }
def linePlaysRow : OpenClaim := { program := "ythbifkeadbmcnaa", sum := "ac4a82d573f539344bbee11f2ed1c66cdf17c23f13a7c3a85fefaa6611b771d1", func := "gristmill/gristmilllaw15.LinePlays", spec := "linePlays", inPlace := ["slices.overlaps[gristmill/api.Seg]"], unfollowed := true, recurses := true, plainKeys := false, apart := false }
def LinePlaysSaid : Prop := linePlaysRow.holds Try.pinned (OpenSpec.ofChange linePlaysSpec)

/-- ITS FALSE NEIGHBOUR: 'it returns false'. Refute it at one input. -/
def linePlaysWrong : ChangeSpec := { name := "linePlays", fn := fun _ => fun
  | [d1, d2] => { results := [.lit (.bool false)], args := [d1, d2] }
  | _ => none }
def LinePlaysWrongFalsely : Prop := linePlaysRow.holds Try.pinned (OpenSpec.ofChange linePlaysWrong)

/-- 'gristmilllaw15.LineTurned': WHATEVER THE INPUT: true; the input reads as it did. -/
def lineTurnedSpec : ChangeSpec := { name := "lineTurned", fn := fun _ => fun
  | [d1, d2, d3] => { results := [.lit (.bool true)], args := [d1, d2, d3] }
  | _ => none }
def lineTurnedRow : OpenClaim := { program := "ythbifkeadbmcnaa", sum := "ac4a82d573f539344bbee11f2ed1c66cdf17c23f13a7c3a85fefaa6611b771d1", func := "gristmill/gristmilllaw15.LineTurned", spec := "lineTurned", inPlace := ["slices.overlaps[gristmill/api.Seg]"], unfollowed := true, recurses := true, plainKeys := false, apart := false }
def LineTurnedSaid : Prop := lineTurnedRow.holds Try.pinned (OpenSpec.ofChange lineTurnedSpec)

/-- ITS FALSE NEIGHBOUR: 'it returns false'. Refute it at one input. -/
def lineTurnedWrong : ChangeSpec := { name := "lineTurned", fn := fun _ => fun
  | [d1, d2, d3] => { results := [.lit (.bool false)], args := [d1, d2, d3] }
  | _ => none }
def LineTurnedWrongFalsely : Prop := lineTurnedRow.holds Try.pinned (OpenSpec.ofChange lineTurnedWrong)

/-- 'gristmilllaw15.LineCovered': WHATEVER THE INPUT: true; the input reads as it did. -/
def lineCoveredSpec : ChangeSpec := { name := "lineCovered", fn := fun _ => fun
  | [d] => { results := [.lit (.bool true)], args := [d] }
  | _ => none }
def lineCoveredRow : OpenClaim := { program := "ythbifkeadbmcnaa", sum := "ac4a82d573f539344bbee11f2ed1c66cdf17c23f13a7c3a85fefaa6611b771d1", func := "gristmill/gristmilllaw15.LineCovered", spec := "lineCovered", inPlace := ["slices.overlaps[gristmill/api.Seg]"], unfollowed := true, recurses := true, plainKeys := false, apart := false }
def LineCoveredSaid : Prop := lineCoveredRow.holds Try.pinned (OpenSpec.ofChange lineCoveredSpec)

/-- ITS FALSE NEIGHBOUR: 'it returns false'. Refute it at one input. -/
def lineCoveredWrong : ChangeSpec := { name := "lineCovered", fn := fun _ => fun
  | [d] => { results := [.lit (.bool false)], args := [d] }
  | _ => none }
def LineCoveredWrongFalsely : Prop := lineCoveredRow.holds Try.pinned (OpenSpec.ofChange lineCoveredWrong)

/- THE SECOND FORM. 'bulk': how many values and letters a reading holds, each counted each time it is reached (what is shared counts as often as it is met; a slice's spare places count too). A statement '..UptoSaid' is the law's where the arguments, and the package variables that the reading takes, are together of bulk at most 1048576: NARROWER than '..Said'. Prove '..Said' where nothing that the law and all that it calls make is longer than what came in: it says more and counts as full. Else prove '..UptoSaid'. A law counts once. -/
mutual
def uptoBulk {H : Type} : DataW H → Nat
  | .lit (.string bytes) => bytes.length + 1
  | .lit _ => 1
  | .nil => 1
  | .ptr d => uptoBulk d + 1
  | .slice elems spare => uptoBulkAll elems + uptoBulkAll spare + 1
  | .agg parts => uptoBulkAll parts + 1
  | .iface _ d => uptoBulk d + 1
  | .map entries => uptoBulkEntries entries + 1
  | .held _ => 1
def uptoBulkAll {H : Type} : List (DataW H) → Nat
  | [] => 0
  | d :: r => uptoBulk d + uptoBulkAll r
def uptoBulkEntries {H : Type} : List (Lit × DataW H) → Nat
  | [] => 0
  | x :: r => uptoBulkEntry x + uptoBulkEntries r
def uptoBulkEntry {H : Type} : Lit × DataW H → Nat
  | (.string bytes, d) => bytes.length + uptoBulk d + 1
  | (_, d) => uptoBulk d + 1
 end
def uptoSmall : (H : Type) → List (DataW H) → Bool := fun _ ds => decide (uptoBulkAll ds ≤ 1048576)
def OpenSpec.upto (s : _root_.Go.ChangeSpec) : _root_.Go.OpenSpec := { _root_.Go.OpenSpec.ofChange s with cond := some uptoSmall }

/-- 'gristmilllaw15.LineOne', WHERE WHAT IT READS IS OF BULK AT MOST 1048576: true; the input reads as it did. -/
def lineOneUptoRow : OpenClaim := { program := "ythbifkeadbmcnaa", sum := "ac4a82d573f539344bbee11f2ed1c66cdf17c23f13a7c3a85fefaa6611b771d1", func := "gristmill/gristmilllaw15.LineOne", spec := "lineOne", inPlace := ["slices.overlaps[gristmill/api.Seg]"], unfollowed := true, recurses := true, plainKeys := false, apart := false, narrowed := true }
def LineOneUptoSaid : Prop := lineOneUptoRow.holds Try.pinned (OpenSpec.upto lineOneSpec)

/-- 'gristmilllaw15.LineAll', WHERE WHAT IT READS IS OF BULK AT MOST 1048576: true; the input reads as it did. -/
def lineAllUptoRow : OpenClaim := { program := "ythbifkeadbmcnaa", sum := "ac4a82d573f539344bbee11f2ed1c66cdf17c23f13a7c3a85fefaa6611b771d1", func := "gristmill/gristmilllaw15.LineAll", spec := "lineAll", inPlace := ["slices.overlaps[gristmill/api.Seg]"], unfollowed := true, recurses := true, plainKeys := false, apart := false, narrowed := true }
def LineAllUptoSaid : Prop := lineAllUptoRow.holds Try.pinned (OpenSpec.upto lineAllSpec)

/-- 'gristmilllaw15.LineCut', WHERE WHAT IT READS IS OF BULK AT MOST 1048576: true; the input reads as it did. -/
def lineCutUptoRow : OpenClaim := { program := "ythbifkeadbmcnaa", sum := "ac4a82d573f539344bbee11f2ed1c66cdf17c23f13a7c3a85fefaa6611b771d1", func := "gristmill/gristmilllaw15.LineCut", spec := "lineCut", inPlace := ["slices.overlaps[gristmill/api.Seg]"], unfollowed := true, recurses := true, plainKeys := false, apart := false, narrowed := true }
def LineCutUptoSaid : Prop := lineCutUptoRow.holds Try.pinned (OpenSpec.upto lineCutSpec)

/-- 'gristmilllaw15.LineWaits', WHERE WHAT IT READS IS OF BULK AT MOST 1048576: true; the input reads as it did. -/
def lineWaitsUptoRow : OpenClaim := { program := "ythbifkeadbmcnaa", sum := "ac4a82d573f539344bbee11f2ed1c66cdf17c23f13a7c3a85fefaa6611b771d1", func := "gristmill/gristmilllaw15.LineWaits", spec := "lineWaits", inPlace := ["slices.overlaps[gristmill/api.Seg]"], unfollowed := true, recurses := true, plainKeys := false, apart := false, narrowed := true }
def LineWaitsUptoSaid : Prop := lineWaitsUptoRow.holds Try.pinned (OpenSpec.upto lineWaitsSpec)

/-- 'gristmilllaw15.LinePlays', WHERE WHAT IT READS IS OF BULK AT MOST 1048576: true; the input reads as it did. -/
def linePlaysUptoRow : OpenClaim := { program := "ythbifkeadbmcnaa", sum := "ac4a82d573f539344bbee11f2ed1c66cdf17c23f13a7c3a85fefaa6611b771d1", func := "gristmill/gristmilllaw15.LinePlays", spec := "linePlays", inPlace := ["slices.overlaps[gristmill/api.Seg]"], unfollowed := true, recurses := true, plainKeys := false, apart := false, narrowed := true }
def LinePlaysUptoSaid : Prop := linePlaysUptoRow.holds Try.pinned (OpenSpec.upto linePlaysSpec)

/-- 'gristmilllaw15.LineTurned', WHERE WHAT IT READS IS OF BULK AT MOST 1048576: true; the input reads as it did. -/
def lineTurnedUptoRow : OpenClaim := { program := "ythbifkeadbmcnaa", sum := "ac4a82d573f539344bbee11f2ed1c66cdf17c23f13a7c3a85fefaa6611b771d1", func := "gristmill/gristmilllaw15.LineTurned", spec := "lineTurned", inPlace := ["slices.overlaps[gristmill/api.Seg]"], unfollowed := true, recurses := true, plainKeys := false, apart := false, narrowed := true }
def LineTurnedUptoSaid : Prop := lineTurnedUptoRow.holds Try.pinned (OpenSpec.upto lineTurnedSpec)

/-- 'gristmilllaw15.LineCovered', WHERE WHAT IT READS IS OF BULK AT MOST 1048576: true; the input reads as it did. -/
def lineCoveredUptoRow : OpenClaim := { program := "ythbifkeadbmcnaa", sum := "ac4a82d573f539344bbee11f2ed1c66cdf17c23f13a7c3a85fefaa6611b771d1", func := "gristmill/gristmilllaw15.LineCovered", spec := "lineCovered", inPlace := ["slices.overlaps[gristmill/api.Seg]"], unfollowed := true, recurses := true, plainKeys := false, apart := false, narrowed := true }
def LineCoveredUptoSaid : Prop := lineCoveredUptoRow.holds Try.pinned (OpenSpec.upto lineCoveredSpec)

end Rows
end Go.Proofs.Ythbifkeadbmcnaa
