/-
  No cell of these rows narrows 'for every input' (looked for: loops, veiled, ifaces, maps, wideKeys, modest, calm, conditions, laid).
  DERIVED. THE GIVEN ROWS OF THIS SEAT. 6 by the template 'for every input the law returns true; each argument reads behind the call as it read before'; 0 by the template 'total and deterministic' (their statements: YtangfnommhmpeaaTotals.lean).
  GIVEN WITH THE SEED: the statements are not yours to turn. If you find one false, say at which input.
  Laid BY PROGRAM, IN A SANDBOX (cutbox-rows.mjs): the forced cells as the released guide's own fill.sh prints them over the translation 67d4dc754cd6ef24… (all of the seat's roots in one cut). By AI agents, Wed Nov 11 2026. No macro, syntax, notation, axiom, sorry.
-/
import Derived.Test.YtangfnommhmpeaaChecked
import GoSem.Claim
import GoSem.ClaimJoined
import GoSem.ClaimMapViews
import Derived.JoinedTies
import Derived.KernelRfl
namespace Go.Proofs.Ytangfnommhmpeaa
/- THE CELL 'sum', in the pinned program and in every row, IS THE sha256 OF THE DUMP (.gsa) THAT YtangfnommhmpeaaProg.lean LOADS. Nothing in Lean hashes anything: it is a label: what it is worth is what the hold of that sum in a sandbox is worth. -/
noncomputable def Try.pinned : Pinned := { name := "ytangfnommhmpeaa", sum := "67d4dc754cd6ef24e6a9e4975ae268862052a0224b8353331c60d726f0a273b2", checked := Try.checked }
namespace Rows
def none {H : Type} : Left H := { results := [], args := [] }

/-- 'gristmilllaw16.RulesAssigns': WHATEVER THE INPUT: true; the input reads as it did. -/
def rulesAssignsSpec : ChangeSpec := { name := "rulesAssigns", fn := fun _ => fun
  | [d1, d2, d3, d4] => { results := [.lit (.bool true)], args := [d1, d2, d3, d4] }
  | _ => none }
def rulesAssignsRow : OpenClaim := { program := "ytangfnommhmpeaa", sum := "67d4dc754cd6ef24e6a9e4975ae268862052a0224b8353331c60d726f0a273b2", func := "gristmill/gristmilllaw16.RulesAssigns", spec := "rulesAssigns", unfollowed := true, recurses := true, plainKeys := false, apart := false }
def RulesAssignsSaid : Prop := rulesAssignsRow.holds Try.pinned (OpenSpec.ofChange rulesAssignsSpec)

/-- ITS FALSE NEIGHBOUR: 'it returns false'. Refute it at one input. -/
def rulesAssignsWrong : ChangeSpec := { name := "rulesAssigns", fn := fun _ => fun
  | [d1, d2, d3, d4] => { results := [.lit (.bool false)], args := [d1, d2, d3, d4] }
  | _ => none }
def RulesAssignsWrongFalsely : Prop := rulesAssignsRow.holds Try.pinned (OpenSpec.ofChange rulesAssignsWrong)

/-- 'gristmilllaw16.RulesBalances': WHATEVER THE INPUT: true; the input reads as it did. -/
def rulesBalancesSpec : ChangeSpec := { name := "rulesBalances", fn := fun _ => fun
  | [d1, d2, d3, d4] => { results := [.lit (.bool true)], args := [d1, d2, d3, d4] }
  | _ => none }
def rulesBalancesRow : OpenClaim := { program := "ytangfnommhmpeaa", sum := "67d4dc754cd6ef24e6a9e4975ae268862052a0224b8353331c60d726f0a273b2", func := "gristmill/gristmilllaw16.RulesBalances", spec := "rulesBalances", unfollowed := true, recurses := true, plainKeys := false, apart := false }
def RulesBalancesSaid : Prop := rulesBalancesRow.holds Try.pinned (OpenSpec.ofChange rulesBalancesSpec)

/-- ITS FALSE NEIGHBOUR: 'it returns false'. Refute it at one input. -/
def rulesBalancesWrong : ChangeSpec := { name := "rulesBalances", fn := fun _ => fun
  | [d1, d2, d3, d4] => { results := [.lit (.bool false)], args := [d1, d2, d3, d4] }
  | _ => none }
def RulesBalancesWrongFalsely : Prop := rulesBalancesRow.holds Try.pinned (OpenSpec.ofChange rulesBalancesWrong)

/-- 'gristmilllaw16.RulesReaches': WHATEVER THE INPUT: true; the input reads as it did. -/
def rulesReachesSpec : ChangeSpec := { name := "rulesReaches", fn := fun _ => fun
  | [d1, d2, d3, d4] => { results := [.lit (.bool true)], args := [d1, d2, d3, d4] }
  | _ => none }
def rulesReachesRow : OpenClaim := { program := "ytangfnommhmpeaa", sum := "67d4dc754cd6ef24e6a9e4975ae268862052a0224b8353331c60d726f0a273b2", func := "gristmill/gristmilllaw16.RulesReaches", spec := "rulesReaches", unfollowed := true, recurses := true, plainKeys := false, apart := false }
def RulesReachesSaid : Prop := rulesReachesRow.holds Try.pinned (OpenSpec.ofChange rulesReachesSpec)

/-- ITS FALSE NEIGHBOUR: 'it returns false'. Refute it at one input. -/
def rulesReachesWrong : ChangeSpec := { name := "rulesReaches", fn := fun _ => fun
  | [d1, d2, d3, d4] => { results := [.lit (.bool false)], args := [d1, d2, d3, d4] }
  | _ => none }
def RulesReachesWrongFalsely : Prop := rulesReachesRow.holds Try.pinned (OpenSpec.ofChange rulesReachesWrong)

/-- 'gristmilllaw16.RulesKeeps': WHATEVER THE INPUT: true; the input reads as it did. -/
def rulesKeepsSpec : ChangeSpec := { name := "rulesKeeps", fn := fun _ => fun
  | [d1, d2, d3, d4] => { results := [.lit (.bool true)], args := [d1, d2, d3, d4] }
  | _ => none }
def rulesKeepsRow : OpenClaim := { program := "ytangfnommhmpeaa", sum := "67d4dc754cd6ef24e6a9e4975ae268862052a0224b8353331c60d726f0a273b2", func := "gristmill/gristmilllaw16.RulesKeeps", spec := "rulesKeeps", unfollowed := true, recurses := true, plainKeys := false, apart := false }
def RulesKeepsSaid : Prop := rulesKeepsRow.holds Try.pinned (OpenSpec.ofChange rulesKeepsSpec)

/-- ITS FALSE NEIGHBOUR: 'it returns false'. Refute it at one input. -/
def rulesKeepsWrong : ChangeSpec := { name := "rulesKeeps", fn := fun _ => fun
  | [d1, d2, d3, d4] => { results := [.lit (.bool false)], args := [d1, d2, d3, d4] }
  | _ => none }
def RulesKeepsWrongFalsely : Prop := rulesKeepsRow.holds Try.pinned (OpenSpec.ofChange rulesKeepsWrong)

/-- 'gristmilllaw16.RulesEvens': WHATEVER THE INPUT: true; the input reads as it did. -/
def rulesEvensSpec : ChangeSpec := { name := "rulesEvens", fn := fun _ => fun
  | [d1, d2, d3] => { results := [.lit (.bool true)], args := [d1, d2, d3] }
  | _ => none }
def rulesEvensRow : OpenClaim := { program := "ytangfnommhmpeaa", sum := "67d4dc754cd6ef24e6a9e4975ae268862052a0224b8353331c60d726f0a273b2", func := "gristmill/gristmilllaw16.RulesEvens", spec := "rulesEvens", unfollowed := true, recurses := true, plainKeys := false, apart := false }
def RulesEvensSaid : Prop := rulesEvensRow.holds Try.pinned (OpenSpec.ofChange rulesEvensSpec)

/-- ITS FALSE NEIGHBOUR: 'it returns false'. Refute it at one input. -/
def rulesEvensWrong : ChangeSpec := { name := "rulesEvens", fn := fun _ => fun
  | [d1, d2, d3] => { results := [.lit (.bool false)], args := [d1, d2, d3] }
  | _ => none }
def RulesEvensWrongFalsely : Prop := rulesEvensRow.holds Try.pinned (OpenSpec.ofChange rulesEvensWrong)

/-- 'gristmilllaw16.RulesTurned': WHATEVER THE INPUT: true; the input reads as it did. -/
def rulesTurnedSpec : ChangeSpec := { name := "rulesTurned", fn := fun _ => fun
  | [d1, d2, d3, d4, d5] => { results := [.lit (.bool true)], args := [d1, d2, d3, d4, d5] }
  | _ => none }
def rulesTurnedRow : OpenClaim := { program := "ytangfnommhmpeaa", sum := "67d4dc754cd6ef24e6a9e4975ae268862052a0224b8353331c60d726f0a273b2", func := "gristmill/gristmilllaw16.RulesTurned", spec := "rulesTurned", unfollowed := true, recurses := true, plainKeys := false, apart := false }
def RulesTurnedSaid : Prop := rulesTurnedRow.holds Try.pinned (OpenSpec.ofChange rulesTurnedSpec)

/-- ITS FALSE NEIGHBOUR: 'it returns false'. Refute it at one input. -/
def rulesTurnedWrong : ChangeSpec := { name := "rulesTurned", fn := fun _ => fun
  | [d1, d2, d3, d4, d5] => { results := [.lit (.bool false)], args := [d1, d2, d3, d4, d5] }
  | _ => none }
def RulesTurnedWrongFalsely : Prop := rulesTurnedRow.holds Try.pinned (OpenSpec.ofChange rulesTurnedWrong)

/- THE SECOND FORM. 'bulk': how many values and letters a reading holds, each counted each time it is reached (what is shared counts as often as it is met; a slice's spare places count too). A statement '..UptoSaid' is the law's where the arguments, and the package variables that the reading takes, are together of bulk at most 1048576: NARROWER than '..Said'. Prove '..Said' where nothing that the law and all that it calls make is longer than what came in: it says more and counts as full. Else prove '..UptoSaid'. A law counts once. -/
mutual
def uptoBulk {H : Type} : DataW H → Nat
  | .lit (.string bytes) => bytes.length + 1
  | .lit _ => 1
  | .nil => 1
  | .ptr d => uptoBulk d + 1
  | .slice elems spare => uptoBulkAll elems + uptoBulkAll spare + 1
  | .agg parts => uptoBulkAll parts + 1
  | .iface _ d => uptoBulk d + 1
  | .map entries => uptoBulkEntries entries + 1
  | .held _ => 1
def uptoBulkAll {H : Type} : List (DataW H) → Nat
  | [] => 0
  | d :: r => uptoBulk d + uptoBulkAll r
def uptoBulkEntries {H : Type} : List (Lit × DataW H) → Nat
  | [] => 0
  | x :: r => uptoBulkEntry x + uptoBulkEntries r
def uptoBulkEntry {H : Type} : Lit × DataW H → Nat
  | (.string bytes, d) => bytes.length + uptoBulk d + 1
  | (_, d) => uptoBulk d + 1
 end
def uptoSmall : (H : Type) → List (DataW H) → Bool := fun _ ds => decide (uptoBulkAll ds ≤ 1048576)
def OpenSpec.upto (s : _root_.Go.ChangeSpec) : _root_.Go.OpenSpec := { _root_.Go.OpenSpec.ofChange s with cond := some uptoSmall }

/-- 'gristmilllaw16.RulesAssigns', WHERE WHAT IT READS IS OF BULK AT MOST 1048576: true; the input reads as it did. -/
def rulesAssignsUptoRow : OpenClaim := { program := "ytangfnommhmpeaa", sum := "67d4dc754cd6ef24e6a9e4975ae268862052a0224b8353331c60d726f0a273b2", func := "gristmill/gristmilllaw16.RulesAssigns", spec := "rulesAssigns", unfollowed := true, recurses := true, plainKeys := false, apart := false, narrowed := true }
def RulesAssignsUptoSaid : Prop := rulesAssignsUptoRow.holds Try.pinned (OpenSpec.upto rulesAssignsSpec)

/-- 'gristmilllaw16.RulesBalances', WHERE WHAT IT READS IS OF BULK AT MOST 1048576: true; the input reads as it did. -/
def rulesBalancesUptoRow : OpenClaim := { program := "ytangfnommhmpeaa", sum := "67d4dc754cd6ef24e6a9e4975ae268862052a0224b8353331c60d726f0a273b2", func := "gristmill/gristmilllaw16.RulesBalances", spec := "rulesBalances", unfollowed := true, recurses := true, plainKeys := false, apart := false, narrowed := true }
def RulesBalancesUptoSaid : Prop := rulesBalancesUptoRow.holds Try.pinned (OpenSpec.upto rulesBalancesSpec)

/-- 'gristmilllaw16.RulesReaches', WHERE WHAT IT READS IS OF BULK AT MOST 1048576: true; the input reads as it did. -/
def rulesReachesUptoRow : OpenClaim := { program := "ytangfnommhmpeaa", sum := "67d4dc754cd6ef24e6a9e4975ae268862052a0224b8353331c60d726f0a273b2", func := "gristmill/gristmilllaw16.RulesReaches", spec := "rulesReaches", unfollowed := true, recurses := true, plainKeys := false, apart := false, narrowed := true }
def RulesReachesUptoSaid : Prop := rulesReachesUptoRow.holds Try.pinned (OpenSpec.upto rulesReachesSpec)

/-- 'gristmilllaw16.RulesKeeps', WHERE WHAT IT READS IS OF BULK AT MOST 1048576: true; the input reads as it did. -/
def rulesKeepsUptoRow : OpenClaim := { program := "ytangfnommhmpeaa", sum := "67d4dc754cd6ef24e6a9e4975ae268862052a0224b8353331c60d726f0a273b2", func := "gristmill/gristmilllaw16.RulesKeeps", spec := "rulesKeeps", unfollowed := true, recurses := true, plainKeys := false, apart := false, narrowed := true }
def RulesKeepsUptoSaid : Prop := rulesKeepsUptoRow.holds Try.pinned (OpenSpec.upto rulesKeepsSpec)

/-- 'gristmilllaw16.RulesEvens', WHERE WHAT IT READS IS OF BULK AT MOST 1048576: true; the input reads as it did. -/
def rulesEvensUptoRow : OpenClaim := { program := "ytangfnommhmpeaa", sum := "67d4dc754cd6ef24e6a9e4975ae268862052a0224b8353331c60d726f0a273b2", func := "gristmill/gristmilllaw16.RulesEvens", spec := "rulesEvens", unfollowed := true, recurses := true, plainKeys := false, apart := false, narrowed := true }
def RulesEvensUptoSaid : Prop := rulesEvensUptoRow.holds Try.pinned (OpenSpec.upto rulesEvensSpec)

/-- 'gristmilllaw16.RulesTurned', WHERE WHAT IT READS IS OF BULK AT MOST 1048576: true; the input reads as it did. -/
def rulesTurnedUptoRow : OpenClaim := { program := "ytangfnommhmpeaa", sum := "67d4dc754cd6ef24e6a9e4975ae268862052a0224b8353331c60d726f0a273b2", func := "gristmill/gristmilllaw16.RulesTurned", spec := "rulesTurned", unfollowed := true, recurses := true, plainKeys := false, apart := false, narrowed := true }
def RulesTurnedUptoSaid : Prop := rulesTurnedUptoRow.holds Try.pinned (OpenSpec.upto rulesTurnedSpec)

end Rows
end Go.Proofs.Ytangfnommhmpeaa
