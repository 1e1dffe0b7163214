/-
  No cell of these rows narrows 'for every input' (looked for: loops, veiled, ifaces, maps, wideKeys, modest, calm, conditions, laid).
  DERIVED. THE GIVEN ROWS OF THIS SEAT. 7 by the template 'for every input the law returns true; each argument reads behind the call as it read before'; 0 by the template 'total and deterministic' (their statements: YtljlihimmcmlmaaTotals.lean).
  GIVEN WITH THE SEED: the statements are not yours to turn. If you find one false, say at which input.
  Laid BY PROGRAM, IN A SANDBOX (cutbox-rows.mjs): the forced cells as the released guide's own fill.sh prints them over the translation 8b8fa07a1745720f… (all of the seat's roots in one cut). By AI agents, Wed Nov 11 2026. No macro, syntax, notation, axiom, sorry.
-/
import Derived.Test.YtljlihimmcmlmaaChecked
import GoSem.Claim
import GoSem.ClaimJoined
import GoSem.ClaimMapViews
import Derived.JoinedTies
import Derived.KernelRfl
namespace Go.Proofs.Ytljlihimmcmlmaa
/- THE CELL 'sum', in the pinned program and in every row, IS THE sha256 OF THE DUMP (.gsa) THAT YtljlihimmcmlmaaProg.lean LOADS. Nothing in Lean hashes anything: it is a label: what it is worth is what the hold of that sum in a sandbox is worth. -/
noncomputable def Try.pinned : Pinned := { name := "ytljlihimmcmlmaa", sum := "8b8fa07a1745720fb542d77be8cb4df6a1ea2ab23d870fff9119d661ddb2e345", checked := Try.checked }
namespace Rows
def none {H : Type} : Left H := { results := [], args := [] }

/-- 'porismlaw09.StrataMatchesReference': WHATEVER THE INPUT: true; the input reads as it did. -/
def strataMatchesReferenceSpec : ChangeSpec := { name := "strataMatchesReference", fn := fun _ => fun
  | [d1, d2] => { results := [.lit (.bool true)], args := [d1, d2] }
  | _ => none }
def strataMatchesReferenceRow : OpenClaim := { program := "ytljlihimmcmlmaa", sum := "8b8fa07a1745720fb542d77be8cb4df6a1ea2ab23d870fff9119d661ddb2e345", func := "porism/porismlaw09.StrataMatchesReference", spec := "strataMatchesReference", unfollowed := true, recurses := true, plainKeys := false, apart := false }
def StrataMatchesReferenceSaid : Prop := strataMatchesReferenceRow.holds Try.pinned (OpenSpec.ofChange strataMatchesReferenceSpec)

/-- ITS FALSE NEIGHBOUR: 'it returns false'. Refute it at one input. -/
def strataMatchesReferenceWrong : ChangeSpec := { name := "strataMatchesReference", fn := fun _ => fun
  | [d1, d2] => { results := [.lit (.bool false)], args := [d1, d2] }
  | _ => none }
def StrataMatchesReferenceWrongFalsely : Prop := strataMatchesReferenceRow.holds Try.pinned (OpenSpec.ofChange strataMatchesReferenceWrong)

/-- 'porismlaw09.StrataComponents': WHATEVER THE INPUT: true; the input reads as it did. -/
def strataComponentsSpec : ChangeSpec := { name := "strataComponents", fn := fun _ => fun
  | [d] => { results := [.lit (.bool true)], args := [d] }
  | _ => none }
def strataComponentsRow : OpenClaim := { program := "ytljlihimmcmlmaa", sum := "8b8fa07a1745720fb542d77be8cb4df6a1ea2ab23d870fff9119d661ddb2e345", func := "porism/porismlaw09.StrataComponents", spec := "strataComponents", unfollowed := true, recurses := true, plainKeys := false, apart := false }
def StrataComponentsSaid : Prop := strataComponentsRow.holds Try.pinned (OpenSpec.ofChange strataComponentsSpec)

/-- ITS FALSE NEIGHBOUR: 'it returns false'. Refute it at one input. -/
def strataComponentsWrong : ChangeSpec := { name := "strataComponents", fn := fun _ => fun
  | [d] => { results := [.lit (.bool false)], args := [d] }
  | _ => none }
def StrataComponentsWrongFalsely : Prop := strataComponentsRow.holds Try.pinned (OpenSpec.ofChange strataComponentsWrong)

/-- 'porismlaw09.StrataLevels': WHATEVER THE INPUT: true; the input reads as it did. -/
def strataLevelsSpec : ChangeSpec := { name := "strataLevels", fn := fun _ => fun
  | [d] => { results := [.lit (.bool true)], args := [d] }
  | _ => none }
def strataLevelsRow : OpenClaim := { program := "ytljlihimmcmlmaa", sum := "8b8fa07a1745720fb542d77be8cb4df6a1ea2ab23d870fff9119d661ddb2e345", func := "porism/porismlaw09.StrataLevels", spec := "strataLevels", unfollowed := true, recurses := true, plainKeys := false, apart := false }
def StrataLevelsSaid : Prop := strataLevelsRow.holds Try.pinned (OpenSpec.ofChange strataLevelsSpec)

/-- ITS FALSE NEIGHBOUR: 'it returns false'. Refute it at one input. -/
def strataLevelsWrong : ChangeSpec := { name := "strataLevels", fn := fun _ => fun
  | [d] => { results := [.lit (.bool false)], args := [d] }
  | _ => none }
def StrataLevelsWrongFalsely : Prop := strataLevelsRow.holds Try.pinned (OpenSpec.ofChange strataLevelsWrong)

/-- 'porismlaw09.StrataRecursion': WHATEVER THE INPUT: true; the input reads as it did. -/
def strataRecursionSpec : ChangeSpec := { name := "strataRecursion", fn := fun _ => fun
  | [d] => { results := [.lit (.bool true)], args := [d] }
  | _ => none }
def strataRecursionRow : OpenClaim := { program := "ytljlihimmcmlmaa", sum := "8b8fa07a1745720fb542d77be8cb4df6a1ea2ab23d870fff9119d661ddb2e345", func := "porism/porismlaw09.StrataRecursion", spec := "strataRecursion", unfollowed := true, recurses := true, plainKeys := false, apart := false }
def StrataRecursionSaid : Prop := strataRecursionRow.holds Try.pinned (OpenSpec.ofChange strataRecursionSpec)

/-- ITS FALSE NEIGHBOUR: 'it returns false'. Refute it at one input. -/
def strataRecursionWrong : ChangeSpec := { name := "strataRecursion", fn := fun _ => fun
  | [d] => { results := [.lit (.bool false)], args := [d] }
  | _ => none }
def StrataRecursionWrongFalsely : Prop := strataRecursionRow.holds Try.pinned (OpenSpec.ofChange strataRecursionWrong)

/-- 'porismlaw09.StrataPositive': WHATEVER THE INPUT: true; the input reads as it did. -/
def strataPositiveSpec : ChangeSpec := { name := "strataPositive", fn := fun _ => fun
  | [d] => { results := [.lit (.bool true)], args := [d] }
  | _ => none }
def strataPositiveRow : OpenClaim := { program := "ytljlihimmcmlmaa", sum := "8b8fa07a1745720fb542d77be8cb4df6a1ea2ab23d870fff9119d661ddb2e345", func := "porism/porismlaw09.StrataPositive", spec := "strataPositive", unfollowed := true, recurses := true, plainKeys := false, apart := false }
def StrataPositiveSaid : Prop := strataPositiveRow.holds Try.pinned (OpenSpec.ofChange strataPositiveSpec)

/-- ITS FALSE NEIGHBOUR: 'it returns false'. Refute it at one input. -/
def strataPositiveWrong : ChangeSpec := { name := "strataPositive", fn := fun _ => fun
  | [d] => { results := [.lit (.bool false)], args := [d] }
  | _ => none }
def StrataPositiveWrongFalsely : Prop := strataPositiveRow.holds Try.pinned (OpenSpec.ofChange strataPositiveWrong)

/-- 'porismlaw09.StrataNames': WHATEVER THE INPUT: true; the input reads as it did. -/
def strataNamesSpec : ChangeSpec := { name := "strataNames", fn := fun _ => fun
  | [d1, d2] => { results := [.lit (.bool true)], args := [d1, d2] }
  | _ => none }
def strataNamesRow : OpenClaim := { program := "ytljlihimmcmlmaa", sum := "8b8fa07a1745720fb542d77be8cb4df6a1ea2ab23d870fff9119d661ddb2e345", func := "porism/porismlaw09.StrataNames", spec := "strataNames", unfollowed := true, recurses := true, plainKeys := false, apart := false }
def StrataNamesSaid : Prop := strataNamesRow.holds Try.pinned (OpenSpec.ofChange strataNamesSpec)

/-- ITS FALSE NEIGHBOUR: 'it returns false'. Refute it at one input. -/
def strataNamesWrong : ChangeSpec := { name := "strataNames", fn := fun _ => fun
  | [d1, d2] => { results := [.lit (.bool false)], args := [d1, d2] }
  | _ => none }
def StrataNamesWrongFalsely : Prop := strataNamesRow.holds Try.pinned (OpenSpec.ofChange strataNamesWrong)

/-- 'porismlaw09.StrataRules': WHATEVER THE INPUT: true; the input reads as it did. -/
def strataRulesSpec : ChangeSpec := { name := "strataRules", fn := fun _ => fun
  | [d] => { results := [.lit (.bool true)], args := [d] }
  | _ => none }
def strataRulesRow : OpenClaim := { program := "ytljlihimmcmlmaa", sum := "8b8fa07a1745720fb542d77be8cb4df6a1ea2ab23d870fff9119d661ddb2e345", func := "porism/porismlaw09.StrataRules", spec := "strataRules", unfollowed := true, recurses := true, plainKeys := false, apart := false }
def StrataRulesSaid : Prop := strataRulesRow.holds Try.pinned (OpenSpec.ofChange strataRulesSpec)

/-- ITS FALSE NEIGHBOUR: 'it returns false'. Refute it at one input. -/
def strataRulesWrong : ChangeSpec := { name := "strataRules", fn := fun _ => fun
  | [d] => { results := [.lit (.bool false)], args := [d] }
  | _ => none }
def StrataRulesWrongFalsely : Prop := strataRulesRow.holds Try.pinned (OpenSpec.ofChange strataRulesWrong)

/- THE SECOND FORM. 'bulk': how many values and letters a reading holds, each counted each time it is reached (what is shared counts as often as it is met; a slice's spare places count too). A statement '..UptoSaid' is the law's where the arguments, and the package variables that the reading takes, are together of bulk at most 1048576: NARROWER than '..Said'. Prove '..Said' where nothing that the law and all that it calls make is longer than what came in: it says more and counts as full. Else prove '..UptoSaid'. A law counts once. -/
mutual
def uptoBulk {H : Type} : DataW H → Nat
  | .lit (.string bytes) => bytes.length + 1
  | .lit _ => 1
  | .nil => 1
  | .ptr d => uptoBulk d + 1
  | .slice elems spare => uptoBulkAll elems + uptoBulkAll spare + 1
  | .agg parts => uptoBulkAll parts + 1
  | .iface _ d => uptoBulk d + 1
  | .map entries => uptoBulkEntries entries + 1
  | .held _ => 1
def uptoBulkAll {H : Type} : List (DataW H) → Nat
  | [] => 0
  | d :: r => uptoBulk d + uptoBulkAll r
def uptoBulkEntries {H : Type} : List (Lit × DataW H) → Nat
  | [] => 0
  | x :: r => uptoBulkEntry x + uptoBulkEntries r
def uptoBulkEntry {H : Type} : Lit × DataW H → Nat
  | (.string bytes, d) => bytes.length + uptoBulk d + 1
  | (_, d) => uptoBulk d + 1
 end
def uptoSmall : (H : Type) → List (DataW H) → Bool := fun _ ds => decide (uptoBulkAll ds ≤ 1048576)
def OpenSpec.upto (s : _root_.Go.ChangeSpec) : _root_.Go.OpenSpec := { _root_.Go.OpenSpec.ofChange s with cond := some uptoSmall }

/-- 'porismlaw09.StrataMatchesReference', WHERE WHAT IT READS IS OF BULK AT MOST 1048576: true; the input reads as it did. -/
def strataMatchesReferenceUptoRow : OpenClaim := { program := "ytljlihimmcmlmaa", sum := "8b8fa07a1745720fb542d77be8cb4df6a1ea2ab23d870fff9119d661ddb2e345", func := "porism/porismlaw09.StrataMatchesReference", spec := "strataMatchesReference", unfollowed := true, recurses := true, plainKeys := false, apart := false, narrowed := true }
def StrataMatchesReferenceUptoSaid : Prop := strataMatchesReferenceUptoRow.holds Try.pinned (OpenSpec.upto strataMatchesReferenceSpec)

/-- 'porismlaw09.StrataComponents', WHERE WHAT IT READS IS OF BULK AT MOST 1048576: true; the input reads as it did. -/
def strataComponentsUptoRow : OpenClaim := { program := "ytljlihimmcmlmaa", sum := "8b8fa07a1745720fb542d77be8cb4df6a1ea2ab23d870fff9119d661ddb2e345", func := "porism/porismlaw09.StrataComponents", spec := "strataComponents", unfollowed := true, recurses := true, plainKeys := false, apart := false, narrowed := true }
def StrataComponentsUptoSaid : Prop := strataComponentsUptoRow.holds Try.pinned (OpenSpec.upto strataComponentsSpec)

/-- 'porismlaw09.StrataLevels', WHERE WHAT IT READS IS OF BULK AT MOST 1048576: true; the input reads as it did. -/
def strataLevelsUptoRow : OpenClaim := { program := "ytljlihimmcmlmaa", sum := "8b8fa07a1745720fb542d77be8cb4df6a1ea2ab23d870fff9119d661ddb2e345", func := "porism/porismlaw09.StrataLevels", spec := "strataLevels", unfollowed := true, recurses := true, plainKeys := false, apart := false, narrowed := true }
def StrataLevelsUptoSaid : Prop := strataLevelsUptoRow.holds Try.pinned (OpenSpec.upto strataLevelsSpec)

/-- 'porismlaw09.StrataRecursion', WHERE WHAT IT READS IS OF BULK AT MOST 1048576: true; the input reads as it did. -/
def strataRecursionUptoRow : OpenClaim := { program := "ytljlihimmcmlmaa", sum := "8b8fa07a1745720fb542d77be8cb4df6a1ea2ab23d870fff9119d661ddb2e345", func := "porism/porismlaw09.StrataRecursion", spec := "strataRecursion", unfollowed := true, recurses := true, plainKeys := false, apart := false, narrowed := true }
def StrataRecursionUptoSaid : Prop := strataRecursionUptoRow.holds Try.pinned (OpenSpec.upto strataRecursionSpec)

/-- 'porismlaw09.StrataPositive', WHERE WHAT IT READS IS OF BULK AT MOST 1048576: true; the input reads as it did. -/
def strataPositiveUptoRow : OpenClaim := { program := "ytljlihimmcmlmaa", sum := "8b8fa07a1745720fb542d77be8cb4df6a1ea2ab23d870fff9119d661ddb2e345", func := "porism/porismlaw09.StrataPositive", spec := "strataPositive", unfollowed := true, recurses := true, plainKeys := false, apart := false, narrowed := true }
def StrataPositiveUptoSaid : Prop := strataPositiveUptoRow.holds Try.pinned (OpenSpec.upto strataPositiveSpec)

/-- 'porismlaw09.StrataNames', WHERE WHAT IT READS IS OF BULK AT MOST 1048576: true; the input reads as it did. -/
def strataNamesUptoRow : OpenClaim := { program := "ytljlihimmcmlmaa", sum := "8b8fa07a1745720fb542d77be8cb4df6a1ea2ab23d870fff9119d661ddb2e345", func := "porism/porismlaw09.StrataNames", spec := "strataNames", unfollowed := true, recurses := true, plainKeys := false, apart := false, narrowed := true }
def StrataNamesUptoSaid : Prop := strataNamesUptoRow.holds Try.pinned (OpenSpec.upto strataNamesSpec)

/-- 'porismlaw09.StrataRules', WHERE WHAT IT READS IS OF BULK AT MOST 1048576: true; the input reads as it did. -/
def strataRulesUptoRow : OpenClaim := { program := "ytljlihimmcmlmaa", sum := "8b8fa07a1745720fb542d77be8cb4df6a1ea2ab23d870fff9119d661ddb2e345", func := "porism/porismlaw09.StrataRules", spec := "strataRules", unfollowed := true, recurses := true, plainKeys := false, apart := false, narrowed := true }
def StrataRulesUptoSaid : Prop := strataRulesUptoRow.holds Try.pinned (OpenSpec.upto strataRulesSpec)

end Rows
end Go.Proofs.Ytljlihimmcmlmaa
