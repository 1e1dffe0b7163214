/-
  No cell of these rows narrows 'for every input' (looked for: loops, veiled, ifaces, maps, wideKeys, modest, calm, conditions, laid).
  DERIVED. THE GIVEN ROWS OF THIS SEAT. 4 by the template 'for every input the law returns true; each argument reads behind the call as it read before'; 0 by the template 'total and deterministic' (their statements: YtphmicbpkljmfaaTotals.lean).
  GIVEN WITH THE SEED: the statements are not yours to turn. If you find one false, say at which input.
  Laid BY PROGRAM, IN A SANDBOX (cutbox-rows.mjs): the forced cells as the released guide's own fill.sh prints them over the translation 54e19b5efd9b2ffd… (all of the seat's roots in one cut). By AI agents, Wed Nov 11 2026. No macro, syntax, notation, axiom, sorry.
-/
import Derived.Test.YtphmicbpkljmfaaChecked
import GoSem.Claim
import GoSem.ClaimJoined
import GoSem.ClaimMapViews
import Derived.JoinedTies
import Derived.KernelRfl
namespace Go.Proofs.Ytphmicbpkljmfaa
/- THE CELL 'sum', in the pinned program and in every row, IS THE sha256 OF THE DUMP (.gsa) THAT YtphmicbpkljmfaaProg.lean LOADS. Nothing in Lean hashes anything: it is a label: what it is worth is what the hold of that sum in a sandbox is worth. -/
noncomputable def Try.pinned : Pinned := { name := "ytphmicbpkljmfaa", sum := "54e19b5efd9b2ffd656d0327debf167accebb9babe20b7db1d6ce2831be4f2dc", checked := Try.checked }
namespace Rows
def none {H : Type} : Left H := { results := [], args := [] }

/-- 'porismlaw29.SemiringTrust': WHATEVER THE INPUT: true; the input reads as it did. -/
def semiringTrustSpec : ChangeSpec := { name := "semiringTrust", fn := fun _ => fun
  | [d1, d2, d3, d4] => { results := [.lit (.bool true)], args := [d1, d2, d3, d4] }
  | _ => none }
def semiringTrustRow : OpenClaim := { program := "ytphmicbpkljmfaa", sum := "54e19b5efd9b2ffd656d0327debf167accebb9babe20b7db1d6ce2831be4f2dc", func := "porism/porismlaw29.SemiringTrust", spec := "semiringTrust", unfollowed := true, recurses := true, plainKeys := false, apart := false }
def SemiringTrustSaid : Prop := semiringTrustRow.holds Try.pinned (OpenSpec.ofChange semiringTrustSpec)

/-- ITS FALSE NEIGHBOUR: 'it returns false'. Refute it at one input. -/
def semiringTrustWrong : ChangeSpec := { name := "semiringTrust", fn := fun _ => fun
  | [d1, d2, d3, d4] => { results := [.lit (.bool false)], args := [d1, d2, d3, d4] }
  | _ => none }
def SemiringTrustWrongFalsely : Prop := semiringTrustRow.holds Try.pinned (OpenSpec.ofChange semiringTrustWrong)

/-- 'porismlaw29.SemiringWitnesses': WHATEVER THE INPUT: true; the input reads as it did. -/
def semiringWitnessesSpec : ChangeSpec := { name := "semiringWitnesses", fn := fun _ => fun
  | [d1, d2, d3] => { results := [.lit (.bool true)], args := [d1, d2, d3] }
  | _ => none }
def semiringWitnessesRow : OpenClaim := { program := "ytphmicbpkljmfaa", sum := "54e19b5efd9b2ffd656d0327debf167accebb9babe20b7db1d6ce2831be4f2dc", func := "porism/porismlaw29.SemiringWitnesses", spec := "semiringWitnesses", unfollowed := true, recurses := true, plainKeys := false, apart := false }
def SemiringWitnessesSaid : Prop := semiringWitnessesRow.holds Try.pinned (OpenSpec.ofChange semiringWitnessesSpec)

/-- ITS FALSE NEIGHBOUR: 'it returns false'. Refute it at one input. -/
def semiringWitnessesWrong : ChangeSpec := { name := "semiringWitnesses", fn := fun _ => fun
  | [d1, d2, d3] => { results := [.lit (.bool false)], args := [d1, d2, d3] }
  | _ => none }
def SemiringWitnessesWrongFalsely : Prop := semiringWitnessesRow.holds Try.pinned (OpenSpec.ofChange semiringWitnessesWrong)

/-- 'porismlaw29.SemiringCheapest': WHATEVER THE INPUT: true; the input reads as it did. -/
def semiringCheapestSpec : ChangeSpec := { name := "semiringCheapest", fn := fun _ => fun
  | [d1, d2, d3, d4, d5] => { results := [.lit (.bool true)], args := [d1, d2, d3, d4, d5] }
  | _ => none }
def semiringCheapestRow : OpenClaim := { program := "ytphmicbpkljmfaa", sum := "54e19b5efd9b2ffd656d0327debf167accebb9babe20b7db1d6ce2831be4f2dc", func := "porism/porismlaw29.SemiringCheapest", spec := "semiringCheapest", unfollowed := true, recurses := true, plainKeys := false, apart := false }
def SemiringCheapestSaid : Prop := semiringCheapestRow.holds Try.pinned (OpenSpec.ofChange semiringCheapestSpec)

/-- ITS FALSE NEIGHBOUR: 'it returns false'. Refute it at one input. -/
def semiringCheapestWrong : ChangeSpec := { name := "semiringCheapest", fn := fun _ => fun
  | [d1, d2, d3, d4, d5] => { results := [.lit (.bool false)], args := [d1, d2, d3, d4, d5] }
  | _ => none }
def SemiringCheapestWrongFalsely : Prop := semiringCheapestRow.holds Try.pinned (OpenSpec.ofChange semiringCheapestWrong)

/-- 'porismlaw29.SemiringCritical': WHATEVER THE INPUT: true; the input reads as it did. -/
def semiringCriticalSpec : ChangeSpec := { name := "semiringCritical", fn := fun _ => fun
  | [d1, d2, d3] => { results := [.lit (.bool true)], args := [d1, d2, d3] }
  | _ => none }
def semiringCriticalRow : OpenClaim := { program := "ytphmicbpkljmfaa", sum := "54e19b5efd9b2ffd656d0327debf167accebb9babe20b7db1d6ce2831be4f2dc", func := "porism/porismlaw29.SemiringCritical", spec := "semiringCritical", unfollowed := true, recurses := true, plainKeys := false, apart := false }
def SemiringCriticalSaid : Prop := semiringCriticalRow.holds Try.pinned (OpenSpec.ofChange semiringCriticalSpec)

/-- ITS FALSE NEIGHBOUR: 'it returns false'. Refute it at one input. -/
def semiringCriticalWrong : ChangeSpec := { name := "semiringCritical", fn := fun _ => fun
  | [d1, d2, d3] => { results := [.lit (.bool false)], args := [d1, d2, d3] }
  | _ => none }
def SemiringCriticalWrongFalsely : Prop := semiringCriticalRow.holds Try.pinned (OpenSpec.ofChange semiringCriticalWrong)

/- THE SECOND FORM. 'bulk': how many values and letters a reading holds, each counted each time it is reached (what is shared counts as often as it is met; a slice's spare places count too). A statement '..UptoSaid' is the law's where the arguments, and the package variables that the reading takes, are together of bulk at most 1048576: NARROWER than '..Said'. Prove '..Said' where nothing that the law and all that it calls make is longer than what came in: it says more and counts as full. Else prove '..UptoSaid'. A law counts once. -/
mutual
def uptoBulk {H : Type} : DataW H → Nat
  | .lit (.string bytes) => bytes.length + 1
  | .lit _ => 1
  | .nil => 1
  | .ptr d => uptoBulk d + 1
  | .slice elems spare => uptoBulkAll elems + uptoBulkAll spare + 1
  | .agg parts => uptoBulkAll parts + 1
  | .iface _ d => uptoBulk d + 1
  | .map entries => uptoBulkEntries entries + 1
  | .held _ => 1
def uptoBulkAll {H : Type} : List (DataW H) → Nat
  | [] => 0
  | d :: r => uptoBulk d + uptoBulkAll r
def uptoBulkEntries {H : Type} : List (Lit × DataW H) → Nat
  | [] => 0
  | x :: r => uptoBulkEntry x + uptoBulkEntries r
def uptoBulkEntry {H : Type} : Lit × DataW H → Nat
  | (.string bytes, d) => bytes.length + uptoBulk d + 1
  | (_, d) => uptoBulk d + 1
 end
def uptoSmall : (H : Type) → List (DataW H) → Bool := fun _ ds => decide (uptoBulkAll ds ≤ 1048576)
def OpenSpec.upto (s : _root_.Go.ChangeSpec) : _root_.Go.OpenSpec := { _root_.Go.OpenSpec.ofChange s with cond := some uptoSmall }

/-- 'porismlaw29.SemiringTrust', WHERE WHAT IT READS IS OF BULK AT MOST 1048576: true; the input reads as it did. -/
def semiringTrustUptoRow : OpenClaim := { program := "ytphmicbpkljmfaa", sum := "54e19b5efd9b2ffd656d0327debf167accebb9babe20b7db1d6ce2831be4f2dc", func := "porism/porismlaw29.SemiringTrust", spec := "semiringTrust", unfollowed := true, recurses := true, plainKeys := false, apart := false, narrowed := true }
def SemiringTrustUptoSaid : Prop := semiringTrustUptoRow.holds Try.pinned (OpenSpec.upto semiringTrustSpec)

/-- 'porismlaw29.SemiringWitnesses', WHERE WHAT IT READS IS OF BULK AT MOST 1048576: true; the input reads as it did. -/
def semiringWitnessesUptoRow : OpenClaim := { program := "ytphmicbpkljmfaa", sum := "54e19b5efd9b2ffd656d0327debf167accebb9babe20b7db1d6ce2831be4f2dc", func := "porism/porismlaw29.SemiringWitnesses", spec := "semiringWitnesses", unfollowed := true, recurses := true, plainKeys := false, apart := false, narrowed := true }
def SemiringWitnessesUptoSaid : Prop := semiringWitnessesUptoRow.holds Try.pinned (OpenSpec.upto semiringWitnessesSpec)

/-- 'porismlaw29.SemiringCheapest', WHERE WHAT IT READS IS OF BULK AT MOST 1048576: true; the input reads as it did. -/
def semiringCheapestUptoRow : OpenClaim := { program := "ytphmicbpkljmfaa", sum := "54e19b5efd9b2ffd656d0327debf167accebb9babe20b7db1d6ce2831be4f2dc", func := "porism/porismlaw29.SemiringCheapest", spec := "semiringCheapest", unfollowed := true, recurses := true, plainKeys := false, apart := false, narrowed := true }
def SemiringCheapestUptoSaid : Prop := semiringCheapestUptoRow.holds Try.pinned (OpenSpec.upto semiringCheapestSpec)

/-- 'porismlaw29.SemiringCritical', WHERE WHAT IT READS IS OF BULK AT MOST 1048576: true; the input reads as it did. -/
def semiringCriticalUptoRow : OpenClaim := { program := "ytphmicbpkljmfaa", sum := "54e19b5efd9b2ffd656d0327debf167accebb9babe20b7db1d6ce2831be4f2dc", func := "porism/porismlaw29.SemiringCritical", spec := "semiringCritical", unfollowed := true, recurses := true, plainKeys := false, apart := false, narrowed := true }
def SemiringCriticalUptoSaid : Prop := semiringCriticalUptoRow.holds Try.pinned (OpenSpec.upto semiringCriticalSpec)

end Rows
end Go.Proofs.Ytphmicbpkljmfaa
