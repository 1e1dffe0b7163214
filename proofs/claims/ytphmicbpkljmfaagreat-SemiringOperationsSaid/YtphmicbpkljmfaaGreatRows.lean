/-
  No cell of these rows narrows 'for every input' (looked for: loops, veiled, ifaces, maps, wideKeys, modest, calm, conditions, laid).
  DERIVED. THE GIVEN ROWS OF THIS SEAT. 2 by the template 'for every input the law returns true; each argument reads behind the call as it read before'; 0 by the template 'total and deterministic' (their statements: YtphmicbpkljmfaaGreatTotals.lean).
  GIVEN WITH THE SEED: the statements are not yours to turn. If you find one false, say at which input.
  Laid BY PROGRAM, IN A SANDBOX (cutbox-rows.mjs): the forced cells as the released guide's own fill.sh prints them over the translation d86f62032702413d… (all of the seat's roots in one cut). By AI agents, Wed Nov 11 2026. No macro, syntax, notation, axiom, sorry.
-/
import Derived.Test.YtphmicbpkljmfaaGreatChecked
import GoSem.Claim
import GoSem.ClaimJoined
import GoSem.ClaimMapViews
import Derived.JoinedTies
import Derived.KernelRfl
namespace Go.Proofs.YtphmicbpkljmfaaGreat
/- THE CELL 'sum', in the pinned program and in every row, IS THE sha256 OF THE DUMP (.gsa) THAT YtphmicbpkljmfaaGreatProg.lean LOADS. Nothing in Lean hashes anything: it is a label: what it is worth is what the hold of that sum in a sandbox is worth. -/
noncomputable def Tryz.pinned : Pinned := { name := "ytphmicbpkljmfaagreat", sum := "d86f62032702413d767514a89c1e44571e63ad0af89f037277682924950fc269", checked := Tryz.checked }
namespace Rows
def none {H : Type} : Left H := { results := [], args := [] }

/-- 'porismlaw29.SemiringMatchesReference': WHATEVER THE INPUT: true; the input reads as it did. -/
def semiringMatchesReferenceSpec : ChangeSpec := { name := "semiringMatchesReference", fn := fun _ => fun
  | [d1, d2, d3, d4] => { results := [.lit (.bool true)], args := [d1, d2, d3, d4] }
  | _ => none }
def semiringMatchesReferenceRow : OpenClaim := { program := "ytphmicbpkljmfaagreat", sum := "d86f62032702413d767514a89c1e44571e63ad0af89f037277682924950fc269", func := "porism/porismlaw29.SemiringMatchesReference", spec := "semiringMatchesReference", unfollowed := true, recurses := true, plainKeys := false, apart := false }
def SemiringMatchesReferenceSaid : Prop := semiringMatchesReferenceRow.holds Tryz.pinned (OpenSpec.ofChange semiringMatchesReferenceSpec)

/-- ITS FALSE NEIGHBOUR: 'it returns false'. Refute it at one input. -/
def semiringMatchesReferenceWrong : ChangeSpec := { name := "semiringMatchesReference", fn := fun _ => fun
  | [d1, d2, d3, d4] => { results := [.lit (.bool false)], args := [d1, d2, d3, d4] }
  | _ => none }
def SemiringMatchesReferenceWrongFalsely : Prop := semiringMatchesReferenceRow.holds Tryz.pinned (OpenSpec.ofChange semiringMatchesReferenceWrong)

/-- 'porismlaw29.SemiringOperations': WHATEVER THE INPUT: true; the input reads as it did. -/
def semiringOperationsSpec : ChangeSpec := { name := "semiringOperations", fn := fun _ => fun
  | [d1, d2, d3] => { results := [.lit (.bool true)], args := [d1, d2, d3] }
  | _ => none }
def semiringOperationsRow : OpenClaim := { program := "ytphmicbpkljmfaagreat", sum := "d86f62032702413d767514a89c1e44571e63ad0af89f037277682924950fc269", func := "porism/porismlaw29.SemiringOperations", spec := "semiringOperations", unfollowed := true, recurses := true, plainKeys := false, apart := false }
def SemiringOperationsSaid : Prop := semiringOperationsRow.holds Tryz.pinned (OpenSpec.ofChange semiringOperationsSpec)

/-- ITS FALSE NEIGHBOUR: 'it returns false'. Refute it at one input. -/
def semiringOperationsWrong : ChangeSpec := { name := "semiringOperations", fn := fun _ => fun
  | [d1, d2, d3] => { results := [.lit (.bool false)], args := [d1, d2, d3] }
  | _ => none }
def SemiringOperationsWrongFalsely : Prop := semiringOperationsRow.holds Tryz.pinned (OpenSpec.ofChange semiringOperationsWrong)

/- THE SECOND FORM. 'bulk': how many values and letters a reading holds, each counted each time it is reached (what is shared counts as often as it is met; a slice's spare places count too). A statement '..UptoSaid' is the law's where the arguments, and the package variables that the reading takes, are together of bulk at most 1048576: NARROWER than '..Said'. Prove '..Said' where nothing that the law and all that it calls make is longer than what came in: it says more and counts as full. Else prove '..UptoSaid'. A law counts once. -/
mutual
def uptoBulk {H : Type} : DataW H → Nat
  | .lit (.string bytes) => bytes.length + 1
  | .lit _ => 1
  | .nil => 1
  | .ptr d => uptoBulk d + 1
  | .slice elems spare => uptoBulkAll elems + uptoBulkAll spare + 1
  | .agg parts => uptoBulkAll parts + 1
  | .iface _ d => uptoBulk d + 1
  | .map entries => uptoBulkEntries entries + 1
  | .held _ => 1
def uptoBulkAll {H : Type} : List (DataW H) → Nat
  | [] => 0
  | d :: r => uptoBulk d + uptoBulkAll r
def uptoBulkEntries {H : Type} : List (Lit × DataW H) → Nat
  | [] => 0
  | x :: r => uptoBulkEntry x + uptoBulkEntries r
def uptoBulkEntry {H : Type} : Lit × DataW H → Nat
  | (.string bytes, d) => bytes.length + uptoBulk d + 1
  | (_, d) => uptoBulk d + 1
 end
def uptoSmall : (H : Type) → List (DataW H) → Bool := fun _ ds => decide (uptoBulkAll ds ≤ 1048576)
def OpenSpec.upto (s : _root_.Go.ChangeSpec) : _root_.Go.OpenSpec := { _root_.Go.OpenSpec.ofChange s with cond := some uptoSmall }

/-- 'porismlaw29.SemiringMatchesReference', WHERE WHAT IT READS IS OF BULK AT MOST 1048576: true; the input reads as it did. -/
def semiringMatchesReferenceUptoRow : OpenClaim := { program := "ytphmicbpkljmfaagreat", sum := "d86f62032702413d767514a89c1e44571e63ad0af89f037277682924950fc269", func := "porism/porismlaw29.SemiringMatchesReference", spec := "semiringMatchesReference", unfollowed := true, recurses := true, plainKeys := false, apart := false, narrowed := true }
def SemiringMatchesReferenceUptoSaid : Prop := semiringMatchesReferenceUptoRow.holds Tryz.pinned (OpenSpec.upto semiringMatchesReferenceSpec)

/-- 'porismlaw29.SemiringOperations', WHERE WHAT IT READS IS OF BULK AT MOST 1048576: true; the input reads as it did. -/
def semiringOperationsUptoRow : OpenClaim := { program := "ytphmicbpkljmfaagreat", sum := "d86f62032702413d767514a89c1e44571e63ad0af89f037277682924950fc269", func := "porism/porismlaw29.SemiringOperations", spec := "semiringOperations", unfollowed := true, recurses := true, plainKeys := false, apart := false, narrowed := true }
def SemiringOperationsUptoSaid : Prop := semiringOperationsUptoRow.holds Tryz.pinned (OpenSpec.upto semiringOperationsSpec)

end Rows
end Go.Proofs.YtphmicbpkljmfaaGreat
