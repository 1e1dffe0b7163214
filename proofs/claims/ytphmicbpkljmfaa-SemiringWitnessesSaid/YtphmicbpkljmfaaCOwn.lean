/- A circuit that has grown by a node is a row of the call's own. -/
import Derived.Test.YtphmicbpkljmfaaCMisc
namespace Go.Proofs.Ytphmicbpkljmfaa
set_option linter.unusedVariables false
set_option linter.unusedSimpArgs false
open Go.RowKit
open Cx (N)
/-- A circuit of the call's own, and a number. -/
def OwnNum (l : List N) (n : Int) (w : World) (e : Ending) (w' : World) : Prop := ∃ v, e = .returned (.tuple #[v, .int .i64 n]) ∧ w'.ownsRow w.heap.size 54 3 v l.length (ncells l) ∧ Below w.heap.size w w'
end Go.Proofs.Ytphmicbpkljmfaa
