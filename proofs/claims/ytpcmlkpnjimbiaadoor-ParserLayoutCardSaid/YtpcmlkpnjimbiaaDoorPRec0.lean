/- ParserRecovery, plain: the place of the inserted tokens. No program in sight. -/
import Derived.Test.YtpcmlkpnjimbiaaDoorPAp
import Derived.Test.YtpcmlkpnjimbiaaDoorPBnd
namespace Go.Proofs.YtpcmlkpnjimbiaaDoor
set_option linter.unusedVariables false
set_option linter.unusedSimpArgs false
theorem offI_le {s : List UInt8} (h : (Lx.lex s).2.1 = 0) (k : Nat) : ∃ p : Nat, offI (Lx.lex s).1 s.length k = (p : Int) ∧ p ≤ s.length := by
 by_cases hk : k < (Lx.lex s).1.length
 ·refine ⟨_, offI_in (List.getElem?_eq_getElem hk), ?_⟩
  have := ((Lx.lex_get h).2.2.2.1 k hk).2.1
  omega
 ·exact ⟨_, offI_out (by omega), Nat.le_refl _⟩
end Go.Proofs.YtpcmlkpnjimbiaaDoor
