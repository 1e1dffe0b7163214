/- The walks of the searches in circuits: Index, Same, Ints. -/
import Derived.Test.YtphmicbpkljmfaaCLeaf
import Derived.Test.YtphmicbpkljmfaaTwo
import Derived.Laws.StructEq
namespace Go.Proofs.Ytphmicbpkljmfaa
set_option linter.unusedVariables false
set_option linter.unusedSimpArgs false
open Go.RowKit
open Cx (N)
theorem node_eq (x y : N) (w : World) :
    (Op.equalIn 10000 54 (.agg #[.int .i64 x.o, .int .i64 x.a, .int .i64 x.b]) (.agg #[.int .i64 y.o, .int .i64 y.a, .int .i64 y.b])).run Try.prog w = .ok (x == y) w := by
  obtain ⟨o, a, b⟩ := x
  obtain ⟨o', a', b'⟩ := y
  have e : ((⟨o, a, b⟩ : N) == ⟨o', a', b'⟩) = decide (o = o' ∧ a = a' ∧ b = b') := by
    rw [Bool.eq_iff_iff, beq_iff_eq, decide_eq_true_eq, Cx.N.mk.injEq]
  rw [e]
  by_cases h1 : o = o' <;> by_cases h2 : a = a' <;> by_cases h3 : b = b' <;> simp [h1, h2, h3, go_sem, Try.underlying54]
/-- The index of the first equal element, or -1. -/
def idxI (l : List N) (n : N) : Int := match Cx.idx l n with | some i => (i : Int) | none => -1
theorem idx_hit {l : List N} {n : N} {k : Nat} (h : l[k]? = some n) (hno : ∀ j, j < k → l[j]? ≠ some n) : Cx.idx l n = some k := by
  unfold Cx.idx
  rw [List.findIdx?_eq_some_iff_getElem]
  obtain ⟨hk, e⟩ := List.getElem?_eq_some_iff.1 h
  refine ⟨hk, by rw [e]; simp, fun j hj => ?_⟩
  have := hno j hj
  rw [List.getElem?_eq_getElem (by omega)] at this
  simpa using this
theorem idx_none {l : List N} {n : N} (hno : ∀ j, j < l.length → l[j]? ≠ some n) : Cx.idx l n = none := by
  unfold Cx.idx
  rw [List.findIdx?_eq_none_iff]
  intro x hx
  obtain ⟨j, hj, e⟩ := List.mem_iff_getElem.1 hx
  have := hno j hj
  rw [List.getElem?_eq_getElem hj, e] at this
  simpa using this
end Go.Proofs.Ytphmicbpkljmfaa
