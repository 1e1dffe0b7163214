/- The walk of the reference's Below. -/
import Derived.Test.YtphmicbpkljmfaaCVals
import Derived.Test.YtphmicbpkljmfaaCLaw
import Derived.Test.YtphmicbpkljmfaaTwo
import Derived.Outline
namespace Go.Proofs.Ytphmicbpkljmfaa
set_option linter.unusedVariables false
set_option linter.unusedSimpArgs false
open Go.RowKit
open Cx (N)
theorem bcells_set (l : List Bool) (i : Nat) (b : Bool) : (bcells l).toArray.setIfInBounds i (.bool b) = (bcells (l.set i b)).toArray := by
  simp [bcells, List.map_set]
theorem At.bools {w : World} {g : Nat} {t : TypeId} {l : List Bool} (h : At w g t (bcells l).toArray) {j : Nat} {b : Bool} (hj : l[j]? = some b) : w.cell? ⟨g, j, none⟩ = some (.bool b) := by
  rw [h.cell, List.getElem?_toArray]; simp [bcells, hj]
theorem At.set {w : World} {g : Nat} {t : TypeId} {l : List Bool} (h : At w g t (bcells l).toArray) (j : Nat) (b : Bool) : At (w.setCell ⟨g, j, none⟩ (.bool b)) g t (bcells (l.set j b)).toArray := by
  rw [← bcells_set]; exact h.put j _
/-- Truth values in memory, as a slice of the call's own. -/
def BoolsOut (l : List Bool) (w : World) (e : Ending) (w' : World) : Prop := ∃ g, e = .returned (.slice (some ⟨g, 0, none⟩) l.length l.length) ∧ w.heap.size ≤ g ∧ At w' g 4 (bcells l).toArray ∧ Below w.heap.size w w'
theorem belowStep_no {l : List N} {bs : List Bool} {k : Nat} {v : N} (hv : l[k]? = some v) (h : bs[k]? = some false ∨ ¬ (v.o = 3 ∨ v.o = 4)) : Cx.belowStep l bs k = bs := by
  unfold Cx.belowStep
  rw [hv]
  simp only
  rw [if_neg]
  rw [Bool.and_eq_true, Cx.getD_true, Cx.binary_iff]
  rintro ⟨h1, h2⟩
  rcases h with h | h
  · rw [h] at h1; cases h1
  · exact h h2
theorem belowStep_yes {l : List N} {bs : List Bool} {k : Nat} {v : N} {a b : Nat} (hv : l[k]? = some v) (h : bs[k]? = some true) (h2 : v.o = 3 ∨ v.o = 4) (ha : v.a = a) (hb : v.b = b) : Cx.belowStep l bs k = (bs.set a true).set b true := by
  unfold Cx.belowStep
  rw [hv]
  simp only
  rw [if_pos (by rw [Bool.and_eq_true, Cx.getD_true, Cx.binary_iff]; exact ⟨h, h2⟩), ha, hb]; rfl
end Go.Proofs.Ytphmicbpkljmfaa
namespace Go.Proofs.Ytphmicbpkljmfaa
set_option linter.unusedVariables false
set_option linter.unusedSimpArgs false
open Go.RowKit
open Cx (N)
end Go.Proofs.Ytphmicbpkljmfaa
