/- The walks of the reference's Values and Eval. -/
import Derived.Test.YtphmicbpkljmfaaCMisc
import Derived.Test.YtphmicbpkljmfaaCLaw
namespace Go.Proofs.Ytphmicbpkljmfaa
set_option linter.unusedVariables false
set_option linter.unusedSimpArgs false
open Go.RowKit
open Cx (N)
def bcells (l : List Bool) : List Value := l.map (fun x => .bool x)
theorem bcells_app (l r : List Bool) : bcells (l ++ r) = bcells l ++ bcells r := by simp [bcells]
theorem bcells_len (l : List Bool) : (bcells l).length = l.length := by simp [bcells]
theorem bool_info : (Try.prog.info? 4).map (fun i => (i.zero, i.size, i.bytes)) = some (some (.bool false), 1, 1) := by kernel_rfl
theorem bcell_at {w : World} {B : Nat} {v : Value} {l : List Bool} (h : w.ownsRow B 4 1 v l.length (bcells l)) (h0 : 0 < l.length) : ∃ g c, v = .slice (some ⟨g, 0, none⟩) l.length c ∧ B ≤ g ∧ g < w.heap.size ∧ ∀ (j : Nat) (x : Bool), l[j]? = some x → w.cell? ⟨g, j, none⟩ = some (.bool x) := by
  obtain ⟨A, c, hv, h1, h2, h3⟩ := own_cells h
  rcases h3 with h3 | ⟨g, rfl, hB, hg, hc⟩
  · omega
  · exact ⟨g, c, hv, hB, hg, fun j x hx => hc _ _ (by simp [bcells, hx])⟩
/-- The values of the first k nodes. -/
def ValsAt (ts : List Int) (l : List N) (k : Nat) (vs : List Bool) : Prop := vs = Cx.values ts (l.take k)
theorem ValsAt.more {ts : List Int} {l : List N} {k : Nat} {vs : List Bool} {n : N} (h : ValsAt ts l k vs) (hn : l[k]? = some n) : ValsAt ts l (k + 1) (vs ++ [Cx.valStep ts vs n]) := by
  unfold ValsAt at *
  rw [take_more hn, Cx.values_snoc, h]
theorem valStep_1 {ts : List Int} {vs : List Bool} {n : N} (h : n.o = 1) : Cx.valStep ts vs n = true := by unfold Cx.valStep; rw [if_pos h]
theorem valStep_2 {ts : List Int} {vs : List Bool} {n : N} (h : n.o = 2) : Cx.valStep ts vs n = ts.contains n.a := by unfold Cx.valStep; rw [if_neg (by omega), if_pos h]
theorem valStep_3 {ts : List Int} {vs : List Bool} {n : N} {a b : Nat} {x y : Bool} (h : n.o = 3) (ha : n.a = a) (hb : n.b = b) (hx : vs[a]? = some x) (hy : vs[b]? = some y) : Cx.valStep ts vs n = (x || y) := by
  unfold Cx.valStep; rw [if_neg (by omega), if_neg (by omega), if_pos h, ha, hb]; simp [List.getD, hx, hy]
theorem valStep_4 {ts : List Int} {vs : List Bool} {n : N} {a b : Nat} {x y : Bool} (h : n.o = 4) (ha : n.a = a) (hb : n.b = b) (hx : vs[a]? = some x) (hy : vs[b]? = some y) : Cx.valStep ts vs n = (x && y) := by
  unfold Cx.valStep; rw [if_neg (by omega), if_neg (by omega), if_neg (by omega), if_pos h, ha, hb]; simp [List.getD, hx, hy]
theorem valStep_0 {ts : List Int} {vs : List Bool} {n : N} (h1 : n.o ≠ 1) (h2 : n.o ≠ 2) (h3 : n.o ≠ 3) (h4 : n.o ≠ 4) : Cx.valStep ts vs n = false := by
  unfold Cx.valStep; rw [if_neg h1, if_neg h2, if_neg h3, if_neg h4]
end Go.Proofs.Ytphmicbpkljmfaa
