/- Literals, statistics and bools in memory as the walks name them; the order's run step by step; no program in sight. -/
import Derived.Test.YtoficnfpoeaccaaDoorKRefB
import Derived.Test.YtoficnfpoeaccaaDoorMake
namespace Go.Proofs.YtoficnfpoeaccaaDoor
set_option linter.unusedVariables false
set_option linter.unusedSimpArgs false
open Go.RowKit
theorem lt_cells {w : World} {A : Option Addr} {l : List Lt} (h : Str w A 9 (l.map Lt.fs)) {i : Nat} {x : Lt} (hi : l[i]? = some x) : ∃ g o, A = some ⟨g, o, none⟩ ∧ g < w.heap.size ∧ w.cell? ⟨g, o + i * 9, none⟩ = some (.int .i64 x.kind) ∧ w.cell? ⟨g, o + i * 9 + 1, none⟩ = some (.string x.name) ∧ w.cell? ⟨g, o + i * 9 + 2, none⟩ = some (.int .i64 x.pred) ∧ w.cell? ⟨g, o + i * 9 + 3, none⟩ = some (.slice x.aa x.args.length x.ac) ∧ w.cell? ⟨g, o + i * 9 + 4, none⟩ = some (.string x.bind) ∧ w.cell? ⟨g, o + i * 9 + 5, none⟩ = some (.string x.elem) ∧ w.cell? ⟨g, o + i * 9 + 6, none⟩ = some (.int .i64 x.least) ∧ w.cell? ⟨g, o + i * 9 + 7, none⟩ = some (.int .i64 x.op) ∧ w.cell? ⟨g, o + i * 9 + 8, none⟩ = some (.int .i64 x.pos) := by
  obtain ⟨g, o, e, hg, hc⟩ := h.at (i := i) (fs := x.fs) (by rw [List.getElem?_map, hi]; rfl)
  exact ⟨g, o, e, hg, hc 0 _ rfl, hc 1 _ rfl, hc 2 _ rfl, hc 3 _ rfl, hc 4 _ rfl, hc 5 _ rfl, hc 6 _ rfl, hc 7 _ rfl, hc 8 _ rfl⟩
theorem sta_cells {w : World} {A : Option Addr} {l : List Sta} (h : Str w A 2 (l.map Sta.fs)) {i : Nat} {x : Sta} (hi : l[i]? = some x) : ∃ g o, A = some ⟨g, o, none⟩ ∧ g < w.heap.size ∧ w.cell? ⟨g, o + i * 2, none⟩ = some (.int .i64 x.rows) ∧ w.cell? ⟨g, o + i * 2 + 1, none⟩ = some (.slice x.da x.dist.length x.dc) := by
  obtain ⟨g, o, e, hg, hc⟩ := h.at (i := i) (fs := x.fs) (by rw [List.getElem?_map, hi]; rfl)
  exact ⟨g, o, e, hg, hc 0 _ rfl, hc 1 _ rfl⟩
/-- Which of n literals are done. -/
def dcells (n : Nat) (d : List Nat) : Array Value := ((List.range n).map fun j => Value.bool (d.contains j)).toArray
theorem dcells_nil (n : Nat) : (List.replicate n (Value.bool false)).toArray = dcells n [] := by
  unfold dcells
  congr 1
  apply List.ext_getElem
  · simp
  · intro i h1 h2; simp
theorem dcells_get {n j : Nat} (d : List Nat) (h : j < n) : (dcells n d)[j]? = some (.bool (d.contains j)) := by
  unfold dcells
  simp [h]
theorem dcells_put (n j : Nat) (d : List Nat) : (dcells n d).setIfInBounds j (.bool true) = dcells n (d ++ [j]) := by
  unfold dcells
  apply Array.ext_getElem?
  intro i
  simp only [List.setIfInBounds_toArray, List.getElem?_toArray]
  rw [List.getElem?_set]
  by_cases hij : j = i
  · subst hij
    by_cases hj : j < n
    · simp [hj]
    · simp [hj]
  · rw [if_neg hij]
    by_cases hi : i < n
    · simp [hi, Ne.symm hij]
    · rw [List.getElem?_eq_none (by simp; omega), List.getElem?_eq_none (by simp; omega)]
theorem runs_end {body : List Lt} {order : List Int} {k : Nat} {d : List Nat} {B : Ko.Bd} (h : order.length ≤ k) : Ko.runs body (order.drop k) d B = true := by
  rw [List.drop_eq_nil_of_le h]; rfl
theorem drop_at {α : Type} {l : List α} {k : Nat} {x : α} (h : l[k]? = some x) : l.drop k = x :: l.drop (k + 1) := by
  obtain ⟨hk, e⟩ := List.getElem?_eq_some_iff.1 h
  rw [List.drop_eq_getElem_cons hk, e]
theorem runs_neg {body : List Lt} {order : List Int} {k : Nat} {d : List Nat} {B : Ko.Bd} {x : Int} (h : order[k]? = some x) (hx : x < 0) : Ko.runs body (order.drop k) d B = false := by
  rw [drop_at h]
  unfold Ko.runs
  split
  · rfl
  · rw [decide_eq_false (by omega)]; rfl
theorem runs_out {body : List Lt} {order : List Int} {k : Nat} {d : List Nat} {B : Ko.Bd} {x : Int} (h : order[k]? = some x) (hx : (body.length : Int) ≤ x) : Ko.runs body (order.drop k) d B = false := by
  rw [drop_at h]
  unfold Ko.runs
  rw [List.getElem?_eq_none (by omega)]
theorem runs_in {body : List Lt} {order : List Int} {k j : Nat} {d : List Nat} {B : Ko.Bd} {l : Lt} (h : order[k]? = some (j : Int)) (hj : body[j]? = some l) : Ko.runs body (order.drop k) d B = (!d.contains j && Ko.ready B l && Ko.runs body (order.drop (k + 1)) (d ++ [j]) (Ko.bindL B l.args)) := by
  rw [drop_at h]
  conv => lhs; unfold Ko.runs
  rw [Int.toNat_natCast, hj]
  simp only [Int.natCast_nonneg, decide_true, Bool.true_and]
end Go.Proofs.YtoficnfpoeaccaaDoor
