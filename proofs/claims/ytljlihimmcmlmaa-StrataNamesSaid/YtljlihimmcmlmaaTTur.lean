/- The walk of turned. -/
import Derived.Test.YtljlihimmcmlmaaTTu0
import Derived.Test.YtljlihimmcmlmaaTRsl
namespace Go.Proofs.Ytljlihimmcmlmaa
set_option linter.unusedVariables false
set_option linter.unusedSimpArgs false
open Go.RowKit
/-- A block of n predicates, each seven cells. -/
def PB (w : World) (g n : Nat) (f : Nat → List Value) : Prop := ∃ cs, At w g 53 cs ∧ cs.size = n * 7 ∧ ∀ v < n, ∀ (m : Nat) (u : Value), (f v)[m]? = some u → cs[v * 7 + m]? = some u
theorem PB.next {w w' : World} {g n : Nat} {f : Nat → List Value} (h : PB w g n f) (hb : Below w.heap.size w w') : PB w' g n f := by
  obtain ⟨cs, h1, hs, h2⟩ := h
  exact ⟨cs, h1.next hb, hs, h2⟩
theorem PB.lt {w : World} {g n : Nat} {f : Nat → List Value} (h : PB w g n f) : g < w.heap.size := by
  obtain ⟨cs, h1, hs, h2⟩ := h
  exact h1.lt
theorem PB.cell {w : World} {g n : Nat} {f : Nat → List Value} (h : PB w g n f) {v m : Nat} {u : Value} (hv : v < n) (hm : (f v)[m]? = some u) : w.cell? ⟨g, v * 7 + m, none⟩ = some u := by
  obtain ⟨cs, h1, hs, h2⟩ := h
  rw [h1.cell]; exact h2 v hv m u hm
theorem PB.frozen {w : World} {g n : Nat} {f : Nat → List Value} (h : PB w g n f) (i : Nat) : w.frozen? ⟨g, i, none⟩ = false := by
  obtain ⟨cs, h1, hs, h2⟩ := h
  exact h1.frozen i
theorem PB.grown {w w' : World} {g n : Nat} {f : Nat → List Value} {row : Option Nat} (h : PB w g n f) (hb : w.grownBy w' row) (hg : some g ≠ row) : PB w' g n f := by
  obtain ⟨cs, h1, hs, h2⟩ := h
  exact ⟨cs, h1.grown hb hg, hs, h2⟩
theorem PB.far {w : World} {g n : Nat} {f : Nat → List Value} (h : PB w g n f) {p : Addr} (hp : g ≠ p.block) (u : Value) : PB (w.setCell p u) g n f := by
  obtain ⟨cs, h1, hs, h2⟩ := h
  exact ⟨cs, h1.far hp u, hs, h2⟩
theorem PB.put {w : World} {g n t : Nat} {f f' : Nat → List Value} (h : PB w g n f) (htn : t < n) (a0 a1 a2 a3 a4 a5 a6 : Value) (ht : f' t = [a0, a1, a2, a3, a4, a5, a6]) (hf : ∀ v, v ≠ t → f' v = f v) (h7 : ∀ v, (f v).length = 7) :
    PB (((((((w.setCell ⟨g, t * 7, none⟩ a0).setCell ⟨g, t * 7 + 1, none⟩ a1).setCell ⟨g, t * 7 + 2, none⟩ a2).setCell ⟨g, t * 7 + 3, none⟩ a3).setCell ⟨g, t * 7 + 4, none⟩ a4).setCell ⟨g, t * 7 + 5, none⟩ a5).setCell ⟨g, t * 7 + 6, none⟩ a6) g n f' := by
  obtain ⟨cs, h1, hs, h2⟩ := h
  have hlt : t * 7 + 6 < cs.size := by omega
  · refine ⟨_, ((((((h1.put (t * 7) a0).put (t * 7 + 1) a1).put (t * 7 + 2) a2).put (t * 7 + 3) a3).put (t * 7 + 4) a4).put (t * 7 + 5) a5).put (t * 7 + 6) a6, by simp [hs], fun v hv m u hm => ?_⟩
    by_cases e : v = t
    · subst e
      rw [ht] at hm
      match m, hm with
      | 0, hm => simp at hm; subst hm; simp [Array.getElem?_setIfInBounds]; omega
      | 1, hm => simp at hm; subst hm; simp [Array.getElem?_setIfInBounds]; omega
      | 2, hm => simp at hm; subst hm; simp [Array.getElem?_setIfInBounds]; omega
      | 3, hm => simp at hm; subst hm; simp [Array.getElem?_setIfInBounds]; omega
      | 4, hm => simp at hm; subst hm; simp [Array.getElem?_setIfInBounds]; omega
      | 5, hm => simp at hm; subst hm; simp [Array.getElem?_setIfInBounds]; omega
      | 6, hm => simp at hm; subst hm; simp [Array.getElem?_setIfInBounds]; omega
      | m + 7, hm => simp at hm
    · rw [hf v e] at hm
      have hm7 : m < 7 := by have := (List.getElem?_eq_some_iff.1 hm).1; rw [h7] at this; exact this
      have := h2 v hv m u hm
      simp only [Array.getElem?_setIfInBounds]
      rw [if_neg (by omega), if_neg (by omega), if_neg (by omega), if_neg (by omega), if_neg (by omega), if_neg (by omega), if_neg (by omega)]
      exact this
theorem rotL_out {n k : Nat} {l : Lit9} (h : ¬ (0 ≤ l.pred ∧ l.pred < n)) : rotL n k l = l := by
  unfold rotL rotX
  rw [if_neg h]
/-- The first j literals are renumbered. -/
def rotJ (n k : Nat) (ls : List Lit9) (j : Nat) : List Lit9 := (ls.take j).map (rotL n k) ++ ls.drop j
theorem rotJ_len (n k : Nat) (ls : List Lit9) (j : Nat) : (rotJ n k ls j).length = ls.length := by
  unfold rotJ; simp; omega
theorem rotJ_at {n k j : Nat} {ls : List Lit9} {l : Lit9} (h : ls[j]? = some l) : (rotJ n k ls j)[j]? = some l := by
  have hl := (List.getElem?_eq_some_iff.1 h).1
  unfold rotJ
  rw [List.getElem?_append_right (by simp; omega)]
  simp only [List.length_map, List.length_take, Nat.min_eq_left (Nat.le_of_lt hl), Nat.sub_self, List.getElem?_drop, Nat.add_zero]
  exact h
theorem rotJ_step {n k j : Nat} {ls : List Lit9} {l : Lit9} (h : ls[j]? = some l) : (rotJ n k ls j).set j (rotL n k l) = rotJ n k ls (j + 1) := by
  have hl := (List.getElem?_eq_some_iff.1 h).1
  have he := (List.getElem?_eq_some_iff.1 h).2
  unfold rotJ
  rw [List.set_append_right _ _ (by simp; omega)]
  simp only [List.length_map, List.length_take, Nat.min_eq_left (Nat.le_of_lt hl), Nat.sub_self]
  rw [List.drop_eq_getElem_cons hl, List.set_cons_zero, List.take_add_one, h, List.map_append]
  simp
theorem lcells_set {ls : List Lit9} {j : Nat} {l l' : Lit9} (h : ls[j]? = some l) (hl : l'.fs = l.fs.set 2 (.int .i64 l'.pred)) : lcells (ls.set j l') = (lcells ls).set (j * 9 + 2) (.int .i64 l'.pred) := by
  induction ls generalizing j with
  | nil => simp at h
  | cons x ls ih =>
    cases j with
    | zero =>
      obtain rfl : x = l := by simpa using h
      unfold lcells
      simp only [List.set_cons_zero, List.flatMap_cons, hl]
      rw [List.set_append_left _ _ (by show 0 * 9 + 2 < 9; omega)]
    | succ j =>
      have h1 := ih (j := j) (by simpa using h)
      unfold lcells at h1 ⊢
      simp only [List.set_cons_succ, List.flatMap_cons]
      rw [h1, List.set_append_right _ _ (by show 9 ≤ (j + 1) * 9 + 2; omega)]
      congr 2
      show j * 9 + 2 = (j + 1) * 9 + 2 - 9
      omega
/-- One cell of a row of the call's own is set. -/
theorem own_set {w : World} {B g c n size i : Nat} {e : TypeId} {xs : List Value} (h : w.ownsRow B e size (.slice (some ⟨g, 0, none⟩) n c) n xs) (hi : i < xs.length) (u : Value) : (w.setCell ⟨g, i, none⟩ u).ownsRow B e size (.slice (some ⟨g, 0, none⟩) n c) n (xs.set i u) := by
  obtain ⟨h1, h2⟩ := h
  rcases h2 with ⟨h2, _⟩ | ⟨g', cap, cur, hv, hB, hh, h3, h4, h5, h6⟩
  · cases h2
  · injection hv with e1 _ e3
    injection e1 with e1
    injection e1 with e1
    subst e1 e3
    have ha : At w g e cur := hh
    refine ⟨by rw [List.length_set]; exact h1, Or.inr ⟨g, c, cur.setIfInBounds i u, rfl, hB, ha.put i u, h3, h4, by rw [Array.size_setIfInBounds]; exact h5, ?_⟩⟩
    rw [Array.toList_setIfInBounds, List.take_set, h6]
theorem prs_at {w : World} {p : Pg} (hp : PgOk w p) {i : Nat} {r : Pr} (hr : p.prs[i]? = some r) : ∃ g o, p.pa = some ⟨g, o, none⟩ ∧ g < w.heap.size ∧ w.cell? ⟨g, o + i * 7, none⟩ = some (.string r.name) ∧ w.cell? ⟨g, o + i * 7 + 1, none⟩ = some (.slice r.types.a r.types.n r.types.c) ∧ w.cell? ⟨g, o + i * 7 + 2, none⟩ = some (.string r.lat) ∧ w.cell? ⟨g, o + i * 7 + 3, none⟩ = some (.int .i64 r.of) ∧ w.cell? ⟨g, o + i * 7 + 4, none⟩ = some (.bool r.base) ∧ w.cell? ⟨g, o + i * 7 + 5, none⟩ = some (.int .i64 r.key) ∧ w.cell? ⟨g, o + i * 7 + 6, none⟩ = some (.int .i64 r.pos) := by
  obtain ⟨g, o, e, hg, hc⟩ := hp.preds.at (i := i) (fs := r.fs) (by simp [hr])
  exact ⟨g, o, e, hg, hc 0 _ rfl, hc 1 _ rfl, hc 2 _ rfl, hc 3 _ rfl, hc 4 _ rfl, hc 5 _ rfl, hc 6 _ rfl⟩
end Go.Proofs.Ytljlihimmcmlmaa
