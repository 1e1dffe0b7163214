/- Insertion sort: the plain laws, and a row of one's own cells in the memory. -/
import Derived.Test.YtphmicbpkljmfaaGreatSMem
namespace Go.Proofs.YtphmicbpkljmfaaGreat
set_option linter.unusedVariables false
set_option linter.unusedSimpArgs false
open Go.RowKit
namespace Ins
variable {α : Type}
/-- In the round of i: the element at k moves down. -/
def In (lt : α → α → Bool) (l : List α) (i k : Nat) (dk : List α) : Prop :=
  ∃ a x b r, dk = a ++ x :: (b ++ r) ∧ a.length = k ∧ b.length + k = i ∧ (a ++ b).Pairwise (fun p q => lt q p = false) ∧ (∀ y ∈ b, lt x y = true) ∧ dk.Perm l
/-- Before the round of i. -/
def Out (lt : α → α → Bool) (l : List α) (i : Nat) (dk : List α) : Prop := (dk.take i).Pairwise (fun p q => lt q p = false) ∧ dk.Perm l
variable {lt : α → α → Bool} {l dk : List α} {i k : Nat}
theorem out0 (l : List α) : Out lt l 1 l := by
  refine ⟨?_, List.Perm.refl _⟩
  cases l with
  | nil => simp
  | cons x r => simp
theorem Out.len (h : Out lt l i dk) : dk.length = l.length := h.2.length_eq
theorem In.len (h : In lt l i k dk) : dk.length = l.length := by obtain ⟨a, x, b, r, _, _, _, _, _, h⟩ := h; exact h.length_eq
theorem Out.start (h : Out lt l i dk) (hi : i < dk.length) : In lt l i i dk := by
  refine ⟨dk.take i, dk[i], [], dk.drop (i + 1), ?_, by simp; omega, by simp, by simpa using h.1, by simp, h.2⟩
  rw [List.nil_append, List.getElem_cons_drop, List.take_append_drop]
theorem pair_mid {P : α → α → Prop} {a b : List α} {x : α} (h : (a ++ b).Pairwise P) (h1 : ∀ p ∈ a, P p x) (h2 : ∀ q ∈ b, P x q) : (a ++ x :: b).Pairwise P := by
  rw [List.pairwise_append] at h ⊢
  refine ⟨h.1, List.pairwise_cons.2 ⟨h2, h.2.1⟩, fun p hp q hq => ?_⟩
  rcases List.mem_cons.1 hq with rfl | hq
  · exact h1 p hp
  · exact h.2.2 p hp q hq
theorem take_in {a b r : List α} {x : α} (hi : b.length + a.length = i) : (a ++ x :: (b ++ r)).take (i + 1) = a ++ x :: b := by
  have : a ++ x :: (b ++ r) = (a ++ x :: b) ++ r := by simp
  rw [this, List.take_left' (by simp; omega)]
theorem In.stop0 (asy : ∀ x y, lt x y = true → lt y x = false) (h : In lt l i 0 dk) : Out lt l (i + 1) dk := by
  obtain ⟨a, x, b, r, rfl, ha, hb, hp, hx, hl⟩ := h
  refine ⟨?_, hl⟩
  rw [take_in (by omega)]
  obtain rfl := List.eq_nil_of_length_eq_zero ha
  exact pair_mid hp (fun p hp => by cases hp) (fun q hq => asy _ _ (hx q hq))
theorem In.stop1 (asy : ∀ x y, lt x y = true → lt y x = false) (ntr : ∀ x y z, lt x y = false → lt y z = false → lt x z = false) (h : In lt l i (k + 1) dk) {x y : α} (h1 : dk[k + 1]? = some x) (h2 : dk[k]? = some y) (hlt : lt x y = false) : Out lt l (i + 1) dk := by
  obtain ⟨a, x', b, r, rfl, ha, hb, hp, hx, hl⟩ := h
  refine ⟨?_, hl⟩
  rw [take_in (by omega)]
  have e1 : x' = x := by rw [List.getElem?_append_right (by omega), ha, Nat.sub_self] at h1; simpa using h1
  subst e1
  rw [List.getElem?_append_left (by omega)] at h2
  refine pair_mid hp (fun p hpm => ?_) (fun q hq => asy _ _ (hx q hq))
  obtain ⟨a', z, rfl⟩ : ∃ a' z, a = a' ++ [z] := by
    rcases List.eq_nil_or_concat a with h0 | ⟨a', z, h0⟩
    · rw [h0] at ha; simp at ha
    · exact ⟨a', z, by simpa using h0⟩
  have : z = y := by
    have hk : a'.length = k := by simpa using ha
    rw [List.getElem?_append_right (by omega), hk, Nat.sub_self] at h2; simpa using h2
  subst this
  rcases List.mem_append.1 hpm with hpm | hpm
  · have hp1 := (List.pairwise_append.1 hp).1
    have := (List.pairwise_append.1 hp1).2.2 p hpm z (by simp)
    exact ntr _ _ _ hlt this
  · simp at hpm; subst hpm; exact hlt
theorem In.swap (h : In lt l i (k + 1) dk) {x y : α} (h1 : dk[k + 1]? = some x) (h2 : dk[k]? = some y) (hlt : lt x y = true) : In lt l i k ((dk.set (k + 1) y).set k x) := by
  obtain ⟨a, x', b, r, rfl, ha, hb, hp, hx, hl⟩ := h
  have e1 : x' = x := by rw [List.getElem?_append_right (by omega), ha, Nat.sub_self] at h1; simpa using h1
  subst e1
  rw [List.getElem?_append_left (by omega)] at h2
  obtain ⟨a', z, rfl⟩ : ∃ a' z, a = a' ++ [z] := by
    rcases List.eq_nil_or_concat a with h0 | ⟨a', z, h0⟩
    · rw [h0] at ha; simp at ha
    · exact ⟨a', z, by simpa using h0⟩
  have hk : a'.length = k := by simpa using ha
  have : z = y := by
    rw [List.getElem?_append_right (by omega), hk, Nat.sub_self] at h2; simpa using h2
  subst this
  have e : (((a' ++ [z] ++ x' :: (b ++ r)).set (k + 1) z).set k x') = a' ++ x' :: ((z :: b) ++ r) := by
    have e0 : a' ++ [z] ++ x' :: (b ++ r) = a' ++ (z :: x' :: (b ++ r)) := by simp
    rw [e0, ← hk, List.set_append_right _ _ (by omega), List.set_append_right _ _ (by omega)]
    simp
  rw [e]
  refine ⟨a', x', z :: b, r, rfl, hk, by simp; omega, by simpa using hp, fun y hy => ?_, ?_⟩
  · rcases List.mem_cons.1 hy with rfl | hy
    · exact hlt
    · exact hx y hy
  · refine List.Perm.trans ?_ hl
    have e0 : a' ++ [z] ++ x' :: (b ++ r) = a' ++ (z :: x' :: (b ++ r)) := by simp
    rw [e0]
    refine List.Perm.append_left a' ?_
    exact List.Perm.swap _ _ _
theorem Out.done (h : Out lt l i dk) (hi : dk.length ≤ i) : dk.Pairwise (fun p q => lt q p = false) ∧ dk.Perm l := by
  obtain ⟨h1, h2⟩ := h
  rw [List.take_of_length_le hi] at h1
  exact ⟨h1, h2⟩
end Ins
/-- A block whose first cells are these. -/
def Row (w : World) (g : Nat) (e : TypeId) (dk : List Value) : Prop := ∃ cs, At w g e cs ∧ dk.length ≤ cs.size ∧ ∀ (j : Nat) (v : Value), dk[j]? = some v → cs[j]? = some v
theorem Row.cell {w : World} {g : Nat} {e : TypeId} {dk : List Value} (h : Row w g e dk) {j : Nat} {v : Value} (hj : dk[j]? = some v) : w.cell? ⟨g, j, none⟩ = some v := by
  obtain ⟨cs, h1, _, h2⟩ := h
  rw [h1.cell]; exact h2 j v hj
theorem Row.frozen {w : World} {g : Nat} {e : TypeId} {dk : List Value} (h : Row w g e dk) (j : Nat) : w.frozen? ⟨g, j, none⟩ = false := by
  obtain ⟨cs, h1, _, h2⟩ := h
  exact h1.frozen j
theorem Row.lt {w : World} {g : Nat} {e : TypeId} {dk : List Value} (h : Row w g e dk) : g < w.heap.size := by
  obtain ⟨cs, h1, _⟩ := h; exact h1.lt
theorem Row.next {w w' : World} {g : Nat} {e : TypeId} {dk : List Value} (h : Row w g e dk) (hb : Below w.heap.size w w') : Row w' g e dk := by
  obtain ⟨cs, h1, h2⟩ := h
  exact ⟨cs, h1.next hb, h2⟩
theorem Row.put {w : World} {g : Nat} {e : TypeId} {dk : List Value} (h : Row w g e dk) (i : Nat) (u : Value) : Row (w.setCell ⟨g, i, none⟩ u) g e (dk.set i u) := by
  obtain ⟨cs, h1, h2, h3⟩ := h
  refine ⟨_, h1.put i u, by simpa using h2, fun j v hj => ?_⟩
  rw [Array.getElem?_setIfInBounds]
  rw [List.getElem?_set] at hj
  by_cases e1 : i = j
  · subst e1
    rw [if_pos rfl] at hj ⊢
    split at hj
    · rw [if_pos (by omega)]; exact hj
    · cases hj
  · rw [if_neg e1] at hj ⊢
    exact h3 j v hj
theorem Row.drew {w : World} {g : Nat} {e : TypeId} {dk : List Value} (h : Row w g e dk) : Row w.drew g e dk := h
theorem row_own {w : World} {B g : Nat} {e : TypeId} {n cap : Nat} {o : Nat} {xs : List Value} (h : w.ownsRow B e 1 (.slice (some ⟨g, o, none⟩) n cap) n xs) : o = 0 ∧ B ≤ g ∧ n ≤ cap ∧ cap ≤ maxLen ∧ Row w g e xs := by
  obtain ⟨hl, h⟩ := h
  rcases h with ⟨h, _⟩ | ⟨g', cap', cur, hv, hg, hh, h1, h2, h3, h4⟩
  · cases h
  · injection hv with e1 e2 e3
    injection e1 with e1
    injection e1 with e1 e4
    subst e1; subst e4; subst e3
    refine ⟨rfl, hg, h1, h2, cur, hh, by rw [hl, h3]; omega, fun j v hj => ?_⟩
    rw [← h4, List.getElem?_take] at hj
    split at hj
    · simpa using hj
    · cases hj
end Go.Proofs.YtphmicbpkljmfaaGreat
