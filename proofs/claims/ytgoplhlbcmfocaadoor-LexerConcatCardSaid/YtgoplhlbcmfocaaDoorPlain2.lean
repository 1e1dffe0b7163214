/- The plain law of the lexer, continued: on how many bytes a token hangs. -/
import Derived.Test.YtgoplhlbcmfocaaDoorPlain
namespace Go.Proofs.YtgoplhlbcmfocaaDoor
set_option linter.unusedVariables false
set_option linter.unusedSimpArgs false
namespace Lx
theorem next_eq (l : List UInt8) : next l = if l.takeWhile wordB = [] then (if symLen l = 0 then (0, 0) else (4, symLen l)) else if wkind (l.takeWhile wordB) = 0 then (0, 0) else (wkind (l.takeWhile wordB), (l.takeWhile wordB).length) := by
  have e : (wordLen l = 0) = (l.takeWhile wordB = []) := by simp only [wordLen, List.length_eq_zero_iff]
  simp only [next, take_wordLen, e]; rfl
theorem next_congr {l l' : List UInt8} (h : l'.takeWhile wordB = l.takeWhile wordB) (h2 : l.takeWhile wordB = [] → symLen l' = symLen l) : next l' = next l := by
  rw [next_eq, next_eq, h]
  by_cases h0 : l.takeWhile wordB = []
  · rw [h2 h0]
  · rw [if_neg h0, if_neg h0]
theorem symLen_le2 (l : List UInt8) : symLen l ≤ 2 := by
  rw [symLen_two_eq]
  repeat' split
  all_goals omega
theorem next_len2 {l : List UInt8} {k n : Nat} (h : next l = (k, n)) (hk : k ≠ 0) : (l.takeWhile wordB = [] ∧ k = 4 ∧ n = symLen l ∧ 0 < n) ∨ (l.takeWhile wordB ≠ [] ∧ n = (l.takeWhile wordB).length ∧ k = wkind (l.takeWhile wordB)) := by
  rw [next_eq] at h
  by_cases h0 : l.takeWhile wordB = []
  · rw [if_pos h0] at h
    split at h
    · simp at h; omega
    · simp only [Prod.mk.injEq] at h; exact Or.inl ⟨h0, h.1.symm, h.2.symm, by omega⟩
  · rw [if_neg h0] at h
    split at h
    · simp at h; omega
    · simp only [Prod.mk.injEq] at h; exact Or.inr ⟨h0, h.2.symm, h.1.symm⟩
theorem symLen_congr {l l' : List UInt8} (h2 : (2 ≤ l'.length) = (2 ≤ l.length)) (e : l'.take 2 = l.take 2) : symLen l' = symLen l := by
  have e1 : l'.take 1 = l.take 1 := by
    have := congrArg (List.take 1) e
    rw [List.take_take, List.take_take] at this; exact this
  have hl : (1 ≤ l'.length) = (1 ≤ l.length) := by
    have := congrArg List.length e1
    rw [List.length_take, List.length_take] at this
    exact propext ⟨fun _ => by omega, fun _ => by omega⟩
  rw [symLen_two_eq, symLen_two_eq]
  simp only [e, e1, h2, hl]
theorem next_take {l : List UInt8} {k n m : Nat} (h : next l = (k, n)) (hk : k ≠ 0) (hm : n ≤ m) : next (l.take m) = (k, n) := by
  rw [← h]
  rcases next_len2 h hk with ⟨h0, rfl, hn, hp⟩ | ⟨h0, hn, _⟩
  · refine next_congr (takeWhile_take _ _ _ (by rw [h0]; simp)) fun _ => ?_
    by_cases h2 : 2 ≤ m
    · exact symLen_congr (by rw [List.length_take]; exact propext ⟨fun _ => by omega, fun _ => by omega⟩) (by rw [List.take_take, Nat.min_eq_left h2])
    · obtain rfl : m = 1 := by omega
      have h1 : symLen l = 1 := by omega
      rw [h1]
      rw [symLen_two_eq] at h1
      split at h1
      · cases h1
      · split at h1
        · rename_i hh
          rw [symLen_two_eq, if_neg (by rw [List.length_take]; omega), if_pos ⟨by rw [List.length_take]; omega, by rw [List.take_take]; exact hh.2⟩]
        · cases h1
  · exact next_congr (takeWhile_take _ _ _ (by omega)) fun e => absurd e h0
theorem next_loc {l l' : List UInt8} {k n : Nat} (h : next l = (k, n)) (hk : k ≠ 0) (hn : n < l.length) (e : l'.take (n + 1) = l.take (n + 1)) : next l' = (k, n) := by
  rw [← h]
  rcases next_len2 h hk with ⟨h0, rfl, hs, hp⟩ | ⟨h0, hs, _⟩
  · have e2 : l'.take 2 = l.take 2 := by
      have := congrArg (List.take 2) e
      rw [List.take_take, List.take_take, Nat.min_eq_left (by omega)] at this; exact this
    have e1 : l'.take 1 = l.take 1 := by
      have := congrArg (List.take 1) e2
      rw [List.take_take, List.take_take] at this; exact this
    have hlen := congrArg List.length e2
    rw [List.length_take, List.length_take] at hlen
    refine next_congr (takeWhile_loc _ _ _ (by rw [h0]; simp; omega) (by rw [h0]; exact e1)) fun _ => symLen_congr (propext ⟨fun _ => by omega, fun _ => by omega⟩) e2
  · subst hs
    exact next_congr (takeWhile_loc _ _ _ hn e) fun e => absurd e h0
theorem takeWhile_take_min (f : UInt8 → Bool) : ∀ (l : List UInt8) (m : Nat), (l.take m).takeWhile f = (l.takeWhile f).take m
  | [], m => by simp
  | c :: r, 0 => by simp
  | c :: r, m + 1 => by
    simp only [List.takeWhile_cons, List.take_succ_cons]
    cases hf : f c
    · simp
    · simp only [if_true, takeWhile_take_min f r m, List.take_succ_cons]
theorem next_bad_loc {l l' : List UInt8} (h : (next l).1 = 0) (hl : 18 ≤ l.length) (e : l'.take 18 = l.take 18) : (next l').1 = 0 := by
  by_cases h0 : (l.takeWhile wordB).length < 18
  · have e1 := congrArg (List.take ((l.takeWhile wordB).length + 1)) e
    rw [List.take_take, List.take_take, Nat.min_eq_left (by omega)] at e1
    have e2 : l'.take 2 = l.take 2 := by
      have := congrArg (List.take 2) e
      rw [List.take_take, List.take_take] at this; exact this
    have hlen := congrArg List.length e2
    rw [List.length_take, List.length_take] at hlen
    rw [next_congr (takeWhile_loc _ _ _ (by omega) e1) fun _ => symLen_congr (propext ⟨fun _ => by omega, fun _ => by omega⟩) e2]
    exact h
  · have e1 := congrArg (List.takeWhile wordB) e
    rw [takeWhile_take_min, takeWhile_take_min] at e1
    have e2 := congrArg List.length e1
    rw [List.length_take, List.length_take] at e2
    have h1 : 16 < (l'.takeWhile wordB).length := by omega
    rw [next_eq, if_neg (by intro e; rw [e] at h1; simp at h1), wk_long h1]; rfl
/-- A byte that separates: it is no letter, digit or underscore, and ends no symbol. -/
def sepB (c : UInt8) : Bool := c == 32 || c == 9 || c == 10 || c == 37
theorem sep_cases {c : UInt8} (h : sepB c = true) : c = 32 ∨ c = 9 ∨ c = 10 ∨ c = 37 := by
  simp only [sepB, Bool.or_eq_true, beq_iff_eq] at h; rcases h with ((h | h) | h) | h <;> simp [h]
theorem takeWhile_sep (f : UInt8 → Bool) {c : UInt8} (hc : f c = false) (r : List UInt8) : ∀ x : List UInt8, (x ++ c :: r).takeWhile f = x.takeWhile f
  | [] => by simp [hc]
  | d :: x => by simp only [List.cons_append, List.takeWhile_cons, takeWhile_sep f hc r x]
theorem next_sep {x : List UInt8} {c : UInt8} (r : List UInt8) (hx : x ≠ []) (hc : sepB c = true) : next (x ++ c :: r) = next x := by
  have hw : wordB c = false := by rcases sep_cases hc with rfl | rfl | rfl | rfl <;> rfl
  refine next_congr (takeWhile_sep _ hw r x) fun _ => ?_
  match x, hx with
  | [a], _ =>
    have h2 : symbols.contains [a, c] = false := by
      rcases sep_cases hc with rfl | rfl | rfl | rfl <;> simp [symbols]
    have t2 : ([a] ++ c :: r).take 2 = [a, c] := rfl
    have t1 : ([a] ++ c :: r).take 1 = [a] := rfl
    rw [symLen_two_eq, symLen_two_eq, t2, t1, h2]
    simp
  | a :: b :: y, _ => exact symLen_congr (by simp) (by simp)
end Lx
end Go.Proofs.YtgoplhlbcmfocaaDoor
