/- The plain law of the lexer, continued: what the tokens of a text are, told along the text; no step of the program here. -/
import Derived.Test.YtgoplhlbcmfocaaDoorRefNext
namespace Go.Proofs.YtgoplhlbcmfocaaDoor
set_option linter.unusedVariables false
set_option linter.unusedSimpArgs false
namespace Lx
/-- l, behind a gap, at place p: the tokens ts, and e: where no token begins, or none at the end. -/
def Sc : List Tok → List UInt8 → Nat → Option Nat → Prop
  | [], l, p, e => (l = [] ∧ e = none) ∨ (l ≠ [] ∧ (next l).1 = 0 ∧ e = some p)
  | t :: ts, l, p, e => l ≠ [] ∧ next l = (t.kind, t.text.length) ∧ t.kind ≠ 0 ∧ t.text = l.take t.text.length ∧ t.pos = p ∧
      Sc ts (l.drop (t.text.length + gapG false (l.drop t.text.length))) (p + t.text.length + gapG false (l.drop t.text.length)) e
theorem sc_run : ∀ (f : Nat) (l : List UInt8) (p : Nat), l.length < f → Sc (run f l p).1 l p (run f l p).2
  | 0, _, _, h => by omega
  | f + 1, l, p, h => by
    by_cases h0 : l = []
    · subst h0; exact Or.inl ⟨rfl, by simp [run]⟩
    · by_cases hk : (next l).1 = 0
      · simp only [run, if_neg h0, if_pos hk]; exact Or.inr ⟨h0, hk, rfl⟩
      · have hl := next_len l hk
        have ht : (l.take (next l).2).length = (next l).2 := by rw [List.length_take]; omega
        have ih := sc_run f (l.drop ((next l).2 + gapG false (l.drop (next l).2))) (p + (next l).2 + gapG false (l.drop (next l).2)) (by rw [List.length_drop]; omega)
        simp only [run, if_neg h0, if_neg hk]
        refine ⟨h0, by rw [ht], hk, by rw [ht], rfl, ?_⟩
        simp only [ht]; exact ih
theorem run_sc : ∀ (ts : List Tok) (f : Nat) (l : List UInt8) (p : Nat) (e : Option Nat), Sc ts l p e → l.length < f → run f l p = (ts, e)
  | [], f, l, p, e, h, hf => by
    obtain ⟨g, rfl⟩ : ∃ g, f = g + 1 := ⟨f - 1, by omega⟩
    rcases h with ⟨rfl, rfl⟩ | ⟨h1, h2, rfl⟩
    · simp [run]
    · simp [run, h1, h2]
  | t :: ts, f, l, p, e, h, hf => by
    obtain ⟨g, rfl⟩ : ∃ g, f = g + 1 := ⟨f - 1, by omega⟩
    obtain ⟨h0, h1, h2, h3, h4, h5⟩ := h
    have hl := next_len l (by rw [h1]; exact h2)
    rw [h1] at hl
    have := run_sc ts g _ _ e h5 (by rw [List.length_drop]; omega)
    simp only [run, if_neg h0, h1, if_neg h2, this]
    obtain ⟨k, x, q⟩ := t
    simp only at *
    rw [← h3, h4]
theorem sc_scan (s : List UInt8) : Sc (scan s).1 (s.drop (gapG false s)) (gapG false s) (scan s).2 := sc_run _ _ _ (by rw [List.length_drop]; omega)
theorem scan_sc {s : List UInt8} {ts : List Tok} {e : Option Nat} (h : Sc ts (s.drop (gapG false s)) (gapG false s) e) : scan s = (ts, e) := run_sc ts _ _ _ e h (by rw [List.length_drop]; omega)
theorem gapG_take : ∀ (b : Bool) (l : List UInt8) (k : Nat), gapG b (l.take k) = min (gapG b l) k
  | b, [], k => by simp [gapG]
  | b, c :: r, 0 => by cases b <;> simp [gapG]
  | true, c :: r, k + 1 => by
    have h1 := gapG_take false r k; have h2 := gapG_take true r k
    rw [List.take_succ_cons]; simp only [gapG, h1, h2]; split <;> omega
  | false, c :: r, k + 1 => by
    have h1 := gapG_take false r k; have h2 := gapG_take true r k
    rw [List.take_succ_cons]; simp only [gapG, h1, h2]; repeat' split
    all_goals omega
theorem gapG_loc : ∀ (b : Bool) (l l' : List UInt8), gapG b l < l.length → l'.take (gapG b l + 1) = l.take (gapG b l + 1) → gapG b l' = gapG b l
  | b, [], l', h, _ => by simp at h
  | b, c :: r, [], h, e => by simp at e
  | true, c :: r, d :: r', h, e => by
    simp only [List.take_succ_cons, List.cons.injEq] at e
    obtain ⟨rfl, e⟩ := e
    simp only [gapG, List.length_cons] at h e ⊢
    split at h
    · rename_i hc; rw [if_pos hc] at e ⊢; rw [if_pos hc, gapG_loc false r r' (by omega) (by rw [Nat.add_comm] at e; exact e)]
    · rename_i hc; rw [if_neg hc] at e ⊢; rw [if_neg hc, gapG_loc true r r' (by omega) (by rw [Nat.add_comm] at e; exact e)]
  | false, c :: r, d :: r', h, e => by
    simp only [List.take_succ_cons, List.cons.injEq] at e
    obtain ⟨rfl, e⟩ := e
    simp only [gapG, List.length_cons] at h e ⊢
    split at h
    · rename_i hc; rw [if_pos hc] at e ⊢; rw [if_pos hc, gapG_loc false r r' (by omega) (by rw [Nat.add_comm] at e; exact e)]
    · rename_i hc
      rw [if_neg hc] at e ⊢; rw [if_neg hc]
      split at h
      · rename_i hd; rw [if_pos hd] at e ⊢; rw [if_pos hd, gapG_loc true r r' (by omega) (by rw [Nat.add_comm] at e; exact e)]
      · rename_i hd; rw [if_neg hd, if_neg hd]
theorem takeWhile_loc (f : UInt8 → Bool) : ∀ (l l' : List UInt8), (l.takeWhile f).length < l.length → l'.take ((l.takeWhile f).length + 1) = l.take ((l.takeWhile f).length + 1) → l'.takeWhile f = l.takeWhile f
  | [], l', h, _ => by simp at h
  | c :: r, [], h, e => by simp at e
  | c :: r, d :: r', h, e => by
    simp only [List.take_succ_cons, List.cons.injEq] at e
    obtain ⟨rfl, e⟩ := e
    simp only [List.takeWhile_cons] at h e ⊢
    cases hf : f d
    · simp
    · simp only [hf, if_true, List.length_cons] at h e ⊢
      rw [takeWhile_loc f r r' (by omega) e]
theorem takeWhile_take (f : UInt8 → Bool) : ∀ (l : List UInt8) (m : Nat), (l.takeWhile f).length ≤ m → (l.take m).takeWhile f = l.takeWhile f
  | [], m, _ => by simp
  | c :: r, 0, h => by
    simp only [List.takeWhile_cons] at h ⊢
    cases hf : f c
    · simp
    · simp [hf] at h
  | c :: r, m + 1, h => by
    simp only [List.takeWhile_cons, List.take_succ_cons] at h ⊢
    cases hf : f c
    · rfl
    · simp only [hf, if_true, List.length_cons] at h ⊢
      rw [takeWhile_take f r m (by omega)]
/-- The symbol at the beginning hangs on the first two bytes. -/
theorem symLen_two_eq (l : List UInt8) : symLen l = if 2 ≤ l.length ∧ symbols.contains (l.take 2) = true then 2 else if 1 ≤ l.length ∧ symbols.contains (l.take 1) = true then 1 else 0 := by
  by_cases h2 : 2 ≤ l.length ∧ symbols.contains (l.take 2) = true
  · rw [if_pos h2]; exact symLen_two h2.1 h2.2
  · rw [if_neg h2]
    have n2 : 2 ≤ l.length → symbols.contains (l.take 2) = false := fun h => by rw [← Bool.not_eq_true]; exact fun hc => h2 ⟨h, hc⟩
    by_cases h1 : 1 ≤ l.length ∧ symbols.contains (l.take 1) = true
    · rw [if_pos h1]; exact symLen_one h1.1 n2 h1.2
    · rw [if_neg h1]; exact symLen_zero n2 (fun h => by rw [← Bool.not_eq_true]; exact fun hc => h1 ⟨h, hc⟩)
end Lx
end Go.Proofs.YtgoplhlbcmfocaaDoor
