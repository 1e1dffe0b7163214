/- The plain law of the lexer, continued: what the tokens of a text are, told along the text; no step of the program here. -/
import Derived.Test.YtpcmlkpnjimbiaaDoorRefLex
namespace Go.Proofs.YtpcmlkpnjimbiaaDoor
set_option linter.unusedVariables false
set_option linter.unusedSimpArgs false
namespace Lx
/-- l, behind a gap, at place p: the tokens ts, and e: where no token begins, or none at the end. -/
def Sc : List Tok → List UInt8 → Nat → Option Nat → Prop
  | [], l, p, e => (l = [] ∧ e = none) ∨ (l ≠ [] ∧ (next l).1 = 0 ∧ e = some p)
  | t :: ts, l, p, e => l ≠ [] ∧ next l = (t.kind, t.text.length) ∧ t.kind ≠ 0 ∧ t.text = l.take t.text.length ∧ t.pos = p ∧
      Sc ts (l.drop (t.text.length + gapG false (l.drop t.text.length))) (p + t.text.length + gapG false (l.drop t.text.length)) e
theorem sc_run : ∀ (f : Nat) (l : List UInt8) (p : Nat), l.length < f → Sc (run f l p).1 l p (run f l p).2
  | 0, _, _, h => by omega
  | f + 1, l, p, h => by
    by_cases h0 : l = []
    · subst h0; exact Or.inl ⟨rfl, by simp [run]⟩
    · by_cases hk : (next l).1 = 0
      · simp only [run, if_neg h0, if_pos hk]; exact Or.inr ⟨h0, hk, rfl⟩
      · have hl := next_len l hk
        have ht : (l.take (next l).2).length = (next l).2 := by rw [List.length_take]; omega
        have ih := sc_run f (l.drop ((next l).2 + gapG false (l.drop (next l).2))) (p + (next l).2 + gapG false (l.drop (next l).2)) (by rw [List.length_drop]; omega)
        simp only [run, if_neg h0, if_neg hk]
        refine ⟨h0, by rw [ht], hk, by rw [ht], rfl, ?_⟩
        simp only [ht]; exact ih
theorem run_sc : ∀ (ts : List Tok) (f : Nat) (l : List UInt8) (p : Nat) (e : Option Nat), Sc ts l p e → l.length < f → run f l p = (ts, e)
  | [], f, l, p, e, h, hf => by
    obtain ⟨g, rfl⟩ : ∃ g, f = g + 1 := ⟨f - 1, by omega⟩
    rcases h with ⟨rfl, rfl⟩ | ⟨h1, h2, rfl⟩
    · simp [run]
    · simp [run, h1, h2]
  | t :: ts, f, l, p, e, h, hf => by
    obtain ⟨g, rfl⟩ : ∃ g, f = g + 1 := ⟨f - 1, by omega⟩
    obtain ⟨h0, h1, h2, h3, h4, h5⟩ := h
    have hl := next_len l (by rw [h1]; exact h2)
    rw [h1] at hl
    have := run_sc ts g _ _ e h5 (by rw [List.length_drop]; omega)
    simp only [run, if_neg h0, h1, if_neg h2, this]
    obtain ⟨k, x, q⟩ := t
    simp only at *
    rw [← h3, h4]
theorem sc_scan (s : List UInt8) : Sc (scan s).1 (s.drop (gapG false s)) (gapG false s) (scan s).2 := sc_run _ _ _ (by rw [List.length_drop]; omega)
theorem scan_sc {s : List UInt8} {ts : List Tok} {e : Option Nat} (h : Sc ts (s.drop (gapG false s)) (gapG false s) e) : scan s = (ts, e) := run_sc ts _ _ _ e h (by rw [List.length_drop]; omega)
theorem gapG_take : ∀ (b : Bool) (l : List UInt8) (k : Nat), gapG b (l.take k) = min (gapG b l) k
  | b, [], k => by simp [gapG]
  | b, c :: r, 0 => by cases b <;> simp [gapG]
  | true, c :: r, k + 1 => by
    have h1 := gapG_take false r k; have h2 := gapG_take true r k
    rw [List.take_succ_cons]; simp only [gapG, h1, h2]; split <;> omega
  | false, c :: r, k + 1 => by
    have h1 := gapG_take false r k; have h2 := gapG_take true r k
    rw [List.take_succ_cons]; simp only [gapG, h1, h2]; repeat' split
    all_goals omega
theorem gapG_loc : ∀ (b : Bool) (l l' : List UInt8), gapG b l < l.length → l'.take (gapG b l + 1) = l.take (gapG b l + 1) → gapG b l' = gapG b l
  | b, [], l', h, _ => by simp at h
  | b, c :: r, [], h, e => by simp at e
  | true, c :: r, d :: r', h, e => by
    simp only [List.take_succ_cons, List.cons.injEq] at e
    obtain ⟨rfl, e⟩ := e
    simp only [gapG, List.length_cons] at h e ⊢
    split at h
    · rename_i hc; rw [if_pos hc] at e ⊢; rw [if_pos hc, gapG_loc false r r' (by omega) (by rw [Nat.add_comm] at e; exact e)]
    · rename_i hc; rw [if_neg hc] at e ⊢; rw [if_neg hc, gapG_loc true r r' (by omega) (by rw [Nat.add_comm] at e; exact e)]
  | false, c :: r, d :: r', h, e => by
    simp only [List.take_succ_cons, List.cons.injEq] at e
    obtain ⟨rfl, e⟩ := e
    simp only [gapG, List.length_cons] at h e ⊢
    split at h
    · rename_i hc; rw [if_pos hc] at e ⊢; rw [if_pos hc, gapG_loc false r r' (by omega) (by rw [Nat.add_comm] at e; exact e)]
    · rename_i hc
      rw [if_neg hc] at e ⊢; rw [if_neg hc]
      split at h
      · rename_i hd; rw [if_pos hd] at e ⊢; rw [if_pos hd, gapG_loc true r r' (by omega) (by rw [Nat.add_comm] at e; exact e)]
      · rename_i hd; rw [if_neg hd, if_neg hd]
theorem takeWhile_loc (f : UInt8 → Bool) : ∀ (l l' : List UInt8), (l.takeWhile f).length < l.length → l'.take ((l.takeWhile f).length + 1) = l.take ((l.takeWhile f).length + 1) → l'.takeWhile f = l.takeWhile f
  | [], l', h, _ => by simp at h
  | c :: r, [], h, e => by simp at e
  | c :: r, d :: r', h, e => by
    simp only [List.take_succ_cons, List.cons.injEq] at e
    obtain ⟨rfl, e⟩ := e
    simp only [List.takeWhile_cons] at h e ⊢
    cases hf : f d
    · simp
    · simp only [hf, if_true, List.length_cons] at h e ⊢
      rw [takeWhile_loc f r r' (by omega) e]
theorem takeWhile_take (f : UInt8 → Bool) : ∀ (l : List UInt8) (m : Nat), (l.takeWhile f).length ≤ m → (l.take m).takeWhile f = l.takeWhile f
  | [], m, _ => by simp
  | c :: r, 0, h => by
    simp only [List.takeWhile_cons] at h ⊢
    cases hf : f c
    · simp
    · simp [hf] at h
  | c :: r, m + 1, h => by
    simp only [List.takeWhile_cons, List.take_succ_cons] at h ⊢
    cases hf : f c
    · rfl
    · simp only [hf, if_true, List.length_cons] at h ⊢
      rw [takeWhile_take f r m (by omega)]
/-- The symbol at the beginning hangs on the first two bytes. -/
theorem symLen_two_eq (l : List UInt8) : symLen l = if 2 ≤ l.length ∧ symbols.contains (l.take 2) = true then 2 else if 1 ≤ l.length ∧ symbols.contains (l.take 1) = true then 1 else 0 := by
  by_cases h2 : 2 ≤ l.length ∧ symbols.contains (l.take 2) = true
  · rw [if_pos h2]; exact symLen_two h2.1 h2.2
  · rw [if_neg h2]
    have n2 : 2 ≤ l.length → symbols.contains (l.take 2) = false := fun h => by rw [← Bool.not_eq_true]; exact fun hc => h2 ⟨h, hc⟩
    by_cases h1 : 1 ≤ l.length ∧ symbols.contains (l.take 1) = true
    · rw [if_pos h1]; exact symLen_one h1.1 n2 h1.2
    · rw [if_neg h1]; exact symLen_zero n2 (fun h => by rw [← Bool.not_eq_true]; exact fun hc => h1 ⟨h, hc⟩)
end Lx
end Go.Proofs.YtpcmlkpnjimbiaaDoor
namespace Go.Proofs.YtpcmlkpnjimbiaaDoor
set_option linter.unusedVariables false
set_option linter.unusedSimpArgs false
namespace Lx
theorem next_eq (l : List UInt8) : next l = if l.takeWhile wordB = [] then (if symLen l = 0 then (0, 0) else (4, symLen l)) else if wkind (l.takeWhile wordB) = 0 then (0, 0) else (wkind (l.takeWhile wordB), (l.takeWhile wordB).length) := by
  have e : (wordLen l = 0) = (l.takeWhile wordB = []) := by simp only [wordLen, List.length_eq_zero_iff]
  simp only [next, take_wordLen, e]; rfl
theorem next_congr {l l' : List UInt8} (h : l'.takeWhile wordB = l.takeWhile wordB) (h2 : l.takeWhile wordB = [] → symLen l' = symLen l) : next l' = next l := by
  rw [next_eq, next_eq, h]
  by_cases h0 : l.takeWhile wordB = []
  · rw [h2 h0]
  · rw [if_neg h0, if_neg h0]
theorem symLen_le2 (l : List UInt8) : symLen l ≤ 2 := by
  rw [symLen_two_eq]
  repeat' split
  all_goals omega
theorem next_len2 {l : List UInt8} {k n : Nat} (h : next l = (k, n)) (hk : k ≠ 0) : (l.takeWhile wordB = [] ∧ k = 4 ∧ n = symLen l ∧ 0 < n) ∨ (l.takeWhile wordB ≠ [] ∧ n = (l.takeWhile wordB).length ∧ k = wkind (l.takeWhile wordB)) := by
  rw [next_eq] at h
  by_cases h0 : l.takeWhile wordB = []
  · rw [if_pos h0] at h
    split at h
    · simp at h; omega
    · simp only [Prod.mk.injEq] at h; exact Or.inl ⟨h0, h.1.symm, h.2.symm, by omega⟩
  · rw [if_neg h0] at h
    split at h
    · simp at h; omega
    · simp only [Prod.mk.injEq] at h; exact Or.inr ⟨h0, h.2.symm, h.1.symm⟩
theorem symLen_congr {l l' : List UInt8} (h2 : (2 ≤ l'.length) = (2 ≤ l.length)) (e : l'.take 2 = l.take 2) : symLen l' = symLen l := by
  have e1 : l'.take 1 = l.take 1 := by
    have := congrArg (List.take 1) e
    rw [List.take_take, List.take_take] at this; exact this
  have hl : (1 ≤ l'.length) = (1 ≤ l.length) := by
    have := congrArg List.length e1
    rw [List.length_take, List.length_take] at this
    exact propext ⟨fun _ => by omega, fun _ => by omega⟩
  rw [symLen_two_eq, symLen_two_eq]
  simp only [e, e1, h2, hl]
theorem next_take {l : List UInt8} {k n m : Nat} (h : next l = (k, n)) (hk : k ≠ 0) (hm : n ≤ m) : next (l.take m) = (k, n) := by
  rw [← h]
  rcases next_len2 h hk with ⟨h0, rfl, hn, hp⟩ | ⟨h0, hn, _⟩
  · refine next_congr (takeWhile_take _ _ _ (by rw [h0]; simp)) fun _ => ?_
    by_cases h2 : 2 ≤ m
    · exact symLen_congr (by rw [List.length_take]; exact propext ⟨fun _ => by omega, fun _ => by omega⟩) (by rw [List.take_take, Nat.min_eq_left h2])
    · obtain rfl : m = 1 := by omega
      have h1 : symLen l = 1 := by omega
      rw [h1]
      rw [symLen_two_eq] at h1
      split at h1
      · cases h1
      · split at h1
        · rename_i hh
          rw [symLen_two_eq, if_neg (by rw [List.length_take]; omega), if_pos ⟨by rw [List.length_take]; omega, by rw [List.take_take]; exact hh.2⟩]
        · cases h1
  · exact next_congr (takeWhile_take _ _ _ (by omega)) fun e => absurd e h0
theorem next_loc {l l' : List UInt8} {k n : Nat} (h : next l = (k, n)) (hk : k ≠ 0) (hn : n < l.length) (e : l'.take (n + 1) = l.take (n + 1)) : next l' = (k, n) := by
  rw [← h]
  rcases next_len2 h hk with ⟨h0, rfl, hs, hp⟩ | ⟨h0, hs, _⟩
  · have e2 : l'.take 2 = l.take 2 := by
      have := congrArg (List.take 2) e
      rw [List.take_take, List.take_take, Nat.min_eq_left (by omega)] at this; exact this
    have e1 : l'.take 1 = l.take 1 := by
      have := congrArg (List.take 1) e2
      rw [List.take_take, List.take_take] at this; exact this
    have hlen := congrArg List.length e2
    rw [List.length_take, List.length_take] at hlen
    refine next_congr (takeWhile_loc _ _ _ (by rw [h0]; simp; omega) (by rw [h0]; exact e1)) fun _ => symLen_congr (propext ⟨fun _ => by omega, fun _ => by omega⟩) e2
  · subst hs
    exact next_congr (takeWhile_loc _ _ _ hn e) fun e => absurd e h0
theorem takeWhile_take_min (f : UInt8 → Bool) : ∀ (l : List UInt8) (m : Nat), (l.take m).takeWhile f = (l.takeWhile f).take m
  | [], m => by simp
  | c :: r, 0 => by simp
  | c :: r, m + 1 => by
    simp only [List.takeWhile_cons, List.take_succ_cons]
    cases hf : f c
    · simp
    · simp only [if_true, takeWhile_take_min f r m, List.take_succ_cons]
theorem next_bad_loc {l l' : List UInt8} (h : (next l).1 = 0) (hl : 18 ≤ l.length) (e : l'.take 18 = l.take 18) : (next l').1 = 0 := by
  by_cases h0 : (l.takeWhile wordB).length < 18
  · have e1 := congrArg (List.take ((l.takeWhile wordB).length + 1)) e
    rw [List.take_take, List.take_take, Nat.min_eq_left (by omega)] at e1
    have e2 : l'.take 2 = l.take 2 := by
      have := congrArg (List.take 2) e
      rw [List.take_take, List.take_take] at this; exact this
    have hlen := congrArg List.length e2
    rw [List.length_take, List.length_take] at hlen
    rw [next_congr (takeWhile_loc _ _ _ (by omega) e1) fun _ => symLen_congr (propext ⟨fun _ => by omega, fun _ => by omega⟩) e2]
    exact h
  · have e1 := congrArg (List.takeWhile wordB) e
    rw [takeWhile_take_min, takeWhile_take_min] at e1
    have e2 := congrArg List.length e1
    rw [List.length_take, List.length_take] at e2
    have h1 : 16 < (l'.takeWhile wordB).length := by omega
    rw [next_eq, if_neg (by intro e; rw [e] at h1; simp at h1), wk_long h1]; rfl
/-- A byte that separates: it is no letter, digit or underscore, and ends no symbol. -/
def sepB (c : UInt8) : Bool := c == 32 || c == 9 || c == 10 || c == 37
theorem sep_cases {c : UInt8} (h : sepB c = true) : c = 32 ∨ c = 9 ∨ c = 10 ∨ c = 37 := by
  simp only [sepB, Bool.or_eq_true, beq_iff_eq] at h; rcases h with ((h | h) | h) | h <;> simp [h]
theorem takeWhile_sep (f : UInt8 → Bool) {c : UInt8} (hc : f c = false) (r : List UInt8) : ∀ x : List UInt8, (x ++ c :: r).takeWhile f = x.takeWhile f
  | [] => by simp [hc]
  | d :: x => by simp only [List.cons_append, List.takeWhile_cons, takeWhile_sep f hc r x]
theorem next_sep {x : List UInt8} {c : UInt8} (r : List UInt8) (hx : x ≠ []) (hc : sepB c = true) : next (x ++ c :: r) = next x := by
  have hw : wordB c = false := by rcases sep_cases hc with rfl | rfl | rfl | rfl <;> rfl
  refine next_congr (takeWhile_sep _ hw r x) fun _ => ?_
  match x, hx with
  | [a], _ =>
    have h2 : symbols.contains [a, c] = false := by
      rcases sep_cases hc with rfl | rfl | rfl | rfl <;> simp [symbols]
    have t2 : ([a] ++ c :: r).take 2 = [a, c] := rfl
    have t1 : ([a] ++ c :: r).take 1 = [a] := rfl
    rw [symLen_two_eq, symLen_two_eq, t2, t1, h2]
    simp
  | a :: b :: y, _ => exact symLen_congr (by simp) (by simp)
end Lx
end Go.Proofs.YtpcmlkpnjimbiaaDoor
namespace Go.Proofs.YtpcmlkpnjimbiaaDoor
set_option linter.unusedVariables false
set_option linter.unusedSimpArgs false
namespace Lx
def endAt : Nat → List Tok → Nat → Nat
  | a, _, 0 => a
  | a, [], _ + 1 => a
  | _, t :: ts, i + 1 => endAt (t.pos + t.text.length) ts i
theorem endAt_succ : ∀ (ts : List Tok) (a i : Nat) (h : i < ts.length), endAt a ts (i + 1) = ts[i].pos + ts[i].text.length
  | [], a, i, h => by simp at h
  | t :: ts, a, 0, h => by cases ts <;> rfl
  | t :: ts, a, i + 1, h => by
    have := endAt_succ ts (t.pos + t.text.length) i (by simpa using h)
    simpa [endAt] using this
/-- A token at its place in a text. -/
def Tk (s : List UInt8) (t : Tok) : Prop :=
  t.pos + t.text.length ≤ s.length ∧ t.text = (s.drop t.pos).take t.text.length ∧ next (s.drop t.pos) = (t.kind, t.text.length) ∧ t.kind ≠ 0 ∧ 0 < t.text.length
theorem sc_get : ∀ (ts : List Tok) (s : List UInt8) (a : Nat) (e : Option Nat), a ≤ s.length → Sc ts (s.drop (a + gapG false (s.drop a))) (a + gapG false (s.drop a)) e →
    (∀ (i : Nat) (h : i < ts.length), ts[i].pos = endAt a ts i + gapG false (s.drop (endAt a ts i)) ∧ Tk s ts[i]) ∧ endAt a ts ts.length ≤ s.length ∧
      (e = none → endAt a ts ts.length + gapG false (s.drop (endAt a ts ts.length)) = s.length) ∧ (∀ q, e = some q → q = endAt a ts ts.length + gapG false (s.drop (endAt a ts ts.length)) ∧ q < s.length ∧ (next (s.drop q)).1 = 0)
  | [], s, a, e, ha, h => by
    have hg := gapG_le false (s.drop a)
    rw [List.length_drop] at hg
    refine ⟨fun i h => by simp at h, ha, fun he => ?_, fun q hq => ?_⟩
    · rcases h with ⟨h1, _⟩ | ⟨_, _, h3⟩
      · have := congrArg List.length h1
        rw [List.length_drop] at this
        simp [endAt] at this ⊢; omega
      · rw [he] at h3; cases h3
    · rcases h with ⟨_, h2⟩ | ⟨h1, h2, h3⟩
      · rw [hq] at h2; cases h2
      · rw [hq] at h3
        obtain rfl := Option.some.inj h3
        refine ⟨rfl, ?_, h2⟩
        rcases Nat.lt_or_ge (a + gapG false (s.drop a)) s.length with hh | hh
        · exact hh
        · exact absurd (List.drop_of_length_le hh) h1
  | t :: ts, s, a, e, ha, h => by
    obtain ⟨h0, h1, h2, h3, h4, h5⟩ := h
    have hl := next_len (s.drop (a + gapG false (s.drop a))) (by rw [h1]; exact h2)
    rw [h1, List.length_drop] at hl
    simp only at hl
    have hne : a + gapG false (s.drop a) < s.length := by omega
    simp only [List.drop_drop] at h5
    rw [← Nat.add_assoc] at h5
    rw [← h4] at h5 h3 h1 hl hne
    have ih := sc_get ts s (t.pos + t.text.length) e (by omega) h5
    refine ⟨fun i h => ?_, by simpa [endAt] using ih.2.1, fun he => by simpa [endAt] using ih.2.2.1 he, fun q hq => by simpa [endAt] using ih.2.2.2 q hq⟩
    match i, h with
    | 0, _ => exact ⟨h4, by simp only [List.getElem_cons_zero]; omega, h3, h1, h2, hl.1⟩
    | i + 1, h => exact ih.1 i (by simpa using h)
theorem lex_ok_of {s : List UInt8} (h : (lex s).2.1 = 0) : s.length ≤ 8000 ∧ (scan s).2 = none ∧ (scan s).1.length ≤ 3000 ∧ lex s = ((scan s).1, 0, -1) := by
  unfold lex at h ⊢
  by_cases h1 : 8000 < s.length
  · simp [h1] at h
  · rw [if_neg h1] at h ⊢
    by_cases h2 : 3000 < (scan s).1.length
    · simp [h2] at h
    · rw [dif_neg h2] at h ⊢
      cases h3 : (scan s).2 with
      | none => exact ⟨by omega, rfl, by omega, rfl⟩
      | some p => rw [h3] at h; simp only at h; split at h <;> simp at h
/-- What Lex gives: without an error each token is at its place. -/
theorem lex_get {s : List UInt8} (h : (lex s).2.1 = 0) : s.length ≤ 8000 ∧ (lex s).1.length ≤ 3000 ∧ (lex s).2.2 = -1 ∧ (∀ (i : Nat) (h : i < (lex s).1.length), (lex s).1[i].pos = endAt 0 (lex s).1 i + gapG false (s.drop (endAt 0 (lex s).1 i)) ∧ Tk s (lex s).1[i]) ∧ endAt 0 (lex s).1 (lex s).1.length ≤ s.length ∧
      endAt 0 (lex s).1 (lex s).1.length + gapG false (s.drop (endAt 0 (lex s).1 (lex s).1.length)) = s.length := by
  obtain ⟨h1, h2, h3, h4⟩ := lex_ok_of h
  rw [h4]
  have hs := sc_scan s
  have := sc_get (scan s).1 s 0 (scan s).2 (by omega) (by simpa using hs)
  exact ⟨h1, h3, rfl, this.1, this.2.1, this.2.2.1 h2⟩
theorem sym_first : ∀ p ∈ symbols, ∀ c r, p = c :: r → wordB c = false := by
  intro p hp c r e
  subst e
  have : ∀ q ∈ symbols, (q.head?.map wordB).getD false = false := by decide
  simpa using this _ hp
theorem tw_first {l : List UInt8} (h : l.takeWhile wordB = []) : ∀ c r, l = c :: r → wordB c = false := by
  intro c r e
  subst e
  rw [List.takeWhile_cons] at h
  cases hc : wordB c
  · rfl
  · rw [hc] at h; simp at h
theorem wkind_len {l : List UInt8} (h : wkind l ≠ 0) : l.length ≤ 16 := by
  rcases Nat.lt_or_ge 16 l.length with h1 | h1
  · exact absurd (wk_long h1) h
  · exact h1
theorem take_tw (l : List UInt8) : l.take (l.takeWhile wordB).length = l.takeWhile wordB := take_wordLen l
theorem rkind_next {l : List UInt8} {k n : Nat} (h : next l = (k, n)) (hk : k ≠ 0) : rkind (l.take n) = k := by
  rcases next_len2 h hk with ⟨h0, rfl, hn, hp⟩ | ⟨h0, hn, hkk⟩
  · subst hn
    rw [symLen_two_eq] at hp ⊢
    split at hp
    · rename_i h2; rw [if_pos h2]; exact rk_sym h2.2
    · rename_i h2
      split at hp
      · rename_i h1; rw [if_neg h2, if_pos h1]; exact rk_sym h1.2
      · omega
  · subst hn
    rw [take_tw]
    have ha := takeWhile_all l wordB
    have hl := wkind_len (l := l.takeWhile wordB) (by rw [← hkk]; exact hk)
    have hpos : (l.takeWhile wordB).length ≠ 0 := by intro e; exact h0 (List.length_eq_zero_iff.1 e)
    rw [rk_word (sym_noword ha) (by omega) ha, hkk]
theorem tw_stop : ∀ (x : List UInt8) (h : (x.takeWhile wordB).length < x.length), wordB x[(x.takeWhile wordB).length] = false
  | [], h => by simp at h
  | d :: y, h => by
    cases hd : wordB d
    · simp [List.takeWhile_cons, hd]
    · simp only [List.takeWhile_cons, hd, if_true, List.length_cons] at h ⊢
      simpa using tw_stop y (by omega)
theorem rkind_more {l : List UInt8} {k n m : Nat} (h : next l = (k, n)) (hk : k ≠ 0) (hm : n < m) (hml : m ≤ l.length) : rkind (l.take m) = 0 := by
  rcases next_len2 h hk with ⟨h0, rfl, hn, hp⟩ | ⟨h0, hn, hkk⟩
  · match l, hml with
    | [], hml => simp at hml; omega
    | c :: r, hml =>
      have hc := tw_first h0 c r rfl
      have hs : symbols.contains ((c :: r).take m) = false := by
        rw [← Bool.not_eq_true]
        intro hcn
        have hmem := List.contains_iff_mem.1 hcn
        have hlen : ((c :: r).take m).length = m := by rw [List.length_take]; omega
        rcases (sym_lens _ hmem).1 with e | e
        · omega
        · have hm2 : m = 2 := by omega
          subst hm2
          rw [symLen_two_eq, if_pos ⟨by omega, hcn⟩] at hn
          omega
      exact rk_bad hs (k := 0) (c := c) (by
        obtain ⟨j, rfl⟩ : ∃ j, m = j + 1 := ⟨m - 1, by omega⟩
        simp) hc
  · subst hn
    match l, h0, hml with
    | [], h0, hml => simp at h0
    | c :: r, h0, hml =>
      have hc : wordB c = true := by
        cases hc : wordB c
        · rw [List.takeWhile_cons, hc] at h0; simp at h0
        · rfl
      have hs : symbols.contains ((c :: r).take m) = false := by
        rw [← Bool.not_eq_true]
        intro hcn
        have hmem := List.contains_iff_mem.1 hcn
        obtain ⟨j, rfl⟩ : ∃ j, m = j + 1 := ⟨m - 1, by omega⟩
        rw [List.take_succ_cons] at hmem
        have := sym_first _ hmem c _ rfl
        rw [hc] at this; cases this
      have hlt : ((c :: r).takeWhile wordB).length < (c :: r).length := by omega
      exact rk_bad hs (by rw [List.getElem?_take, if_pos hm]; exact List.getElem?_eq_getElem hlt) (tw_stop _ hlt)
theorem word_after {l : List UInt8} {k n : Nat} (h : next l = (k, n)) (hk : k ≠ 0) (h4 : k ≠ 4) (hn : n < l.length) : wordB l[n] = false := by
  have h1 := rkind_more h hk (Nat.lt_succ_self n) hn
  rcases next_len2 h hk with ⟨_, rfl, _⟩ | ⟨h0, hnn, hkk⟩
  · exact absurd rfl h4
  · subst hnn; exact tw_stop _ hn
end Lx
end Go.Proofs.YtpcmlkpnjimbiaaDoor
namespace Go.Proofs.YtpcmlkpnjimbiaaDoor
set_option linter.unusedVariables false
set_option linter.unusedSimpArgs false
namespace Lx
/-- Where the next token would begin. -/
def after : List Tok → List UInt8 → Nat → Nat
  | [], _, p => p
  | t :: ts, l, p => after ts (l.drop (t.text.length + gapG false (l.drop t.text.length))) (p + t.text.length + gapG false (l.drop t.text.length))
theorem endAt_ge : ∀ (ts1 ts2 : List Tok) (l : List UInt8) (p : Nat) (e : Option Nat), Sc (ts1 ++ ts2) l p e → p ≤ endAt p ts1 ts1.length ∧ endAt p ts1 ts1.length ≤ after ts1 l p
  | [], ts2, l, p, e, _ => ⟨Nat.le_refl _, Nat.le_refl _⟩
  | t :: ts, ts2, l, p, e, h => by
    obtain ⟨h0, h1, h2, h3, h4, h5⟩ := h
    have ih := endAt_ge ts ts2 _ _ e h5
    cases ts with
    | nil => simp only [endAt, after, List.length_cons, List.length_nil]; omega
    | cons t' ts =>
      obtain ⟨_, _, _, _, h4', _⟩ := h5
      have e1 : endAt p (t :: t' :: ts) (t :: t' :: ts).length = endAt (t'.pos + t'.text.length) ts ts.length := rfl
      have e2 : ∀ q, endAt q (t' :: ts) (t' :: ts).length = endAt (t'.pos + t'.text.length) ts ts.length := fun _ => rfl
      rw [e2] at ih
      rw [e1]
      refine ⟨by omega, ?_⟩
      simpa [after] using ih.2
theorem sc_start : ∀ (ts1 ts2 : List Tok) (t : Tok) (l : List UInt8) (p : Nat) (e : Option Nat), Sc (ts1 ++ t :: ts2) l p e → t.pos = after ts1 l p
  | [], _, _, _, _, _, h => h.2.2.2.2.1
  | _ :: ts, ts2, t, _, _, e, h => sc_start ts ts2 t _ _ e h.2.2.2.2.2
theorem sc_after : ∀ (ts : List Tok) (l : List UInt8) (p q : Nat), Sc ts l p (some q) → q = after ts l p
  | [], l, p, q, h => by
    rcases h with ⟨_, h⟩ | ⟨_, _, h⟩
    · cases h
    · exact Option.some.inj h
  | t :: ts, l, p, q, h => sc_after ts _ _ q h.2.2.2.2.2
theorem sc_cut : ∀ (ts1 ts2 : List Tok) (l : List UInt8) (p m : Nat) (e : Option Nat), Sc (ts1 ++ ts2) l p e → endAt p ts1 ts1.length ≤ p + m → p + m ≤ after ts1 l p → Sc ts1 (l.take m) p none
  | [], ts2, l, p, m, e, _, _, h2 => by
    simp only [after] at h2
    obtain rfl : m = 0 := by omega
    exact Or.inl ⟨rfl, rfl⟩
  | t :: ts, ts2, l, p, m, e, h, he, ha => by
    have hge := endAt_ge ts ts2 _ _ e h.2.2.2.2.2
    obtain ⟨h0, h1, h2, h3, h4, h5⟩ := h
    have hn : t.text.length ≤ m := by
      cases ts with
      | nil => simp only [endAt, List.length_cons, List.length_nil] at he; omega
      | cons t' ts =>
        obtain ⟨_, _, _, _, h4', _⟩ := h5
        have e1 : endAt p (t :: t' :: ts) (t :: t' :: ts).length = endAt (t'.pos + t'.text.length) ts ts.length := rfl
        have e2 : ∀ q, endAt q (t' :: ts) (t' :: ts).length = endAt (t'.pos + t'.text.length) ts ts.length := fun _ => rfl
        rw [e1] at he; rw [e2] at hge
        omega
    have hl := next_len l (by rw [h1]; exact h2)
    rw [h1] at hl
    simp only at hl
    have hd : (l.take m).drop t.text.length = (l.drop t.text.length).take (m - t.text.length) := by rw [List.drop_take]
    have hg : gapG false ((l.take m).drop t.text.length) = min (gapG false (l.drop t.text.length)) (m - t.text.length) := by rw [hd, gapG_take]
    refine ⟨?_, next_take h1 h2 hn, h2, ?_, h4, ?_⟩
    · intro hc; have := congrArg List.length hc; rw [List.length_take, List.length_nil] at this; omega
    · rw [List.take_take, Nat.min_eq_left hn]; exact h3
    · rw [hg]
      cases ts with
      | nil =>
        simp only [after] at ha
        rw [Nat.min_eq_right (by omega), show t.text.length + (m - t.text.length) = m from by omega, List.drop_of_length_le (by rw [List.length_take]; omega)]
        exact Or.inl ⟨rfl, rfl⟩
      | cons t' ts =>
        have h4' := h5.2.2.2.2.1
        have e1 : endAt p (t :: t' :: ts) (t :: t' :: ts).length = endAt (t'.pos + t'.text.length) ts ts.length := rfl
        have e2 : ∀ q, endAt q (t' :: ts) (t' :: ts).length = endAt (t'.pos + t'.text.length) ts ts.length := fun _ => rfl
        rw [e1] at he
        have hge1 := hge.1
        rw [e2] at hge1
        have hmg : t.text.length + gapG false (l.drop t.text.length) ≤ m := by omega
        rw [Nat.min_eq_left (by omega), List.drop_take]
        refine sc_cut (t' :: ts) ts2 _ _ _ e h5 ?_ ?_
        · rw [e2]; omega
        · simp only [after] at ha ⊢; omega
theorem scan_take {s : List UInt8} {ts1 ts2 : List Tok} {M : Nat} (h : (scan s).1 = ts1 ++ ts2) (h1 : endAt (gapG false s) ts1 ts1.length ≤ M) (h2 : M ≤ after ts1 (s.drop (gapG false s)) (gapG false s)) (h0 : gapG false s ≤ M) : scan (s.take M) = (ts1, none) := by
  have hs := sc_scan s
  rw [h] at hs
  have hg : gapG false (s.take M) = gapG false s := by rw [gapG_take]; omega
  refine scan_sc ?_
  rw [hg, List.drop_take]
  exact sc_cut ts1 ts2 _ _ _ _ hs (by omega) (by omega)
theorem lex_of_scan {s : List UInt8} {ts : List Tok} (h : scan s = (ts, none)) (hl : s.length ≤ 8000) (ht : ts.length ≤ 3000) : lex s = (ts, 0, -1) := by
  simp only [lex, h, if_neg (show ¬ 8000 < s.length by omega), dif_neg (show ¬ 3000 < ts.length by omega)]
theorem lex_prefix {s : List UInt8} (h : (lex s).2.1 = 0) {i : Nat} (hi : i < (lex s).1.length) :
    lex (s.take ((lex s).1[i].pos + (lex s).1[i].text.length)) = ((lex s).1.take (i + 1), 0, -1) := by
  obtain ⟨h1, h2, h3, h4⟩ := lex_ok_of h
  have hg := lex_get h
  obtain ⟨e1, e2⟩ := hg.2.2.2.1 i hi
  have e3 := e2.1
  have hts : (scan s).1 = (lex s).1 := by rw [h4]
  have hsp : (scan s).1 = (lex s).1.take (i + 1) ++ (lex s).1.drop (i + 1) := by rw [List.take_append_drop, hts]
  have hlen : ((lex s).1.take (i + 1)).length = i + 1 := by rw [List.length_take]; omega
  have hend : ∀ a, endAt a ((lex s).1.take (i + 1)) ((lex s).1.take (i + 1)).length = (lex s).1[i].pos + (lex s).1[i].text.length := by
    intro a
    rw [hlen, endAt_succ _ a i (by rw [hlen]; omega)]
    simp
  have hs := sc_scan s
  rw [hsp] at hs
  have hge := endAt_ge _ _ _ _ _ hs
  rw [hend] at hge
  refine lex_of_scan (scan_take hsp (by rw [hend]; exact Nat.le_refl _) hge.2 hge.1) (by rw [List.length_take]; omega) (by rw [hlen]; omega)
theorem gapG_app (b : List UInt8) : ∀ (c : Bool) (x : List UInt8), gapG c (x ++ 10 :: b) = if gapG c x = x.length then x.length + 1 + gapG false b else gapG c x
  | true, [] => by simp [gapG]
  | false, [] => by simp [gapG, whiteB]
  | true, d :: x => by
    have h1 := gapG_app b false x; have h2 := gapG_app b true x
    simp only [List.cons_append, gapG, List.length_cons, h1, h2]
    by_cases hd : d = 10
    · simp only [if_pos hd]; split <;> split <;> omega
    · simp only [if_neg hd]; split <;> split <;> omega
  | false, d :: x => by
    have h1 := gapG_app b false x; have h2 := gapG_app b true x
    simp only [List.cons_append, gapG, List.length_cons, h1, h2]
    by_cases hw : whiteB d = true
    · simp only [if_pos hw]; split <;> split <;> omega
    · simp only [if_neg hw]
      by_cases hd : d = 37
      · simp only [if_pos hd]; split <;> split <;> omega
      · simp only [if_neg hd]; rw [if_neg (by omega)]
theorem take_app {x y : List UInt8} {n : Nat} (h : n ≤ x.length) : (x ++ y).take n = x.take n := by rw [List.take_append_of_le_length h]
theorem drop_app {x y : List UInt8} {n : Nat} (h : n ≤ x.length) : (x ++ y).drop n = x.drop n ++ y := by rw [List.drop_append_of_le_length h]
/-- Before a line feed and another text: an error stays. -/
theorem sc_bad_app (b : List UInt8) : ∀ (ts : List Tok) (l : List UInt8) (p q : Nat), Sc ts (l.drop (gapG false l)) (p + gapG false l) (some q) →
    Sc ts ((l ++ 10 :: b).drop (gapG false (l ++ 10 :: b))) (p + gapG false (l ++ 10 :: b)) (some q)
  | [], l, p, q, h => by
    rcases h with ⟨_, h⟩ | ⟨h1, h2, h3⟩
    · cases h
    · have hg := gapG_le false l
      have hne : gapG false l ≠ l.length := by intro e; exact h1 (by rw [e]; exact List.drop_of_length_le (Nat.le_refl _))
      rw [gapG_app, if_neg hne, drop_app hg]
      exact Or.inr ⟨by simp, by rw [next_sep b h1 rfl]; exact h2, h3⟩
  | t :: ts, l, p, q, h => by
    obtain ⟨h0, h1, h2, h3, h4, h5⟩ := h
    have hg := gapG_le false l
    have hne : gapG false l ≠ l.length := by intro e; exact h0 (by rw [e]; exact List.drop_of_length_le (Nat.le_refl _))
    have hl := next_len _ (by rw [h1]; exact h2)
    rw [h1] at hl
    simp only at hl
    rw [gapG_app, if_neg hne, drop_app hg]
    rw [← List.drop_drop, Nat.add_assoc] at h5
    have ih := sc_bad_app b ts ((l.drop (gapG false l)).drop t.text.length) (p + gapG false l + t.text.length) q (by rw [← Nat.add_assoc] at h5; exact h5)
    refine ⟨by simp, by rw [next_sep b h0 rfl]; exact h1, h2, by rw [take_app hl.2]; exact h3, h4, ?_⟩
    rw [← List.drop_drop, drop_app hl.2]
    exact ih
/-- Before a line feed and another text: the tokens of both. -/
theorem sc_app (b : List UInt8) (tb : List Tok) (eb : Option Nat) : ∀ (ts : List Tok) (l : List UInt8) (p : Nat), Sc ts (l.drop (gapG false l)) (p + gapG false l) none →
    Sc tb (b.drop (gapG false b)) (p + l.length + 1 + gapG false b) eb → Sc (ts ++ tb) ((l ++ 10 :: b).drop (gapG false (l ++ 10 :: b))) (p + gapG false (l ++ 10 :: b)) eb
  | [], l, p, h, hb => by
    have hg := gapG_le false l
    have he : gapG false l = l.length := by
      rcases h with ⟨h, _⟩ | ⟨_, _, h⟩
      · have := congrArg List.length h; rw [List.length_drop] at this; simp at this; omega
      · cases h
    rw [gapG_app, if_pos he]
    have : (l ++ 10 :: b).drop (l.length + 1 + gapG false b) = b.drop (gapG false b) := by
      rw [Nat.add_assoc, ← List.drop_drop, List.drop_left, Nat.add_comm 1, List.drop_succ_cons]
    rw [this, List.nil_append]
    rw [show p + (l.length + 1 + gapG false b) = p + l.length + 1 + gapG false b from by omega]
    exact hb
  | t :: ts, l, p, h, hb => by
    obtain ⟨h0, h1, h2, h3, h4, h5⟩ := h
    have hg := gapG_le false l
    have hne : gapG false l ≠ l.length := by intro e; exact h0 (by rw [e]; exact List.drop_of_length_le (Nat.le_refl _))
    have hl := next_len _ (by rw [h1]; exact h2)
    rw [h1] at hl
    simp only at hl
    have hl2 := hl.2
    rw [List.length_drop] at hl2
    rw [gapG_app, if_neg hne, drop_app hg]
    rw [← List.drop_drop, Nat.add_assoc] at h5
    have ih := sc_app b tb eb ts ((l.drop (gapG false l)).drop t.text.length) (p + gapG false l + t.text.length) (by rw [← Nat.add_assoc] at h5; exact h5)
      (by rw [List.length_drop, List.length_drop, show p + gapG false l + t.text.length + (l.length - gapG false l - t.text.length) + 1 = p + l.length + 1 from by omega]; exact hb)
    refine ⟨by simp, by rw [next_sep b h0 rfl]; exact h1, h2, by rw [take_app hl.2]; exact h3, h4, ?_⟩
    rw [← List.drop_drop, drop_app hl.2]
    exact ih
def shift (d : Nat) (t : Tok) : Tok := ⟨t.kind, t.text, t.pos + d⟩
theorem sc_shift (d : Nat) (e : Option Nat) : ∀ (ts : List Tok) (l : List UInt8) (p : Nat), Sc ts l p e → Sc (ts.map (shift d)) l (p + d) (e.map (· + d))
  | [], l, p, h => by
    rcases h with ⟨h1, h2⟩ | ⟨h1, h2, h3⟩
    · exact Or.inl ⟨h1, by rw [h2]; rfl⟩
    · exact Or.inr ⟨h1, h2, by rw [h3]; rfl⟩
  | t :: ts, l, p, h => by
    obtain ⟨h0, h1, h2, h3, h4, h5⟩ := h
    have ih := sc_shift d e ts _ _ h5
    refine ⟨h0, h1, h2, h3, by simp only [shift, h4], ?_⟩
    have e1 : p + d + t.text.length + gapG false (l.drop t.text.length) = p + t.text.length + gapG false (l.drop t.text.length) + d := by omega
    simp only [shift, e1]
    exact ih
theorem scan_app {a : List UInt8} (b : List UInt8) (h : (scan a).2 = none) : scan (a ++ 10 :: b) = ((scan a).1 ++ (scan b).1.map (shift (a.length + 1)), (scan b).2.map (· + (a.length + 1))) := by
  have ha := sc_scan a
  rw [h] at ha
  have hb := sc_shift (a.length + 1) _ _ _ _ (sc_scan b)
  have := sc_app b _ _ (scan a).1 a 0 (by simpa using ha) (by rw [show 0 + a.length + 1 + gapG false b = gapG false b + (a.length + 1) from by omega]; exact hb)
  exact scan_sc (by simpa using this)
theorem scan_bad_app {a : List UInt8} {q : Nat} (b : List UInt8) (h : (scan a).2 = some q) : scan (a ++ 10 :: b) = ((scan a).1, some q) := by
  have ha := sc_scan a
  rw [h] at ha
  have := sc_bad_app b (scan a).1 a 0 q (by simpa using ha)
  exact scan_sc (by simpa using this)
end Lx
end Go.Proofs.YtpcmlkpnjimbiaaDoor
namespace Go.Proofs.YtpcmlkpnjimbiaaDoor
set_option linter.unusedVariables false
set_option linter.unusedSimpArgs false
namespace Lx
theorem lex_concat_ok {a b : List UInt8} (ha : (lex a).2.1 = 0) (hb : (lex b).2.1 = 0) (hl : a.length ≤ 4000) (hm : b.length ≤ 3999) :
    (3000 < (lex a).1.length + (lex b).1.length → (lex (a ++ 10 :: b)).2.1 = 2) ∧
    ((lex a).1.length + (lex b).1.length ≤ 3000 → lex (a ++ 10 :: b) = ((lex a).1 ++ (lex b).1.map (shift (a.length + 1)), 0, -1)) := by
  obtain ⟨_, a2, _, a4⟩ := lex_ok_of ha
  obtain ⟨_, b2, _, b4⟩ := lex_ok_of hb
  have hz := scan_app b a2
  rw [b2] at hz
  have e1 : (lex a).1 = (scan a).1 := by rw [a4]
  have e2 : (lex b).1 = (scan b).1 := by rw [b4]
  rw [e1, e2]
  have hlen : ¬ 8000 < (a ++ 10 :: b).length := by simp; omega
  refine ⟨fun h => ?_, fun h => lex_of_scan hz (by simp; omega) (by simpa using h)⟩
  simp only [lex, hz, if_neg hlen]
  rw [dif_pos (by simpa using h)]
theorem lex_concat_err {a b : List UInt8} (ha : (lex a).2.1 ≠ 0) (hl : a.length ≤ 4000) (hm : b.length ≤ 3999) : (lex (a ++ 10 :: b)).2.1 = (lex a).2.1 := by
  have hlen : ¬ 8000 < (a ++ 10 :: b).length := by simp; omega
  have hlen2 : ¬ 8000 < a.length := by omega
  cases h : (scan a).2 with
  | some q =>
    have hz := scan_bad_app b h
    unfold lex
    rw [if_neg hlen, if_neg hlen2]
    simp only [hz, h]
  | none =>
    have hz := scan_app b h
    unfold lex at ha ⊢
    rw [if_neg hlen2] at ha
    rw [if_neg hlen, if_neg hlen2]
    simp only [h] at ha ⊢
    by_cases h3 : 3000 < (scan a).1.length
    · have h4 : 3000 < (scan (a ++ 10 :: b)).1.length := by rw [hz]; simp; omega
      simp only [dif_pos h3, dif_pos h4]
    · rw [dif_neg h3] at ha; simp at ha
/-- Behind the beginning of an error: the same error. -/
theorem sc_ext : ∀ (ts : List Tok) (l l' : List UInt8) (p q : Nat), Sc ts l p (some q) → q - p + 18 ≤ l.length → l'.take (q - p + 18) = l.take (q - p + 18) → Sc ts l' p (some q)
  | [], l, l', p, q, h, hl, he => by
    rcases h with ⟨_, h⟩ | ⟨h1, h2, h3⟩
    · cases h
    · obtain rfl := Option.some.inj h3
      rw [Nat.sub_self, Nat.zero_add] at hl he
      refine Or.inr ⟨?_, next_bad_loc h2 hl he, rfl⟩
      intro e; rw [e] at he; have := congrArg List.length he; rw [List.length_take, List.length_take] at this; simp at this; omega
  | t :: ts, l, l', p, q, h, hl, he => by
    have hq := sc_after _ _ _ _ h
    have hge := endAt_ge ts [] _ _ (some q) (by rw [List.append_nil]; exact h.2.2.2.2.2)
    obtain ⟨h0, h1, h2, h3, h4, h5⟩ := h
    have hnl := next_len l (by rw [h1]; exact h2)
    rw [h1] at hnl
    simp only at hnl
    have hpq : p + t.text.length + gapG false (l.drop t.text.length) ≤ q := by
      have := Nat.le_trans hge.1 hge.2
      simp only [after] at hq; omega
    have tk : ∀ k, k ≤ q - p + 18 → l'.take k = l.take k := fun k hk => by
      have := congrArg (List.take k) he
      rw [List.take_take, List.take_take, Nat.min_eq_left hk] at this; exact this
    have hg : gapG false (l'.drop t.text.length) = gapG false (l.drop t.text.length) := by
      refine gapG_loc false _ _ (by rw [List.length_drop]; omega) ?_
      have := congrArg (List.drop t.text.length) (tk (t.text.length + (gapG false (l.drop t.text.length) + 1)) (by omega))
      rw [List.drop_take, List.drop_take, Nat.add_sub_cancel_left] at this; exact this
    refine ⟨?_, next_loc h1 h2 (by omega) (tk _ (by omega)), h2, by rw [tk _ (by omega)]; exact h3, h4, ?_⟩
    · intro e; have := tk 1 (by omega); rw [e] at this; have := congrArg List.length this; rw [List.length_take, List.length_take] at this; simp at this; omega
    · rw [hg]
      refine sc_ext ts _ _ _ q h5 (by rw [List.length_drop]; omega) ?_
      have := congrArg (List.drop (t.text.length + gapG false (l.drop t.text.length))) (tk (t.text.length + gapG false (l.drop t.text.length) + (q - (p + t.text.length + gapG false (l.drop t.text.length)) + 18)) (by omega))
      rw [List.drop_take, List.drop_take, Nat.add_sub_cancel_left] at this; exact this
theorem lex_first {s : List UInt8} (hl : s.length ≤ 8000) (h : (lex s).2.1 ≠ 0) :
    ∃ M : Nat, (lex s).2.2 = (M : Int) ∧ M < s.length ∧ (lex (s.take M)).2.1 = 0 ∧
      ((lex s).2.1 = 40 → M + 18 < s.length → ∀ more : List UInt8, M + 18 + more.length ≤ 8000 → lex (s.take (M + 18) ++ more) = ([], 40, (M : Int))) := by
  have hs := sc_scan s
  have hgl := gapG_le false s
  by_cases h1 : 3000 < (scan s).1.length
  · obtain ⟨t, ht⟩ : ∃ t, t = (scan s).1[3000] := ⟨_, rfl⟩
    have hsp : (scan s).1 = (scan s).1.take 3000 ++ t :: (scan s).1.drop 3001 := by
      rw [ht, ← List.drop_eq_getElem_cons h1, List.take_append_drop]
    have hlx : lex s = ([], 2, (t.pos : Int)) := by simp only [lex, if_neg (show ¬ 8000 < s.length by omega), dif_pos h1, ht]
    have hs2 := hs
    rw [hsp] at hs2
    have hge := endAt_ge _ _ _ _ _ hs2
    have hst := sc_start _ _ _ _ _ _ hs2
    have hget := sc_get (scan s).1 s 0 (scan s).2 (by omega) (by simpa using hs)
    have htk := (hget.1 3000 h1).2
    rw [← ht] at htk
    have htl : ((scan s).1.take 3000).length = 3000 := by rw [List.length_take]; omega
    refine ⟨t.pos, by rw [hlx], by have := htk.1; have := htk.2.2.2.2; omega, ?_, fun h40 => by rw [hlx] at h40; simp at h40⟩
    rw [lex_of_scan (scan_take hsp (by omega) (by omega) (by omega)) (by rw [List.length_take]; omega) (by omega)]
  · cases h2 : (scan s).2 with
    | none => exact absurd (by simp only [lex, if_neg (show ¬ 8000 < s.length by omega), dif_neg h1, h2]) h
    | some q =>
      rw [h2] at hs
      have hq := sc_after _ _ _ _ hs
      have hge := endAt_ge (scan s).1 [] _ _ (some q) (by rw [List.append_nil]; exact hs)
      have hget := sc_get (scan s).1 s 0 (some q) (by omega) (by simpa using hs)
      have hqs := (hget.2.2.2 q rfl).2.1
      have hgq : gapG false s ≤ q := by have := Nat.le_trans hge.1 hge.2; omega
      have hlx : (lex s).2.2 = (q : Int) ∧ ((lex s).2.1 = 40 → (scan s).1.length < 3000) := by
        simp only [lex, if_neg (show ¬ 8000 < s.length by omega), dif_neg h1, h2]
        split
        · exact ⟨rfl, fun h => by simp at h⟩
        · exact ⟨rfl, fun _ => by omega⟩
      refine ⟨q, hlx.1, hqs, ?_, fun h40 hq18 more hm => ?_⟩
      · rw [lex_of_scan (scan_take (ts2 := []) (by rw [List.append_nil]) (by omega) (by omega) hgq) (by rw [List.length_take]; omega) (by omega)]
      · have ht : (scan s).1.length < 3000 := hlx.2 h40
        have hpre : ∀ k, k ≤ q + 18 → (s.take (q + 18) ++ more).take k = s.take k := fun k hk => by
          rw [take_app (by rw [List.length_take]; omega), List.take_take, Nat.min_eq_left hk]
        have hg : gapG false (s.take (q + 18) ++ more) = gapG false s := gapG_loc false s _ (by omega) (hpre _ (by omega))
        have hsc : scan (s.take (q + 18) ++ more) = ((scan s).1, some q) := by
          refine scan_sc ?_
          rw [hg]
          refine sc_ext _ _ _ _ _ hs (by rw [List.length_drop]; omega) ?_
          have := congrArg (List.drop (gapG false s)) (hpre (gapG false s + (q - gapG false s + 18)) (by omega))
          rw [List.drop_take, List.drop_take, Nat.add_sub_cancel_left] at this; exact this
        have hlen : ¬ 8000 < (s.take (q + 18) ++ more).length := by rw [List.length_append, List.length_take]; omega
        simp only [lex, if_neg hlen, hsc, dif_neg (show ¬ 3000 < (scan s).1.length by omega), if_neg (show ¬ (scan s).1.length = 3000 by omega)]
end Lx
end Go.Proofs.YtpcmlkpnjimbiaaDoor
namespace Go.Proofs.YtpcmlkpnjimbiaaDoor
set_option linter.unusedVariables false
set_option linter.unusedSimpArgs false
namespace Lx
def gapsL : List (List UInt8) := [[32], [10], [9, 13], [37, 10], [32, 37, 32, 112, 40, 88, 41, 32, 58, 45, 32, 113, 46, 10], [37, 37, 13, 10, 32, 32]]
/-- A gap that ends outside a comment, and begins with a byte that separates. -/
def Closed (g : List UInt8) : Prop := (∃ c r, g = c :: r ∧ sepB c = true) ∧ g.length ≤ 14 ∧ ∀ x, gapG false (g ++ x) = g.length + gapG false x
theorem gaps_closed (k : Nat) (h : k < 6) : Closed (gapsL.getD k []) := by
  rcases (by omega : k = 0 ∨ k = 1 ∨ k = 2 ∨ k = 3 ∨ k = 4 ∨ k = 5) with rfl | rfl | rfl | rfl | rfl | rfl
  all_goals
    refine ⟨⟨_, _, rfl, rfl⟩, by decide, fun x => ?_⟩
    simp [gapsL, gapG, whiteB]
  all_goals omega
/-- A token by itself. -/
def Own (t : Tok) : Prop := next t.text = (t.kind, t.text.length) ∧ t.kind ≠ 0 ∧ t.text.length ≤ 16
theorem own_of {s : List UInt8} (h : (lex s).2.1 = 0) {k : Nat} (hk : k < (lex s).1.length) : Own (lex s).1[k] := by
  obtain ⟨e1, e2, e3, e4, e5⟩ := ((lex_get h).2.2.2.1 k hk).2
  refine ⟨by have := next_take e3 e4 (Nat.le_refl _); rw [← e2] at this; exact this, e4, ?_⟩
  rcases next_len2 e3 e4 with ⟨_, _, hn, _⟩ | ⟨_, hn, hkk⟩
  · have := symLen_le2 (s.drop (lex s).1[k].pos); omega
  · rw [hn]; exact wkind_len (by rw [← hkk]; exact e4)
theorem own_first {t : Tok} (h : Own t) (x : List UInt8) : gapG false (t.text ++ x) = 0 := by
  obtain ⟨h1, h2, _⟩ := h
  match ht : t.text with
  | [] => rw [ht] at h1; have : next ([] : List UInt8) = (0, 0) := by decide
          rw [this] at h1; simp at h1; omega
  | c :: r =>
    rw [ht] at h1
    by_cases hc : whiteB c = true ∨ c = 37
    · exfalso
      have hcc : c = 32 ∨ c = 9 ∨ c = 10 ∨ c = 13 ∨ c = 37 := by
        rcases hc with hc | hc
        · simp only [whiteB, Bool.or_eq_true, beq_iff_eq] at hc; rcases hc with ((h | h) | h) | h <;> simp [h]
        · simp [hc]
      have hw : wordB c = false := by rcases hcc with rfl | rfl | rfl | rfl | rfl <;> rfl
      have htw : (c :: r).takeWhile wordB = [] := by rw [List.takeWhile_cons, hw]; rfl
      have hs : symLen (c :: r) = 0 := by
        refine symLen_zero (fun _ => ?_) (fun _ => ?_)
        · cases r with
          | nil => rcases hcc with rfl | rfl | rfl | rfl | rfl <;> decide
          | cons d r => rcases hcc with rfl | rfl | rfl | rfl | rfl <;> simp [symbols]
        · rcases hcc with rfl | rfl | rfl | rfl | rfl <;> simp [symbols]
      rw [next_eq, if_pos htw, if_pos hs] at h1
      simp at h1
    · simp only [not_or] at hc
      simp only [List.cons_append, gapG, if_neg hc.1, if_neg hc.2]
def layT (gp : Nat → List UInt8) : Nat → List Tok → List UInt8
  | _, [] => []
  | j, t :: ts => gp j ++ (t.text ++ layT gp (j + 1) ts)
def rep (gp : Nat → List UInt8) : Nat → Nat → List Tok → List Tok
  | _, _, [] => []
  | j, p, t :: ts => ⟨t.kind, t.text, p + (gp j).length⟩ :: rep gp (j + 1) (p + (gp j).length + t.text.length) ts
theorem layT_snoc (gp : Nat → List UInt8) : ∀ (ts : List Tok) (j : Nat) (t : Tok), layT gp j (ts ++ [t]) = layT gp j ts ++ gp (j + ts.length) ++ t.text
  | [], j, t => by simp [layT]
  | a :: ts, j, t => by
    have := layT_snoc gp ts (j + 1) t
    simp only [List.cons_append, layT, this, List.append_assoc, List.length_cons]
    rw [show j + 1 + ts.length = j + (ts.length + 1) from by omega]
theorem rep_snoc (gp : Nat → List UInt8) : ∀ (ts : List Tok) (j p : Nat) (t : Tok), rep gp j p (ts ++ [t]) = rep gp j p ts ++ [⟨t.kind, t.text, p + (layT gp j ts).length + (gp (j + ts.length)).length⟩]
  | [], j, p, t => by simp [rep, layT]
  | a :: ts, j, p, t => by
    have := rep_snoc gp ts (j + 1) (p + (gp j).length + a.text.length) t
    simp only [List.cons_append, rep, layT, this, List.length_append, List.length_cons]
    rw [show j + 1 + ts.length = j + (ts.length + 1) from by omega]
    simp only [List.cons.injEq, true_and, List.append_cancel_left_eq, List.cons.injEq, Tok.mk.injEq, and_true]
    omega
theorem rep_length (gp : Nat → List UInt8) : ∀ (ts : List Tok) (j p : Nat), (rep gp j p ts).length = ts.length
  | [], _, _ => rfl
  | a :: ts, j, p => by simp [rep, rep_length gp ts]
theorem rep_get (gp : Nat → List UInt8) : ∀ (ts : List Tok) (j p k : Nat) (h1 : k < ts.length) (h2 : k < (rep gp j p ts).length), ts[k].kind = (rep gp j p ts)[k].kind ∧ ts[k].text = (rep gp j p ts)[k].text
  | [], _, _, k, h, _ => by simp at h
  | a :: ts, j, p, 0, _, _ => ⟨rfl, rfl⟩
  | a :: ts, j, p, k + 1, h1, h2 => by
    have := rep_get gp ts (j + 1) (p + (gp j).length + a.text.length) k (by simpa using h1) (by simpa [rep] using h2)
    simpa [rep] using this
theorem layT_head (gp : Nat → List UInt8) (hg : ∀ j, Closed (gp j)) (j : Nat) (ts : List Tok) : layT gp j ts = [] ∨ ∃ c r, layT gp j ts = c :: r ∧ sepB c = true := by
  cases ts with
  | nil => exact Or.inl rfl
  | cons t ts =>
    obtain ⟨⟨c, r, h, hc⟩, _⟩ := hg j
    exact Or.inr ⟨c, r ++ (t.text ++ layT gp (j + 1) ts), by simp [layT, h], hc⟩
theorem sc_lay (gp : Nat → List UInt8) (hg : ∀ j, Closed (gp j)) : ∀ (ts : List Tok) (j p : Nat), (∀ t ∈ ts, Own t) → Sc (rep gp j p ts) ((layT gp j ts).drop (gapG false (layT gp j ts))) (p + gapG false (layT gp j ts)) none
  | [], j, p, _ => Or.inl ⟨rfl, rfl⟩
  | t :: ts, j, p, h => by
    have ht := h t (List.mem_cons_self ..)
    have hts : t.text ≠ [] := by
      intro e; obtain ⟨h1, h2, _⟩ := ht; rw [e] at h1
      have : next ([] : List UInt8) = (0, 0) := by decide
      rw [this] at h1; simp at h1; omega
    have hgap : gapG false (layT gp j (t :: ts)) = (gp j).length := by
      simp only [layT]; rw [(hg j).2.2, own_first ht]; rfl
    have hdrop : (layT gp j (t :: ts)).drop (gp j).length = t.text ++ layT gp (j + 1) ts := by simp [layT]
    have hnext : next (t.text ++ layT gp (j + 1) ts) = (t.kind, t.text.length) := by
      rcases layT_head gp hg (j + 1) ts with h0 | ⟨c, r, h0, hc⟩
      · rw [h0, List.append_nil]; exact ht.1
      · rw [h0, next_sep r hts hc]; exact ht.1
    have ih := sc_lay gp hg ts (j + 1) (p + (gp j).length + t.text.length) (fun x hx => h x (List.mem_cons_of_mem _ hx))
    rw [hgap, hdrop]
    refine ⟨by simp [hts], hnext, ht.2.1, by simp, rfl, ?_⟩
    simp only [List.drop_left]
    rw [← List.drop_drop, List.drop_left]
    exact ih
theorem lex_lay {s : List UInt8} (h : (lex s).2.1 = 0) (gp : Nat → List UInt8) (hg : ∀ j, Closed (gp j)) (hl : (layT gp 0 (lex s).1).length ≤ 8000) :
    lex (layT gp 0 (lex s).1) = (rep gp 0 0 (lex s).1, 0, -1) := by
  have hsc := sc_lay gp hg (lex s).1 0 0 (fun t ht => by
    obtain ⟨k, hk, rfl⟩ := List.getElem_of_mem ht
    exact own_of h hk)
  refine lex_of_scan (scan_sc (by simpa using hsc)) hl (by rw [rep_length]; exact (lex_get h).2.1)
end Lx
end Go.Proofs.YtpcmlkpnjimbiaaDoor
