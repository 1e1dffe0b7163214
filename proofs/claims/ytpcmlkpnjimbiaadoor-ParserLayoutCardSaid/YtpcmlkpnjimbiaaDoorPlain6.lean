/- The plain law of the lexer, continued: what the tokens of a text are, told along the text; no step of the program here. -/
import Derived.Test.YtpcmlkpnjimbiaaDoorRefLex
namespace Go.Proofs.YtpcmlkpnjimbiaaDoor
set_option linter.unusedVariables false
set_option linter.unusedSimpArgs false
namespace Lx
/-- l, behind a gap, at place p: the tokens ts, and e: where no token begins, or none at the end. -/
def Sc : List Tok → List UInt8 → Nat → Option Nat → Prop
 | [], l, p, e => (l = [] ∧ e = none) ∨ (l ≠ [] ∧ (next l).1 = 0 ∧ e = some p)
 | t :: ts, l, p, e => l ≠ [] ∧ next l = (t.kind, t.text.length) ∧ t.kind ≠ 0 ∧ t.text = l.take t.text.length ∧ t.pos = p ∧
   Sc ts (l.drop (t.text.length + gapG false (l.drop t.text.length))) (p + t.text.length + gapG false (l.drop t.text.length)) e
theorem sc_run : ∀ (f : Nat) (l : List UInt8) (p : Nat), l.length < f → Sc (run f l p).1 l p (run f l p).2
 | 0, _, _, h => by omega
 | f + 1, l, p, h => by
  by_cases h0 : l = []
  ·subst h0; exact Or.inl ⟨rfl, by simp [run]⟩
  ·by_cases hk : (next l).1 = 0
   ·simp only [run, if_neg h0, if_pos hk]; exact Or.inr ⟨h0, hk, rfl⟩
   ·have hl := next_len l hk
    have ht : (l.take (next l).2).length = (next l).2 := by rw [List.length_take]; omega
    have ih := sc_run f (l.drop ((next l).2 + gapG false (l.drop (next l).2))) (p + (next l).2 + gapG false (l.drop (next l).2)) (by rw [List.length_drop]; omega)
    simp only [run, if_neg h0, if_neg hk]
    refine ⟨h0, by rw [ht], hk, by rw [ht], rfl, ?_⟩
    simp only [ht]; exact ih
theorem run_sc : ∀ (ts : List Tok) (f : Nat) (l : List UInt8) (p : Nat) (e : Option Nat), Sc ts l p e → l.length < f → run f l p = (ts, e)
 | [], f, l, p, e, h, hf => by
  obtain ⟨g, rfl⟩ : ∃ g, f = g + 1 := ⟨f - 1, by omega⟩
  rcases h with ⟨rfl, rfl⟩ | ⟨h1, h2, rfl⟩
  ·simp [run]
  ·simp [run, h1, h2]
 | t :: ts, f, l, p, e, h, hf => by
  obtain ⟨g, rfl⟩ : ∃ g, f = g + 1 := ⟨f - 1, by omega⟩
  obtain ⟨h0, h1, h2, h3, h4, h5⟩ := h
  have hl := next_len l (by rw [h1]; exact h2)
  rw [h1] at hl
  have := run_sc ts g _ _ e h5 (by rw [List.length_drop]; omega)
  simp only [run, if_neg h0, h1, if_neg h2, this]
  obtain ⟨k, x, q⟩ := t
  simp only at *
  rw [← h3, h4]
theorem sc_scan (s : List UInt8) : Sc (scan s).1 (s.drop (gapG false s)) (gapG false s) (scan s).2 := sc_run _ _ _ (by rw [List.length_drop]; omega)
theorem scan_sc {s : List UInt8} {ts : List Tok} {e : Option Nat} (h : Sc ts (s.drop (gapG false s)) (gapG false s) e) : scan s = (ts, e) := run_sc ts _ _ _ e h (by rw [List.length_drop]; omega)
theorem takeWhile_take (f : UInt8 → Bool) : ∀ (l : List UInt8) (m : Nat), (l.takeWhile f).length ≤ m → (l.take m).takeWhile f = l.takeWhile f
 | [], m, _ => by simp
 | c :: r, 0, h => by
  simp only [List.takeWhile_cons] at h ⊢
  cases hf : f c
  ·simp
  ·simp [hf] at h
 | c :: r, m + 1, h => by
  simp only [List.takeWhile_cons, List.take_succ_cons] at h ⊢
  cases hf : f c
  ·rfl
  ·simp only [hf, if_true, List.length_cons] at h ⊢
   rw [takeWhile_take f r m (by omega)]
/-- The symbol at the beginning hangs on the first two bytes. -/
theorem symLen_two_eq (l : List UInt8) : symLen l = if 2 ≤ l.length ∧ symbols.contains (l.take 2) = true then 2 else if 1 ≤ l.length ∧ symbols.contains (l.take 1) = true then 1 else 0 := by
 by_cases h2 : 2 ≤ l.length ∧ symbols.contains (l.take 2) = true
 ·rw [if_pos h2]; exact symLen_two h2.1 h2.2
 ·rw [if_neg h2]
  have n2 : 2 ≤ l.length → symbols.contains (l.take 2) = false := fun h => by rw [← Bool.not_eq_true]; exact fun hc => h2 ⟨h, hc⟩
  by_cases h1 : 1 ≤ l.length ∧ symbols.contains (l.take 1) = true
  ·rw [if_pos h1]; exact symLen_one h1.1 n2 h1.2
  ·rw [if_neg h1]; exact symLen_zero n2 (fun h => by rw [← Bool.not_eq_true]; exact fun hc => h1 ⟨h, hc⟩)
end Lx
end Go.Proofs.YtpcmlkpnjimbiaaDoor
namespace Go.Proofs.YtpcmlkpnjimbiaaDoor
set_option linter.unusedVariables false
set_option linter.unusedSimpArgs false
namespace Lx
theorem next_eq (l : List UInt8) : next l = if l.takeWhile wordB = [] then (if symLen l = 0 then (0, 0) else (4, symLen l)) else if wkind (l.takeWhile wordB) = 0 then (0, 0) else (wkind (l.takeWhile wordB), (l.takeWhile wordB).length) := by
 have e : (wordLen l = 0) = (l.takeWhile wordB = []) := by simp only [wordLen, List.length_eq_zero_iff]
 simp only [next, take_wordLen, e]; rfl
theorem next_congr {l l' : List UInt8} (h : l'.takeWhile wordB = l.takeWhile wordB) (h2 : l.takeWhile wordB = [] → symLen l' = symLen l) : next l' = next l := by
 rw [next_eq, next_eq, h]
 by_cases h0 : l.takeWhile wordB = []
 ·rw [h2 h0]
 ·rw [if_neg h0, if_neg h0]
theorem symLen_le2 (l : List UInt8) : symLen l ≤ 2 := by
 rw [symLen_two_eq]
 repeat' split
 all_goals omega
theorem next_len2 {l : List UInt8} {k n : Nat} (h : next l = (k, n)) (hk : k ≠ 0) : (l.takeWhile wordB = [] ∧ k = 4 ∧ n = symLen l ∧ 0 < n) ∨ (l.takeWhile wordB ≠ [] ∧ n = (l.takeWhile wordB).length ∧ k = wkind (l.takeWhile wordB)) := by
 rw [next_eq] at h
 by_cases h0 : l.takeWhile wordB = []
 ·rw [if_pos h0] at h
  split at h
  ·simp at h; omega
  ·simp only [Prod.mk.injEq] at h; exact Or.inl ⟨h0, h.1.symm, h.2.symm, by omega⟩
 ·rw [if_neg h0] at h
  split at h
  ·simp at h; omega
  ·simp only [Prod.mk.injEq] at h; exact Or.inr ⟨h0, h.2.symm, h.1.symm⟩
theorem symLen_congr {l l' : List UInt8} (h2 : (2 ≤ l'.length) = (2 ≤ l.length)) (e : l'.take 2 = l.take 2) : symLen l' = symLen l := by
 have e1 : l'.take 1 = l.take 1 := by
  have := congrArg (List.take 1) e
  rw [List.take_take, List.take_take] at this; exact this
 have hl : (1 ≤ l'.length) = (1 ≤ l.length) := by
  have := congrArg List.length e1
  rw [List.length_take, List.length_take] at this
  exact propext ⟨fun _ => by omega, fun _ => by omega⟩
 rw [symLen_two_eq, symLen_two_eq]
 simp only [e, e1, h2, hl]
theorem next_take {l : List UInt8} {k n m : Nat} (h : next l = (k, n)) (hk : k ≠ 0) (hm : n ≤ m) : next (l.take m) = (k, n) := by
 rw [← h]
 rcases next_len2 h hk with ⟨h0, rfl, hn, hp⟩ | ⟨h0, hn, _⟩
 ·refine next_congr (takeWhile_take _ _ _ (by rw [h0]; simp)) fun _ => ?_
  by_cases h2 : 2 ≤ m
  ·exact symLen_congr (by rw [List.length_take]; exact propext ⟨fun _ => by omega, fun _ => by omega⟩) (by rw [List.take_take, Nat.min_eq_left h2])
  ·obtain rfl : m = 1 := by omega
   have h1 : symLen l = 1 := by omega
   rw [h1]
   rw [symLen_two_eq] at h1
   split at h1
   ·cases h1
   ·split at h1
    ·rename_i hh
     rw [symLen_two_eq, if_neg (by rw [List.length_take]; omega), if_pos ⟨by rw [List.length_take]; omega, by rw [List.take_take]; exact hh.2⟩]
    ·cases h1
 ·exact next_congr (takeWhile_take _ _ _ (by omega)) fun e => absurd e h0
/-- A byte that separates: it is no letter, digit or underscore, and ends no symbol. -/
def sepB (c : UInt8) : Bool := c == 32 || c == 9 || c == 10 || c == 37
theorem sep_cases {c : UInt8} (h : sepB c = true) : c = 32 ∨ c = 9 ∨ c = 10 ∨ c = 37 := by
 simp only [sepB, Bool.or_eq_true, beq_iff_eq] at h; rcases h with ((h | h) | h) | h <;> simp [h]
theorem takeWhile_sep (f : UInt8 → Bool) {c : UInt8} (hc : f c = false) (r : List UInt8) : ∀ x : List UInt8, (x ++ c :: r).takeWhile f = x.takeWhile f
 | [] => by simp [hc]
 | d :: x => by simp only [List.cons_append, List.takeWhile_cons, takeWhile_sep f hc r x]
theorem next_sep {x : List UInt8} {c : UInt8} (r : List UInt8) (hx : x ≠ []) (hc : sepB c = true) : next (x ++ c :: r) = next x := by
 have hw : wordB c = false := by rcases sep_cases hc with rfl | rfl | rfl | rfl <;> rfl
 refine next_congr (takeWhile_sep _ hw r x) fun _ => ?_
 match x, hx with
 | [a], _ =>
  have h2 : symbols.contains [a, c] = false := by
   rcases sep_cases hc with rfl | rfl | rfl | rfl <;> simp [symbols]
  have t2 : ([a] ++ c :: r).take 2 = [a, c] := rfl
  have t1 : ([a] ++ c :: r).take 1 = [a] := rfl
  rw [symLen_two_eq, symLen_two_eq, t2, t1, h2]
  simp
 | a :: b :: y, _ => exact symLen_congr (by simp) (by simp)
end Lx
end Go.Proofs.YtpcmlkpnjimbiaaDoor
namespace Go.Proofs.YtpcmlkpnjimbiaaDoor
set_option linter.unusedVariables false
set_option linter.unusedSimpArgs false
namespace Lx
def endAt : Nat → List Tok → Nat → Nat
 | a, _, 0 => a
 | a, [], _ + 1 => a
 | _, t :: ts, i + 1 => endAt (t.pos + t.text.length) ts i
theorem endAt_succ : ∀ (ts : List Tok) (a i : Nat) (h : i < ts.length), endAt a ts (i + 1) = ts[i].pos + ts[i].text.length
 | [], a, i, h => by simp at h
 | t :: ts, a, 0, h => by cases ts <;> rfl
 | t :: ts, a, i + 1, h => by
  have := endAt_succ ts (t.pos + t.text.length) i (by simpa using h)
  simpa [endAt] using this
/-- A token at its place in a text. -/
def Tk (s : List UInt8) (t : Tok) : Prop :=
 t.pos + t.text.length ≤ s.length ∧ t.text = (s.drop t.pos).take t.text.length ∧ next (s.drop t.pos) = (t.kind, t.text.length) ∧ t.kind ≠ 0 ∧ 0 < t.text.length
theorem sc_get : ∀ (ts : List Tok) (s : List UInt8) (a : Nat) (e : Option Nat), a ≤ s.length → Sc ts (s.drop (a + gapG false (s.drop a))) (a + gapG false (s.drop a)) e →
  (∀ (i : Nat) (h : i < ts.length), ts[i].pos = endAt a ts i + gapG false (s.drop (endAt a ts i)) ∧ Tk s ts[i]) ∧ endAt a ts ts.length ≤ s.length ∧
   (e = none → endAt a ts ts.length + gapG false (s.drop (endAt a ts ts.length)) = s.length) ∧ (∀ q, e = some q → q = endAt a ts ts.length + gapG false (s.drop (endAt a ts ts.length)) ∧ q < s.length ∧ (next (s.drop q)).1 = 0)
 | [], s, a, e, ha, h => by
  have hg := gapG_le false (s.drop a)
  rw [List.length_drop] at hg
  refine ⟨fun i h => by simp at h, ha, fun he => ?_, fun q hq => ?_⟩
  ·rcases h with ⟨h1, _⟩ | ⟨_, _, h3⟩
   ·have := congrArg List.length h1
    rw [List.length_drop] at this
    simp [endAt] at this ⊢; omega
   ·rw [he] at h3; cases h3
  ·rcases h with ⟨_, h2⟩ | ⟨h1, h2, h3⟩
   ·rw [hq] at h2; cases h2
   ·rw [hq] at h3
    obtain rfl := Option.some.inj h3
    refine ⟨rfl, ?_, h2⟩
    rcases Nat.lt_or_ge (a + gapG false (s.drop a)) s.length with hh | hh
    ·exact hh
    ·exact absurd (List.drop_of_length_le hh) h1
 | t :: ts, s, a, e, ha, h => by
  obtain ⟨h0, h1, h2, h3, h4, h5⟩ := h
  have hl := next_len (s.drop (a + gapG false (s.drop a))) (by rw [h1]; exact h2)
  rw [h1, List.length_drop] at hl
  simp only at hl
  have hne : a + gapG false (s.drop a) < s.length := by omega
  simp only [List.drop_drop] at h5
  rw [← Nat.add_assoc] at h5
  rw [← h4] at h5 h3 h1 hl hne
  have ih := sc_get ts s (t.pos + t.text.length) e (by omega) h5
  refine ⟨fun i h => ?_, by simpa [endAt] using ih.2.1, fun he => by simpa [endAt] using ih.2.2.1 he, fun q hq => by simpa [endAt] using ih.2.2.2 q hq⟩
  match i, h with
  | 0, _ => exact ⟨h4, by simp only [List.getElem_cons_zero]; omega, h3, h1, h2, hl.1⟩
  | i + 1, h => exact ih.1 i (by simpa using h)
theorem lex_ok_of {s : List UInt8} (h : (lex s).2.1 = 0) : s.length ≤ 8000 ∧ (scan s).2 = none ∧ (scan s).1.length ≤ 3000 ∧ lex s = ((scan s).1, 0, -1) := by
 unfold lex at h ⊢
 by_cases h1 : 8000 < s.length
 ·simp [h1] at h
 ·rw [if_neg h1] at h ⊢
  by_cases h2 : 3000 < (scan s).1.length
  ·simp [h2] at h
  ·rw [dif_neg h2] at h ⊢
   cases h3 : (scan s).2 with
   | none => exact ⟨by omega, rfl, by omega, rfl⟩
   | some p => rw [h3] at h; simp only at h; split at h <;> simp at h
/-- What Lex gives: without an error each token is at its place. -/
theorem lex_get {s : List UInt8} (h : (lex s).2.1 = 0) : s.length ≤ 8000 ∧ (lex s).1.length ≤ 3000 ∧ (lex s).2.2 = -1 ∧ (∀ (i : Nat) (h : i < (lex s).1.length), (lex s).1[i].pos = endAt 0 (lex s).1 i + gapG false (s.drop (endAt 0 (lex s).1 i)) ∧ Tk s (lex s).1[i]) ∧ endAt 0 (lex s).1 (lex s).1.length ≤ s.length ∧
      endAt 0 (lex s).1 (lex s).1.length + gapG false (s.drop (endAt 0 (lex s).1 (lex s).1.length)) = s.length := by
 obtain ⟨h1, h2, h3, h4⟩ := lex_ok_of h
 rw [h4]
 have hs := sc_scan s
 have := sc_get (scan s).1 s 0 (scan s).2 (by omega) (by simpa using hs)
 exact ⟨h1, h3, rfl, this.1, this.2.1, this.2.2.1 h2⟩
theorem wkind_len {l : List UInt8} (h : wkind l ≠ 0) : l.length ≤ 16 := by
 rcases Nat.lt_or_ge 16 l.length with h1 | h1
 ·exact absurd (wk_long h1) h
 ·exact h1
theorem take_tw (l : List UInt8) : l.take (l.takeWhile wordB).length = l.takeWhile wordB := take_wordLen l
end Lx
end Go.Proofs.YtpcmlkpnjimbiaaDoor
namespace Go.Proofs.YtpcmlkpnjimbiaaDoor
set_option linter.unusedVariables false
set_option linter.unusedSimpArgs false
namespace Lx
/-- Where the next token would begin. -/
def after : List Tok → List UInt8 → Nat → Nat
 | [], _, p => p
 | t :: ts, l, p => after ts (l.drop (t.text.length + gapG false (l.drop t.text.length))) (p + t.text.length + gapG false (l.drop t.text.length))
theorem lex_of_scan {s : List UInt8} {ts : List Tok} (h : scan s = (ts, none)) (hl : s.length ≤ 8000) (ht : ts.length ≤ 3000) : lex s = (ts, 0, -1) := by
 simp only [lex, h, if_neg (show ¬ 8000 < s.length by omega), dif_neg (show ¬ 3000 < ts.length by omega)]
def shift (d : Nat) (t : Tok) : Tok := ⟨t.kind, t.text, t.pos + d⟩
end Lx
end Go.Proofs.YtpcmlkpnjimbiaaDoor
namespace Go.Proofs.YtpcmlkpnjimbiaaDoor
set_option linter.unusedVariables false
set_option linter.unusedSimpArgs false
namespace Lx
end Lx
end Go.Proofs.YtpcmlkpnjimbiaaDoor
namespace Go.Proofs.YtpcmlkpnjimbiaaDoor
set_option linter.unusedVariables false
set_option linter.unusedSimpArgs false
namespace Lx
def gapsL : List (List UInt8) := [[32], [10], [9, 13], [37, 10], [32, 37, 32, 112, 40, 88, 41, 32, 58, 45, 32, 113, 46, 10], [37, 37, 13, 10, 32, 32]]
/-- A gap that ends outside a comment, and begins with a byte that separates. -/
def Closed (g : List UInt8) : Prop := (∃ c r, g = c :: r ∧ sepB c = true) ∧ g.length ≤ 14 ∧ ∀ x, gapG false (g ++ x) = g.length + gapG false x
/-- A token by itself. -/
def Own (t : Tok) : Prop := next t.text = (t.kind, t.text.length) ∧ t.kind ≠ 0 ∧ t.text.length ≤ 16
theorem own_of {s : List UInt8} (h : (lex s).2.1 = 0) {k : Nat} (hk : k < (lex s).1.length) : Own (lex s).1[k] := by
 obtain ⟨e1, e2, e3, e4, e5⟩ := ((lex_get h).2.2.2.1 k hk).2
 refine ⟨by have := next_take e3 e4 (Nat.le_refl _); rw [← e2] at this; exact this, e4, ?_⟩
 rcases next_len2 e3 e4 with ⟨_, _, hn, _⟩ | ⟨_, hn, hkk⟩
 ·have := symLen_le2 (s.drop (lex s).1[k].pos); omega
 ·rw [hn]; exact wkind_len (by rw [← hkk]; exact e4)
theorem own_first {t : Tok} (h : Own t) (x : List UInt8) : gapG false (t.text ++ x) = 0 := by
 obtain ⟨h1, h2, _⟩ := h
 match ht : t.text with
 | [] => rw [ht] at h1; have : next ([] : List UInt8) = (0, 0) := by decide
         rw [this] at h1; simp at h1; omega
 | c :: r =>
  rw [ht] at h1
  by_cases hc : whiteB c = true ∨ c = 37
  ·exfalso
   have hcc : c = 32 ∨ c = 9 ∨ c = 10 ∨ c = 13 ∨ c = 37 := by
    rcases hc with hc | hc
    ·simp only [whiteB, Bool.or_eq_true, beq_iff_eq] at hc; rcases hc with ((h | h) | h) | h <;> simp [h]
    ·simp [hc]
   have hw : wordB c = false := by rcases hcc with rfl | rfl | rfl | rfl | rfl <;> rfl
   have htw : (c :: r).takeWhile wordB = [] := by rw [List.takeWhile_cons, hw]; rfl
   have hs : symLen (c :: r) = 0 := by
    refine symLen_zero (fun _ => ?_) (fun _ => ?_)
    ·cases r with
     | nil => rcases hcc with rfl | rfl | rfl | rfl | rfl <;> decide
     | cons d r => rcases hcc with rfl | rfl | rfl | rfl | rfl <;> simp [symbols]
    ·rcases hcc with rfl | rfl | rfl | rfl | rfl <;> simp [symbols]
   rw [next_eq, if_pos htw, if_pos hs] at h1
   simp at h1
  ·simp only [not_or] at hc
   simp only [List.cons_append, gapG, if_neg hc.1, if_neg hc.2]
def layT (gp : Nat → List UInt8) : Nat → List Tok → List UInt8
 | _, [] => []
 | j, t :: ts => gp j ++ (t.text ++ layT gp (j + 1) ts)
def rep (gp : Nat → List UInt8) : Nat → Nat → List Tok → List Tok
 | _, _, [] => []
 | j, p, t :: ts => ⟨t.kind, t.text, p + (gp j).length⟩ :: rep gp (j + 1) (p + (gp j).length + t.text.length) ts
theorem layT_snoc (gp : Nat → List UInt8) : ∀ (ts : List Tok) (j : Nat) (t : Tok), layT gp j (ts ++ [t]) = layT gp j ts ++ gp (j + ts.length) ++ t.text
 | [], j, t => by simp [layT]
 | a :: ts, j, t => by
  have := layT_snoc gp ts (j + 1) t
  simp only [List.cons_append, layT, this, List.append_assoc, List.length_cons]
  rw [show j + 1 + ts.length = j + (ts.length + 1) from by omega]
theorem rep_length (gp : Nat → List UInt8) : ∀ (ts : List Tok) (j p : Nat), (rep gp j p ts).length = ts.length
 | [], _, _ => rfl
 | a :: ts, j, p => by simp [rep, rep_length gp ts]
end Lx
end Go.Proofs.YtpcmlkpnjimbiaaDoor
