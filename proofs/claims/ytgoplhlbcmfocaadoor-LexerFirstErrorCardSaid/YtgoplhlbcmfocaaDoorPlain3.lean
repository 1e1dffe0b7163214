/- The plain law of the lexer, continued: tokens by their places; kinds; gaps. -/
import Derived.Test.YtgoplhlbcmfocaaDoorPlain2
namespace Go.Proofs.YtgoplhlbcmfocaaDoor
set_option linter.unusedVariables false
set_option linter.unusedSimpArgs false
namespace Lx
def endAt : Nat → List Tok → Nat → Nat
  | a, _, 0 => a
  | a, [], _ + 1 => a
  | _, t :: ts, i + 1 => endAt (t.pos + t.text.length) ts i
theorem endAt_succ : ∀ (ts : List Tok) (a i : Nat) (h : i < ts.length), endAt a ts (i + 1) = ts[i].pos + ts[i].text.length
  | [], a, i, h => by simp at h
  | t :: ts, a, 0, h => by cases ts <;> rfl
  | t :: ts, a, i + 1, h => by
    have := endAt_succ ts (t.pos + t.text.length) i (by simpa using h)
    simpa [endAt] using this
/-- A token at its place in a text. -/
def Tk (s : List UInt8) (t : Tok) : Prop :=
  t.pos + t.text.length ≤ s.length ∧ t.text = (s.drop t.pos).take t.text.length ∧ next (s.drop t.pos) = (t.kind, t.text.length) ∧ t.kind ≠ 0 ∧ 0 < t.text.length
theorem sc_get : ∀ (ts : List Tok) (s : List UInt8) (a : Nat) (e : Option Nat), a ≤ s.length → Sc ts (s.drop (a + gapG false (s.drop a))) (a + gapG false (s.drop a)) e →
    (∀ (i : Nat) (h : i < ts.length), ts[i].pos = endAt a ts i + gapG false (s.drop (endAt a ts i)) ∧ Tk s ts[i]) ∧ endAt a ts ts.length ≤ s.length ∧
      (e = none → endAt a ts ts.length + gapG false (s.drop (endAt a ts ts.length)) = s.length) ∧ (∀ q, e = some q → q = endAt a ts ts.length + gapG false (s.drop (endAt a ts ts.length)) ∧ q < s.length ∧ (next (s.drop q)).1 = 0)
  | [], s, a, e, ha, h => by
    have hg := gapG_le false (s.drop a)
    rw [List.length_drop] at hg
    refine ⟨fun i h => by simp at h, ha, fun he => ?_, fun q hq => ?_⟩
    · rcases h with ⟨h1, _⟩ | ⟨_, _, h3⟩
      · have := congrArg List.length h1
        rw [List.length_drop] at this
        simp [endAt] at this ⊢; omega
      · rw [he] at h3; cases h3
    · rcases h with ⟨_, h2⟩ | ⟨h1, h2, h3⟩
      · rw [hq] at h2; cases h2
      · rw [hq] at h3
        obtain rfl := Option.some.inj h3
        refine ⟨rfl, ?_, h2⟩
        rcases Nat.lt_or_ge (a + gapG false (s.drop a)) s.length with hh | hh
        · exact hh
        · exact absurd (List.drop_of_length_le hh) h1
  | t :: ts, s, a, e, ha, h => by
    obtain ⟨h0, h1, h2, h3, h4, h5⟩ := h
    have hl := next_len (s.drop (a + gapG false (s.drop a))) (by rw [h1]; exact h2)
    rw [h1, List.length_drop] at hl
    simp only at hl
    have hne : a + gapG false (s.drop a) < s.length := by omega
    simp only [List.drop_drop] at h5
    rw [← Nat.add_assoc] at h5
    rw [← h4] at h5 h3 h1 hl hne
    have ih := sc_get ts s (t.pos + t.text.length) e (by omega) h5
    refine ⟨fun i h => ?_, by simpa [endAt] using ih.2.1, fun he => by simpa [endAt] using ih.2.2.1 he, fun q hq => by simpa [endAt] using ih.2.2.2 q hq⟩
    match i, h with
    | 0, _ => exact ⟨h4, by simp only [List.getElem_cons_zero]; omega, h3, h1, h2, hl.1⟩
    | i + 1, h => exact ih.1 i (by simpa using h)
theorem lex_ok_of {s : List UInt8} (h : (lex s).2.1 = 0) : s.length ≤ 8000 ∧ (scan s).2 = none ∧ (scan s).1.length ≤ 3000 ∧ lex s = ((scan s).1, 0, -1) := by
  unfold lex at h ⊢
  by_cases h1 : 8000 < s.length
  · simp [h1] at h
  · rw [if_neg h1] at h ⊢
    by_cases h2 : 3000 < (scan s).1.length
    · simp [h2] at h
    · rw [dif_neg h2] at h ⊢
      cases h3 : (scan s).2 with
      | none => exact ⟨by omega, rfl, by omega, rfl⟩
      | some p => rw [h3] at h; simp only at h; split at h <;> simp at h
/-- What Lex gives: without an error each token is at its place. -/
theorem lex_get {s : List UInt8} (h : (lex s).2.1 = 0) : s.length ≤ 8000 ∧ (lex s).1.length ≤ 3000 ∧ (lex s).2.2 = -1 ∧ (∀ (i : Nat) (h : i < (lex s).1.length), (lex s).1[i].pos = endAt 0 (lex s).1 i + gapG false (s.drop (endAt 0 (lex s).1 i)) ∧ Tk s (lex s).1[i]) ∧ endAt 0 (lex s).1 (lex s).1.length ≤ s.length ∧
      endAt 0 (lex s).1 (lex s).1.length + gapG false (s.drop (endAt 0 (lex s).1 (lex s).1.length)) = s.length := by
  obtain ⟨h1, h2, h3, h4⟩ := lex_ok_of h
  rw [h4]
  have hs := sc_scan s
  have := sc_get (scan s).1 s 0 (scan s).2 (by omega) (by simpa using hs)
  exact ⟨h1, h3, rfl, this.1, this.2.1, this.2.2.1 h2⟩
theorem sym_first : ∀ p ∈ symbols, ∀ c r, p = c :: r → wordB c = false := by
  intro p hp c r e
  subst e
  have : ∀ q ∈ symbols, (q.head?.map wordB).getD false = false := by decide
  simpa using this _ hp
theorem tw_first {l : List UInt8} (h : l.takeWhile wordB = []) : ∀ c r, l = c :: r → wordB c = false := by
  intro c r e
  subst e
  rw [List.takeWhile_cons] at h
  cases hc : wordB c
  · rfl
  · rw [hc] at h; simp at h
theorem wkind_len {l : List UInt8} (h : wkind l ≠ 0) : l.length ≤ 16 := by
  rcases Nat.lt_or_ge 16 l.length with h1 | h1
  · exact absurd (wk_long h1) h
  · exact h1
theorem take_tw (l : List UInt8) : l.take (l.takeWhile wordB).length = l.takeWhile wordB := take_wordLen l
theorem rkind_next {l : List UInt8} {k n : Nat} (h : next l = (k, n)) (hk : k ≠ 0) : rkind (l.take n) = k := by
  rcases next_len2 h hk with ⟨h0, rfl, hn, hp⟩ | ⟨h0, hn, hkk⟩
  · subst hn
    rw [symLen_two_eq] at hp ⊢
    split at hp
    · rename_i h2; rw [if_pos h2]; exact rk_sym h2.2
    · rename_i h2
      split at hp
      · rename_i h1; rw [if_neg h2, if_pos h1]; exact rk_sym h1.2
      · omega
  · subst hn
    rw [take_tw]
    have ha := takeWhile_all l wordB
    have hl := wkind_len (l := l.takeWhile wordB) (by rw [← hkk]; exact hk)
    have hpos : (l.takeWhile wordB).length ≠ 0 := by intro e; exact h0 (List.length_eq_zero_iff.1 e)
    rw [rk_word (sym_noword ha) (by omega) ha, hkk]
theorem tw_stop : ∀ (x : List UInt8) (h : (x.takeWhile wordB).length < x.length), wordB x[(x.takeWhile wordB).length] = false
  | [], h => by simp at h
  | d :: y, h => by
    cases hd : wordB d
    · simp [List.takeWhile_cons, hd]
    · simp only [List.takeWhile_cons, hd, if_true, List.length_cons] at h ⊢
      simpa using tw_stop y (by omega)
theorem rkind_more {l : List UInt8} {k n m : Nat} (h : next l = (k, n)) (hk : k ≠ 0) (hm : n < m) (hml : m ≤ l.length) : rkind (l.take m) = 0 := by
  rcases next_len2 h hk with ⟨h0, rfl, hn, hp⟩ | ⟨h0, hn, hkk⟩
  · match l, hml with
    | [], hml => simp at hml; omega
    | c :: r, hml =>
      have hc := tw_first h0 c r rfl
      have hs : symbols.contains ((c :: r).take m) = false := by
        rw [← Bool.not_eq_true]
        intro hcn
        have hmem := List.contains_iff_mem.1 hcn
        have hlen : ((c :: r).take m).length = m := by rw [List.length_take]; omega
        rcases (sym_lens _ hmem).1 with e | e
        · omega
        · have hm2 : m = 2 := by omega
          subst hm2
          rw [symLen_two_eq, if_pos ⟨by omega, hcn⟩] at hn
          omega
      exact rk_bad hs (k := 0) (c := c) (by
        obtain ⟨j, rfl⟩ : ∃ j, m = j + 1 := ⟨m - 1, by omega⟩
        simp) hc
  · subst hn
    match l, h0, hml with
    | [], h0, hml => simp at h0
    | c :: r, h0, hml =>
      have hc : wordB c = true := by
        cases hc : wordB c
        · rw [List.takeWhile_cons, hc] at h0; simp at h0
        · rfl
      have hs : symbols.contains ((c :: r).take m) = false := by
        rw [← Bool.not_eq_true]
        intro hcn
        have hmem := List.contains_iff_mem.1 hcn
        obtain ⟨j, rfl⟩ : ∃ j, m = j + 1 := ⟨m - 1, by omega⟩
        rw [List.take_succ_cons] at hmem
        have := sym_first _ hmem c _ rfl
        rw [hc] at this; cases this
      have hlt : ((c :: r).takeWhile wordB).length < (c :: r).length := by omega
      exact rk_bad hs (by rw [List.getElem?_take, if_pos hm]; exact List.getElem?_eq_getElem hlt) (tw_stop _ hlt)
theorem word_after {l : List UInt8} {k n : Nat} (h : next l = (k, n)) (hk : k ≠ 0) (h4 : k ≠ 4) (hn : n < l.length) : wordB l[n] = false := by
  have h1 := rkind_more h hk (Nat.lt_succ_self n) hn
  rcases next_len2 h hk with ⟨_, rfl, _⟩ | ⟨h0, hnn, hkk⟩
  · exact absurd rfl h4
  · subst hnn; exact tw_stop _ hn
end Lx
end Go.Proofs.YtgoplhlbcmfocaaDoor
