/- The plain law of the lexer, continued: tokens joined with gaps. -/
import Derived.Test.YtgoplhlbcmfocaaDoorPlain5
namespace Go.Proofs.YtgoplhlbcmfocaaDoor
set_option linter.unusedVariables false
set_option linter.unusedSimpArgs false
namespace Lx
def gapsL : List (List UInt8) := [[32], [10], [9, 13], [37, 10], [32, 37, 32, 112, 40, 88, 41, 32, 58, 45, 32, 113, 46, 10], [37, 37, 13, 10, 32, 32]]
/-- A gap that ends outside a comment, and begins with a byte that separates. -/
def Closed (g : List UInt8) : Prop := (∃ c r, g = c :: r ∧ sepB c = true) ∧ g.length ≤ 14 ∧ ∀ x, gapG false (g ++ x) = g.length + gapG false x
theorem gaps_closed (k : Nat) (h : k < 6) : Closed (gapsL.getD k []) := by
  rcases (by omega : k = 0 ∨ k = 1 ∨ k = 2 ∨ k = 3 ∨ k = 4 ∨ k = 5) with rfl | rfl | rfl | rfl | rfl | rfl
  all_goals
    refine ⟨⟨_, _, rfl, rfl⟩, by decide, fun x => ?_⟩
    simp [gapsL, gapG, whiteB]
  all_goals omega
/-- A token by itself. -/
def Own (t : Tok) : Prop := next t.text = (t.kind, t.text.length) ∧ t.kind ≠ 0 ∧ t.text.length ≤ 16
theorem own_of {s : List UInt8} (h : (lex s).2.1 = 0) {k : Nat} (hk : k < (lex s).1.length) : Own (lex s).1[k] := by
  obtain ⟨e1, e2, e3, e4, e5⟩ := ((lex_get h).2.2.2.1 k hk).2
  refine ⟨by have := next_take e3 e4 (Nat.le_refl _); rw [← e2] at this; exact this, e4, ?_⟩
  rcases next_len2 e3 e4 with ⟨_, _, hn, _⟩ | ⟨_, hn, hkk⟩
  · have := symLen_le2 (s.drop (lex s).1[k].pos); omega
  · rw [hn]; exact wkind_len (by rw [← hkk]; exact e4)
theorem own_first {t : Tok} (h : Own t) (x : List UInt8) : gapG false (t.text ++ x) = 0 := by
  obtain ⟨h1, h2, _⟩ := h
  match ht : t.text with
  | [] => rw [ht] at h1; have : next ([] : List UInt8) = (0, 0) := by decide
          rw [this] at h1; simp at h1; omega
  | c :: r =>
    rw [ht] at h1
    by_cases hc : whiteB c = true ∨ c = 37
    · exfalso
      have hcc : c = 32 ∨ c = 9 ∨ c = 10 ∨ c = 13 ∨ c = 37 := by
        rcases hc with hc | hc
        · simp only [whiteB, Bool.or_eq_true, beq_iff_eq] at hc; rcases hc with ((h | h) | h) | h <;> simp [h]
        · simp [hc]
      have hw : wordB c = false := by rcases hcc with rfl | rfl | rfl | rfl | rfl <;> rfl
      have htw : (c :: r).takeWhile wordB = [] := by rw [List.takeWhile_cons, hw]; rfl
      have hs : symLen (c :: r) = 0 := by
        refine symLen_zero (fun _ => ?_) (fun _ => ?_)
        · cases r with
          | nil => rcases hcc with rfl | rfl | rfl | rfl | rfl <;> decide
          | cons d r => rcases hcc with rfl | rfl | rfl | rfl | rfl <;> simp [symbols]
        · rcases hcc with rfl | rfl | rfl | rfl | rfl <;> simp [symbols]
      rw [next_eq, if_pos htw, if_pos hs] at h1
      simp at h1
    · simp only [not_or] at hc
      simp only [List.cons_append, gapG, if_neg hc.1, if_neg hc.2]
def layT (gp : Nat → List UInt8) : Nat → List Tok → List UInt8
  | _, [] => []
  | j, t :: ts => gp j ++ (t.text ++ layT gp (j + 1) ts)
def rep (gp : Nat → List UInt8) : Nat → Nat → List Tok → List Tok
  | _, _, [] => []
  | j, p, t :: ts => ⟨t.kind, t.text, p + (gp j).length⟩ :: rep gp (j + 1) (p + (gp j).length + t.text.length) ts
theorem layT_snoc (gp : Nat → List UInt8) : ∀ (ts : List Tok) (j : Nat) (t : Tok), layT gp j (ts ++ [t]) = layT gp j ts ++ gp (j + ts.length) ++ t.text
  | [], j, t => by simp [layT]
  | a :: ts, j, t => by
    have := layT_snoc gp ts (j + 1) t
    simp only [List.cons_append, layT, this, List.append_assoc, List.length_cons]
    rw [show j + 1 + ts.length = j + (ts.length + 1) from by omega]
theorem rep_snoc (gp : Nat → List UInt8) : ∀ (ts : List Tok) (j p : Nat) (t : Tok), rep gp j p (ts ++ [t]) = rep gp j p ts ++ [⟨t.kind, t.text, p + (layT gp j ts).length + (gp (j + ts.length)).length⟩]
  | [], j, p, t => by simp [rep, layT]
  | a :: ts, j, p, t => by
    have := rep_snoc gp ts (j + 1) (p + (gp j).length + a.text.length) t
    simp only [List.cons_append, rep, layT, this, List.length_append, List.length_cons]
    rw [show j + 1 + ts.length = j + (ts.length + 1) from by omega]
    simp only [List.cons.injEq, true_and, List.append_cancel_left_eq, List.cons.injEq, Tok.mk.injEq, and_true]
    omega
theorem rep_length (gp : Nat → List UInt8) : ∀ (ts : List Tok) (j p : Nat), (rep gp j p ts).length = ts.length
  | [], _, _ => rfl
  | a :: ts, j, p => by simp [rep, rep_length gp ts]
theorem rep_get (gp : Nat → List UInt8) : ∀ (ts : List Tok) (j p k : Nat) (h1 : k < ts.length) (h2 : k < (rep gp j p ts).length), ts[k].kind = (rep gp j p ts)[k].kind ∧ ts[k].text = (rep gp j p ts)[k].text
  | [], _, _, k, h, _ => by simp at h
  | a :: ts, j, p, 0, _, _ => ⟨rfl, rfl⟩
  | a :: ts, j, p, k + 1, h1, h2 => by
    have := rep_get gp ts (j + 1) (p + (gp j).length + a.text.length) k (by simpa using h1) (by simpa [rep] using h2)
    simpa [rep] using this
theorem layT_head (gp : Nat → List UInt8) (hg : ∀ j, Closed (gp j)) (j : Nat) (ts : List Tok) : layT gp j ts = [] ∨ ∃ c r, layT gp j ts = c :: r ∧ sepB c = true := by
  cases ts with
  | nil => exact Or.inl rfl
  | cons t ts =>
    obtain ⟨⟨c, r, h, hc⟩, _⟩ := hg j
    exact Or.inr ⟨c, r ++ (t.text ++ layT gp (j + 1) ts), by simp [layT, h], hc⟩
theorem sc_lay (gp : Nat → List UInt8) (hg : ∀ j, Closed (gp j)) : ∀ (ts : List Tok) (j p : Nat), (∀ t ∈ ts, Own t) → Sc (rep gp j p ts) ((layT gp j ts).drop (gapG false (layT gp j ts))) (p + gapG false (layT gp j ts)) none
  | [], j, p, _ => Or.inl ⟨rfl, rfl⟩
  | t :: ts, j, p, h => by
    have ht := h t (List.mem_cons_self ..)
    have hts : t.text ≠ [] := by
      intro e; obtain ⟨h1, h2, _⟩ := ht; rw [e] at h1
      have : next ([] : List UInt8) = (0, 0) := by decide
      rw [this] at h1; simp at h1; omega
    have hgap : gapG false (layT gp j (t :: ts)) = (gp j).length := by
      simp only [layT]; rw [(hg j).2.2, own_first ht]; rfl
    have hdrop : (layT gp j (t :: ts)).drop (gp j).length = t.text ++ layT gp (j + 1) ts := by simp [layT]
    have hnext : next (t.text ++ layT gp (j + 1) ts) = (t.kind, t.text.length) := by
      rcases layT_head gp hg (j + 1) ts with h0 | ⟨c, r, h0, hc⟩
      · rw [h0, List.append_nil]; exact ht.1
      · rw [h0, next_sep r hts hc]; exact ht.1
    have ih := sc_lay gp hg ts (j + 1) (p + (gp j).length + t.text.length) (fun x hx => h x (List.mem_cons_of_mem _ hx))
    rw [hgap, hdrop]
    refine ⟨by simp [hts], hnext, ht.2.1, by simp, rfl, ?_⟩
    simp only [List.drop_left]
    rw [← List.drop_drop, List.drop_left]
    exact ih
theorem lex_lay {s : List UInt8} (h : (lex s).2.1 = 0) (gp : Nat → List UInt8) (hg : ∀ j, Closed (gp j)) (hl : (layT gp 0 (lex s).1).length ≤ 8000) :
    lex (layT gp 0 (lex s).1) = (rep gp 0 0 (lex s).1, 0, -1) := by
  have hsc := sc_lay gp hg (lex s).1 0 0 (fun t ht => by
    obtain ⟨k, hk, rfl⟩ := List.getElem_of_mem ht
    exact own_of h hk)
  refine lex_of_scan (scan_sc (by simpa using hsc)) hl (by rw [rep_length]; exact (lex_get h).2.1)
end Lx
end Go.Proofs.YtgoplhlbcmfocaaDoor
