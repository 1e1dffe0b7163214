/- The plain law of the lexer, continued: beginnings, concatenations, first errors. -/
import Derived.Test.YtgoplhlbcmfocaaDoorPlain3
namespace Go.Proofs.YtgoplhlbcmfocaaDoor
set_option linter.unusedVariables false
set_option linter.unusedSimpArgs false
namespace Lx
/-- Where the next token would begin. -/
def after : List Tok → List UInt8 → Nat → Nat
  | [], _, p => p
  | t :: ts, l, p => after ts (l.drop (t.text.length + gapG false (l.drop t.text.length))) (p + t.text.length + gapG false (l.drop t.text.length))
theorem endAt_ge : ∀ (ts1 ts2 : List Tok) (l : List UInt8) (p : Nat) (e : Option Nat), Sc (ts1 ++ ts2) l p e → p ≤ endAt p ts1 ts1.length ∧ endAt p ts1 ts1.length ≤ after ts1 l p
  | [], ts2, l, p, e, _ => ⟨Nat.le_refl _, Nat.le_refl _⟩
  | t :: ts, ts2, l, p, e, h => by
    obtain ⟨h0, h1, h2, h3, h4, h5⟩ := h
    have ih := endAt_ge ts ts2 _ _ e h5
    cases ts with
    | nil => simp only [endAt, after, List.length_cons, List.length_nil]; omega
    | cons t' ts =>
      obtain ⟨_, _, _, _, h4', _⟩ := h5
      have e1 : endAt p (t :: t' :: ts) (t :: t' :: ts).length = endAt (t'.pos + t'.text.length) ts ts.length := rfl
      have e2 : ∀ q, endAt q (t' :: ts) (t' :: ts).length = endAt (t'.pos + t'.text.length) ts ts.length := fun _ => rfl
      rw [e2] at ih
      rw [e1]
      refine ⟨by omega, ?_⟩
      simpa [after] using ih.2
theorem sc_start : ∀ (ts1 ts2 : List Tok) (t : Tok) (l : List UInt8) (p : Nat) (e : Option Nat), Sc (ts1 ++ t :: ts2) l p e → t.pos = after ts1 l p
  | [], _, _, _, _, _, h => h.2.2.2.2.1
  | _ :: ts, ts2, t, _, _, e, h => sc_start ts ts2 t _ _ e h.2.2.2.2.2
theorem sc_after : ∀ (ts : List Tok) (l : List UInt8) (p q : Nat), Sc ts l p (some q) → q = after ts l p
  | [], l, p, q, h => by
    rcases h with ⟨_, h⟩ | ⟨_, _, h⟩
    · cases h
    · exact Option.some.inj h
  | t :: ts, l, p, q, h => sc_after ts _ _ q h.2.2.2.2.2
theorem sc_cut : ∀ (ts1 ts2 : List Tok) (l : List UInt8) (p m : Nat) (e : Option Nat), Sc (ts1 ++ ts2) l p e → endAt p ts1 ts1.length ≤ p + m → p + m ≤ after ts1 l p → Sc ts1 (l.take m) p none
  | [], ts2, l, p, m, e, _, _, h2 => by
    simp only [after] at h2
    obtain rfl : m = 0 := by omega
    exact Or.inl ⟨rfl, rfl⟩
  | t :: ts, ts2, l, p, m, e, h, he, ha => by
    have hge := endAt_ge ts ts2 _ _ e h.2.2.2.2.2
    obtain ⟨h0, h1, h2, h3, h4, h5⟩ := h
    have hn : t.text.length ≤ m := by
      cases ts with
      | nil => simp only [endAt, List.length_cons, List.length_nil] at he; omega
      | cons t' ts =>
        obtain ⟨_, _, _, _, h4', _⟩ := h5
        have e1 : endAt p (t :: t' :: ts) (t :: t' :: ts).length = endAt (t'.pos + t'.text.length) ts ts.length := rfl
        have e2 : ∀ q, endAt q (t' :: ts) (t' :: ts).length = endAt (t'.pos + t'.text.length) ts ts.length := fun _ => rfl
        rw [e1] at he; rw [e2] at hge
        omega
    have hl := next_len l (by rw [h1]; exact h2)
    rw [h1] at hl
    simp only at hl
    have hd : (l.take m).drop t.text.length = (l.drop t.text.length).take (m - t.text.length) := by rw [List.drop_take]
    have hg : gapG false ((l.take m).drop t.text.length) = min (gapG false (l.drop t.text.length)) (m - t.text.length) := by rw [hd, gapG_take]
    refine ⟨?_, next_take h1 h2 hn, h2, ?_, h4, ?_⟩
    · intro hc; have := congrArg List.length hc; rw [List.length_take, List.length_nil] at this; omega
    · rw [List.take_take, Nat.min_eq_left hn]; exact h3
    · rw [hg]
      cases ts with
      | nil =>
        simp only [after] at ha
        rw [Nat.min_eq_right (by omega), show t.text.length + (m - t.text.length) = m from by omega, List.drop_of_length_le (by rw [List.length_take]; omega)]
        exact Or.inl ⟨rfl, rfl⟩
      | cons t' ts =>
        have h4' := h5.2.2.2.2.1
        have e1 : endAt p (t :: t' :: ts) (t :: t' :: ts).length = endAt (t'.pos + t'.text.length) ts ts.length := rfl
        have e2 : ∀ q, endAt q (t' :: ts) (t' :: ts).length = endAt (t'.pos + t'.text.length) ts ts.length := fun _ => rfl
        rw [e1] at he
        have hge1 := hge.1
        rw [e2] at hge1
        have hmg : t.text.length + gapG false (l.drop t.text.length) ≤ m := by omega
        rw [Nat.min_eq_left (by omega), List.drop_take]
        refine sc_cut (t' :: ts) ts2 _ _ _ e h5 ?_ ?_
        · rw [e2]; omega
        · simp only [after] at ha ⊢; omega
theorem scan_take {s : List UInt8} {ts1 ts2 : List Tok} {M : Nat} (h : (scan s).1 = ts1 ++ ts2) (h1 : endAt (gapG false s) ts1 ts1.length ≤ M) (h2 : M ≤ after ts1 (s.drop (gapG false s)) (gapG false s)) (h0 : gapG false s ≤ M) : scan (s.take M) = (ts1, none) := by
  have hs := sc_scan s
  rw [h] at hs
  have hg : gapG false (s.take M) = gapG false s := by rw [gapG_take]; omega
  refine scan_sc ?_
  rw [hg, List.drop_take]
  exact sc_cut ts1 ts2 _ _ _ _ hs (by omega) (by omega)
theorem lex_of_scan {s : List UInt8} {ts : List Tok} (h : scan s = (ts, none)) (hl : s.length ≤ 8000) (ht : ts.length ≤ 3000) : lex s = (ts, 0, -1) := by
  simp only [lex, h, if_neg (show ¬ 8000 < s.length by omega), dif_neg (show ¬ 3000 < ts.length by omega)]
theorem lex_prefix {s : List UInt8} (h : (lex s).2.1 = 0) {i : Nat} (hi : i < (lex s).1.length) :
    lex (s.take ((lex s).1[i].pos + (lex s).1[i].text.length)) = ((lex s).1.take (i + 1), 0, -1) := by
  obtain ⟨h1, h2, h3, h4⟩ := lex_ok_of h
  have hg := lex_get h
  obtain ⟨e1, e2⟩ := hg.2.2.2.1 i hi
  have e3 := e2.1
  have hts : (scan s).1 = (lex s).1 := by rw [h4]
  have hsp : (scan s).1 = (lex s).1.take (i + 1) ++ (lex s).1.drop (i + 1) := by rw [List.take_append_drop, hts]
  have hlen : ((lex s).1.take (i + 1)).length = i + 1 := by rw [List.length_take]; omega
  have hend : ∀ a, endAt a ((lex s).1.take (i + 1)) ((lex s).1.take (i + 1)).length = (lex s).1[i].pos + (lex s).1[i].text.length := by
    intro a
    rw [hlen, endAt_succ _ a i (by rw [hlen]; omega)]
    simp
  have hs := sc_scan s
  rw [hsp] at hs
  have hge := endAt_ge _ _ _ _ _ hs
  rw [hend] at hge
  refine lex_of_scan (scan_take hsp (by rw [hend]; exact Nat.le_refl _) hge.2 hge.1) (by rw [List.length_take]; omega) (by rw [hlen]; omega)
theorem gapG_app (b : List UInt8) : ∀ (c : Bool) (x : List UInt8), gapG c (x ++ 10 :: b) = if gapG c x = x.length then x.length + 1 + gapG false b else gapG c x
  | true, [] => by simp [gapG]
  | false, [] => by simp [gapG, whiteB]
  | true, d :: x => by
    have h1 := gapG_app b false x; have h2 := gapG_app b true x
    simp only [List.cons_append, gapG, List.length_cons, h1, h2]
    by_cases hd : d = 10
    · simp only [if_pos hd]; split <;> split <;> omega
    · simp only [if_neg hd]; split <;> split <;> omega
  | false, d :: x => by
    have h1 := gapG_app b false x; have h2 := gapG_app b true x
    simp only [List.cons_append, gapG, List.length_cons, h1, h2]
    by_cases hw : whiteB d = true
    · simp only [if_pos hw]; split <;> split <;> omega
    · simp only [if_neg hw]
      by_cases hd : d = 37
      · simp only [if_pos hd]; split <;> split <;> omega
      · simp only [if_neg hd]; rw [if_neg (by omega)]
theorem take_app {x y : List UInt8} {n : Nat} (h : n ≤ x.length) : (x ++ y).take n = x.take n := by rw [List.take_append_of_le_length h]
theorem drop_app {x y : List UInt8} {n : Nat} (h : n ≤ x.length) : (x ++ y).drop n = x.drop n ++ y := by rw [List.drop_append_of_le_length h]
/-- Before a line feed and another text: an error stays. -/
theorem sc_bad_app (b : List UInt8) : ∀ (ts : List Tok) (l : List UInt8) (p q : Nat), Sc ts (l.drop (gapG false l)) (p + gapG false l) (some q) →
    Sc ts ((l ++ 10 :: b).drop (gapG false (l ++ 10 :: b))) (p + gapG false (l ++ 10 :: b)) (some q)
  | [], l, p, q, h => by
    rcases h with ⟨_, h⟩ | ⟨h1, h2, h3⟩
    · cases h
    · have hg := gapG_le false l
      have hne : gapG false l ≠ l.length := by intro e; exact h1 (by rw [e]; exact List.drop_of_length_le (Nat.le_refl _))
      rw [gapG_app, if_neg hne, drop_app hg]
      exact Or.inr ⟨by simp, by rw [next_sep b h1 rfl]; exact h2, h3⟩
  | t :: ts, l, p, q, h => by
    obtain ⟨h0, h1, h2, h3, h4, h5⟩ := h
    have hg := gapG_le false l
    have hne : gapG false l ≠ l.length := by intro e; exact h0 (by rw [e]; exact List.drop_of_length_le (Nat.le_refl _))
    have hl := next_len _ (by rw [h1]; exact h2)
    rw [h1] at hl
    simp only at hl
    rw [gapG_app, if_neg hne, drop_app hg]
    rw [← List.drop_drop, Nat.add_assoc] at h5
    have ih := sc_bad_app b ts ((l.drop (gapG false l)).drop t.text.length) (p + gapG false l + t.text.length) q (by rw [← Nat.add_assoc] at h5; exact h5)
    refine ⟨by simp, by rw [next_sep b h0 rfl]; exact h1, h2, by rw [take_app hl.2]; exact h3, h4, ?_⟩
    rw [← List.drop_drop, drop_app hl.2]
    exact ih
/-- Before a line feed and another text: the tokens of both. -/
theorem sc_app (b : List UInt8) (tb : List Tok) (eb : Option Nat) : ∀ (ts : List Tok) (l : List UInt8) (p : Nat), Sc ts (l.drop (gapG false l)) (p + gapG false l) none →
    Sc tb (b.drop (gapG false b)) (p + l.length + 1 + gapG false b) eb → Sc (ts ++ tb) ((l ++ 10 :: b).drop (gapG false (l ++ 10 :: b))) (p + gapG false (l ++ 10 :: b)) eb
  | [], l, p, h, hb => by
    have hg := gapG_le false l
    have he : gapG false l = l.length := by
      rcases h with ⟨h, _⟩ | ⟨_, _, h⟩
      · have := congrArg List.length h; rw [List.length_drop] at this; simp at this; omega
      · cases h
    rw [gapG_app, if_pos he]
    have : (l ++ 10 :: b).drop (l.length + 1 + gapG false b) = b.drop (gapG false b) := by
      rw [Nat.add_assoc, ← List.drop_drop, List.drop_left, Nat.add_comm 1, List.drop_succ_cons]
    rw [this, List.nil_append]
    rw [show p + (l.length + 1 + gapG false b) = p + l.length + 1 + gapG false b from by omega]
    exact hb
  | t :: ts, l, p, h, hb => by
    obtain ⟨h0, h1, h2, h3, h4, h5⟩ := h
    have hg := gapG_le false l
    have hne : gapG false l ≠ l.length := by intro e; exact h0 (by rw [e]; exact List.drop_of_length_le (Nat.le_refl _))
    have hl := next_len _ (by rw [h1]; exact h2)
    rw [h1] at hl
    simp only at hl
    have hl2 := hl.2
    rw [List.length_drop] at hl2
    rw [gapG_app, if_neg hne, drop_app hg]
    rw [← List.drop_drop, Nat.add_assoc] at h5
    have ih := sc_app b tb eb ts ((l.drop (gapG false l)).drop t.text.length) (p + gapG false l + t.text.length) (by rw [← Nat.add_assoc] at h5; exact h5)
      (by rw [List.length_drop, List.length_drop, show p + gapG false l + t.text.length + (l.length - gapG false l - t.text.length) + 1 = p + l.length + 1 from by omega]; exact hb)
    refine ⟨by simp, by rw [next_sep b h0 rfl]; exact h1, h2, by rw [take_app hl.2]; exact h3, h4, ?_⟩
    rw [← List.drop_drop, drop_app hl.2]
    exact ih
def shift (d : Nat) (t : Tok) : Tok := ⟨t.kind, t.text, t.pos + d⟩
theorem sc_shift (d : Nat) (e : Option Nat) : ∀ (ts : List Tok) (l : List UInt8) (p : Nat), Sc ts l p e → Sc (ts.map (shift d)) l (p + d) (e.map (· + d))
  | [], l, p, h => by
    rcases h with ⟨h1, h2⟩ | ⟨h1, h2, h3⟩
    · exact Or.inl ⟨h1, by rw [h2]; rfl⟩
    · exact Or.inr ⟨h1, h2, by rw [h3]; rfl⟩
  | t :: ts, l, p, h => by
    obtain ⟨h0, h1, h2, h3, h4, h5⟩ := h
    have ih := sc_shift d e ts _ _ h5
    refine ⟨h0, h1, h2, h3, by simp only [shift, h4], ?_⟩
    have e1 : p + d + t.text.length + gapG false (l.drop t.text.length) = p + t.text.length + gapG false (l.drop t.text.length) + d := by omega
    simp only [shift, e1]
    exact ih
theorem scan_app {a : List UInt8} (b : List UInt8) (h : (scan a).2 = none) : scan (a ++ 10 :: b) = ((scan a).1 ++ (scan b).1.map (shift (a.length + 1)), (scan b).2.map (· + (a.length + 1))) := by
  have ha := sc_scan a
  rw [h] at ha
  have hb := sc_shift (a.length + 1) _ _ _ _ (sc_scan b)
  have := sc_app b _ _ (scan a).1 a 0 (by simpa using ha) (by rw [show 0 + a.length + 1 + gapG false b = gapG false b + (a.length + 1) from by omega]; exact hb)
  exact scan_sc (by simpa using this)
theorem scan_bad_app {a : List UInt8} {q : Nat} (b : List UInt8) (h : (scan a).2 = some q) : scan (a ++ 10 :: b) = ((scan a).1, some q) := by
  have ha := sc_scan a
  rw [h] at ha
  have := sc_bad_app b (scan a).1 a 0 q (by simpa using ha)
  exact scan_sc (by simpa using this)
end Lx
end Go.Proofs.YtgoplhlbcmfocaaDoor
