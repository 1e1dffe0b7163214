/- The plain law of the lexer, continued: Lex at a concatenation; Lex before an error and behind its beginning. -/
import Derived.Test.YtgoplhlbcmfocaaDoorPlain4
namespace Go.Proofs.YtgoplhlbcmfocaaDoor
set_option linter.unusedVariables false
set_option linter.unusedSimpArgs false
namespace Lx
theorem lex_concat_ok {a b : List UInt8} (ha : (lex a).2.1 = 0) (hb : (lex b).2.1 = 0) (hl : a.length ≤ 4000) (hm : b.length ≤ 3999) :
    (3000 < (lex a).1.length + (lex b).1.length → (lex (a ++ 10 :: b)).2.1 = 2) ∧
    ((lex a).1.length + (lex b).1.length ≤ 3000 → lex (a ++ 10 :: b) = ((lex a).1 ++ (lex b).1.map (shift (a.length + 1)), 0, -1)) := by
  obtain ⟨_, a2, _, a4⟩ := lex_ok_of ha
  obtain ⟨_, b2, _, b4⟩ := lex_ok_of hb
  have hz := scan_app b a2
  rw [b2] at hz
  have e1 : (lex a).1 = (scan a).1 := by rw [a4]
  have e2 : (lex b).1 = (scan b).1 := by rw [b4]
  rw [e1, e2]
  have hlen : ¬ 8000 < (a ++ 10 :: b).length := by simp; omega
  refine ⟨fun h => ?_, fun h => lex_of_scan hz (by simp; omega) (by simpa using h)⟩
  simp only [lex, hz, if_neg hlen]
  rw [dif_pos (by simpa using h)]
theorem lex_concat_err {a b : List UInt8} (ha : (lex a).2.1 ≠ 0) (hl : a.length ≤ 4000) (hm : b.length ≤ 3999) : (lex (a ++ 10 :: b)).2.1 = (lex a).2.1 := by
  have hlen : ¬ 8000 < (a ++ 10 :: b).length := by simp; omega
  have hlen2 : ¬ 8000 < a.length := by omega
  cases h : (scan a).2 with
  | some q =>
    have hz := scan_bad_app b h
    unfold lex
    rw [if_neg hlen, if_neg hlen2]
    simp only [hz, h]
  | none =>
    have hz := scan_app b h
    unfold lex at ha ⊢
    rw [if_neg hlen2] at ha
    rw [if_neg hlen, if_neg hlen2]
    simp only [h] at ha ⊢
    by_cases h3 : 3000 < (scan a).1.length
    · have h4 : 3000 < (scan (a ++ 10 :: b)).1.length := by rw [hz]; simp; omega
      simp only [dif_pos h3, dif_pos h4]
    · rw [dif_neg h3] at ha; simp at ha
/-- Behind the beginning of an error: the same error. -/
theorem sc_ext : ∀ (ts : List Tok) (l l' : List UInt8) (p q : Nat), Sc ts l p (some q) → q - p + 18 ≤ l.length → l'.take (q - p + 18) = l.take (q - p + 18) → Sc ts l' p (some q)
  | [], l, l', p, q, h, hl, he => by
    rcases h with ⟨_, h⟩ | ⟨h1, h2, h3⟩
    · cases h
    · obtain rfl := Option.some.inj h3
      rw [Nat.sub_self, Nat.zero_add] at hl he
      refine Or.inr ⟨?_, next_bad_loc h2 hl he, rfl⟩
      intro e; rw [e] at he; have := congrArg List.length he; rw [List.length_take, List.length_take] at this; simp at this; omega
  | t :: ts, l, l', p, q, h, hl, he => by
    have hq := sc_after _ _ _ _ h
    have hge := endAt_ge ts [] _ _ (some q) (by rw [List.append_nil]; exact h.2.2.2.2.2)
    obtain ⟨h0, h1, h2, h3, h4, h5⟩ := h
    have hnl := next_len l (by rw [h1]; exact h2)
    rw [h1] at hnl
    simp only at hnl
    have hpq : p + t.text.length + gapG false (l.drop t.text.length) ≤ q := by
      have := Nat.le_trans hge.1 hge.2
      simp only [after] at hq; omega
    have tk : ∀ k, k ≤ q - p + 18 → l'.take k = l.take k := fun k hk => by
      have := congrArg (List.take k) he
      rw [List.take_take, List.take_take, Nat.min_eq_left hk] at this; exact this
    have hg : gapG false (l'.drop t.text.length) = gapG false (l.drop t.text.length) := by
      refine gapG_loc false _ _ (by rw [List.length_drop]; omega) ?_
      have := congrArg (List.drop t.text.length) (tk (t.text.length + (gapG false (l.drop t.text.length) + 1)) (by omega))
      rw [List.drop_take, List.drop_take, Nat.add_sub_cancel_left] at this; exact this
    refine ⟨?_, next_loc h1 h2 (by omega) (tk _ (by omega)), h2, by rw [tk _ (by omega)]; exact h3, h4, ?_⟩
    · intro e; have := tk 1 (by omega); rw [e] at this; have := congrArg List.length this; rw [List.length_take, List.length_take] at this; simp at this; omega
    · rw [hg]
      refine sc_ext ts _ _ _ q h5 (by rw [List.length_drop]; omega) ?_
      have := congrArg (List.drop (t.text.length + gapG false (l.drop t.text.length))) (tk (t.text.length + gapG false (l.drop t.text.length) + (q - (p + t.text.length + gapG false (l.drop t.text.length)) + 18)) (by omega))
      rw [List.drop_take, List.drop_take, Nat.add_sub_cancel_left] at this; exact this
theorem lex_first {s : List UInt8} (hl : s.length ≤ 8000) (h : (lex s).2.1 ≠ 0) :
    ∃ M : Nat, (lex s).2.2 = (M : Int) ∧ M < s.length ∧ (lex (s.take M)).2.1 = 0 ∧
      ((lex s).2.1 = 40 → M + 18 < s.length → ∀ more : List UInt8, M + 18 + more.length ≤ 8000 → lex (s.take (M + 18) ++ more) = ([], 40, (M : Int))) := by
  have hs := sc_scan s
  have hgl := gapG_le false s
  by_cases h1 : 3000 < (scan s).1.length
  · obtain ⟨t, ht⟩ : ∃ t, t = (scan s).1[3000] := ⟨_, rfl⟩
    have hsp : (scan s).1 = (scan s).1.take 3000 ++ t :: (scan s).1.drop 3001 := by
      rw [ht, ← List.drop_eq_getElem_cons h1, List.take_append_drop]
    have hlx : lex s = ([], 2, (t.pos : Int)) := by simp only [lex, if_neg (show ¬ 8000 < s.length by omega), dif_pos h1, ht]
    have hs2 := hs
    rw [hsp] at hs2
    have hge := endAt_ge _ _ _ _ _ hs2
    have hst := sc_start _ _ _ _ _ _ hs2
    have hget := sc_get (scan s).1 s 0 (scan s).2 (by omega) (by simpa using hs)
    have htk := (hget.1 3000 h1).2
    rw [← ht] at htk
    have htl : ((scan s).1.take 3000).length = 3000 := by rw [List.length_take]; omega
    refine ⟨t.pos, by rw [hlx], by have := htk.1; have := htk.2.2.2.2; omega, ?_, fun h40 => by rw [hlx] at h40; simp at h40⟩
    rw [lex_of_scan (scan_take hsp (by omega) (by omega) (by omega)) (by rw [List.length_take]; omega) (by omega)]
  · cases h2 : (scan s).2 with
    | none => exact absurd (by simp only [lex, if_neg (show ¬ 8000 < s.length by omega), dif_neg h1, h2]) h
    | some q =>
      rw [h2] at hs
      have hq := sc_after _ _ _ _ hs
      have hge := endAt_ge (scan s).1 [] _ _ (some q) (by rw [List.append_nil]; exact hs)
      have hget := sc_get (scan s).1 s 0 (some q) (by omega) (by simpa using hs)
      have hqs := (hget.2.2.2 q rfl).2.1
      have hgq : gapG false s ≤ q := by have := Nat.le_trans hge.1 hge.2; omega
      have hlx : (lex s).2.2 = (q : Int) ∧ ((lex s).2.1 = 40 → (scan s).1.length < 3000) := by
        simp only [lex, if_neg (show ¬ 8000 < s.length by omega), dif_neg h1, h2]
        split
        · exact ⟨rfl, fun h => by simp at h⟩
        · exact ⟨rfl, fun _ => by omega⟩
      refine ⟨q, hlx.1, hqs, ?_, fun h40 hq18 more hm => ?_⟩
      · rw [lex_of_scan (scan_take (ts2 := []) (by rw [List.append_nil]) (by omega) (by omega) hgq) (by rw [List.length_take]; omega) (by omega)]
      · have ht : (scan s).1.length < 3000 := hlx.2 h40
        have hpre : ∀ k, k ≤ q + 18 → (s.take (q + 18) ++ more).take k = s.take k := fun k hk => by
          rw [take_app (by rw [List.length_take]; omega), List.take_take, Nat.min_eq_left hk]
        have hg : gapG false (s.take (q + 18) ++ more) = gapG false s := gapG_loc false s _ (by omega) (hpre _ (by omega))
        have hsc : scan (s.take (q + 18) ++ more) = ((scan s).1, some q) := by
          refine scan_sc ?_
          rw [hg]
          refine sc_ext _ _ _ _ _ hs (by rw [List.length_drop]; omega) ?_
          have := congrArg (List.drop (gapG false s)) (hpre (gapG false s + (q - gapG false s + 18)) (by omega))
          rw [List.drop_take, List.drop_take, Nat.add_sub_cancel_left] at this; exact this
        have hlen : ¬ 8000 < (s.take (q + 18) ++ more).length := by rw [List.length_append, List.length_take]; omega
        simp only [lex, if_neg hlen, hsc, dif_neg (show ¬ 3000 < (scan s).1.length by omega), if_neg (show ¬ (scan s).1.length = 3000 by omega)]
end Lx
end Go.Proofs.YtgoplhlbcmfocaaDoor
