/- strconv.Quote's text tells the string: of two such texts none begins the other; no program in sight. -/
import Derived.Test.YtoficnfpoeaccaaDoorBase
import Derived.Lib.MapLaws
import Derived.Lib.QuoteLoop
namespace Go.Proofs.YtoficnfpoeaccaaDoor
set_option linter.unusedVariables false
set_option linter.unusedSimpArgs false
open Go.Lib
namespace Qu
def hv (x : Int) : Int := if x < 58 then x - 48 else x - 87
theorem hv_digit {x : Nat} (h : x < 16) : hv (Lib.hexDigit x) = x := by
  unfold hv Lib.hexDigit
  by_cases h1 : x < 10
  · rw [if_pos h1, if_pos (by omega)]; omega
  · rw [if_neg h1, if_neg (by omega)]; omega
def name1 (c : Int) : Int := if c = 97 then 7 else if c = 98 then 8 else if c = 102 then 12 else if c = 110 then 10 else if c = 114 then 13 else if c = 116 then 9 else if c = 118 then 11 else c
/-- What the first piece of a text stands for, and what is behind it. -/
def piece (l : List Int) : List Int × List Int :=
  if l.getD 0 0 = 92 then
    if l.getD 1 0 = 120 then ([16 * hv (l.getD 2 0) + hv (l.getD 3 0)], l.drop 4)
    else if l.getD 1 0 = 117 then (encodeRuneZ (((hv (l.getD 2 0) * 16 + hv (l.getD 3 0)) * 16 + hv (l.getD 4 0)) * 16 + hv (l.getD 5 0)), l.drop 6)
    else if l.getD 1 0 = 85 then (encodeRuneZ (((((((hv (l.getD 2 0) * 16 + hv (l.getD 3 0)) * 16 + hv (l.getD 4 0)) * 16 + hv (l.getD 5 0)) * 16 + hv (l.getD 6 0)) * 16 + hv (l.getD 7 0)) * 16 + hv (l.getD 8 0)) * 16 + hv (l.getD 9 0)), l.drop 10)
    else ([name1 (l.getD 1 0)], l.drop 2)
  else if l.getD 0 0 < 128 then (l.take 1, l.drop 1)
  else if l.getD 0 0 < 224 then (l.take 2, l.drop 2)
  else if l.getD 0 0 < 240 then (l.take 3, l.drop 3)
  else (l.take 4, l.drop 4)
theorem piece_byte {b : Nat} (h : b < 256) (rest : List Int) : piece ([92, 120, Lib.hexDigit (b / 16), Lib.hexDigit (b % 16)] ++ rest) = ([(b : Int)], rest) := by
  unfold piece
  simp only [List.cons_append, List.nil_append, List.getD_cons_zero, List.getD_cons_succ, if_true, List.drop_succ_cons, List.drop_zero]
  rw [hv_digit (by omega), hv_digit (by omega)]
  congr 2
  omega
theorem piece_two {c : Int} (h1 : c ≠ 120) (h2 : c ≠ 117) (h3 : c ≠ 85) (rest : List Int) : piece ([92, c] ++ rest) = ([name1 c], rest) := by
  unfold piece
  simp only [List.cons_append, List.nil_append, List.getD_cons_zero, List.getD_cons_succ, if_true, List.drop_succ_cons, List.drop_zero]
  rw [if_neg h1, if_neg h2, if_neg h3]
theorem piece_four {r : Nat} (h : r < 65536) (rest : List Int) : piece (92 :: 117 :: Lib.hexDigits r 4 ++ rest) = (encodeRuneZ (r : Int), rest) := by
  unfold piece
  simp only [Lib.hexDigits, List.cons_append, List.nil_append, List.getD_cons_zero, List.getD_cons_succ, if_true, List.drop_succ_cons, List.drop_zero]
  rw [if_neg (by decide)]
  rw [hv_digit (by omega), hv_digit (by omega), hv_digit (by omega), hv_digit (by omega)]
  congr 2
  simp only [Nat.reducePow, Nat.pow_zero, Nat.pow_one, Nat.div_one]
  omega
theorem piece_eight {r : Nat} (h : r < 4294967296) (rest : List Int) : piece (92 :: 85 :: Lib.hexDigits r 8 ++ rest) = (encodeRuneZ (r : Int), rest) := by
  unfold piece
  simp only [Lib.hexDigits, List.cons_append, List.nil_append, List.getD_cons_zero, List.getD_cons_succ, if_true, List.drop_succ_cons, List.drop_zero]
  rw [if_neg (by decide), if_neg (by decide)]
  rw [hv_digit (by omega), hv_digit (by omega), hv_digit (by omega), hv_digit (by omega), hv_digit (by omega), hv_digit (by omega), hv_digit (by omega), hv_digit (by omega)]
  congr 2
  simp only [Nat.reducePow, Nat.pow_zero, Nat.pow_one, Nat.div_one]
  omega
theorem piece_raw {r : Int} (h0 : 0 ≤ r) (hv : Lib.validRune r = true) (h92 : r ≠ 92) (rest : List Int) : piece (encodeRuneZ r ++ rest) = (encodeRuneZ r, rest) := by
  have hv2 : (0 ≤ r ∧ r < 55296) ∨ (57343 < r ∧ r ≤ 1114111) := by
    simp only [Lib.validRune, decide_eq_true_eq] at hv
    omega
  by_cases c1 : r ≤ 127
  · rw [encodeRuneZ_one h0 c1]
    unfold piece
    simp only [List.cons_append, List.nil_append, List.getD_cons_zero]
    rw [if_neg h92, if_pos (by omega)]
    simp
  by_cases c2 : r ≤ 2047
  · rw [encodeRuneZ_two (by omega) c2]
    unfold piece
    simp only [List.cons_append, List.nil_append, List.getD_cons_zero]
    rw [if_neg (by omega), if_neg (by omega), if_pos (by omega)]
    simp
  by_cases c3 : r ≤ 65535
  · rw [encodeRuneZ_three (by omega)]
    unfold piece
    simp only [List.cons_append, List.nil_append, List.getD_cons_zero]
    rw [if_neg (by omega), if_neg (by omega), if_neg (by omega), if_pos (by omega)]
    simp
  · rw [encodeRuneZ_four (by omega) (by omega)]
    unfold piece
    simp only [List.cons_append, List.nil_append, List.getD_cons_zero]
    rw [if_neg (by omega), if_neg (by omega), if_neg (by omega), if_neg (by omega)]
    simp
theorem piece_rune (T : PrintTabs) {r : Nat} (hv : Lib.validRune (r : Int) = true) (rest : List Int) : piece (escRune T (r : Int) ++ rest) = (encodeRuneZ (r : Int), rest) := by
  have hv2 : (r < 55296) ∨ (57343 < r ∧ r ≤ 1114111) := by
    simp only [Lib.validRune, decide_eq_true_eq] at hv
    omega
  unfold escRune
  by_cases c0 : (r : Int) = 34 ∨ (r : Int) = 92
  · rw [if_pos c0]
    rcases c0 with c0 | c0 <;> rw [c0, piece_two (by decide) (by decide) (by decide)] <;> rfl
  rw [if_neg c0]
  by_cases c1 : isPrintR T (r : Int) = true
  · rw [if_pos c1]; exact piece_raw (by omega) hv (fun h => c0 (Or.inr h)) rest
  rw [if_neg c1]
  by_cases c2 : (r : Int) = 7
  · rw [if_pos c2, piece_two (by decide) (by decide) (by decide), c2]; rfl
  rw [if_neg c2]
  by_cases c3 : (r : Int) = 8
  · rw [if_pos c3, piece_two (by decide) (by decide) (by decide), c3]; rfl
  rw [if_neg c3]
  by_cases c4 : (r : Int) = 12
  · rw [if_pos c4, piece_two (by decide) (by decide) (by decide), c4]; rfl
  rw [if_neg c4]
  by_cases c5 : (r : Int) = 10
  · rw [if_pos c5, piece_two (by decide) (by decide) (by decide), c5]; rfl
  rw [if_neg c5]
  by_cases c6 : (r : Int) = 13
  · rw [if_pos c6, piece_two (by decide) (by decide) (by decide), c6]; rfl
  rw [if_neg c6]
  by_cases c7 : (r : Int) = 9
  · rw [if_pos c7, piece_two (by decide) (by decide) (by decide), c7]; rfl
  rw [if_neg c7]
  by_cases c8 : (r : Int) = 11
  · rw [if_pos c8, piece_two (by decide) (by decide) (by decide), c8]; rfl
  rw [if_neg c8]
  by_cases c9 : (r : Int) < 32 ∨ (r : Int) = 127
  · rw [if_pos c9, Int.toNat_natCast, piece_byte (b := r) (by omega), encodeRuneZ_one (by omega) (by omega)]
  rw [if_neg c9]
  rw [if_neg (by rw [hv]; simp)]
  by_cases c11 : (r : Int) < 65536
  · rw [if_pos c11, Int.toNat_natCast]; exact piece_four (by omega) rest
  · rw [if_neg c11, Int.toNat_natCast]; exact piece_eight (by omega) rest
def ints (l : List UInt8) : List Int := l.map fun x => (x.toNat : Int)
theorem ints_encode (r : Int) : ints (encodeRune r) = encodeRuneZ r := by
  unfold ints encodeRune
  rw [List.map_map]
  have h := encodeRuneZ_byte r
  generalize encodeRuneZ r = l at *
  induction l with
  | nil => rfl
  | cons x l ih =>
    rw [List.map_cons, ih fun y hy => h y (List.mem_cons_of_mem _ hy)]
    congr 1
    have := h x (by simp)
    simp only [Function.comp]
    have e : (x.toNat.toUInt8).toNat = x.toNat := by simp; omega
    rw [e]; omega
theorem get0 {s : ByteArray} (h : 0 < s.size) : ∃ l, s.data.toList = s.get! 0 :: l := by
  cases s with
  | mk d =>
    have h' : 0 < d.size := h
    refine ⟨d.toList.drop 1, ?_⟩
    show d.toList = d[0]! :: d.toList.drop 1
    rw [getElem!_pos d 0 h']
    have := List.drop_eq_getElem_cons (l := d.toList) (i := 0) (by simpa using h')
    simpa using this
/-- One round of Quote, read back. -/
theorem piece_step (T : PrintTabs) {s : ByteArray} (h : 0 < s.size) (rest : List Int) : piece (quoteStep T s ++ rest) = (ints (s.data.toList.take (Utf8.decode s 0).2), rest) := by
  have hne : s.data.toList ≠ [] := by
    intro e
    have := size_len s
    rw [e] at this
    simp at this
    omega
  have hd : decodeL s.data.toList = Utf8.decode s 0 := by unfold decodeL; rw [str_mk]
  by_cases hb : (Utf8.decode s 0).2 = 1 ∧ (Utf8.decode s 0).1 = 65533
  · unfold quoteStep
    rw [if_pos hb, piece_byte (b := (s.get! 0).toNat) (UInt8.toNat_lt _), hb.1]
    obtain ⟨l, hl⟩ := get0 h
    rw [hl]; rfl
  · rw [quoteStep_good T s hb, piece_rune T (rune_valid s) rest]
    congr 1
    have := encode_decode s.data.toList hne (by rw [hd]; exact fun h => hb ⟨h.2, h.1⟩)
    rw [hd] at this
    rw [← this, ints_encode]
theorem step_head (T : PrintTabs) {s : ByteArray} (h : 0 < s.size) (rest : List Int) : ∃ c l, quoteStep T s ++ rest = c :: l ∧ c ≠ 34 := by
  unfold quoteStep
  split
  · exact ⟨92, _, rfl, by decide⟩
  · unfold escRune
    have hv := rune_valid s
    generalize ((Utf8.decode s 0).1 : Int) = r at *
    by_cases c0 : r = 34 ∨ r = 92
    · rw [if_pos c0]; exact ⟨92, _, rfl, by decide⟩
    rw [if_neg c0]
    by_cases c1 : isPrintR T r = true
    · rw [if_pos c1]
      have hv2 : (0 ≤ r ∧ r < 55296) ∨ (57343 < r ∧ r ≤ 1114111) := by
        simp only [Lib.validRune, decide_eq_true_eq] at hv
        omega
      by_cases d1 : r ≤ 127
      · rw [encodeRuneZ_one (by omega) d1]; exact ⟨r, _, rfl, fun e => c0 (Or.inl e)⟩
      by_cases d2 : r ≤ 2047
      · rw [encodeRuneZ_two (by omega) d2]; exact ⟨_, _, rfl, by omega⟩
      by_cases d3 : r ≤ 65535
      · rw [encodeRuneZ_three (by omega)]; exact ⟨_, _, rfl, by omega⟩
      · rw [encodeRuneZ_four (by omega) (by omega)]; exact ⟨_, _, rfl, by omega⟩
    rw [if_neg c1]
    repeat' split
    all_goals exact ⟨92, _, rfl, by decide⟩
/-- Two texts behind their first quotes: where they go on alike, the strings are the same. -/
theorem from_inj (T : PrintTabs) : ∀ (k : Nat) (f f' : Nat) (s s' : ByteArray) (x y : List Int), s.size ≤ k → s.size ≤ f → s'.size ≤ f' → quoteFrom T f s ++ 34 :: x = quoteFrom T f' s' ++ 34 :: y → s.data.toList = s'.data.toList ∧ x = y
  | k, f, f', s, s', x, y, hk, hf, hf', h => by
    by_cases h1 : 0 < s.size
    · rw [quoteFrom_step T f s h1 hf, List.append_assoc] at h
      by_cases h2 : 0 < s'.size
      · rw [quoteFrom_step T f' s' h2 hf', List.append_assoc] at h
        have p1 := piece_step T h1 (quoteFrom T (f - 1) (s.extract (Utf8.decode s 0).2 s.size) ++ 34 :: x)
        have p2 := piece_step T h2 (quoteFrom T (f' - 1) (s'.extract (Utf8.decode s' 0).2 s'.size) ++ 34 :: y)
        rw [h, p2] at p1
        injection p1 with e1 e2
        have w1 := width_pos s 0
        have w2 := width_pos s' 0
        have w3 := width_le s h1
        have z1 := size_rest s (Utf8.decode s 0).2
        have z2 := size_rest s' (Utf8.decode s' 0).2
        match k, hk with
        | 0, hk => omega
        | k + 1, hk =>
          obtain ⟨e3, e4⟩ := from_inj T k (f - 1) (f' - 1) _ _ x y (by omega) (by omega) (by omega) e2.symm
          refine ⟨?_, e4⟩
          rw [ext_drop, ext_drop] at e3
          have e5 : s.data.toList.take (Utf8.decode s 0).2 = s'.data.toList.take (Utf8.decode s' 0).2 := by
            have hinj : ∀ a b : List UInt8, ints a = ints b → a = b := fun a => by
              induction a with
              | nil => intro b hb; cases b with | nil => rfl | cons y b => simp [ints] at hb
              | cons z a ih =>
                intro b hb
                cases b with
                | nil => simp [ints] at hb
                | cons y b =>
                  simp only [ints, List.map_cons, List.cons.injEq] at hb
                  have : z = y := UInt8.toNat_inj.1 (by omega)
                  rw [this, ih b hb.2]
            exact (hinj _ _ e1).symm
          rw [← List.take_append_drop (Utf8.decode s 0).2 s.data.toList, ← List.take_append_drop (Utf8.decode s' 0).2 s'.data.toList, e5, e3]
      · rw [quoteFrom_end T f' s' h2, List.nil_append] at h
        obtain ⟨c, l, e, hc⟩ := step_head T h1 (quoteFrom T (f - 1) (s.extract (Utf8.decode s 0).2 s.size) ++ 34 :: x)
        rw [e] at h
        injection h with h3
        exact absurd h3 hc
    · rw [quoteFrom_end T f s h1, List.nil_append] at h
      by_cases h2 : 0 < s'.size
      · rw [quoteFrom_step T f' s' h2 hf', List.append_assoc] at h
        obtain ⟨c, l, e, hc⟩ := step_head T h2 (quoteFrom T (f' - 1) (s'.extract (Utf8.decode s' 0).2 s'.size) ++ 34 :: y)
        rw [e] at h
        injection h with h3
        exact absurd h3.symm hc
      · rw [quoteFrom_end T f' s' h2, List.nil_append] at h
        injection h with _ h3
        have a1 := size_len s
        have a2 := size_len s'
        refine ⟨?_, h3⟩
        rw [List.eq_nil_of_length_eq_zero (show s.data.toList.length = 0 by omega), List.eq_nil_of_length_eq_zero (show s'.data.toList.length = 0 by omega)]
theorem quote_inj (T : PrintTabs) {s s' : ByteArray} {x y : List Int} (h : quoteZ T s ++ x = quoteZ T s' ++ y) : s = s' ∧ x = y := by
  unfold quoteZ at h
  rw [List.cons_append, List.cons_append, List.append_assoc, List.append_assoc] at h
  injection h with _ h
  obtain ⟨e1, e2⟩ := from_inj T s.size s.size s'.size s s' x y (Nat.le_refl _) (Nat.le_refl _) (Nat.le_refl _) h
  exact ⟨by apply ByteArray.ext; apply Array.toList_inj.1; exact e1, e2⟩
end Qu
end Go.Proofs.YtoficnfpoeaccaaDoor
