/- The walk of Parse of value. -/
import Derived.Test.YtagibdofpcbgiaaDoorVTxt
namespace Go.Proofs.YtagibdofpcbgiaaDoor
set_option linter.unusedVariables false
set_option linter.unusedSimpArgs false
open Go.RowKit Go.Shelf
theorem digit_byte {u : Nat} (h : u < 10) : (UInt8.ofNat (48 + u)).toNat = 48 + u := by
  rw [UInt8.toNat_ofNat']; omega
/-- The digits of a number of at most four digits. -/
theorem dec_shape (n : Nat) (h : n ≤ 9999) : Lib.decDigits n = if n < 10 then [UInt8.ofNat (48 + n)] else if n < 100 then [UInt8.ofNat (48 + n / 10), UInt8.ofNat (48 + n % 10)] else if n < 1000 then [UInt8.ofNat (48 + n / 10 / 10), UInt8.ofNat (48 + n / 10 % 10), UInt8.ofNat (48 + n % 10)] else [UInt8.ofNat (48 + n / 10 / 10 / 10), UInt8.ofNat (48 + n / 10 / 10 % 10), UInt8.ofNat (48 + n / 10 % 10), UInt8.ofNat (48 + n % 10)] := by
  by_cases h1 : n < 10
  · rw [if_pos h1, Lib.decDigits, dif_pos h1]
  · rw [if_neg h1]
    by_cases h2 : n < 100
    · rw [if_pos h2, Lib.decDigits, dif_neg h1, Lib.decDigits, dif_pos (by omega)]; rfl
    · rw [if_neg h2]
      by_cases h3 : n < 1000
      · rw [if_pos h3, Lib.decDigits, dif_neg h1, Lib.decDigits, dif_neg (by omega), Lib.decDigits, dif_pos (by omega)]; rfl
      · rw [if_neg h3, Lib.decDigits, dif_neg h1, Lib.decDigits, dif_neg (by omega), Lib.decDigits, dif_neg (by omega), Lib.decDigits, dif_pos (by omega)]; rfl
theorem num_dec (n : Nat) (h : n ≤ 9999) : Vx.num (Lib.decDigits n) = some n := by
  have hd : ∀ u, u < 10 → Vx.digitB (UInt8.ofNat (48 + u)) = true := fun u hu => by
    unfold Vx.digitB; rw [digit_byte hu]; simp; omega
  have hz : ∀ u, u < 10 → 0 < u → (UInt8.ofNat (48 + u)) ≠ 48 := fun u hu h0 e => by
    have := congrArg UInt8.toNat e
    rw [digit_byte hu] at this
    have e48 : (48 : UInt8).toNat = 48 := rfl
    omega
  rw [dec_shape n h]
  unfold Vx.num
  split
  · rename_i h1
    rw [if_pos ⟨by simp, by simp, by simp, by simp [-UInt8.ofNat_add, hd n h1]⟩]
    simp only [List.foldl, digit_byte h1]
    congr 1; omega
  · rename_i h1
    split
    · rename_i h2
      rw [if_pos ⟨by simp, by simp, by simp [-UInt8.ofNat_add, hz (n / 10) (by omega) (by omega)], by simp [-UInt8.ofNat_add, hd (n / 10) (by omega), hd (n % 10) (by omega)]⟩]
      simp only [List.foldl, digit_byte (show n / 10 < 10 by omega), digit_byte (show n % 10 < 10 by omega)]
      congr 1; omega
    · rename_i h2
      split
      · rename_i h3
        rw [if_pos ⟨by simp, by simp, by simp [-UInt8.ofNat_add, hz (n / 10 / 10) (by omega) (by omega)], by simp [-UInt8.ofNat_add, hd (n / 10 / 10) (by omega), hd (n / 10 % 10) (by omega), hd (n % 10) (by omega)]⟩]
        simp only [List.foldl, digit_byte (show n / 10 / 10 < 10 by omega), digit_byte (show n / 10 % 10 < 10 by omega), digit_byte (show n % 10 < 10 by omega)]
        congr 1; omega
      · rename_i h3
        rw [if_pos ⟨by simp, by simp, by simp [-UInt8.ofNat_add, hz (n / 10 / 10 / 10) (by omega) (by omega)], by simp [-UInt8.ofNat_add, hd (n / 10 / 10 / 10) (by omega), hd (n / 10 / 10 % 10) (by omega), hd (n / 10 % 10) (by omega), hd (n % 10) (by omega)]⟩]
        simp only [List.foldl, digit_byte (show n / 10 / 10 / 10 < 10 by omega), digit_byte (show n / 10 / 10 % 10 < 10 by omega), digit_byte (show n / 10 % 10 < 10 by omega), digit_byte (show n % 10 < 10 by omega)]
        congr 1; omega
theorem digit_of {c : UInt8} (h : Vx.digitB c = true) : ∃ u, u < 10 ∧ c = UInt8.ofNat (48 + u) ∧ c.toNat = 48 + u := by
  unfold Vx.digitB at h
  simp at h
  refine ⟨c.toNat - 48, by omega, ?_, by omega⟩
  rw [show 48 + (c.toNat - 48) = c.toNat by omega]; simp
/-- What spells a number is the number's digits. -/
theorem dec_num {l : List UInt8} {n : Nat} (h : Vx.num l = some n) : n ≤ 9999 ∧ l = Lib.decDigits n := by
  unfold Vx.num at h
  split at h
  · rename_i hc
    obtain ⟨h1, h2, h3, h4⟩ := hc
    have hn := Option.some.inj h
    clear h
    match l, h1, h2, h3, h4, hn with
    | [a], _, _, _, h4, hn =>
      simp only [List.all_cons, List.all_nil, Bool.and_true] at h4
      obtain ⟨u, hu, rfl, ht⟩ := digit_of h4
      simp only [List.foldl, ht] at hn
      obtain rfl : n = u := by omega
      exact ⟨by omega, by rw [dec_shape n (by omega), if_pos hu]⟩
    | [a, b], _, _, h3, h4, hn =>
      simp only [List.all_cons, List.all_nil, Bool.and_true, Bool.and_eq_true] at h4
      obtain ⟨u, hu, rfl, ht⟩ := digit_of h4.1
      obtain ⟨v, hv, rfl, ht'⟩ := digit_of h4.2
      simp only [List.foldl, ht, ht'] at hn
      have hz : u ≠ 0 := by rintro rfl; simp at h3
      exact ⟨by omega, by rw [dec_shape n (by omega), if_neg (by omega), if_pos (by omega), show n / 10 = u by omega, show n % 10 = v by omega]⟩
    | [a, b, c], _, _, h3, h4, hn =>
      simp only [List.all_cons, List.all_nil, Bool.and_true, Bool.and_eq_true] at h4
      obtain ⟨u, hu, rfl, ht⟩ := digit_of h4.1
      obtain ⟨v, hv, rfl, ht'⟩ := digit_of h4.2.1
      obtain ⟨x, hx, rfl, hx'⟩ := digit_of h4.2.2
      simp only [List.foldl, ht, ht', hx'] at hn
      have hz : u ≠ 0 := by rintro rfl; simp at h3
      exact ⟨by omega, by rw [dec_shape n (by omega), if_neg (by omega), if_neg (by omega), if_pos (by omega), show n / 10 / 10 = u by omega, show n / 10 % 10 = v by omega, show n % 10 = x by omega]⟩
    | [a, b, c, d], _, _, h3, h4, hn =>
      simp only [List.all_cons, List.all_nil, Bool.and_true, Bool.and_eq_true] at h4
      obtain ⟨u, hu, rfl, ht⟩ := digit_of h4.1
      obtain ⟨v, hv, rfl, ht'⟩ := digit_of h4.2.1
      obtain ⟨x, hx, rfl, hx'⟩ := digit_of h4.2.2.1
      obtain ⟨y, hy, rfl, hy'⟩ := digit_of h4.2.2.2
      simp only [List.foldl, ht, ht', hx', hy'] at hn
      have hz : u ≠ 0 := by rintro rfl; simp at h3
      exact ⟨by omega, by rw [dec_shape n (by omega), if_neg (by omega), if_neg (by omega), if_neg (by omega), show n / 10 / 10 / 10 = u by omega, show n / 10 / 10 % 10 = v by omega, show n / 10 % 10 = x by omega, show n % 10 = y by omega]⟩
  · cases h
theorem parse_digit (acc : Nat) (c : UInt8) (r : List UInt8) (u : Nat) (hu : u < 10) (hc : c.toNat = 48 + u) (ha : acc ≤ 1000) : Lib.parseUint10 acc (c :: r) = Lib.parseUint10 (acc * 10 + u) r := by
  simp only [Lib.parseUint10]
  rw [if_pos (by omega), if_neg (by omega), if_neg (by omega), hc, show 48 + u - 48 = u by omega]
/-- Atoi reads the digits back. -/
theorem atoi_dec (n : Nat) (h : n ≤ 9999) : Lib.atoiAll (Lib.decDigits n) = .ok (n : Int) := by
  have hb : ∀ u, u < 10 → (UInt8.ofNat (48 + u)).toNat = 48 + u := fun u hu => digit_byte hu
  have key : ∀ (u : Nat) (r : List UInt8), u < 10 → Lib.parseUint10 0 (UInt8.ofNat (48 + u) :: r) = .ok n → Lib.atoiAll (UInt8.ofNat (48 + u) :: r) = .ok (n : Int) := fun u r hu hp => by
    unfold Lib.atoiAll
    simp only [hb u hu]
    rw [if_neg (by omega)]
    have : Lib.parseMag (UInt8.ofNat (48 + u) :: r) = .ok n := by unfold Lib.parseMag; rw [if_neg (by simp)]; exact hp
    rw [this]
    simp only
    rw [if_neg (by omega), if_neg (by omega), if_neg (by omega)]
  rw [dec_shape n h]
  split
  · rename_i h1
    apply key _ _ (by omega)
    rw [parse_digit _ _ _ _ h1 (hb _ h1) (by omega)]
    simp [Lib.parseUint10]
  · split
    · apply key _ _ (by omega)
      rw [parse_digit _ _ _ (n / 10) (by omega) (hb _ (by omega)) (by omega), parse_digit _ _ _ (n % 10) (by omega) (hb _ (by omega)) (by omega)]
      simp only [Lib.parseUint10]
      congr 1; omega
    · split
      · apply key _ _ (by omega)
        rw [parse_digit _ _ _ (n / 10 / 10) (by omega) (hb _ (by omega)) (by omega), parse_digit _ _ _ (n / 10 % 10) (by omega) (hb _ (by omega)) (by omega), parse_digit _ _ _ (n % 10) (by omega) (hb _ (by omega)) (by omega)]
        simp only [Lib.parseUint10]
        congr 1; omega
      · apply key _ _ (by omega)
        rw [parse_digit _ _ _ (n / 10 / 10 / 10) (by omega) (hb _ (by omega)) (by omega), parse_digit _ _ _ (n / 10 / 10 % 10) (by omega) (hb _ (by omega)) (by omega), parse_digit _ _ _ (n / 10 % 10) (by omega) (hb _ (by omega)) (by omega), parse_digit _ _ _ (n % 10) (by omega) (hb _ (by omega)) (by omega)]
        simp only [Lib.parseUint10]
        congr 1; omega
theorem itoa_dec (n : Int) (h : 0 ≤ n) : Lib.itoa n = Lib.decDigits n.toNat := by unfold Lib.itoa; rw [if_neg (by omega)]
/-- The text of an integer reads back to it, and nothing else reads so. -/
theorem parse_ok {l : List UInt8} {v : Int} (ha : Lib.atoiAll l = .ok v) (hv : Vx.text ⟨1, v, []⟩ = l) (hl : l ≠ []) : 0 ≤ v ∧ Vx.num l = some v.toNat := by
  unfold Vx.text at hv
  split at hv
  · rename_i hok
    have hn := valid_int hok rfl
    rw [if_pos rfl, itoa_dec _ hn.1] at hv
    exact ⟨hn.1, by rw [← hv]; exact num_dec _ (by omega)⟩
  · exact absurd hv.symm hl
theorem num_ok {l : List UInt8} {n : Nat} (h : Vx.num l = some n) : Lib.atoiAll l = .ok (n : Int) ∧ Vx.text ⟨1, n, []⟩ = l ∧ l ≠ [] := by
  obtain ⟨h1, h2⟩ := dec_num h
  refine ⟨by rw [h2]; exact atoi_dec n h1, ?_, fun e => by rw [e] at h; simp [Vx.num] at h⟩
  unfold Vx.text
  have : Vx.valid ⟨1, n, []⟩ = true := by simp [Vx.valid]; omega
  rw [if_pos this, if_pos rfl, itoa_dec (n : Int) (by omega), h2]
  simp
end Go.Proofs.YtagibdofpcbgiaaDoor
