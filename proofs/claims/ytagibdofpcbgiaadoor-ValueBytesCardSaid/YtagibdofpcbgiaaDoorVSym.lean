/- The walks of symbol and Valid, of value and of its reference. -/
import Derived.Test.YtagibdofpcbgiaaDoorVVal
import Derived.Lib.TrimUEq
namespace Go.Proofs.YtagibdofpcbgiaaDoor
set_option linter.unusedVariables false
set_option linter.unusedSimpArgs false
open Go.RowKit Go.Shelf
def wordCells : Array Value := (Vx.words.map fun z => Value.string ⟨z.toArray⟩).toArray
/-- The variable with the key words. -/
def Words (w : World) : Prop := ∃ t fr, w.heap[0]? = some (.cells wordCells t fr)
theorem Words.below {w w' : World} {B : Nat} (h : Words w) (hb : Below B w w') (hB : 0 < B) : Words w' := by
  obtain ⟨t, fr, h⟩ := h; exact ⟨t, fr, (hb.block _ hB).trans h⟩
theorem Words.lt {w : World} (h : Words w) : 0 < w.heap.size := by
  obtain ⟨t, fr, h⟩ := h; exact (Array.getElem?_eq_some_iff.1 h).1
theorem Words.next {w w' : World} (h : Words w) (hb : Below w.heap.size w w') : Words w' := h.below hb h.lt
def wordBs : List ByteArray := Vx.words.map fun z => ⟨z.toArray⟩
theorem Words.cell {w : World} (h : Words w) (j : Nat) (hj : j < wordBs.length) : w.cell? ⟨0, 0 + j, none⟩ = some (.string (wordBs.getD j ByteArray.empty)) := by
  obtain ⟨t, fr, h⟩ := h
  rw [Nat.zero_add, cell_of_row w _ j wordCells t fr h]
  unfold wordCells wordBs at *
  rw [List.getElem?_toArray, List.getElem?_map, List.getD_eq_getElem?_getD, List.getElem?_map]
  simp only [List.length_map] at hj
  rw [List.getElem?_eq_getElem hj]; rfl
theorem key_eq (s : ByteArray) : Lib.containsS (wordBs.take 10) s = Vx.words.contains s.data.toList := by
  rw [show wordBs.take 10 = wordBs from rfl, Bool.eq_iff_iff, Lib.containsS_iff, List.contains_iff_mem]
  unfold wordBs
  rw [List.mem_map]
  constructor
  · rintro ⟨z, hz, rfl⟩; exact hz
  · intro h; exact ⟨_, h, str_mk s⟩
theorem contains_any (s : ByteArray) (w : World) (hw : Words w) :
    Calls Tryd.prog 46 #[.slice (some ⟨0, 0, none⟩) 10 10, .string s] w fun e w' => e = .returned (.bool (Vx.words.contains s.data.toList)) ∧ w = w' := by
  rw [← key_eq s]
  refine (Tryd.slices_Contains_string 0 0 10 10 wordBs s w (by decide) (by decide) (fun j hj => hw.cell j hj)).mono ?_
  rintro e w' ⟨h, h'⟩
  exact ⟨h, h'.symm⟩
theorem decodeN_low (n b0 b1 b2 b3 : Nat) (h : b0 < 128) : Lib.decodeN n b0 b1 b2 b3 = (b0, 1) := by unfold Lib.decodeN; rw [if_pos h]
theorem decodeN_high (n b0 b1 b2 b3 : Nat) (h : ¬ b0 < 128) : 128 ≤ (Lib.decodeN n b0 b1 b2 b3).1 := by
  unfold Lib.decodeN; rw [if_neg h]
  repeat' split
  all_goals (show 128 ≤ _; omega)
def oddP (x : Nat) : Bool := !letC (x : Int)
theorem letC_high {x : Nat} (h : 128 ≤ x) : letC (x : Int) = false := by
  unfold letC
  rw [Bool.eq_false_iff]
  simp only [ne_eq, Bool.or_eq_true, Bool.and_eq_true, decide_eq_true_eq, beq_iff_eq]
  omega
theorem odd_from (s : ByteArray) : ∀ (f pos : Nat), s.size - pos ≤ f → decide (0 ≤ Lib.idxFuncFrom oddP true s f pos) = !(s.data.toList.drop pos).all Vx.letterB
  | 0, pos, h => by
    rw [List.drop_eq_nil_of_le (by rw [size_len]; omega)]; simp [Lib.idxFuncFrom]
  | f + 1, pos, h => by
    unfold Lib.idxFuncFrom
    by_cases hp : pos < s.size
    · rw [if_pos hp, drop_cons s pos hp, List.all_cons]
      have hd := Lib.decode_N s pos
      have hb : (s.data.toList.getD pos 0) = s[pos] := by
        rw [List.getD_eq_getElem?_getD, byte_get s pos hp]; rfl
      rw [hb] at hd
      by_cases hl : s[pos].toNat < 128
      · rw [decodeN_low _ _ _ _ _ hl] at hd
        rw [hd]
        have e : oddP s[pos].toNat = !Vx.letterB s[pos] := by unfold oddP; rw [letC_eq]
        show decide (0 ≤ if oddP s[pos].toNat = true then (pos : Int) else Lib.idxFuncFrom oddP true s f (pos + 1)) = _
        rw [e]
        cases hx : Vx.letterB s[pos]
        · simp
        · have := odd_from s f (pos + 1) (by omega)
          simp [this]
      · have h1 := decodeN_high (s.data.toList.length - pos) s[pos].toNat (s.data.toList.getD (pos + 1) 0).toNat (s.data.toList.getD (pos + 2) 0).toNat (s.data.toList.getD (pos + 3) 0).toNat hl
        rw [← hd] at h1
        have e : oddP (Utf8.decode s pos).1 = true := by unfold oddP; rw [letC_high h1]; rfl
        have e2 : Vx.letterB s[pos] = false := by rw [← letC_eq]; exact letC_high (by omega)
        rw [if_pos e, e2]; simp
    · rw [if_neg hp, List.drop_eq_nil_of_le (by rw [size_len]; omega)]; simp
theorem odd_all (s : ByteArray) : decide (0 ≤ Lib.idxFunc oddP true s) = !s.data.toList.all Vx.letterB := by
  have := odd_from s s.size 0 (by omega)
  rw [List.drop_zero] at this
  exact this
theorem containsf_any (s : ByteArray) (w : World) :
    Calls Tryd.prog 48 #[.string s, .func (.func 47) #[] #[]] w fun e w' => e = .returned (.bool (!s.data.toList.all Vx.letterB)) ∧ Below w.heap.size w w' := by
  rw [← odd_all]
  exact Tryd.strings_ContainsFunc_grows 47 #[] (enters_of Tryd.func47 (by kernel_rfl) rfl) oddP s w (fun W x hx hb => by
    refine (odd_any (x : Int) W).mono ?_
    rintro e w' ⟨h, rfl⟩
    exact ⟨h, Below.refl _ _⟩)
theorem symbol_no {l : List UInt8} (h : 16 < l.length ∨ Vx.headLow l = false ∨ Vx.words.contains l = true) : Vx.symbol l = false := by
  unfold Vx.symbol
  rcases h with h | h | h
  · have : decide (l.length ≤ 16) = false := by simp; omega
    rw [this]; simp
  · rw [h]; simp
  · rw [h]; simp
theorem symbol_yes {l : List UInt8} (h : l.length ≤ 16) (h2 : Vx.headLow l = true) (h3 : Vx.words.contains l = false) : Vx.symbol l = l.all Vx.letterB := by
  unfold Vx.symbol
  have : decide (l.length ≤ 16) = true := by simp; omega
  rw [this, h2, h3]; simp
theorem head_low (s : ByteArray) (h : 0 < s.size) : Vx.headLow s.data.toList = Vx.lowerB s[0] := by
  have := drop_cons s 0 h
  rw [List.drop_zero] at this
  rw [this]; rfl
theorem low_split (c : UInt8) : Vx.lowerB c = (!decide ((c.toNat : Int) < 97) && !decide ((122 : Int) < (c.toNat : Int))) := by
  unfold Vx.lowerB
  rw [Bool.eq_iff_iff]
  simp only [Bool.and_eq_true, Bool.not_eq_true', decide_eq_true_eq, decide_eq_false_iff_not]
  omega
set_option maxHeartbeats 1000000 in
theorem symbol_any (s : ByteArray) (w : World) (hw : Words w) (hs : s.size ≤ 281474976710656) :
    Calls Tryd.prog 31 #[.string s] w fun e w' => e = .returned (.bool (Vx.symbol s.data.toList)) ∧ Below w.heap.size w w' := by
  by_cases h0 : s.size = 0
  · have d0 : s.toList.isEmpty = true := by rw [Lib.toList_data]; rw [List.isEmpty_iff, ← List.length_eq_zero_iff, size_len]; exact h0
    have hE := Lib.hid (symbol_no (l := s.data.toList) (Or.inr (Or.inl (by
      have : s.data.toList = [] := by rw [← List.length_eq_zero_iff, size_len]; exact h0
      rw [this]; rfl))))
    clear h0
    go_enter Tryd.func31, Tryd.ntmps31
    go_wp2
    go_ret
    exact ⟨by rw [hE.out]; rfl, Below.refl _ _⟩
  · have d0 : s.toList.isEmpty = false := by
      rw [Lib.toList_data, Bool.eq_false_iff]; intro h; rw [List.isEmpty_iff, ← List.length_eq_zero_iff, size_len] at h; exact h0 h
    by_cases h1 : 16 < s.size
    · have d1 : decide ((16 : Int) < (s.size : Int)) = true := by simp; omega
      have hE := Lib.hid (symbol_no (l := s.data.toList) (Or.inl (by rw [size_len]; exact h1)))
      go_enter Tryd.func31, Tryd.ntmps31
      go_wp2
      go_ret
      exact ⟨by rw [hE.out]; rfl, Below.refl _ _⟩
    · have d1 : decide ((16 : Int) < (s.size : Int)) = false := by simp; omega
      have hp : 0 < s.size := by omega
      have hl := head_low s hp
      rw [low_split] at hl
      cases h2 : decide ((s[0].toNat : Int) < 97)
      · cases h3 : decide ((122 : Int) < (s[0].toNat : Int))
        · have hl2 : Vx.headLow s.data.toList = true := by rw [hl, h2, h3]; rfl
          cases h4 : Vx.words.contains s.data.toList
          · have hE := Lib.hid (symbol_yes (l := s.data.toList) (by rw [size_len]; omega) hl2 h4)
            have H4 := Lib.hid h4
            clear hl hl2 h0 h4
            go_enter Tryd.func31, Tryd.ntmps31
            go_wp2_with (first
              | (go_at_call 46; refine (contains_any _ _ hw).mono ?_; rintro e w' ⟨rfl, rfl⟩; rw [H4.out])
              | (go_at_call 48; refine (containsf_any _ _).mono ?_; rintro e w' ⟨rfl, hb⟩))
            go_ret
            exact ⟨by rw [hE.out]; simp, hb⟩
          · have hE := Lib.hid (symbol_no (l := s.data.toList) (Or.inr (Or.inr h4)))
            have H4 := Lib.hid h4
            clear hl hl2 h0 h4
            go_enter Tryd.func31, Tryd.ntmps31
            go_wp2_with (go_at_call 46; refine (contains_any _ _ hw).mono ?_; rintro e w' ⟨rfl, rfl⟩; rw [H4.out])
            go_ret
            exact ⟨by rw [hE.out]; rfl, Below.refl _ _⟩
        · have hE := Lib.hid (symbol_no (l := s.data.toList) (Or.inr (Or.inl (by rw [hl, h2, h3]; rfl))))
          clear hl h0
          go_enter Tryd.func31, Tryd.ntmps31
          go_wp2
          go_ret
          exact ⟨by rw [hE.out]; rfl, Below.refl _ _⟩
      · have hE := Lib.hid (symbol_no (l := s.data.toList) (Or.inr (Or.inl (by rw [hl, h2]; rfl))))
        clear hl h0
        go_enter Tryd.func31, Tryd.ntmps31
        go_wp2
        go_ret
        exact ⟨by rw [hE.out]; rfl, Below.refl _ _⟩
end Go.Proofs.YtagibdofpcbgiaaDoor
