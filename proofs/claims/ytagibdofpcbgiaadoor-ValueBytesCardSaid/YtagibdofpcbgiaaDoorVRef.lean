/- The walks of the reference's small functions of value. -/
import Derived.Test.YtagibdofpcbgiaaDoorVDec
import Derived.Test.YtagibdofpcbgiaaDoorVParW
namespace Go.Proofs.YtagibdofpcbgiaaDoor
set_option linter.unusedVariables false
set_option linter.unusedSimpArgs false
open Go.RowKit Go.Shelf
theorem letter_b (c : UInt8) (b : Bool) (w : World) (h : Vx.letterB c = b) : Calls Tryd.prog 49 #[.int .u8 (c.toNat : Int)] w fun e w' => e = .returned (.bool b) ∧ w = w' := by
  rw [← h, ← letC_eq]; exact letter_any _ w
theorem words_any (w : World) : Calls Tryd.prog 58 #[] w fun e w' => e = .returned (.slice (some ⟨w.heap.size, 0, none⟩) 10 10) ∧ w.alloc (.cells wordCells 9) = w' := by
  go_enter Tryd.func58, Tryd.ntmps58
  go_wp2
  go_ret
  exact ⟨rfl, rfl⟩
theorem wordCells_get (k : Nat) (h : k < 10) : wordCells[k]? = some (.string ⟨(Vx.words.getD k []).toArray⟩) := by
  rcases (by omega : k = 0 ∨ k = 1 ∨ k = 2 ∨ k = 3 ∨ k = 4 ∨ k = 5 ∨ k = 6 ∨ k = 7 ∨ k = 8 ∨ k = 9) with rfl | rfl | rfl | rfl | rfl | rfl | rfl | rfl | rfl | rfl <;> rfl
/-- Whether a text is a key word. -/
def keyB (x : List UInt8) : Bool := Vx.words.contains x
theorem word_hit (k : Nat) (h : k < 10) (x : List UInt8) (e : Vx.words.getD k [] = x) : keyB x = true := by
  unfold keyB
  rw [List.contains_iff_mem, ← e, List.getD_eq_getElem?_getD, List.getElem?_eq_getElem (show k < Vx.words.length from h)]
  exact List.getElem_mem _
theorem word_none (x : List UInt8) (h : ∀ j, j < 10 → Vx.words.getD j [] ≠ x) : keyB x = false := by
  unfold keyB
  rw [Bool.eq_false_iff]
  intro hc
  rw [List.contains_iff_mem] at hc
  obtain ⟨j, hj, e⟩ := List.mem_iff_getElem.1 hc
  exact h j hj (by rw [List.getD_eq_getElem?_getD, List.getElem?_eq_getElem hj]; exact e)
set_option maxHeartbeats 1000000 in
theorem key_any (s : ByteArray) (w : World) :
    Calls Tryd.prog 50 #[.string s] w fun e w' => e = .returned (.bool (keyB s.data.toList)) ∧ Below w.heap.size w w' := by
  have h0 := At.new w 9 wordCells
  obtain ⟨W1, hW1⟩ : ∃ W1, W1 = w.alloc (.cells wordCells 9) := ⟨_, rfl⟩
  rw [← hW1] at h0
  have hb : Below w.heap.size w W1 := by rw [hW1]; exact below1 w _
  have H1 := Lib.hid hW1
  clear hW1
  go_enter Tryd.func50, Tryd.ntmps50
  go_wp2_with (go_at_call 58; refine (words_any _).mono ?_; rintro e w' ⟨rfl, hw'⟩; rw [← H1.out] at hw'; subst hw')
  go_loop [4] (fun i => ∃ k : Nat, k ≤ 10 ∧ Hid (∀ j, j < k → Vx.words.getD j [] ≠ s.data.toList) ∧ i = .int .i64 k) (fun i => 10 - (intOf i).toNat)
  case atStart => exact ⟨0, by omega, Lib.hid (fun j hj => by omega), rfl⟩
  case round =>
    obtain ⟨k, hk, HN, rfl⟩ := hrel
    by_cases h1 : k < 10
    · have d1 : decide ((k : Int) < 10) = true := by simp; omega
      have c1 := (h0.cell k).trans (wordCells_get k h1)
      have hhit := word_hit k h1 s.data.toList
      have hmore : Vx.words.getD k [] ≠ s.data.toList → ∀ j, j < k + 1 → Vx.words.getD j [] ≠ s.data.toList := fun hn j hj => by
        by_cases e : j = k
        · rw [e]; exact hn
        · exact HN.out j (by omega)
      generalize Vx.words.getD k [] = l at *
      cases hl : (l == s.toList)
      · have hR := Lib.hid (hmore (by rw [← Lib.toList_data]; simpa using hl))
        clear hhit hmore
        go_wp2
        go_round
        case rel => exact ⟨k + 1, by omega, hR, by go_num⟩
        case measure => simp [intOf]; omega
      · have hR := Lib.hid (hhit (by rw [← Lib.toList_data]; simpa using hl))
        clear hhit hmore
        go_wp2
        go_ret
        exact ⟨by rw [hR.out]; rfl, hb⟩
    · have d1 : decide ((k : Int) < 10) = false := by simp; omega
      obtain rfl : k = 10 := by omega
      have hR := Lib.hid (word_none _ HN.out)
      go_wp2
      go_ret
      exact ⟨by rw [hR.out]; rfl, hb⟩
set_option maxHeartbeats 1000000 in
theorem rsymbol_any (s : ByteArray) (w : World) (hs : s.size ≤ 281474976710656) :
    Calls Tryd.prog 32 #[.string s] w fun e w' => e = .returned (.bool (Vx.symbol s.data.toList)) ∧ Below w.heap.size w w' := by
  by_cases h0 : s.size < 1
  · have d0 : decide ((s.size : Int) < 1) = true := by simp; omega
    have hE := Lib.hid (symbol_no (l := s.data.toList) (Or.inr (Or.inl (by
      have : s.data.toList = [] := by rw [← List.length_eq_zero_iff, size_len]; omega
      rw [this]; rfl))))
    go_enter Tryd.func32, Tryd.ntmps32
    go_wp2
    go_ret
    exact ⟨by rw [hE.out]; rfl, Below.refl _ _⟩
  · have d0 : decide ((s.size : Int) < 1) = false := by simp; omega
    by_cases h1 : 16 < s.size
    · have d1 : decide ((16 : Int) < (s.size : Int)) = true := by simp; omega
      have hE := Lib.hid (symbol_no (l := s.data.toList) (Or.inl (by rw [size_len]; exact h1)))
      go_enter Tryd.func32, Tryd.ntmps32
      go_wp2
      go_ret
      exact ⟨by rw [hE.out]; rfl, Below.refl _ _⟩
    · have d1 : decide ((16 : Int) < (s.size : Int)) = false := by simp; omega
      have hp : 0 < s.size := by omega
      have hl := head_low s hp
      rw [low_split] at hl
      cases h2 : decide ((s[0].toNat : Int) < 97)
      · cases h3 : decide ((122 : Int) < (s[0].toNat : Int))
        · have hl2 : Vx.headLow s.data.toList = true := by rw [hl, h2, h3]; rfl
          have hS := Lib.hid (show Vx.symbol s.data.toList = ((s.data.toList.drop 0).all Vx.letterB && !keyB s.data.toList) by
            unfold Vx.symbol keyB
            rw [hl2, show decide (s.data.toList.length ≤ 16) = true by rw [size_len]; simp; omega]; simp)
          clear hl hl2
          go_enter Tryd.func32, Tryd.ntmps32
          go_wp2
          go_loop [3] (fun i => ∃ k : Nat, k ≤ s.size ∧ Hid (Vx.symbol s.data.toList = ((s.data.toList.drop k).all Vx.letterB && !keyB s.data.toList)) ∧ i = .int .i64 k) (fun i => s.size - (intOf i).toNat)
          case atStart => exact ⟨0, by omega, hS, rfl⟩
          case round =>
            obtain ⟨k, hk, HS, rfl⟩ := hrel
            by_cases hlt : k < s.size
            · have e1 : decide ((k : Int) < (s.size : Int)) = true := by simp; omega
              cases hb : Vx.letterB s[k]
              · have hE := Lib.hid (show Vx.symbol s.data.toList = false by rw [HS.out, drop_cons s k hlt, List.all_cons, hb]; rfl)
                have HB := Lib.hid hb; clear hb
                go_wp2_with (go_at_call 49; refine (letter_b _ _ _ HB.out).mono ?_; rintro e w' ⟨rfl, rfl⟩)
                go_ret
                exact ⟨by rw [hE.out]; rfl, Below.refl _ _⟩
              · have hE := Lib.hid (show Vx.symbol s.data.toList = ((s.data.toList.drop (k + 1)).all Vx.letterB && !keyB s.data.toList) by rw [HS.out, drop_cons s k hlt, List.all_cons, hb]; rfl)
                have HB := Lib.hid hb; clear hb
                go_wp2_with (go_at_call 49; refine (letter_b _ _ _ HB.out).mono ?_; rintro e w' ⟨rfl, rfl⟩)
                go_round
                case rel => exact ⟨k + 1, by omega, hE, by go_num⟩
                case measure => simp [intOf]; omega
            · have e1 : decide ((k : Int) < (s.size : Int)) = false := by simp; omega
              have hE := Lib.hid (show Vx.symbol s.data.toList = !keyB s.data.toList by rw [HS.out, List.drop_eq_nil_of_le (by rw [size_len]; omega)]; simp)
              go_wp2_with (go_at_call 50; refine (key_any _ _).mono ?_; rintro e w' ⟨rfl, hb⟩)
              go_ret
              exact ⟨by rw [hE.out]; rfl, hb⟩
        · have hE := Lib.hid (symbol_no (l := s.data.toList) (Or.inr (Or.inl (by rw [hl, h2, h3]; rfl))))
          clear hl
          go_enter Tryd.func32, Tryd.ntmps32
          go_wp2
          go_ret
          exact ⟨by rw [hE.out]; rfl, Below.refl _ _⟩
      · have hE := Lib.hid (symbol_no (l := s.data.toList) (Or.inr (Or.inl (by rw [hl, h2]; rfl))))
        clear hl
        go_enter Tryd.func32, Tryd.ntmps32
        go_wp2
        go_ret
        exact ⟨by rw [hE.out]; rfl, Below.refl _ _⟩
set_option maxHeartbeats 1000000 in
theorem rvalid_any (t n : Int) (s : ByteArray) (w : World) (hs : s.size ≤ 281474976710656) :
    Calls Tryd.prog 12 #[.agg #[.int .i64 t, .int .i64 n, .string s]] w fun e w' => e = .returned (.bool (Vx.valid ⟨t, n, s.data.toList⟩)) ∧ Below w.heap.size w w' := by
  by_cases h1 : t = 1
  · subst h1
    have hE := Lib.hid (show Vx.valid ⟨1, n, s.data.toList⟩ = (decide (0 ≤ n) && decide (n ≤ 9999) && s.toList.isEmpty) by unfold Vx.valid; rw [if_pos rfl, isEmpty_eq])
    have d1 : ((1 : Int) == 1) = true := rfl
    cases h2 : decide (0 ≤ n) <;> cases h3 : decide (n ≤ 9999) <;> cases h4 : s.toList.isEmpty
    all_goals
      rw [h2, h3, h4] at hE
      go_enter Tryd.func12, Tryd.ntmps12
      go_wp2
      go_ret
      exact ⟨by rw [hE.out]; rfl, below1 _ _⟩
  · have d1 : (t == 1) = false := beq_eq_false_iff_ne.2 h1
    have hE := Lib.hid (show Vx.valid ⟨t, n, s.data.toList⟩ = (decide (t = 2) && decide (n = 0) && Vx.symbol s.data.toList) by unfold Vx.valid; rw [if_neg h1])
    by_cases h2 : t = 2
    · have d2 : (t == 2) = true := beq_iff_eq.2 h2
      rw [show decide (t = 2) = true by simpa using h2] at hE
      clear h1 h2
      by_cases h3 : n = 0
      · have d3 : (n == 0) = true := beq_iff_eq.2 h3
        rw [show decide (n = 0) = true by simpa using h3] at hE
        clear h3
        go_enter Tryd.func12, Tryd.ntmps12
        go_wp2_with (go_at_call 32; refine (rsymbol_any _ _ hs).mono ?_; rintro e w' ⟨rfl, hb⟩)
        go_ret
        exact ⟨by rw [hE.out]; rfl, (below1 w _).trans (hb.mono (below1 w _).size)⟩
      · have d3 : (n == 0) = false := beq_eq_false_iff_ne.2 h3
        rw [show decide (n = 0) = false by simpa using h3] at hE
        clear h3
        go_enter Tryd.func12, Tryd.ntmps12
        go_wp2
        go_ret
        exact ⟨by rw [hE.out]; rfl, below1 w _⟩
    · have d2 : (t == 2) = false := beq_eq_false_iff_ne.2 h2
      rw [show decide (t = 2) = false by simpa using h2] at hE
      clear h1 h2
      go_enter Tryd.func12, Tryd.ntmps12
      go_wp2
      go_ret
      exact ⟨by rw [hE.out]; rfl, below1 w _⟩
theorem vrvalid_any (v : Vx.V) (w : World) (h : v.s.length ≤ 281474976710656) :
    Calls Tryd.prog 12 #[.agg #[.int .i64 v.t, .int .i64 v.n, .string ⟨v.s.toArray⟩]] w fun e w' => e = .returned (.bool (Vx.valid v)) ∧ Below w.heap.size w w' :=
  rvalid_any v.t v.n ⟨v.s.toArray⟩ w (by rw [size_mk]; exact h)
theorem drop_all {α : Type} {l : List α} {k : Nat} {x : α} {f : α → Bool} {N : Bool} (hN : N = (l.drop k).all f) (hx : l[k]? = some x) : N = (f x && (l.drop (k + 1)).all f) := by
  obtain ⟨h, rfl⟩ := List.getElem?_eq_some_iff.1 hx
  rw [hN, List.drop_eq_getElem_cons h, List.all_cons]
set_option maxHeartbeats 1000000 in
theorem vtuple_any (A : Option Addr) (c : Nat) (xs : List Vx.V) (w : World) (hx : xs.length ≤ 281474976710656) (hA : Tup w A xs) (fx : Fits xs) :
    Calls Tryd.prog 45 #[.slice A xs.length c] w fun e w' => e = .returned (.bool (xs.all Vx.valid)) ∧ Below w.heap.size w w' := by
  obtain ⟨N, hN⟩ : ∃ N, N = (xs.drop 0).all Vx.valid := ⟨_, rfl⟩
  have hf : xs.all Vx.valid = N := by rw [hN]; simp
  rw [hf]; clear hf
  have HN := Lib.hid hN
  clear hN
  go_enter Tryd.func45, Tryd.ntmps45
  go_wp2
  go_loopw [3] (fun i wr => ∃ k : Nat, k ≤ xs.length ∧ Hid (N = (xs.drop k).all Vx.valid) ∧ i = .int .i64 k ∧ Below w.heap.size w wr) (fun i _ => xs.length - (intOf i).toNat)
  case atStart => exact ⟨0, by omega, HN, rfl, Below.refl _ _⟩
  case round =>
    obtain ⟨k, hka, HK, rfl, hbw⟩ := hrel
    by_cases h1 : k < xs.length
    · have d1 : decide ((k : Int) < (xs.length : Int)) = true := by simp; omega
      obtain ⟨g, o, rfl, hg, a0, a1, a2⟩ := (hA.below hbw).at h1
      have e1 := List.getElem?_eq_getElem h1
      have F1 := Lib.hid (fx _ (List.getElem_mem h1))
      generalize xs[k] = x at *
      have hE := Lib.hid (drop_all HK.out e1)
      clear e1
      cases hv : Vx.valid x
      · have HV := Lib.hid hv; clear hv
        go_wp2_with (go_at_call 12; refine (vrvalid_any x _ F1.out).mono ?_; rintro e w' ⟨rfl, hb⟩; rw [HV.out])
        go_ret
        exact ⟨by rw [hE.out, HV.out]; rfl, hbw.trans (hb.mono hbw.size)⟩
      · have HV := Lib.hid hv; clear hv
        go_wp2_with (go_at_call 12; refine (vrvalid_any x _ F1.out).mono ?_; rintro e w' ⟨rfl, hb⟩; rw [HV.out])
        go_roundw
        case rel => exact ⟨k + 1, by omega, Lib.hid (by rw [hE.out, HV.out]; rfl), by go_num, hbw.trans (hb.mono hbw.size)⟩
        case measure => simp [intOf]; omega
    · have d1 : decide ((k : Int) < (xs.length : Int)) = false := by simp; omega
      have hE := Lib.hid (show N = true by rw [HK.out, List.drop_eq_nil_of_le (by omega)]; rfl)
      go_wp2
      go_ret
      exact ⟨by rw [hE.out]; rfl, hbw⟩
set_option maxHeartbeats 1000000 in
theorem vvalids_any (A : Option Addr) (c : Nat) (xs : List Vx.V) (w : World) (hx : xs.length ≤ 281474976710656) (hA : Tup w A xs) (fx : Fits xs) (hw : Words w) :
    Calls Tryd.prog 28 #[.slice A xs.length c] w fun e w' => e = .returned (.bool (xs.all Vx.valid)) ∧ Below w.heap.size w w' := by
  obtain ⟨N, hN⟩ : ∃ N, N = (xs.drop 0).all Vx.valid := ⟨_, rfl⟩
  have hf : xs.all Vx.valid = N := by rw [hN]; simp
  rw [hf]; clear hf
  have HN := Lib.hid hN
  clear hN
  go_enter Tryd.func28, Tryd.ntmps28
  go_wp2
  go_loopw [3] (fun i wr => ∃ k : Nat, k ≤ xs.length ∧ Hid (N = (xs.drop k).all Vx.valid) ∧ i = .int .i64 k ∧ Below w.heap.size w wr) (fun i _ => xs.length - (intOf i).toNat)
  case atStart => exact ⟨0, by omega, HN, rfl, Below.refl _ _⟩
  case round =>
    obtain ⟨k, hka, HK, rfl, hbw⟩ := hrel
    by_cases h1 : k < xs.length
    · have d1 : decide ((k : Int) < (xs.length : Int)) = true := by simp; omega
      obtain ⟨g, o, rfl, hg, a0, a1, a2⟩ := (hA.below hbw).at h1
      have e1 := List.getElem?_eq_getElem h1
      have F1 := Lib.hid (fx _ (List.getElem_mem h1))
      generalize xs[k] = x at *
      have hE := Lib.hid (drop_all HK.out e1)
      clear e1
      cases hv : Vx.valid x
      · have HV := Lib.hid hv; clear hv
        go_wp2_with (go_at_call 11; refine (vvalid_any x _ (hw.next hbw) F1.out).mono ?_; rintro e w' ⟨rfl, hb⟩; rw [HV.out])
        go_ret
        exact ⟨by rw [hE.out, HV.out]; rfl, hbw.trans (hb.mono hbw.size)⟩
      · have HV := Lib.hid hv; clear hv
        go_wp2_with (go_at_call 11; refine (vvalid_any x _ (hw.next hbw) F1.out).mono ?_; rintro e w' ⟨rfl, hb⟩; rw [HV.out])
        go_roundw
        case rel => exact ⟨k + 1, by omega, Lib.hid (by rw [hE.out, HV.out]; rfl), by go_num, hbw.trans (hb.mono hbw.size)⟩
        case measure => simp [intOf]; omega
    · have d1 : decide ((k : Int) < (xs.length : Int)) = false := by simp; omega
      have hE := Lib.hid (show N = true by rw [HK.out, List.drop_eq_nil_of_le (by omega)]; rfl)
      go_wp2
      go_ret
      exact ⟨by rw [hE.out]; rfl, hbw⟩
end Go.Proofs.YtagibdofpcbgiaaDoor
