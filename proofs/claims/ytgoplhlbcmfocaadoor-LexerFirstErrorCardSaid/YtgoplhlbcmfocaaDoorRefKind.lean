/- The walks of the reference's Symbols, Kind and Run. -/
import Derived.Test.YtgoplhlbcmfocaaDoorLex
namespace Go.Proofs.YtgoplhlbcmfocaaDoor
set_option linter.unusedVariables false
set_option linter.unusedSimpArgs false
open Go.RowKit
theorem symA_get (k : Nat) (h : k < 15) : symA[k]? = some (.string ⟨(Lx.symbols.getD k []).toArray⟩) := by
  rcases (by omega : k = 0 ∨ k = 1 ∨ k = 2 ∨ k = 3 ∨ k = 4 ∨ k = 5 ∨ k = 6 ∨ k = 7 ∨ k = 8 ∨ k = 9 ∨ k = 10 ∨ k = 11 ∨ k = 12 ∨ k = 13 ∨ k = 14) with rfl | rfl | rfl | rfl | rfl | rfl | rfl | rfl | rfl | rfl | rfl | rfl | rfl | rfl | rfl <;> rfl
theorem symbols_any (w : World) : Calls Tryd.prog 24 #[] w fun e w' => e = .returned (.slice (some ⟨w.heap.size, 0, none⟩) 15 15) ∧ w.alloc (.cells symA 9) = w' := by
  go_enter Tryd.func24, Tryd.ntmps24
  go_wp2
  go_ret
  exact ⟨rfl, rfl⟩
theorem word_b (c : UInt8) (b : Bool) (w : World) (h : Lx.wordB c = b) : Calls Tryd.prog 19 #[.int .u8 (c.toNat : Int)] w fun e w' => e = .returned (.bool b) ∧ w = w' := by
  rw [← h, wordB_eq]; exact rword_any _ w
theorem rdigit_b (c : UInt8) (b : Bool) (w : World) (h : Lx.digitB c = b) : Calls Tryd.prog 25 #[.int .u8 (c.toNat : Int)] w fun e w' => e = .returned (.bool b) ∧ w = w' := by
  rw [← h, digitB_eq]; exact rdigit_any _ w
/-- The reference's Run: at most 'most' bytes of a word. -/
theorem run_any (s : ByteArray) (m : Nat) (w : World) (hs : s.size ≤ 9223372036854775807) (hm : m ≤ 9223372036854775807) :
    Calls Tryd.prog 34 #[.string s, .int .i64 m] w fun e w' => e = .returned (.int .i64 ((min (Lx.wordLen s.data.toList) m : Nat) : Int)) ∧ w = w' := by
  obtain ⟨N, hN⟩ : ∃ N, N = 0 + Lx.wordLen (s.data.toList.drop 0) := ⟨_, rfl⟩
  have hf : Lx.wordLen s.data.toList = N := by rw [hN]; simp
  rw [hf]; clear hf
  have HN := Lib.hid hN
  clear hN
  go_enter Tryd.func34, Tryd.ntmps34
  go_wp2
  go_loop [5] (fun i => ∃ k : Nat, k ≤ s.size ∧ k ≤ m ∧ Hid (N = k + Lx.wordLen (s.data.toList.drop k)) ∧ i = .int .i64 k) (fun i => s.size - (intOf i).toNat)
  case atStart => exact ⟨0, by omega, by omega, HN, rfl⟩
  case round =>
    obtain ⟨k, hk, hkm, HK, rfl⟩ := hrel
    by_cases hlt : k < s.size
    · have d1 : decide ((k : Int) < (s.size : Int)) = true := by simp; omega
      by_cases hlm : k < m
      · have d2 : decide ((k : Int) < (m : Int)) = true := by simp; omega
        cases hb : Lx.wordB s[k]
        · have hE := Lib.hid (word_stop hlt hb HK.out)
          have HB := Lib.hid hb; clear hb
          go_wp2_with (go_at_call 19; refine (word_b _ _ _ HB.out).mono ?_; rintro e w' ⟨rfl, rfl⟩)
          go_ret
          exact ⟨by rw [hE.out, Nat.min_eq_left (by omega)]; rfl, rfl⟩
        · have hE := Lib.hid (word_more hlt hb HK.out)
          have HB := Lib.hid hb; clear hb
          go_wp2_with (go_at_call 19; refine (word_b _ _ _ HB.out).mono ?_; rintro e w' ⟨rfl, rfl⟩)
          go_round
          case rel => exact ⟨k + 1, by omega, by omega, hE, by go_num⟩
          case measure => simp [intOf]; omega
      · have d2 : decide ((k : Int) < (m : Int)) = false := by simp; omega
        have hE := HK
        obtain rfl : k = m := by omega
        go_wp2
        go_ret
        exact ⟨by rw [Nat.min_eq_right (by rw [hE.out]; omega)]; rfl, rfl⟩
    · have d1 : decide ((k : Int) < (s.size : Int)) = false := by simp; omega
      have hE := Lib.hid (word_end hk hlt HK.out)
      go_wp2
      go_ret
      exact ⟨by rw [hE.out, Nat.min_eq_left (by omega)]; have : k = s.size := by omega
                rw [this]; rfl, rfl⟩
end Go.Proofs.YtgoplhlbcmfocaaDoor
