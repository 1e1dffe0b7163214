/- The walk of the lexer's word: it returns the letters, digits and underscores at the beginning of a text. -/
import Derived.Test.YtgoplhlbcmfocaaDoorGap
import Derived.Lib.OthersKept
import Derived.Laws.RangeAny
namespace Go.Proofs.YtgoplhlbcmfocaaDoor
set_option linter.unusedVariables false
set_option linter.unusedSimpArgs false
open Go.RowKit
theorem wordB_eq (c : UInt8) : Lx.wordB c = wrdB (c.toNat : Int) := by
  have e : ∀ a b : Nat, (decide ((a : Int) ≤ (b : Int))) = decide (a ≤ b) := fun a b => by simp
  unfold Lx.wordB wrdB Lx.lowerB Lx.upperB Lx.digitB lowB uppB digB
  rw [u8_eq]
  congr 1
  congr 1
  · congr 1 <;> (congr 1 <;> simp <;> omega)
  · congr 1 <;> simp <;> omega
theorem lowerB_eq (c : UInt8) : Lx.lowerB c = lowB (c.toNat : Int) := by
  unfold Lx.lowerB lowB; congr 1 <;> simp <;> omega
theorem upperB_eq (c : UInt8) : Lx.upperB c = uppB (c.toNat : Int) := by
  unfold Lx.upperB uppB; congr 1 <;> simp <;> omega
theorem digitB_eq (c : UInt8) : Lx.digitB c = digB (c.toNat : Int) := by
  unfold Lx.digitB digB; congr 1 <;> simp <;> omega
theorem word_more {s : ByteArray} {k N : Nat} (h : k < s.size) (hw : Lx.wordB s[k] = true) (H : N = k + Lx.wordLen (s.data.toList.drop k)) : N = (k + 1) + Lx.wordLen (s.data.toList.drop (k + 1)) := by
  rw [H, drop_cons s k h]; simp only [Lx.wordLen, List.takeWhile_cons, hw, if_true, List.length_cons]; omega
theorem word_stop {s : ByteArray} {k N : Nat} (h : k < s.size) (hw : Lx.wordB s[k] = false) (H : N = k + Lx.wordLen (s.data.toList.drop k)) : N = k := by
  rw [H, drop_cons s k h]; simp [Lx.wordLen, hw]
theorem word_end {s : ByteArray} {k N : Nat} (hk : k ≤ s.size) (h : ¬ k < s.size) (H : N = k + Lx.wordLen (s.data.toList.drop k)) : N = s.size := by
  rw [H, List.drop_of_length_le (by rw [size_len]; omega)]; simp [Lx.wordLen]; omega

set_option maxHeartbeats 1000000 in
set_option maxRecDepth 100000 in
theorem word_any (s : ByteArray) (w : World) (hs : s.size ≤ 9223372036854775807) :
    Calls Tryd.prog 29 #[.string s] w fun e w' => (∃ t : ByteArray, e = .returned (.string t) ∧ t.data.toList = s.data.toList.takeWhile Lx.wordB) ∧ Below w.heap.size w w' := by
  obtain ⟨N, hN⟩ : ∃ N, N = 0 + Lx.wordLen (s.data.toList.drop 0) := ⟨_, rfl⟩
  have hfin : s.data.toList.takeWhile Lx.wordB = s.data.toList.take N := by rw [hN]; simp [Lx.take_wordLen]
  have HF := Lib.hid hfin
  have HN := Lib.hid hN
  clear hN hfin
  go_enter Tryd.func29, Tryd.ntmps29
  go_wp2
  go_loopw [] (fun wr => ∃ k : Nat, wr = w.iter s k ∧ k ≤ s.size ∧ Hid (N = k + Lx.wordLen (s.data.toList.drop k))) (fun wr => s.size - wr.iterPos w.heap.size)
  case atStart => exact ⟨0, rfl, by omega, HN⟩
  case round =>
    obtain ⟨k, rfl, hk, HK⟩ := hrel
    by_cases hlt : k < s.size
    · by_cases ha : s[k].toNat < 128
      · have hnx : ∀ ty, (Instr.next (.pointer (some ⟨w.heap.size, 0, none⟩)) true ty).run Tryd.prog (w.iter s k) = _ := fun ty => run_next_ascii w s k ty hlt ha
        have hw := wordB_eq s[k]
        unfold wrdB at hw
        have h5 : decide ((128 : Int) ≤ ((s[k].toNat : Nat) : Int)) = false := by simp; omega
        cases h4 : (((s[k].toNat : Nat) : Int) == 95)
        · have h6 : (((s[k].toNat : Nat) : Int) != 95) = true := by simp only [bne, h4]; rfl
          cases h1 : lowB (s[k].toNat : Int)
          · cases h2 : uppB (s[k].toNat : Int)
            · cases h3 : digB (s[k].toNat : Int)
              · have hE := Lib.hid (word_stop hlt (by rw [hw, h1, h2, h3, h4]; rfl) HK.out)
                have H1 := Lib.hid h1; have H2 := Lib.hid h2; have H3 := Lib.hid h3; clear h1 h2 h3 hw
                go_wp2_with (first
                  | (go_at_call 30; refine (lower_any _ _).mono ?_; rintro e w' ⟨rfl, rfl⟩; rw [H1.out])
                  | (go_at_call 31; refine (upper_any _ _).mono ?_; rintro e w' ⟨rfl, rfl⟩; rw [H2.out])
                  | (go_at_call 36; refine (digit_any _ _).mono ?_; rintro e w' ⟨rfl, rfl⟩; rw [H3.out]))
                go_ret
                exact ⟨⟨_, rfl, by rw [ext_take, HF.out, hE.out]⟩, (Below.refl _ _).alloc (Nat.le_refl _) _⟩
              · have hE := Lib.hid (word_more hlt (by rw [hw, h1, h2, h3, h4]; rfl) HK.out)
                have H1 := Lib.hid h1; have H2 := Lib.hid h2; have H3 := Lib.hid h3; clear h1 h2 h3 hw
                go_wp2_with (first
                  | (go_at_call 30; refine (lower_any _ _).mono ?_; rintro e w' ⟨rfl, rfl⟩; rw [H1.out])
                  | (go_at_call 31; refine (upper_any _ _).mono ?_; rintro e w' ⟨rfl, rfl⟩; rw [H2.out])
                  | (go_at_call 36; refine (digit_any _ _).mono ?_; rintro e w' ⟨rfl, rfl⟩; rw [H3.out]))
                go_roundw
                case rel => exact ⟨k + 1, rfl, by omega, hE⟩
                case measure => simp; omega
            · have hE := Lib.hid (word_more hlt (by rw [hw, h1, h2, h4]; rfl) HK.out)
              have H1 := Lib.hid h1; have H2 := Lib.hid h2; clear h1 h2 hw
              go_wp2_with (first
                | (go_at_call 30; refine (lower_any _ _).mono ?_; rintro e w' ⟨rfl, rfl⟩; rw [H1.out])
                | (go_at_call 31; refine (upper_any _ _).mono ?_; rintro e w' ⟨rfl, rfl⟩; rw [H2.out]))
              go_roundw
              case rel => exact ⟨k + 1, rfl, by omega, hE⟩
              case measure => simp; omega
          · have hE := Lib.hid (word_more hlt (by rw [hw, h1, h4]; rfl) HK.out)
            have H1 := Lib.hid h1; clear h1 hw
            go_wp2_with (first
              | (go_at_call 30; refine (lower_any _ _).mono ?_; rintro e w' ⟨rfl, rfl⟩; rw [H1.out]))
            go_roundw
            case rel => exact ⟨k + 1, rfl, by omega, hE⟩
            case measure => simp; omega
        · have hE := Lib.hid (word_more hlt (by rw [hw, h4]; simp) HK.out)
          have h6 : (((s[k].toNat : Nat) : Int) != 95) = false := by simp only [bne, h4]; rfl
          clear hw
          go_wp2
          go_roundw
          case rel => exact ⟨k + 1, rfl, by omega, hE⟩
          case measure => simp; omega
      · have hnx : ∀ ty, (Instr.next (.pointer (some ⟨w.heap.size, 0, none⟩)) true ty).run Tryd.prog (w.iter s k) = _ := fun ty => run_next_any w s k ty hlt
        obtain ⟨d1, d2⟩ := decode_high s k hlt (by omega)
        have hw : Lx.wordB s[k] = false := by
          rw [wordB_eq]; unfold wrdB lowB uppB digB; simp; omega
        have hE := Lib.hid (word_stop hlt hw HK.out)
        clear hw
        have d3 : (((Utf8.decode s k).1 : Int) != 95) = true := by simp; omega
        have d4 : decide ((128 : Int) ≤ (((Utf8.decode s k).1 : Nat) : Int)) = true := by simp; omega
        go_wp2
        go_ret
        exact ⟨⟨_, rfl, by rw [ext_take, HF.out, hE.out]⟩, (Below.refl _ _).alloc (Nat.le_refl _) _⟩
    · have hnx : ∀ ty, (Instr.next (.pointer (some ⟨w.heap.size, 0, none⟩)) true ty).run Tryd.prog (w.iter s k) = _ := fun ty => run_next_end w s k ty hlt
      have hE := Lib.hid (word_end hk hlt HK.out)
      go_wp2
      go_ret
      exact ⟨⟨_, rfl, by rw [HF.out, hE.out, List.take_of_length_le (by rw [size_len]; omega)]⟩, (Below.refl _ _).alloc (Nat.le_refl _) _⟩
end Go.Proofs.YtgoplhlbcmfocaaDoor
