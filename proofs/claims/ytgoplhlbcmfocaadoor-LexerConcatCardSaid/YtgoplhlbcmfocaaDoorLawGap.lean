/- The walk of the laws' gap at a text that is a gap; and what the walks of the laws share. -/
import Derived.Test.YtgoplhlbcmfocaaDoorHead
import Derived.Test.YtgoplhlbcmfocaaDoorPlain3
namespace Go.Proofs.YtgoplhlbcmfocaaDoor
set_option linter.unusedVariables false
set_option linter.unusedSimpArgs false
open Go.RowKit
theorem gl_white {s : ByteArray} {k : Nat} (h : k < s.size) (hw : Lx.whiteB s[k] = true) (H : Lx.gapG false (s.data.toList.drop k) + k = s.size) : Lx.gapG false (s.data.toList.drop (k + 1)) + (k + 1) = s.size := by
  rw [drop_cons s k h] at H; simp only [Lx.gapG, hw, if_true] at H; omega
theorem gl_pct {s : ByteArray} {k : Nat} (h : k < s.size) (hw : (s[k] == 37) = true) (H : Lx.gapG false (s.data.toList.drop k) + k = s.size) : Lx.gapG true (s.data.toList.drop (k + 1)) + (k + 1) = s.size := by
  rw [drop_cons s k h] at H; simp at hw; simp [Lx.gapG, hw, Lx.whiteB] at H; omega
theorem gl_no {s : ByteArray} {k : Nat} (h : k < s.size) (hw : Lx.whiteB s[k] = false) (hp : (s[k] == 37) = false) (H : Lx.gapG false (s.data.toList.drop k) + k = s.size) : False := by
  rw [drop_cons s k h] at H; simp at hp; simp [Lx.gapG, hw, hp] at H; omega
theorem gl_nl {s : ByteArray} {k : Nat} (h : k < s.size) (hw : (s[k] == 10) = true) (H : Lx.gapG true (s.data.toList.drop k) + k = s.size) : Lx.gapG false (s.data.toList.drop (k + 1)) + (k + 1) = s.size := by
  rw [drop_cons s k h] at H; simp at hw; simp only [Lx.gapG, hw, if_true] at H; omega
theorem gl_com {s : ByteArray} {k : Nat} (h : k < s.size) (hw : (s[k] == 10) = false) (H : Lx.gapG true (s.data.toList.drop k) + k = s.size) : Lx.gapG true (s.data.toList.drop (k + 1)) + (k + 1) = s.size := by
  rw [drop_cons s k h] at H; simp at hw; simp only [Lx.gapG, if_neg hw] at H; omega
set_option maxHeartbeats 2000000 in
set_option maxRecDepth 100000 in
theorem lawgap_true (s : ByteArray) (w : World) (hs : s.size ≤ 9223372036854775807) (hg : Lx.gapG false s.data.toList = s.size) :
    Calls Tryd.prog 15 #[.string s] w fun e w' => e = .returned (.bool true) ∧ w = w' := by
  have HG := Lib.hid (show Lx.gapG false (s.data.toList.drop 0) + 0 = s.size by simpa using hg)
  clear hg
  go_enter Tryd.func15, Tryd.ntmps15
  go_wp2
  go_loop [3, 4] (fun c i => ∃ (k : Nat) (b : Bool), k ≤ s.size ∧ Hid (Lx.gapG b (s.data.toList.drop k) + k = s.size) ∧ c = .bool b ∧ i = .int .i64 k) (fun _ i => s.size - (intOf i).toNat)
  case atStart => exact ⟨0, false, by omega, HG, rfl, rfl⟩
  case round =>
    obtain ⟨k, b, hk, HK, rfl, rfl⟩ := hrel
    by_cases hlt : k < s.size
    · have hw : Lx.whiteB s[k] = ((((s[k].toNat : Nat) : Int) == 32) || (((s[k].toNat : Nat) : Int) == 9) || (((s[k].toNat : Nat) : Int) == 10) || (((s[k].toNat : Nat) : Int) == 13)) := by
        unfold Lx.whiteB; simp only [u8_eq]; rfl
      have n1 : (((s[k].toNat : Nat) : Int) != 32) = !(((s[k].toNat : Nat) : Int) == 32) := rfl
      have n2 : (((s[k].toNat : Nat) : Int) != 9) = !(((s[k].toNat : Nat) : Int) == 9) := rfl
      have n3 : (((s[k].toNat : Nat) : Int) != 10) = !(((s[k].toNat : Nat) : Int) == 10) := rfl
      have n4 : (((s[k].toNat : Nat) : Int) != 13) = !(((s[k].toNat : Nat) : Int) == 13) := rfl
      cases h3 : (((s[k].toNat : Nat) : Int) == 10)
      · rw [h3] at n3
        cases b
        · cases h5 : (((s[k].toNat : Nat) : Int) == 37)
          · cases h1 : (((s[k].toNat : Nat) : Int) == 32)
            · cases h2 : (((s[k].toNat : Nat) : Int) == 9)
              · cases h4 : (((s[k].toNat : Nat) : Int) == 13)
                · exact (gl_no hlt (by rw [hw, h1, h2, h3, h4]; rfl) (by rw [u8_eq]; exact h5) HK.out).elim
                · have HM := Lib.hid (gl_white hlt (by rw [hw, h1, h2, h3, h4]; rfl) HK.out)
                  rw [h1] at n1; rw [h2] at n2; rw [h4] at n4
                  clear hw
                  go_wp2
                  go_round
                  case rel => exact ⟨k + 1, false, by omega, HM, rfl, by go_num⟩
                  case measure => simp [intOf]; omega
              · have HM := Lib.hid (gl_white hlt (by rw [hw, h1, h2]; simp) HK.out)
                rw [h1] at n1; rw [h2] at n2
                clear hw n4
                go_wp2
                go_round
                case rel => exact ⟨k + 1, false, by omega, HM, rfl, by go_num⟩
                case measure => simp [intOf]; omega
            · have HM := Lib.hid (gl_white hlt (by rw [hw, h1]; simp) HK.out)
              rw [h1] at n1
              clear hw n4 n2
              go_wp2
              go_round
              case rel => exact ⟨k + 1, false, by omega, HM, rfl, by go_num⟩
              case measure => simp [intOf]; omega
          · have HM := Lib.hid (gl_pct hlt (by rw [u8_eq]; exact h5) HK.out)
            clear hw n1 n2 n4
            go_wp2
            go_round
            case rel => exact ⟨k + 1, true, by omega, HM, rfl, by go_num⟩
            case measure => simp [intOf]; omega
        · have HM := Lib.hid (gl_com hlt (by rw [u8_eq]; exact h3) HK.out)
          clear hw n1 n2 n4
          go_wp2
          go_round
          case rel => exact ⟨k + 1, true, by omega, HM, rfl, by go_num⟩
          case measure => simp [intOf]; omega
      · rw [h3] at n3
        have h5 : (((s[k].toNat : Nat) : Int) == 37) = false := by
          rw [beq_iff_eq] at h3; rw [h3]; rfl
        have h1 : (((s[k].toNat : Nat) : Int) != 32) = true := by
          rw [beq_iff_eq] at h3; rw [h3]; rfl
        have h2 : (((s[k].toNat : Nat) : Int) != 9) = true := by
          rw [beq_iff_eq] at h3; rw [h3]; rfl
        have h4 : (((s[k].toNat : Nat) : Int) != 13) = true := by
          rw [beq_iff_eq] at h3; rw [h3]; rfl
        have HM := Lib.hid (show Lx.gapG false (s.data.toList.drop (k + 1)) + (k + 1) = s.size by
          cases b
          · exact gl_white hlt (by rw [hw, h3]; simp) HK.out
          · exact gl_nl hlt (by rw [u8_eq]; exact h3) HK.out)
        clear hw n1 n2 n4
        go_wp2
        go_round
        case rel => exact ⟨k + 1, false, by omega, HM, rfl, by go_num⟩
        case measure => simp [intOf]; omega
    · go_wp2
      go_ret
      exact ⟨rfl, rfl⟩
theorem lex_err {s : List UInt8} (h : (Lx.lex s).2.1 ≠ 0) : (Lx.lex s).1 = [] ∧ ((Lx.lex s).2.1 = 2 ∨ (Lx.lex s).2.1 = 40) := by
  unfold Lx.lex at h ⊢
  by_cases h1 : 8000 < s.length
  · rw [if_pos h1]; exact ⟨rfl, Or.inl rfl⟩
  · rw [if_neg h1] at h ⊢
    by_cases h2 : 3000 < (Lx.scan s).1.length
    · rw [dif_pos h2]; exact ⟨rfl, Or.inl rfl⟩
    · rw [dif_neg h2] at h ⊢
      cases h3 : (Lx.scan s).2 with
      | none => rw [h3] at h; simp at h
      | some p => simp only; split; exact ⟨rfl, Or.inl rfl⟩; exact ⟨rfl, Or.inr rfl⟩
theorem rkind_k (t : ByteArray) (k : Nat) (w : World) (hs : t.size ≤ 9223372036854775807) (h : Lx.rkind t.data.toList = k) :
    Calls Tryd.prog 16 #[.string t] w fun e w' => e = .returned (.int .i64 (k : Int)) ∧ Below w.heap.size w w' := by
  rw [← h]; exact rkind_any t w hs
end Go.Proofs.YtgoplhlbcmfocaaDoor
