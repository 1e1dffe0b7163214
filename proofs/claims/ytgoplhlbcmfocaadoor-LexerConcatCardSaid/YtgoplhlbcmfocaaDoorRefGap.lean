/- The walks of the reference's Gap and Next. -/
import Derived.Test.YtgoplhlbcmfocaaDoorRefKind2
namespace Go.Proofs.YtgoplhlbcmfocaaDoor
set_option linter.unusedVariables false
set_option linter.unusedSimpArgs false
open Go.RowKit
/-- Inside a comment. -/
theorem com_more {s : ByteArray} {k G : Nat} (h : k < s.size) (hc : (s[k] == 10) = false) (H : G = k + Lx.gapG true (s.data.toList.drop k)) : G = (k + 1) + Lx.gapG true (s.data.toList.drop (k + 1)) := by
  rw [H, drop_cons s k h]; simp at hc; simp only [Lx.gapG, if_neg hc]; omega
theorem com_nl {s : ByteArray} {k G : Nat} (h : k < s.size) (hc : (s[k] == 10) = true) (H : G = k + Lx.gapG true (s.data.toList.drop k)) : G = k + Lx.gapG false (s.data.toList.drop k) := by
  rw [H, drop_cons s k h]; simp at hc; simp [Lx.gapG, hc, Lx.whiteB]
theorem com_end {s : ByteArray} {k G : Nat} (hk : k ≤ s.size) (h : ¬ k < s.size) (H : G = k + Lx.gapG true (s.data.toList.drop k)) : G = k + Lx.gapG false (s.data.toList.drop k) := by
  rw [H, List.drop_of_length_le (by rw [size_len]; omega)]; rfl
theorem com_start {s : ByteArray} {k G : Nat} (h : k < s.size) (hc : (s[k] == 37) = true) (H : G = k + Lx.gapG false (s.data.toList.drop k)) : G = k + Lx.gapG true (s.data.toList.drop k) := by
  rw [H, drop_cons s k h]; simp at hc; simp [Lx.gapG, hc, Lx.whiteB]
set_option maxHeartbeats 2000000 in
set_option maxRecDepth 100000 in
theorem rgap_any (s : ByteArray) (p : Nat) (w : World) (hp : p ≤ s.size) (hs : s.size ≤ 9223372036854775807) :
    Calls Tryd.prog 22 #[.string s, .int .i64 p] w fun e w' => e = .returned (.int .i64 ((Lx.gapG false (s.data.toList.drop p) : Nat) : Int)) ∧ w = w' := by
  obtain ⟨G, hG⟩ : ∃ G, G = p + Lx.gapG false (s.data.toList.drop p) := ⟨_, rfl⟩
  have hg1 : Lx.gapG false (s.data.toList.drop p) = G - p := by omega
  rw [hg1]
  have hpG : p ≤ G := by omega
  have HG := Lib.hid hG
  clear hG hg1
  go_enter Tryd.func22, Tryd.ntmps22
  go_wp2
  go_loop [5] (fun i => ∃ k : Nat, p ≤ k ∧ k ≤ s.size ∧ Hid (G = k + Lx.gapG false (s.data.toList.drop k)) ∧ i = .int .i64 k) (fun i => s.size - (intOf i).toNat)
  case atStart => exact ⟨p, Nat.le_refl _, hp, HG, rfl⟩
  case round =>
    obtain ⟨k, hpk, hk, HK, rfl⟩ := hrel
    by_cases hlt : k < s.size
    · have hw : Lx.whiteB s[k] = ((((s[k].toNat : Nat) : Int) == 32) || (((s[k].toNat : Nat) : Int) == 9) || (((s[k].toNat : Nat) : Int) == 10) || (((s[k].toNat : Nat) : Int) == 13)) := by
        unfold Lx.whiteB; simp only [u8_eq]; rfl
      cases h1 : (((s[k].toNat : Nat) : Int) == 32)
      · cases h2 : (((s[k].toNat : Nat) : Int) == 9)
        · cases h3 : (((s[k].toNat : Nat) : Int) == 10)
          · cases h4 : (((s[k].toNat : Nat) : Int) == 13)
            · have HW : Hid (Lx.whiteB s[k] = false) := Lib.hid (by rw [hw, h1, h2, h3, h4]; rfl)
              clear hw
              cases h5 : (((s[k].toNat : Nat) : Int) == 37)
              · have HE := Lib.hid (gap_stop hlt HW.out (by rw [u8_eq]; exact h5) HK.out)
                have h6 : (((s[k].toNat : Nat) : Int) != 37) = true := by simp only [bne, h5]; rfl
                go_wp2
                go_ret
                exact ⟨congrArg Ending.returned (by have := HE.out; show Value.int _ _ = _; simp only [Value.int.injEq, true_and]; omega), rfl⟩
              · have HC := Lib.hid (com_start hlt (by rw [u8_eq]; exact h5) HK.out)
                have h6 : (((s[k].toNat : Nat) : Int) != 37) = false := by simp only [bne, h5]; rfl
                go_wp2
                go_loop [5] (fun i => ∃ j : Nat, k ≤ j ∧ j ≤ s.size ∧ Hid (G = j + Lx.gapG true (s.data.toList.drop j)) ∧ i = .int .i64 j) (fun i => s.size - (intOf i).toNat)
                case atStart => exact ⟨k, Nat.le_refl _, hk, HC, rfl⟩
                case round =>
                  obtain ⟨j, hkj, hj, HJ, rfl⟩ := hrel
                  by_cases hjs : j < s.size
                  · have d1 : decide ((j : Int) < (s.size : Int)) = true := by simp; omega
                    cases h7 : (((s[j].toNat : Nat) : Int) == 10)
                    · have h8 : (((s[j].toNat : Nat) : Int) != 10) = true := by simp only [bne, h7]; rfl
                      have HM := Lib.hid (com_more hjs (by rw [u8_eq]; exact h7) HJ.out)
                      go_wp2
                      go_round
                      case rel => exact ⟨j + 1, by omega, by omega, HM, by go_num⟩
                      case measure => simp [intOf]; omega
                    · have h8 : (((s[j].toNat : Nat) : Int) != 10) = false := by simp only [bne, h7]; rfl
                      have HM := Lib.hid (com_nl hjs (by rw [u8_eq]; exact h7) HJ.out)
                      have hjk : k < j := by
                        rcases Nat.eq_or_lt_of_le hkj with e | e
                        · subst e; rw [h3] at h7; cases h7
                        · exact e
                      go_wp2
                      go_round
                      case rel => exact ⟨j, by omega, by omega, HM, by go_num⟩
                      case measure => simp [intOf]; omega
                  · have d1 : decide ((j : Int) < (s.size : Int)) = false := by simp; omega
                    have HM := Lib.hid (com_end hj hjs HJ.out)
                    go_wp2
                    go_round
                    case rel => exact ⟨j, by omega, by omega, HM, by go_num⟩
                    case measure => simp [intOf]; omega
            all_goals
              have H1 := Lib.hid (gap_white hlt (by rw [hw]; simp [*]) HK.out)
              clear hw
              go_wp2
              go_round
              case rel => exact ⟨k + 1, by omega, by omega, H1, by go_num⟩
              case measure => simp [intOf]; omega
          all_goals
            have H1 := Lib.hid (gap_white hlt (by rw [hw]; simp [*]) HK.out)
            clear hw
            go_wp2
            go_round
            case rel => exact ⟨k + 1, by omega, by omega, H1, by go_num⟩
            case measure => simp [intOf]; omega
        all_goals
          have H1 := Lib.hid (gap_white hlt (by rw [hw]; simp [*]) HK.out)
          clear hw
          go_wp2
          go_round
          case rel => exact ⟨k + 1, by omega, by omega, H1, by go_num⟩
          case measure => simp [intOf]; omega
      all_goals
        have H1 := Lib.hid (gap_white hlt (by rw [hw]; simp [*]) HK.out)
        clear hw
        go_wp2
        go_round
        case rel => exact ⟨k + 1, by omega, by omega, H1, by go_num⟩
        case measure => simp [intOf]; omega
    · have HE := Lib.hid (gap_end hk hlt HK.out)
      go_wp2
      go_ret
      exact ⟨congrArg Ending.returned (by have := HE.out; show Value.int _ _ = _; simp only [Value.int.injEq, true_and]; omega), rfl⟩
end Go.Proofs.YtgoplhlbcmfocaaDoor
