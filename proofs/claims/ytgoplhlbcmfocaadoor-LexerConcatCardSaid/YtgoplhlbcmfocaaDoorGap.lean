/- The walk of the lexer's gap: it returns the offset behind the gap. -/
import Derived.Test.YtgoplhlbcmfocaaDoorLeaf
import Derived.Test.YtgoplhlbcmfocaaDoorPure
import Derived.Test.YtgoplhlbcmfocaaDoorShelf
import Derived.Test.YtgoplhlbcmfocaaDoorBase
import Derived.Lib.IndexLaws
namespace Go.Proofs.YtgoplhlbcmfocaaDoor
set_option linter.unusedVariables false
set_option linter.unusedSimpArgs false
open Go.RowKit
theorem gap_white {s : ByteArray} {k G : Nat} (h : k < s.size) (hw : Lx.whiteB s[k] = true) (H : G = k + Lx.gapG false (s.data.toList.drop k)) : G = (k + 1) + Lx.gapG false (s.data.toList.drop (k + 1)) := by
  rw [H, drop_cons s k h]; simp only [Lx.gapG, hw, if_true]; omega
theorem gap_stop {s : ByteArray} {k G : Nat} (h : k < s.size) (hw : Lx.whiteB s[k] = false) (h37 : (s[k] == 37) = false) (H : G = k + Lx.gapG false (s.data.toList.drop k)) : G = k := by
  rw [H, drop_cons s k h]; simp only [Lx.gapG, hw]; simp at h37; simp [h37]
theorem gap_com {s : ByteArray} {k G n : Nat} (h : k < s.size) (hc : (s[k] == 37) = true) (hn : Lib.indexByte (s.extract k s.size).data.toList 10 = n) (H : G = k + Lx.gapG false (s.data.toList.drop k)) :
    0 < n ∧ k + n ≤ s.size ∧ G = (k + n) + Lx.gapG false (s.data.toList.drop (k + n)) := by
  have e : (s.extract k s.size).data.toList = s.data.toList.drop k := by
    rw [Lib.extract_data, List.take_of_length_le (by rw [List.length_drop, size_len]; omega)]
  rw [e] at hn
  obtain ⟨h1, h2⟩ := Lib.indexByte_some hn
  have hcc : s[k] = 37 := by simpa using hc
  have h0 : 0 < n := by
    rcases Nat.eq_zero_or_pos n with h | h'
    · subst h; rw [drop_cons s k h, hcc] at h1; simp at h1
    · exact h'
  have hlt : k + n < s.data.toList.length := by
    have := (List.getElem?_eq_some_iff.1 h1).1; rw [List.length_drop] at this; omega
  refine ⟨h0, by rw [size_len] at hlt; omega, ?_⟩
  obtain ⟨m, rfl⟩ : ∃ m, n = m + 1 := ⟨n - 1, by omega⟩
  rw [H, drop_cons s k h]
  simp only [Lx.gapG, hcc, Lx.whiteB]
  have hg := Lx.gapG_comment (s.data.toList.drop (k + 1)) m (fun j hj => by have := h2 (j + 1) (by omega); rw [drop_cons s k h] at this; simpa using this) (by rw [drop_cons s k h] at h1; simpa using h1)
  rw [if_neg (by decide), if_pos trivial, hg, List.drop_drop, show k + 1 + m = k + (m + 1) from by omega]; omega
theorem gap_com_none {s : ByteArray} {k G : Nat} (h : k < s.size) (hc : (s[k] == 37) = true) (hn : Lib.indexByte (s.extract k s.size).data.toList 10 = -1) (H : G = k + Lx.gapG false (s.data.toList.drop k)) :
    G = s.size + Lx.gapG false (s.data.toList.drop s.size) := by
  have e : (s.extract k s.size).data.toList = s.data.toList.drop k := by
    rw [Lib.extract_data, List.take_of_length_le (by rw [List.length_drop, size_len]; omega)]
  rw [e] at hn
  have h1 := Lib.indexByte_none hn
  have hcc : s[k] = 37 := by simpa using hc
  rw [H, drop_cons s k h]
  have hg := Lx.gapG_comment_end (s.data.toList.drop (k + 1)) (fun j => by have := h1 (j + 1); rw [drop_cons s k h] at this; simpa using this)
  simp only [Lx.gapG, hcc, Lx.whiteB]
  rw [if_neg (by decide), if_pos trivial, hg, List.length_drop, size_len, List.drop_of_length_le (by rw [size_len]; exact Nat.le_refl _)]; simp only [Lx.gapG]; omega
theorem gap_end {s : ByteArray} {k G : Nat} (hk : k ≤ s.size) (h : ¬ k < s.size) (H : G = k + Lx.gapG false (s.data.toList.drop k)) : G = k := by
  rw [H, List.drop_of_length_le (by rw [size_len]; omega)]; rfl
theorem index_nl (s : ByteArray) (w : World) : Calls Tryd.prog 28 #[.string s, .int .u8 10] w fun e w' => e = .returned (.int .i64 (Lib.indexByte s.data.toList 10)) ∧ w = w' :=
  (Tryd.strings_IndexByte s 10 w).mono fun _ _ ⟨h, h'⟩ => ⟨h, h'.symm⟩
set_option maxHeartbeats 1000000 in
theorem gap_any (s : ByteArray) (p : Nat) (w : World) (hp : p ≤ s.size) (hs : s.size ≤ 9223372036854775807) :
    Calls Tryd.prog 20 #[.string s, .int .i64 p] w fun e w' => e = .returned (.int .i64 ((p + Lx.gapG false (s.data.toList.drop p) : Nat) : Int)) ∧ w = w' := by
  obtain ⟨G, hG⟩ : ∃ G, G = p + Lx.gapG false (s.data.toList.drop p) := ⟨_, rfl⟩
  have HG := Lib.hid hG
  rw [← hG]; clear hG
  go_enter Tryd.func20, Tryd.ntmps20
  go_wp2
  go_loop [1] (fun i => ∃ k : Nat, k ≤ s.size ∧ Hid (G = k + Lx.gapG false (s.data.toList.drop k)) ∧ i = .int .i64 k) (fun i => s.size - (intOf i).toNat)
  case atStart => exact ⟨p, hp, HG, rfl⟩
  case round =>
    obtain ⟨k, hk, HK, rfl⟩ := hrel
    by_cases hlt : k < s.size
    · have hw : Lx.whiteB s[k] = ((((s[k].toNat : Nat) : Int) == 32) || (((s[k].toNat : Nat) : Int) == 9) || (((s[k].toNat : Nat) : Int) == 10) || (((s[k].toNat : Nat) : Int) == 13)) := by
        unfold Lx.whiteB; simp only [u8_eq]; rfl
      cases h1 : (((s[k].toNat : Nat) : Int) == 32)
      · cases h2 : (((s[k].toNat : Nat) : Int) == 9)
        · cases h3 : (((s[k].toNat : Nat) : Int) == 10)
          · cases h4 : (((s[k].toNat : Nat) : Int) == 13)
            · have HW : Hid (Lx.whiteB s[k] = false) := Lib.hid (by rw [hw, h1, h2, h3, h4]; rfl)
              clear hw
              cases h5 : (((s[k].toNat : Nat) : Int) == 37)
              · have hend := gap_stop hlt HW.out (by rw [u8_eq]; exact h5) HK.out
                have HE := Lib.hid hend; clear hend
                go_wp2
                go_ret
                exact ⟨by rw [HE.out]; rfl, rfl⟩
              · obtain ⟨n, hn⟩ : ∃ n, Lib.indexByte (s.extract k s.size).data.toList 10 = n := ⟨_, rfl⟩
                have hge := Lib.indexByte_ge (s.extract k s.size).data.toList 10
                rw [hn] at hge
                by_cases hneg : 0 ≤ n
                · obtain ⟨m, rfl⟩ := Int.eq_ofNat_of_zero_le hneg
                  obtain ⟨g1, g2, g3⟩ := gap_com hlt (by rw [u8_eq]; exact h5) hn HK.out
                  have G3 := Lib.hid g3; have HN := Lib.hid hn; clear g3 hn
                  go_wp2_with (go_at_call 28; refine (index_nl _ _).mono ?_; rintro e w' ⟨rfl, rfl⟩; rw [HN.out])
                  go_round
                  case rel => exact ⟨k + m, by omega, G3, by go_num⟩
                  case measure => simp [intOf]; omega
                · obtain rfl : n = -1 := by omega
                  have g3 := gap_com_none hlt (by rw [u8_eq]; exact h5) hn HK.out
                  have G3 := Lib.hid g3; have HN := Lib.hid hn; clear g3 hn
                  go_wp2_with (go_at_call 28; refine (index_nl _ _).mono ?_; rintro e w' ⟨rfl, rfl⟩; rw [HN.out])
                  go_round
                  case rel => exact ⟨s.size, by omega, G3, by go_num⟩
                  case measure => simp [intOf]; omega
            all_goals
              have H1 := Lib.hid (gap_white hlt (by rw [hw]; simp [*]) HK.out)
              clear hw
              go_wp2
              go_round
              case rel => exact ⟨k + 1, by omega, H1, by go_num⟩
              case measure => simp [intOf]; omega
          all_goals
            have H1 := Lib.hid (gap_white hlt (by rw [hw]; simp [*]) HK.out)
            clear hw
            go_wp2
            go_round
            case rel => exact ⟨k + 1, by omega, H1, by go_num⟩
            case measure => simp [intOf]; omega
        all_goals
          have H1 := Lib.hid (gap_white hlt (by rw [hw]; simp [*]) HK.out)
          clear hw
          go_wp2
          go_round
          case rel => exact ⟨k + 1, by omega, H1, by go_num⟩
          case measure => simp [intOf]; omega
      all_goals
        have H1 := Lib.hid (gap_white hlt (by rw [hw]; simp [*]) HK.out)
        clear hw
        go_wp2
        go_round
        case rel => exact ⟨k + 1, by omega, H1, by go_num⟩
        case measure => simp [intOf]; omega
    · have hend := gap_end hk hlt HK.out
      have HE := Lib.hid hend; clear hend
      go_wp2
      go_ret
      exact ⟨by rw [HE.out]; rfl, rfl⟩
end Go.Proofs.YtgoplhlbcmfocaaDoor
