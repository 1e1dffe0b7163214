/- container/heap at the heap of groups: down. -/
import Derived.Test.YtljlihimmcmlmaaTUpd
namespace Go.Proofs.Ytljlihimmcmlmaa
set_option linter.unusedVariables false
set_option linter.unusedSimpArgs false
open Go.RowKit
theorem kid_small {α : Type} (k : α → Nat) (n : Nat) (l : List α) (i : Nat) : Hp.kid k n l i = if 2 * i + 2 < n ∧ Hp.K k l (2 * i + 2) < Hp.K k l (2 * i + 1) then 2 * i + 2 else 2 * i + 1 := rfl
set_option maxHeartbeats 2000000 in
set_option maxRecDepth 100000 in
theorem down_any (w0 : World) (B H : Nat) (v : Value) (hs : List Value) (F : List (List Nat)) (w : World) (h : HpAt w0 B H v hs F w) (i n f : Nat) (hn : n ≤ F.length) (hf : n ≤ i + f) (hi : i ≤ 100000) (hl : F.length ≤ 100000) :
    Calls Try.prog 49 #[hif H, .int .i64 (i : Int), .int .i64 (n : Int)] w fun e w' => (∃ b, e = .returned (.bool b)) ∧ ∃ hs', HpAt w0 B H v hs' (Hp.down Tj.key n f F i) w' ∧ w.grownBy w' v.ownBlock := by
  obtain ⟨R, hR⟩ : ∃ R, Hp.down Tj.key n f F i = R := ⟨_, rfl⟩
  rw [hR]
  unfold hif
  obtain ⟨N, hN⟩ : ∃ N, F.length = N := ⟨_, rfl⟩
  rw [hN] at hn hl
  have HR := Lib.hid hR
  clear hR
  go_enter Try.func49, Try.ntmps49
  go_wp2_with fail
  go_loopw [7, 8, 9, 10] (fun x _ _ _ wr => ∃ (f i : Nat) (hs : List Value) (F : List (List Nat)), i ≤ 100000 ∧ n ≤ i + f ∧ F.length = N ∧ x = .int .i64 i ∧ HpAt w0 B H v hs F wr ∧ Hid (Hp.down Tj.key n f F i = R) ∧ w.grownBy wr v.ownBlock) (fun x _ _ _ _ => 200000 - (intOf x).toNat)
  case atStart => exact ⟨f, i, hs, F, hi, hf, hN, rfl, h, HR, grown_refl _ _⟩
  case round =>
    clear h HR hf hN
    obtain ⟨i0, hi0⟩ : ∃ i0, i = i0 := ⟨_, rfl⟩
    subst hi0
    rename_i i1
    obtain ⟨f, i, hs, F, hi2, hf, hN, rfl, h, HR, hgr⟩ := hrel
    by_cases h1 : n ≤ 2 * i + 1
    · have t1 : decide ((n : Int) ≤ 2 * (i : Int) + 1) = true := by simp; omega
      have HU := Lib.hid (show R = F by
        rw [← HR.out]
        cases f with
        | zero => rfl
        | succ f => unfold Hp.down; rw [if_pos h1])
      clear HR
      go_wp2_with fail
      go_ret
      exact ⟨⟨_, rfl⟩, hs, by rw [HU.out]; exact h, hgr⟩
    · have t1 : decide ((n : Int) ≤ 2 * (i : Int) + 1) = false := by simp; omega
      have t2 : decide (2 * (i : Int) + 1 < 0) = false := by simp; omega
      obtain ⟨f, rfl⟩ : ∃ f', f = f' + 1 := ⟨f - 1, by omega⟩
      have hdn : R = if ¬ Hp.K Tj.key F (Hp.kid Tj.key n F i) < Hp.K Tj.key F i then F else Hp.down Tj.key n f (Hp.swp F i (Hp.kid Tj.key n F i)) (Hp.kid Tj.key n F i) := by
        rw [← HR.out]
        show (if n ≤ 2 * i + 1 then _ else _) = _
        rw [if_neg h1]
      rw [kid_small] at hdn
      clear HR
      have hm := method_less H v wr (h.cell.cell 0)
      obtain ⟨a, ha⟩ : ∃ a, 2 * i + 1 = a := ⟨_, rfl⟩
      obtain ⟨b, hb⟩ : ∃ b, 2 * i + 2 = b := ⟨_, rfl⟩
      have e1 : 2 * (i : Int) + 1 = (a : Int) := by omega
      have e2 : (a : Int) + 1 = (b : Int) := by omega
      rw [ha, hb] at hdn
      rw [e1] at t1 t2
      have han : a < n := by omega
      have hab : b ≤ 300000 := by omega
      have hia : i < a := by omega
      have hib : i < b := by omega
      clear ha hb h1
      by_cases h2 : b < n
      · have t3 : decide ((b : Int) < (n : Int)) = true := by simp; omega
        have HL1 := Lib.hid (less_any w0 B H v hs F wr h b a (by omega) (by omega))
        obtain ⟨tv, htv⟩ : ∃ tv, decide (Hp.K Tj.key F b < Hp.K Tj.key F a) = tv := ⟨_, rfl⟩
        rw [htv] at HL1
        cases tv
        · rw [if_neg (show ¬ (b < n ∧ Hp.K Tj.key F b < Hp.K Tj.key F a) from fun hh => by have := hh.2; simp at htv; omega)] at hdn
          clear htv
          obtain ⟨sv, hsv⟩ : ∃ sv, decide (Hp.K Tj.key F a < Hp.K Tj.key F i) = sv := ⟨_, rfl⟩
          cases sv
          · rw [if_pos (show ¬ Hp.K Tj.key F a < Hp.K Tj.key F i by simpa using hsv)] at hdn
            have HU := Lib.hid hdn
            clear hdn
            go_wp2_with fail
            refine HL1.out.mono ?_
            rintro e w3 ⟨rfl, hb3⟩
            have h3 := h.next hb3
            have hm3 := method_less H v w3 (h3.cell.cell 0)
            have hg3 := grown_trans hgr (grown_of_below hb3 _)
            have HL2 := Lib.hid (less_any w0 B H v hs F w3 h3 a i (by omega) (by omega))
            rw [hsv] at HL2
            go_wp2_with fail
            refine HL2.out.mono ?_
            rintro e w4 ⟨rfl, hb4⟩
            have h4 := h3.next hb4
            have hg4 := grown_trans hg3 (grown_of_below hb4 _)
            go_wp2_with fail
            go_ret
            exact ⟨⟨_, rfl⟩, hs, by rw [HU.out]; exact h4, hg4⟩
          · rw [if_neg (show ¬ ¬ Hp.K Tj.key F a < Hp.K Tj.key F i from fun hh => hh (by simpa using hsv))] at hdn
            have HU := Lib.hid hdn
            clear hdn
            go_wp2_with fail
            refine HL1.out.mono ?_
            rintro e w3 ⟨rfl, hb3⟩
            have h3 := h.next hb3
            have hm3 := method_less H v w3 (h3.cell.cell 0)
            have hg3 := grown_trans hgr (grown_of_below hb3 _)
            have HL2 := Lib.hid (less_any w0 B H v hs F w3 h3 a i (by omega) (by omega))
            rw [hsv] at HL2
            go_wp2_with fail
            refine HL2.out.mono ?_
            rintro e w4 ⟨rfl, hb4⟩
            have h4 := h3.next hb4
            have hg4 := grown_trans hg3 (grown_of_below hb4 _)
            have hm4 := method_swap H v w4 (h4.cell.cell 0)
            have HS := Lib.hid (swap_any w0 B H v hs F w4 h4 i a (by omega) (by omega))
            go_wp2_with fail
            refine HS.out.mono ?_
            rintro e w5 ⟨rfl, h5, hg5⟩
            go_wp2_with fail
            go_roundw
            case rel => exact ⟨f, a, _, _, by omega, by omega, by rw [Hp.swp_len]; exact hN, by go_num, h5, Lib.hid HU.out.symm, grown_trans hg4 hg5⟩
            case measure => simp [intOf]; omega
        · rw [if_pos (show b < n ∧ Hp.K Tj.key F b < Hp.K Tj.key F a from ⟨h2, by simpa using htv⟩)] at hdn
          clear htv
          obtain ⟨sv, hsv⟩ : ∃ sv, decide (Hp.K Tj.key F b < Hp.K Tj.key F i) = sv := ⟨_, rfl⟩
          cases sv
          · rw [if_pos (show ¬ Hp.K Tj.key F b < Hp.K Tj.key F i by simpa using hsv)] at hdn
            have HU := Lib.hid hdn
            clear hdn
            go_wp2_with fail
            refine HL1.out.mono ?_
            rintro e w3 ⟨rfl, hb3⟩
            have h3 := h.next hb3
            have hm3 := method_less H v w3 (h3.cell.cell 0)
            have hg3 := grown_trans hgr (grown_of_below hb3 _)
            have HL2 := Lib.hid (less_any w0 B H v hs F w3 h3 b i (by omega) (by omega))
            rw [hsv] at HL2
            go_wp2_with fail
            refine HL2.out.mono ?_
            rintro e w4 ⟨rfl, hb4⟩
            have h4 := h3.next hb4
            have hg4 := grown_trans hg3 (grown_of_below hb4 _)
            go_wp2_with fail
            go_ret
            exact ⟨⟨_, rfl⟩, hs, by rw [HU.out]; exact h4, hg4⟩
          · rw [if_neg (show ¬ ¬ Hp.K Tj.key F b < Hp.K Tj.key F i from fun hh => hh (by simpa using hsv))] at hdn
            have HU := Lib.hid hdn
            clear hdn
            go_wp2_with fail
            refine HL1.out.mono ?_
            rintro e w3 ⟨rfl, hb3⟩
            have h3 := h.next hb3
            have hm3 := method_less H v w3 (h3.cell.cell 0)
            have hg3 := grown_trans hgr (grown_of_below hb3 _)
            have HL2 := Lib.hid (less_any w0 B H v hs F w3 h3 b i (by omega) (by omega))
            rw [hsv] at HL2
            go_wp2_with fail
            refine HL2.out.mono ?_
            rintro e w4 ⟨rfl, hb4⟩
            have h4 := h3.next hb4
            have hg4 := grown_trans hg3 (grown_of_below hb4 _)
            have hm4 := method_swap H v w4 (h4.cell.cell 0)
            have HS := Lib.hid (swap_any w0 B H v hs F w4 h4 i b (by omega) (by omega))
            go_wp2_with fail
            refine HS.out.mono ?_
            rintro e w5 ⟨rfl, h5, hg5⟩
            go_wp2_with fail
            go_roundw
            case rel => exact ⟨f, b, _, _, by omega, by omega, by rw [Hp.swp_len]; exact hN, by go_num, h5, Lib.hid HU.out.symm, grown_trans hg4 hg5⟩
            case measure => simp [intOf]; omega
      · have t3 : decide ((b : Int) < (n : Int)) = false := by simp; omega
        rw [if_neg (show ¬ (b < n ∧ Hp.K Tj.key F b < Hp.K Tj.key F a) from fun hh => h2 hh.1)] at hdn
        obtain ⟨sv, hsv⟩ : ∃ sv, decide (Hp.K Tj.key F a < Hp.K Tj.key F i) = sv := ⟨_, rfl⟩
        cases sv
        · rw [if_pos (show ¬ Hp.K Tj.key F a < Hp.K Tj.key F i by simpa using hsv)] at hdn
          have HU := Lib.hid hdn
          clear hdn
          have h3 := h
          have hg3 := hgr
          have HL2 := Lib.hid (less_any w0 B H v hs F wr h3 a i (by omega) (by omega))
          rw [hsv] at HL2
          go_wp2_with fail
          refine HL2.out.mono ?_
          rintro e w4 ⟨rfl, hb4⟩
          have h4 := h3.next hb4
          have hg4 := grown_trans hg3 (grown_of_below hb4 _)
          go_wp2_with fail
          go_ret
          exact ⟨⟨_, rfl⟩, hs, by rw [HU.out]; exact h4, hg4⟩
        · rw [if_neg (show ¬ ¬ Hp.K Tj.key F a < Hp.K Tj.key F i from fun hh => hh (by simpa using hsv))] at hdn
          have HU := Lib.hid hdn
          clear hdn
          have h3 := h
          have hg3 := hgr
          have HL2 := Lib.hid (less_any w0 B H v hs F wr h3 a i (by omega) (by omega))
          rw [hsv] at HL2
          go_wp2_with fail
          refine HL2.out.mono ?_
          rintro e w4 ⟨rfl, hb4⟩
          have h4 := h3.next hb4
          have hg4 := grown_trans hg3 (grown_of_below hb4 _)
          have hm4 := method_swap H v w4 (h4.cell.cell 0)
          have HS := Lib.hid (swap_any w0 B H v hs F w4 h4 i a (by omega) (by omega))
          go_wp2_with fail
          refine HS.out.mono ?_
          rintro e w5 ⟨rfl, h5, hg5⟩
          go_wp2_with fail
          go_roundw
          case rel => exact ⟨f, a, _, _, by omega, by omega, by rw [Hp.swp_len]; exact hN, by go_num, h5, Lib.hid HU.out.symm, grown_trans hg4 hg5⟩
          case measure => simp [intOf]; omega
end Go.Proofs.Ytljlihimmcmlmaa
