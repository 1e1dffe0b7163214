/- The walk of the reference's Kind. -/
import Derived.Test.YtgoplhlbcmfocaaDoorRefKind
namespace Go.Proofs.YtgoplhlbcmfocaaDoor
set_option linter.unusedVariables false
set_option linter.unusedSimpArgs false
open Go.RowKit
theorem sym_mem {l : List UInt8} {k : Nat} (hk : k < 15) (h : Lx.symbols.getD k [] = l) : Lx.symbols.contains l = true := by
  subst h
  rw [List.contains_iff_mem, List.getD_eq_getElem?_getD, List.getElem?_eq_getElem (by simpa [Lx.symbols] using hk)]
  exact List.getElem_mem _
theorem sym_not {l : List UInt8} (h : ∀ k, k < 15 → Lx.symbols.getD k [] ≠ l) : Lx.symbols.contains l = false := by
  rw [← Bool.not_eq_true, List.contains_iff_mem]
  intro hm
  obtain ⟨j, hj, rfl⟩ := List.getElem_of_mem hm
  have := h j (by simpa [Lx.symbols] using hj)
  rw [List.getD_eq_getElem?_getD, List.getElem?_eq_getElem hj] at this
  exact this rfl
theorem rk_sym {l : List UInt8} (h : Lx.symbols.contains l = true) : Lx.rkind l = 4 := by simp only [Lx.rkind, h, if_true]
theorem rk_short {l : List UInt8} (h : Lx.symbols.contains l = false) (h0 : l.length = 0 ∨ 16 < l.length) : Lx.rkind l = 0 := by
  simp only [Lx.rkind, h, if_pos h0]; rfl
theorem rk_bad {l : List UInt8} {k : Nat} {c : UInt8} (h : Lx.symbols.contains l = false) (hc : l[k]? = some c) (hw : Lx.wordB c = false) : Lx.rkind l = 0 := by
  have : l.all Lx.wordB = false := by
    rw [List.all_eq_false]; exact ⟨c, List.mem_of_getElem? hc, by simp [hw]⟩
  simp only [Lx.rkind, h, this]; simp
theorem rk_word {l : List UInt8} (h : Lx.symbols.contains l = false) (h0 : ¬ (l.length = 0 ∨ 16 < l.length)) (hw : l.all Lx.wordB = true) : Lx.rkind l = Lx.wkind l := by
  simp only [Lx.rkind, h, if_neg h0, hw, if_true]; rfl
theorem take_succ (s : ByteArray) (k : Nat) (h : k < s.size) : s.data.toList.take (k + 1) = s.data.toList.take k ++ [s[k]] := by
  rw [List.take_add_one, byte_get s k h]; rfl
theorem all_snoc (s : ByteArray) (k : Nat) (h : k < s.size) (f : UInt8 → Bool) : (s.data.toList.take (k + 1)).all f = ((s.data.toList.take k).all f && f s[k]) := by
  rw [take_succ s k h, List.all_append]; simp
set_option maxHeartbeats 1000000 in
set_option maxRecDepth 100000 in
theorem rkind_any (s : ByteArray) (w : World) (hs : s.size ≤ 9223372036854775807) :
    Calls Tryd.prog 16 #[.string s] w fun e w' => e = .returned (.int .i64 (Lx.rkind s.data.toList)) ∧ Below w.heap.size w w' := by
  go_enter Tryd.func16, Tryd.ntmps16
  go_wp2_with (go_at_call 24; refine (symbols_any _).mono ?_; rintro e w1 ⟨rfl, rfl⟩)
  have hA : At (w.alloc (.cells symA 9)) w.heap.size 9 symA := At.new _ _ _
  have hbel : Below w.heap.size w (w.alloc (.cells symA 9)) := (Below.refl _ _).alloc (Nat.le_refl _) _
  generalize w.alloc (.cells symA 9) = w1 at hA hbel ⊢
  go_loop [4] (fun i => ∃ k : Nat, k ≤ 15 ∧ Hid (∀ j, j < k → Lx.symbols.getD j [] ≠ s.data.toList) ∧ i = .int .i64 k) (fun i => 15 - (intOf i).toNat)
  case atStart => exact ⟨0, by omega, Lib.hid (fun j hj => absurd hj (by omega)), rfl⟩
  case round =>
    obtain ⟨k, hk, HN, rfl⟩ := hrel
    by_cases hlt : k < 15
    · obtain ⟨y, hy⟩ : ∃ y : ByteArray, y = ⟨(Lx.symbols.getD k []).toArray⟩ := ⟨_, rfl⟩
      have hc : w1.cell? ⟨w.heap.size, k, none⟩ = some (.string y) := by rw [hA.cell, symA_get k hlt, hy]
      have hyl : Lx.symbols.getD k [] = y.data.toList := by rw [hy]
      have HY := Lib.hid hyl; clear hy hyl
      cases hq : (y.toList == s.toList)
      · have hne : Lx.symbols.getD k [] ≠ s.data.toList := by
          rw [HY.out]; intro e; rw [Lib.toList_data, Lib.toList_data, e] at hq; simp at hq
        have HNE := Lib.hid hne; clear hne
        go_wp2
        go_round
        case rel => exact ⟨k + 1, by omega, Lib.hid (fun j hj => by
          by_cases e : j = k
          · rw [e]; exact HNE.out
          · exact HN.out j (by omega)), by go_num⟩
        case measure => simp [intOf]; omega
      · have heq : Lx.symbols.getD k [] = s.data.toList := by rw [HY.out]; rw [Lib.toList_data, Lib.toList_data] at hq; simpa using hq
        have HR := Lib.hid (rk_sym (sym_mem hlt heq))
        clear heq
        go_wp2
        go_ret
        exact ⟨by rw [HR.out]; rfl, hbel⟩
    · obtain rfl : k = 15 := by omega
      have HNS := Lib.hid (sym_not HN.out)
      clear HN
      by_cases h0 : s.size = 0
      · have HR := Lib.hid (rk_short HNS.out (Or.inl ((size_len s).trans h0)))
        have h0' : ((s.size : Int) == 0) = true := by rw [h0]; rfl
        have H0 := Lib.hid h0; clear h0
        go_wp2
        go_ret
        exact ⟨by rw [HR.out]; rfl, hbel⟩
      · have h0' : ((s.size : Int) == 0) = false := beq_eq_false_iff_ne.2 (by omega)
        by_cases h16 : 16 < s.size
        · have HR := Lib.hid (rk_short HNS.out (Or.inr (by rw [size_len]; exact h16)))
          have h1' : decide ((16 : Int) < (s.size : Int)) = true := by simp; omega
          go_wp2
          go_ret
          exact ⟨by rw [HR.out]; rfl, hbel⟩
        · have h1' : decide ((16 : Int) < (s.size : Int)) = false := by simp; omega
          have hsz : 0 < s.size := by omega
          go_wp2
          go_loop [5, 6] (fun d i => ∃ (k : Nat) (b : Bool), k ≤ s.size ∧ Hid ((s.data.toList.take k).all Lx.wordB = true) ∧ Hid ((s.data.toList.take k).all Lx.digitB = b) ∧ d = .bool b ∧ i = .int .i64 k) (fun _ i => s.size - (intOf i).toNat)
          case atStart => exact ⟨0, true, by omega, Lib.hid rfl, Lib.hid rfl, rfl, rfl⟩
          case round =>
            obtain ⟨k, b, hk, HW, HD, rfl, rfl⟩ := hrel
            by_cases hlt : k < s.size
            · cases hb : Lx.wordB s[k]
              · have HR := Lib.hid (rk_bad HNS.out (byte_get s k hlt) hb)
                have HB := Lib.hid hb; clear hb
                go_wp2_with (go_at_call 19; refine (word_b _ _ _ HB.out).mono ?_; rintro e w' ⟨rfl, rfl⟩)
                go_ret
                exact ⟨by rw [HR.out]; rfl, hbel⟩
              · have HB := Lib.hid hb
                have HW2 := Lib.hid ((all_snoc s k hlt Lx.wordB).trans (by rw [HW.out, hb]))
                clear hb
                cases b
                · have HD3 := Lib.hid ((all_snoc s k hlt Lx.digitB).trans (by rw [HD.out, Bool.false_and]))
                  go_wp2_with (go_at_call 19; refine (word_b _ _ _ HB.out).mono ?_; rintro e w' ⟨rfl, rfl⟩)
                  go_round
                  case rel => exact ⟨k + 1, false, by omega, HW2, HD3, rfl, by go_num⟩
                  case measure => simp [intOf]; omega
                · obtain ⟨b2, hb2⟩ : ∃ b2, Lx.digitB s[k] = b2 := ⟨_, rfl⟩
                  have HD2 := Lib.hid hb2
                  have HD3 := Lib.hid ((all_snoc s k hlt Lx.digitB).trans (by rw [HD.out, hb2, Bool.true_and]))
                  clear hb2
                  go_wp2_with (first | (go_at_call 19; refine (word_b _ _ _ HB.out).mono ?_; rintro e w' ⟨rfl, rfl⟩) | (go_at_call 25; refine (rdigit_b _ _ _ HD2.out).mono ?_; rintro e w' ⟨rfl, rfl⟩))
                  go_round
                  case rel => exact ⟨k + 1, b2, by omega, HW2, HD3, by simp, by go_num⟩
                  case measure => simp [intOf]; omega
            · obtain rfl : k = s.size := by omega
              have hall : s.data.toList.take s.size = s.data.toList := List.take_of_length_le (by rw [size_len]; exact Nat.le_refl _)
              have hw := HW.out; have hd := HD.out
              rw [hall] at hw hd
              have HR := Lib.hid (rk_word HNS.out (by rw [size_len]; omega) hw)
              have HK := Lib.hid (wk_eq hsz)
              have HDD := Lib.hid hd
              clear hw hall
              have hloop : decide ((s.size : Int) < (s.size : Int)) = false := by simp
              cases h1 : lowB (s[0].toNat : Int)
              · cases h2 : uppB (s[0].toNat : Int)
                · cases b
                  · clear hd
                    have HV := Lib.hid (show Lx.rkind s.data.toList = 0 by rw [HR.out, HK.out, if_neg (by omega), h1, h2, HDD.out]; first | rfl | (simp; omega) | simp)
                    have H1 := Lib.hid h1; have H2 := Lib.hid h2; clear h1 h2
                    go_wp2_with (first | (go_at_call 26; refine (rlower_any _ _).mono ?_; rintro e w' ⟨rfl, rfl⟩; rw [H1.out]) | (go_at_call 27; refine (rupper_any _ _).mono ?_; rintro e w' ⟨rfl, rfl⟩; rw [H2.out]))
                    go_ret
                    exact ⟨by rw [HV.out]; rfl, hbel⟩
                  · clear hd
                    by_cases h4 : (s.size : Int) ≤ 4
                    · cases h5 : ((s[0].toNat : Int) != 48)
                      · by_cases h6 : (s.size : Int) = 1
                        · have h7 : ((s.size : Int) == 1) = true := by simpa using h6
                          have HV := Lib.hid (show Lx.rkind s.data.toList = 3 by rw [HR.out, HK.out, if_neg (by omega), h1, h2, HDD.out, h5, h7]; first | rfl | (simp; omega) | simp)
                          have H1 := Lib.hid h1; have H2 := Lib.hid h2; have H6 := Lib.hid h6; clear h1 h2 h6
                          go_wp2_with (first | (go_at_call 26; refine (rlower_any _ _).mono ?_; rintro e w' ⟨rfl, rfl⟩; rw [H1.out]) | (go_at_call 27; refine (rupper_any _ _).mono ?_; rintro e w' ⟨rfl, rfl⟩; rw [H2.out]))
                          go_ret
                          exact ⟨by rw [HV.out]; rfl, hbel⟩
                        · have h7 : ((s.size : Int) == 1) = false := by simpa using h6
                          have HV := Lib.hid (show Lx.rkind s.data.toList = 0 by rw [HR.out, HK.out, if_neg (by omega), h1, h2, HDD.out, h5, h7]; first | rfl | (simp; omega) | simp)
                          have H1 := Lib.hid h1; have H2 := Lib.hid h2; clear h1 h2
                          go_wp2_with (first | (go_at_call 26; refine (rlower_any _ _).mono ?_; rintro e w' ⟨rfl, rfl⟩; rw [H1.out]) | (go_at_call 27; refine (rupper_any _ _).mono ?_; rintro e w' ⟨rfl, rfl⟩; rw [H2.out]))
                          go_ret
                          exact ⟨by rw [HV.out]; rfl, hbel⟩
                      · skip
                        have HV := Lib.hid (show Lx.rkind s.data.toList = 3 by rw [HR.out, HK.out, if_neg (by omega), h1, h2, HDD.out, h5]; first | rfl | (simp; omega) | simp)
                        have H1 := Lib.hid h1; have H2 := Lib.hid h2; clear h1 h2
                        go_wp2_with (first | (go_at_call 26; refine (rlower_any _ _).mono ?_; rintro e w' ⟨rfl, rfl⟩; rw [H1.out]) | (go_at_call 27; refine (rupper_any _ _).mono ?_; rintro e w' ⟨rfl, rfl⟩; rw [H2.out]))
                        go_ret
                        exact ⟨by rw [HV.out]; rfl, hbel⟩
                    · skip
                      have HV := Lib.hid (show Lx.rkind s.data.toList = 0 by rw [HR.out, HK.out, if_neg (by omega), h1, h2, HDD.out]; first | rfl | (simp; omega) | simp)
                      have H1 := Lib.hid h1; have H2 := Lib.hid h2; clear h1 h2
                      go_wp2_with (first | (go_at_call 26; refine (rlower_any _ _).mono ?_; rintro e w' ⟨rfl, rfl⟩; rw [H1.out]) | (go_at_call 27; refine (rupper_any _ _).mono ?_; rintro e w' ⟨rfl, rfl⟩; rw [H2.out]))
                      go_ret
                      exact ⟨by rw [HV.out]; rfl, hbel⟩
                · skip
                  have HV := Lib.hid (show Lx.rkind s.data.toList = 2 by rw [HR.out, HK.out, if_neg (by omega), h1, h2]; first | rfl | (simp; omega) | simp)
                  have H1 := Lib.hid h1; have H2 := Lib.hid h2; clear h1 h2
                  go_wp2_with (first | (go_at_call 26; refine (rlower_any _ _).mono ?_; rintro e w' ⟨rfl, rfl⟩; rw [H1.out]) | (go_at_call 27; refine (rupper_any _ _).mono ?_; rintro e w' ⟨rfl, rfl⟩; rw [H2.out]))
                  go_ret
                  exact ⟨by rw [HV.out]; rfl, hbel⟩
              · skip
                have HV := Lib.hid (show Lx.rkind s.data.toList = 1 by rw [HR.out, HK.out, if_neg (by omega), h1]; first | rfl | (simp; omega) | simp)
                have H1 := Lib.hid h1; clear h1
                go_wp2_with (go_at_call 26; refine (rlower_any _ _).mono ?_; rintro e w' ⟨rfl, rfl⟩; rw [H1.out])
                go_ret
                exact ⟨by rw [HV.out]; rfl, hbel⟩
end Go.Proofs.YtgoplhlbcmfocaaDoor
