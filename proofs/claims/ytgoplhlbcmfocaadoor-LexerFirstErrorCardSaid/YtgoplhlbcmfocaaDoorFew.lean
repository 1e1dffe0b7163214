/- The walk of LexerFirstError. -/
import Derived.Test.YtgoplhlbcmfocaaDoorLawGap
import Derived.Test.YtgoplhlbcmfocaaDoorPlain5
namespace Go.Proofs.YtgoplhlbcmfocaaDoor.lexerFirstError
set_option linter.unusedVariables false
set_option linter.unusedSimpArgs false
open Go.RowKit
theorem app_data (a b : ByteArray) : (a ++ b).data.toList = a.data.toList ++ b.data.toList := by simp [ByteArray.data_append]
theorem app_size (a b : ByteArray) : (a ++ b).size = a.size + b.size := by rw [← size_len, app_data, List.length_append, size_len, size_len]
set_option maxHeartbeats 4000000 in
set_option maxRecDepth 100000 in
theorem law_walk (s m : ByteArray) (w : World) (hy : Syms w) (hs : s.size ≤ 9223372036854775807) (hm : m.size ≤ 9223372036854775807) :
    Calls Tryd.prog 8 #[.string s, .string m] w fun e w' => e = .returned (.bool true) ∧ Below w.heap.size w w' := by
  have hl := hy.lt
  by_cases h80 : s.size ≤ 8000
  · have d1 : decide ((8000 : Int) < (s.size : Int)) = false := by simp; omega
    by_cases h60 : m.size ≤ 60
    · have d2 : decide ((60 : Int) < (m.size : Int)) = false := by simp; omega
      by_cases he : (Lx.lex s.data.toList).2.1 = 0
      · have hg := (Lx.lex_get he).2.2.1
        have HE := Lib.hid he; have HG := Lib.hid hg
        clear he hg
        go_enter Tryd.func8, Tryd.ntmps8
        go_wp2_with fail
        refine (head_any _ hy).mono ?_
        rintro e w1 ⟨rfl, b1⟩
        have y1 := hy.below b1 hl
        go_wp2_with fail
        refine (lex_any _ _ y1 hs).mono ?_
        rintro e w2 ⟨A2, c2, rfl, o2, b2⟩
        rw [HE.out, HG.out]
        clear o2
        go_wp2
        go_ret
        exact ⟨rfl, b1.trans (b2.mono b1.size)⟩
      · obtain ⟨M, hM1, hM2, hM3, hM4⟩ := Lx.lex_first (by rw [size_len]; exact h80) he
        rw [size_len] at hM2 hM4
        obtain ⟨_, her⟩ := lex_err he
        have HM3 := Lib.hid hM3
        clear hM3 he
        obtain ⟨er, hEr⟩ : ∃ er, er = (Lx.lex s.data.toList).2.1 := ⟨_, rfl⟩
        rw [← hEr] at hM4 her
        have HM1 := Lib.hid hM1; have HER := Lib.hid hEr; have HM4 := Lib.hid hM4
        clear hM1 hEr hM4
        have e0 : ((er : Int) == 0) = false := by rcases her with rfl | rfl <;> rfl
        have d3 : decide ((M : Int) < 0) = false := by simp
        have d4 : decide ((s.size : Int) ≤ (M : Int)) = false := by simp; omega
        have d4n : decide (s.size ≤ M) = false := by simp; omega
        have hxs : (s.extract 0 M).size ≤ 9223372036854775807 := by rw [← size_len, ext_take, List.length_take, size_len]; omega
        have HX := Lib.hid hxs
        have HL2 := Lib.hid (show (Lx.lex (s.extract 0 M).data.toList).2.1 = 0 by rw [ext_take]; exact HM3.out)
        clear hxs
        rcases her with rfl | rfl
        · go_enter Tryd.func8, Tryd.ntmps8
          go_wp2_with fail
          refine (head_any _ hy).mono ?_
          rintro e w1 ⟨rfl, b1⟩
          have y1 := hy.below b1 hl
          go_wp2_with fail
          refine (lex_any _ _ y1 hs).mono ?_
          rintro e w2 ⟨A2, c2, rfl, o2, b2⟩
          rw [← HER.out, HM1.out]
          clear o2
          have y2 := y1.below b2 y1.lt
          go_wp2_with fail
          refine (lex_any _ _ y2 HX.out).mono ?_
          rintro e w3 ⟨A3, c3, rfl, o3, b3⟩
          rw [HL2.out]
          clear o3
          go_wp2
          go_ret
          exact ⟨rfl, (b1.trans (b2.mono b1.size)).trans (b3.mono (Nat.le_trans b1.size b2.size))⟩
        · by_cases h18 : M + 18 < s.size
          · have d5 : decide ((s.size : Int) ≤ (M : Int) + 18) = false := by simp; omega
            by_cases h82 : M + 18 + m.size ≤ 8000
            · have d6 : decide ((8000 : Int) < (M : Int) + 18 + (m.size : Int)) = false := by simp; omega
              have HF := Lib.hid (HM4.out rfl h18 m.data.toList (by rw [size_len]; exact h82))
              have HL3 := Lib.hid (show Lx.lex (s.extract 0 (M + 18) ++ m).data.toList = ([], 40, (M : Int)) by rw [app_data, ext_take]; exact HF.out)
              have HX3 := Lib.hid (show (s.extract 0 (M + 18) ++ m).size ≤ 9223372036854775807 by rw [app_size, ← size_len (s.extract 0 (M + 18)), ext_take, List.length_take, size_len]; omega)
              go_enter Tryd.func8, Tryd.ntmps8
              go_wp2_with fail
              refine (head_any _ hy).mono ?_
              rintro e w1 ⟨rfl, b1⟩
              have y1 := hy.below b1 hl
              go_wp2_with fail
              refine (lex_any _ _ y1 hs).mono ?_
              rintro e w2 ⟨A2, c2, rfl, o2, b2⟩
              rw [← HER.out, HM1.out]
              clear o2
              have y2 := y1.below b2 y1.lt
              go_wp2_with fail
              refine (lex_any _ _ y2 HX.out).mono ?_
              rintro e w3 ⟨A3, c3, rfl, o3, b3⟩
              rw [HL2.out]
              clear o3
              have y3 := y2.below b3 y2.lt
              go_wp2_with fail
              refine (lex_any _ _ y3 HX3.out).mono ?_
              rintro e w4 ⟨A4, c4, rfl, o4, b4⟩
              rw [HL3.out]
              clear o4
              go_wp2
              go_ret
              exact ⟨rfl, ((b1.trans (b2.mono b1.size)).trans (b3.mono (Nat.le_trans b1.size b2.size))).trans (b4.mono (Nat.le_trans b1.size (Nat.le_trans b2.size b3.size)))⟩
            · have d6 : decide ((8000 : Int) < (M : Int) + 18 + (m.size : Int)) = true := by simp; omega
              go_enter Tryd.func8, Tryd.ntmps8
              go_wp2_with fail
              refine (head_any _ hy).mono ?_
              rintro e w1 ⟨rfl, b1⟩
              have y1 := hy.below b1 hl
              go_wp2_with fail
              refine (lex_any _ _ y1 hs).mono ?_
              rintro e w2 ⟨A2, c2, rfl, o2, b2⟩
              rw [← HER.out, HM1.out]
              clear o2
              have y2 := y1.below b2 y1.lt
              go_wp2_with fail
              refine (lex_any _ _ y2 HX.out).mono ?_
              rintro e w3 ⟨A3, c3, rfl, o3, b3⟩
              rw [HL2.out]
              clear o3
              go_wp2
              go_ret
              exact ⟨rfl, (b1.trans (b2.mono b1.size)).trans (b3.mono (Nat.le_trans b1.size b2.size))⟩
          · have d5 : decide ((s.size : Int) ≤ (M : Int) + 18) = true := by simp; omega
            go_enter Tryd.func8, Tryd.ntmps8
            go_wp2_with fail
            refine (head_any _ hy).mono ?_
            rintro e w1 ⟨rfl, b1⟩
            have y1 := hy.below b1 hl
            go_wp2_with fail
            refine (lex_any _ _ y1 hs).mono ?_
            rintro e w2 ⟨A2, c2, rfl, o2, b2⟩
            rw [← HER.out, HM1.out]
            clear o2
            have y2 := y1.below b2 y1.lt
            go_wp2_with fail
            refine (lex_any _ _ y2 HX.out).mono ?_
            rintro e w3 ⟨A3, c3, rfl, o3, b3⟩
            rw [HL2.out]
            clear o3
            go_wp2
            go_ret
            exact ⟨rfl, (b1.trans (b2.mono b1.size)).trans (b3.mono (Nat.le_trans b1.size b2.size))⟩
    · have d2 : decide ((60 : Int) < (m.size : Int)) = true := by simp; omega
      go_enter Tryd.func8, Tryd.ntmps8
      go_wp2_with fail
      refine (head_any _ hy).mono ?_
      rintro e w1 ⟨rfl, b1⟩
      go_wp2
      go_ret
      exact ⟨rfl, b1⟩
  · have d1 : decide ((8000 : Int) < (s.size : Int)) = true := by simp; omega
    go_enter Tryd.func8, Tryd.ntmps8
    go_wp2_with fail
    refine (head_any _ hy).mono ?_
    rintro e w1 ⟨rfl, b1⟩
    go_wp2
    go_ret
    exact ⟨rfl, b1⟩
end Go.Proofs.YtgoplhlbcmfocaaDoor.lexerFirstError
