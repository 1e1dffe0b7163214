/- The walk of LexerLongest. -/
import Derived.Test.YtgoplhlbcmfocaaDoorCow
namespace Go.Proofs.YtgoplhlbcmfocaaDoor.lexerLongest
set_option linter.unusedVariables false
set_option linter.unusedSimpArgs false
open Go.RowKit
/-- What a round of the law finds at token k. -/
structure AtL (s : ByteArray) (p kd : Nat) (t : ByteArray) : Prop where
  pos : 0 < t.size
  fits : p + t.size ≤ s.size
  more : ∀ n, p + t.size < n → n ≤ s.size → Lx.rkind (s.extract p n).data.toList = 0
  word : ∀ (h : p + t.size < s.size), kd ≠ 4 → Lx.wordB s[p + t.size] = false
theorem atL {s : ByteArray} (h : (Lx.lex s.data.toList).2.1 = 0) {k : Nat} (hk : k < (Lx.lex s.data.toList).1.length) :
    AtL s (Lx.lex s.data.toList).1[k].pos (Lx.lex s.data.toList).1[k].kind ⟨(Lx.lex s.data.toList).1[k].text.toArray⟩ := by
  obtain ⟨h1, h2, h3, h4, h5, h6⟩ := Lx.lex_get h
  obtain ⟨e1, e2, e3, e4, e5, e6⟩ := h4 k hk
  have hsz : (⟨(Lx.lex s.data.toList).1[k].text.toArray⟩ : ByteArray).size = (Lx.lex s.data.toList).1[k].text.length := by rw [← size_len]
  rw [← hsz] at e2 e4 e6
  generalize (⟨(Lx.lex s.data.toList).1[k].text.toArray⟩ : ByteArray) = t at *
  generalize (Lx.lex s.data.toList).1[k].pos = p at *
  generalize (Lx.lex s.data.toList).1[k].kind = kd at *
  rw [size_len] at e2
  refine ⟨e6, e2, fun n hn hs => ?_, fun hlt h4 => ?_⟩
  · rw [Lib.extract_data]
    exact Lx.rkind_more e4 e5 (by omega) (by rw [List.length_drop, size_len]; omega)
  · have := Lx.word_after e4 e5 h4 (by rw [List.length_drop, size_len]; omega)
    rw [List.getElem_drop] at this
    exact this
set_option maxHeartbeats 4000000 in
set_option maxRecDepth 100000 in
theorem law_walk (s : ByteArray) (w : World) (hy : Syms w) (hm : s.size ≤ 9223372036854775807) :
    Calls Tryd.prog 6 #[.string s] w fun e w' => e = .returned (.bool true) ∧ Below w.heap.size w w' := by
  have hl := hy.lt
  by_cases h81 : s.size ≤ 8100
  · have d1 : decide ((s.size : Int) ≤ 8100) = true := by simp; omega
    by_cases he : (Lx.lex s.data.toList).2.1 = 0
    · obtain ⟨g1, g2, g3, g4, g5, g6⟩ := Lx.lex_get he
      have H3 := Lib.hid (fun k hk => @atL s he k hk)
      have HE := Lib.hid he
      clear g4 he g1 g3 g5 g6
      go_enter Tryd.func6, Tryd.ntmps6
      go_wp2_with fail
      refine (head_any _ hy).mono ?_
      rintro e w1 ⟨rfl, b1⟩
      have y1 := hy.below b1 hl
      go_wp2_with fail
      refine (small_any _ true _ hm d1).mono ?_
      rintro e w' ⟨rfl, rfl⟩
      go_wp2_with fail
      refine (lex_any _ _ y1 hm).mono ?_
      rintro e w2 ⟨A2, c2, rfl, o2, b2⟩
      rw [HE.out]
      obtain ⟨er, her⟩ : ∃ er, er = (Lx.lex s.data.toList).2.2 := ⟨_, rfl⟩
      rw [← her]; clear her
      obtain ⟨ts, hts⟩ : ∃ ts, ts = (Lx.lex s.data.toList).1 := ⟨_, rfl⟩
      rw [← hts] at o2 g2 H3 ⊢
      clear hts HE
      have hr := Reads3.own o2
      clear o2
      have bw := b1.trans (b2.mono b1.size)
      go_wp2_with fail
      go_loopw [7] (fun i wr => ∃ k : Nat, k ≤ ts.length ∧ i = .int .i64 k ∧ Below w2.heap.size w2 wr) (fun i _ => ts.length - (intOf i).toNat)
      case atStart => exact ⟨0, by omega, rfl, Below.refl _ _⟩
      case round =>
        obtain ⟨k, hk, rfl, hbr⟩ := hrel
        by_cases hlt : k < ts.length
        · obtain ⟨g, o, rfl, hg0, z0, z1, z2⟩ := hr.tok hlt
          have c0 := (hbr.cell (p := ⟨g, o + k * 3, none⟩) hg0).trans z0
          have c1 := (hbr.cell (p := ⟨g, o + k * 3 + 1, none⟩) hg0).trans z1
          have c2' := (hbr.cell (p := ⟨g, o + k * 3 + 2, none⟩) hg0).trans z2
          have q := H3.out k hlt
          generalize ts[k].pos = p at *
          generalize ts[k].kind = kd at *
          generalize (⟨ts[k].text.toArray⟩ : ByteArray) = t at *
          obtain ⟨q1, q2, q3, q4⟩ := q
          have HM := Lib.hid q3
          have HW := Lib.hid q4
          clear q3 q4 H3 hr
          have d4 : decide ((s.size : Int) < (p : Int) + (t.size : Int)) = false := by simp; omega
          have d5 : decide ((p : Int) < 0) = false := by simp
          go_wp2
          go_quiet (fail)
          go_wp2
          obtain ⟨wo, hwo⟩ : ∃ wo, wo = wr.drewN nq := ⟨_, rfl⟩
          have hbo : Below w2.heap.size w2 wo := by rw [hwo]; exact below_drewN hbr nq
          rw [← hwo]
          clear hwo c0 c1 c2' hbr
          go_loopw [9] (fun i wi => ∃ n : Nat, p + t.size < n ∧ n ≤ p + t.size + 3 ∧ i = .int .i64 n ∧ Below w2.heap.size w2 wi) (fun i _ => p + t.size + 3 - (intOf i).toNat)
          case atStart => exact ⟨p + t.size + 1, by omega, by omega, by go_num, hbo⟩
          case round =>
            obtain ⟨n, hn1, hn2, rfl, hbi⟩ := hrel
            have c0 := (hbi.cell (p := ⟨g, o + k * 3, none⟩) hg0).trans z0
            have c1 := (hbi.cell (p := ⟨g, o + k * 3 + 1, none⟩) hg0).trans z1
            have c2' := (hbi.cell (p := ⟨g, o + k * 3 + 2, none⟩) hg0).trans z2
            by_cases hc : n ≤ s.size ∧ n ≤ p + t.size + 2
            · obtain ⟨hc1, hc2⟩ := hc
              have e1 : decide ((n : Int) ≤ (s.size : Int)) = true := by simp; omega
              have e1n : decide (n ≤ s.size) = true := by simp; omega
              have e2 : decide ((n : Int) ≤ (p : Int) + (t.size : Int) + 2) = true := by simp; omega
              have HK := Lib.hid (HM.out n hn1 hc1)
              have HX := Lib.hid (show (s.extract p n).size ≤ 9223372036854775807 by rw [← size_len, Lib.extract_data, List.length_take, List.length_drop, size_len]; omega)
              go_wp2_with (go_at_call 16; refine (rkind_k _ _ _ HX.out HK.out).mono ?_; rintro e w4 ⟨rfl, b4⟩)
              go_roundw
              case rel => exact ⟨n + 1, by omega, by omega, by go_num, hbi.trans (b4.mono hbi.size)⟩
              case measure => simp [intOf]; omega
            · by_cases hc1 : n ≤ s.size
              · have e1 : decide ((n : Int) ≤ (s.size : Int)) = true := by simp; omega
                have e1n : decide (n ≤ s.size) = true := by simp; omega
                have e2 : decide ((n : Int) ≤ (p : Int) + (t.size : Int) + 2) = false := by simp; omega
                go_wp2_with (go_at_call 19; refine (word_b _ false _ (HW.out (by omega) (by omega))).mono ?_; rintro e w' ⟨rfl, rfl⟩)
                all_goals
                  go_roundw
                  case rel => exact ⟨k + 1, by omega, by go_num, hbi⟩
                  case measure => simp [intOf]; omega
              · have e1 : decide ((n : Int) ≤ (s.size : Int)) = false := by simp; omega
                have e1n : decide (n ≤ s.size) = false := by simp; omega
                go_wp2_with (go_at_call 19; refine (word_b _ false _ (HW.out (by omega) (by omega))).mono ?_; rintro e w' ⟨rfl, rfl⟩)
                all_goals
                  go_roundw
                  case rel => exact ⟨k + 1, by omega, by go_num, hbi⟩
                  case measure => simp [intOf]; omega
        · obtain rfl : k = ts.length := by omega
          go_wp2
          go_ret
          exact ⟨rfl, bw.trans (hbr.mono bw.size)⟩
    · obtain ⟨hnil, her⟩ := lex_err he
      have hne : (((Lx.lex s.data.toList).2.1) != 0) = true := by simp [he]
      have HN := Lib.hid hnil; have HR := Lib.hid her
      clear he hnil her
      go_enter Tryd.func6, Tryd.ntmps6
      go_wp2_with fail
      refine (head_any _ hy).mono ?_
      rintro e w1 ⟨rfl, b1⟩
      have y1 := hy.below b1 hl
      go_wp2_with fail
      refine (small_any _ true _ hm d1).mono ?_
      rintro e w' ⟨rfl, rfl⟩
      go_wp2_with fail
      refine (lex_any _ _ y1 hm).mono ?_
      rintro e w2 ⟨A2, c2, rfl, o2, b2⟩
      clear o2
      generalize Lx.lex s.data.toList = L at *
      obtain ⟨ts, er, n⟩ := L
      dsimp only at *
      go_wp2
      go_ret
      exact ⟨rfl, b1.trans (b2.mono b1.size)⟩
  · have d1 : decide ((s.size : Int) ≤ 8100) = false := by simp; omega
    go_enter Tryd.func6, Tryd.ntmps6
    go_wp2_with fail
    refine (head_any _ hy).mono ?_
    rintro e w1 ⟨rfl, b1⟩
    go_wp2_with fail
    refine (small_any _ false _ hm d1).mono ?_
    rintro e w' ⟨rfl, rfl⟩
    go_wp2
    go_ret
    exact ⟨rfl, b1⟩
end Go.Proofs.YtgoplhlbcmfocaaDoor.lexerLongest
