/- The walk of LexerConcat. -/
import Derived.Test.YtgoplhlbcmfocaaDoorFew
namespace Go.Proofs.YtgoplhlbcmfocaaDoor.lexerConcat
set_option linter.unusedVariables false
set_option linter.unusedSimpArgs false
open Go.RowKit
open lexerFirstError (app_data app_size)
theorem tokz {x y z : List Lx.Tok} {d : Nat} (h : z = x ++ y.map (Lx.shift d)) :
    z.length = x.length + y.length ∧ (∀ (k : Nat) (h1 : k < z.length) (h2 : k < x.length), z[k] = x[k]) ∧ (∀ (k : Nat) (h1 : k < z.length) (_ : ¬ k < x.length) (h3 : k - x.length < y.length), z[k] = Lx.shift d y[k - x.length]) := by
  subst h
  refine ⟨by simp, fun k h1 h2 => List.getElem_append_left h2, fun k h1 h2 h3 => ?_⟩
  rw [List.getElem_append_right (by omega), List.getElem_map]
set_option maxHeartbeats 4000000 in
set_option maxRecDepth 100000 in
theorem law_walk (a b : ByteArray) (w : World) (hy : Syms w) (ha : a.size ≤ 9223372036854775807) (hb : b.size ≤ 9223372036854775807) :
    Calls Tryd.prog 7 #[.string a, .string b] w fun e w' => e = .returned (.bool true) ∧ Below w.heap.size w w' := by
  have hl := hy.lt
  by_cases h40 : a.size ≤ 4000
  · have d1 : decide ((4000 : Int) < (a.size : Int)) = false := by simp; omega
    by_cases h39 : b.size ≤ 3999
    · have d2 : decide ((3999 : Int) < (b.size : Int)) = false := by simp; omega
      have HZ : Hid ((a ++ ⟨#[10]⟩ ++ b).data.toList = a.data.toList ++ 10 :: b.data.toList) := Lib.hid (by rw [app_data, app_data]; simp)
      have HX := Lib.hid (show (a ++ ⟨#[10]⟩ ++ b).size ≤ 9223372036854775807 by rw [app_size, app_size]; have : (⟨#[10]⟩ : ByteArray).size = 1 := rfl; omega)
      by_cases he : (Lx.lex a.data.toList).2.1 = 0
      · by_cases hf : (Lx.lex b.data.toList).2.1 = 0
        · obtain ⟨hc1, hc2⟩ := Lx.lex_concat_ok he hf (by rw [size_len]; exact h40) (by rw [size_len]; exact h39)
          have m1 := (Lx.lex_get he).2.1
          have m2 := (Lx.lex_get hf).2.1
          have HPB := Lib.hid (show ∀ (k : Nat) (h : k < (Lx.lex b.data.toList).1.length), (Lx.lex b.data.toList).1[k].pos ≤ 4000 from fun k h => by have := ((Lx.lex_get hf).2.2.2.1 k h).2.1; rw [size_len] at this; omega)
          rw [size_len] at hc2
          have HE := Lib.hid he; have HF := Lib.hid hf; have HC1 := Lib.hid hc1; have HC2 := Lib.hid hc2
          clear he hf hc1 hc2
          go_enter Tryd.func7, Tryd.ntmps7
          go_wp2_with fail
          refine (head_any _ hy).mono ?_
          rintro e w1 ⟨rfl, b1⟩
          have y1 := hy.below b1 hl
          go_wp2_with fail
          refine (lex_any _ _ y1 ha).mono ?_
          rintro e w2 ⟨A2, c2, rfl, o2, b2⟩
          rw [HE.out]
          have y2 := y1.below b2 y1.lt
          generalize (Lx.lex a.data.toList).2.2 = n2
          obtain ⟨xs, hxs⟩ : ∃ xs, xs = (Lx.lex a.data.toList).1 := ⟨_, rfl⟩
          rw [← hxs] at o2 m1 HC1 HC2 ⊢
          clear hxs HE
          go_wp2_with fail
          refine (lex_any _ _ y2 hb).mono ?_
          rintro e w3 ⟨A3, c3, rfl, o3, b3⟩
          rw [HF.out]
          have y3 := y2.below b3 y2.lt
          generalize (Lx.lex b.data.toList).2.2 = n3
          obtain ⟨ys, hys⟩ : ∃ ys, ys = (Lx.lex b.data.toList).1 := ⟨_, rfl⟩
          rw [← hys] at o3 m2 HC1 HC2 HPB ⊢
          clear hys HF
          have r2 := Reads3.own o2
          have r3 := Reads3.own o3
          clear o2 o3
          have bw3 := (b1.trans (b2.mono b1.size)).trans (b3.mono (Nat.le_trans b1.size b2.size))
          by_cases h3 : xs.length + ys.length ≤ 3000
          · have d3 : decide ((3000 : Int) < (xs.length : Int) + (ys.length : Int)) = false := by simp; omega
            obtain ⟨zs, hzs⟩ : ∃ zs, zs = xs ++ ys.map (Lx.shift (a.size + 1)) := ⟨_, rfl⟩
            have hz := HC2.out h3
            rw [← hzs] at hz
            obtain ⟨t1, t2, t3⟩ := tokz hzs
            have HZZ := Lib.hid (show Lx.lex (a ++ ⟨#[10]⟩ ++ b).data.toList = (zs, 0, -1) by rw [HZ.out]; exact hz)
            have HT1 := Lib.hid t1; have HT2 := Lib.hid t2; have HT3 := Lib.hid t3
            have n1 : zs.length ≤ xs.length + ys.length := by omega
            have n2' : xs.length + ys.length ≤ zs.length := by omega
            have d4 : ((zs.length : Int) != (xs.length : Int) + (ys.length : Int)) = false := by simp; omega
            clear hz hzs t1 t2 t3 HC1 HC2
            go_wp2_with fail
            refine (lex_val _ y3 HX.out HZZ.out).mono ?_
            rintro e w4 ⟨A4, c4, rfl, o4, b4⟩
            have r4 := Reads3.own o4
            clear o4
            have s2 := (r2.below b3).below b4
            have s3 := r3.below b4
            clear r2 r3
            have bw4 := bw3.trans (b4.mono bw3.size)
            go_wp2_with fail
            go_loopw [15] (fun i wr => ∃ k : Nat, k ≤ zs.length ∧ i = .int .i64 k ∧ Below w4.heap.size w4 wr) (fun i _ => zs.length - (intOf i).toNat)
            case atStart => exact ⟨0, by omega, rfl, Below.refl _ _⟩
            case round =>
              obtain ⟨k, hk, rfl, hbr⟩ := hrel
              by_cases hlt : k < zs.length
              · obtain ⟨g, o, rfl, hg0, z0, z1, z2⟩ := r4.tok hlt
                have c0 := (hbr.cell (p := ⟨g, o + k * 3, none⟩) hg0).trans z0
                have c1 := (hbr.cell (p := ⟨g, o + k * 3 + 1, none⟩) hg0).trans z1
                have c2' := (hbr.cell (p := ⟨g, o + k * 3 + 2, none⟩) hg0).trans z2
                have hgr : g < wr.heap.size := Nat.lt_of_lt_of_le hg0 hbr.size
                clear z0 z1 z2
                by_cases hx : k < xs.length
                · obtain ⟨g2, o2, rfl, hg2, x0, x1, x2⟩ := s2.tok hx
                  have e0 := (hbr.cell (p := ⟨g2, o2 + k * 3, none⟩) hg2).trans x0
                  have e1 := (hbr.cell (p := ⟨g2, o2 + k * 3 + 1, none⟩) hg2).trans x1
                  have e2 := (hbr.cell (p := ⟨g2, o2 + k * 3 + 2, none⟩) hg2).trans x2
                  have hg2r : g2 < wr.heap.size := Nat.lt_of_lt_of_le hg2 hbr.size
                  have heq := HT2.out k hlt hx
                  rw [heq] at c0 c1 c2'
                  clear x0 x1 x2 heq s2 s3 r4
                  generalize xs[k] = t at *
                  have d5 : decide ((k : Int) < (xs.length : Int)) = true := by simp; omega
                  go_wp2
                  go_quiet (fail)
                  go_wp2
                  go_roundw
                  case rel => exact ⟨k + 1, by omega, by go_num, below_drewN (hbr.alloc hbr.size _) _⟩
                  case measure => simp [intOf]; omega
                · obtain ⟨g2, o2, rfl, hg2, x0, x1, x2⟩ := s3.tok (k := k - xs.length) (by omega)
                  have e0 := (hbr.cell (p := ⟨g2, o2 + (k - xs.length) * 3, none⟩) hg2).trans x0
                  have e1 := (hbr.cell (p := ⟨g2, o2 + (k - xs.length) * 3 + 1, none⟩) hg2).trans x1
                  have e2 := (hbr.cell (p := ⟨g2, o2 + (k - xs.length) * 3 + 2, none⟩) hg2).trans x2
                  have hg2r : g2 < wr.heap.size := Nat.lt_of_lt_of_le hg2 hbr.size
                  have heq := HT3.out k hlt hx (by omega)
                  have hpb := HPB.out (k - xs.length) (by omega)
                  rw [heq] at c0 c1 c2'
                  clear x0 x1 x2 heq s2 s3 r4
                  generalize ys[k - xs.length] = t at *
                  have c0' : wr.cell? ⟨g, o + k * 3, none⟩ = some (.int .i64 (t.kind : Int)) := c0
                  have c1' : wr.cell? ⟨g, o + k * 3 + 1, none⟩ = some (.string ⟨t.text.toArray⟩) := c1
                  have c2'' : wr.cell? ⟨g, o + k * 3 + 2, none⟩ = some (.int .i64 ((t.pos : Int) + (a.size : Int) + 1)) := by
                    rw [c2']; simp only [Lx.shift]; go_num
                  clear c0 c1 c2'
                  have d5 : decide ((k : Int) < (xs.length : Int)) = false := by simp; omega
                  go_wp2
                  go_quiet (fail)
                  go_wp2
                  go_roundw
                  case rel => exact ⟨k + 1, by omega, by go_num, below_drewN (hbr.alloc hbr.size _) _⟩
                  case measure => simp [intOf]; omega
              · obtain rfl : k = zs.length := by omega
                go_wp2
                go_ret
                exact ⟨rfl, bw4.trans (hbr.mono bw4.size)⟩
          · have d3 : decide ((3000 : Int) < (xs.length : Int) + (ys.length : Int)) = true := by simp; omega
            have HZZ := Lib.hid (show (Lx.lex (a ++ ⟨#[10]⟩ ++ b).data.toList).2.1 = 2 by rw [HZ.out]; exact HC1.out (by omega))
            go_wp2_with fail
            refine (lex_any _ _ y3 HX.out).mono ?_
            rintro e w4 ⟨A4, c4, rfl, o4, b4⟩
            rw [HZZ.out]
            clear o4
            go_wp2
            go_ret
            exact ⟨rfl, bw3.trans (b4.mono bw3.size)⟩
        · obtain ⟨_, hfr⟩ := lex_err hf
          obtain ⟨fr, hFr⟩ : ∃ fr, fr = (Lx.lex b.data.toList).2.1 := ⟨_, rfl⟩
          rw [← hFr] at hfr
          have HE := Lib.hid he; have HF := Lib.hid hFr
          clear he hf hFr
          rcases hfr with rfl | rfl
          all_goals
            go_enter Tryd.func7, Tryd.ntmps7
            go_wp2_with fail
            refine (head_any _ hy).mono ?_
            rintro e w1 ⟨rfl, b1⟩
            have y1 := hy.below b1 hl
            go_wp2_with fail
            refine (lex_any _ _ y1 ha).mono ?_
            rintro e w2 ⟨A2, c2, rfl, o2, b2⟩
            rw [HE.out]
            have y2 := y1.below b2 y1.lt
            clear o2
            go_wp2_with fail
            refine (lex_any _ _ y2 hb).mono ?_
            rintro e w3 ⟨A3, c3, rfl, o3, b3⟩
            rw [← HF.out]
            have y3 := y2.below b3 y2.lt
            clear o3
            go_wp2_with fail
            refine (lex_any _ _ y3 HX.out).mono ?_
            rintro e w4 ⟨A4, c4, rfl, o4, b4⟩
            clear o4
            go_wp2
            go_ret
            exact ⟨rfl, ((b1.trans (b2.mono b1.size)).trans (b3.mono (Nat.le_trans b1.size b2.size))).trans (b4.mono (Nat.le_trans b1.size (Nat.le_trans b2.size b3.size)))⟩
      · have hce := Lx.lex_concat_err (b := b.data.toList) he (by rw [size_len]; exact h40) (by rw [size_len]; exact h39)
        obtain ⟨_, her⟩ := lex_err he
        obtain ⟨er, hEr⟩ : ∃ er, er = (Lx.lex a.data.toList).2.1 := ⟨_, rfl⟩
        rw [← hEr] at her hce
        have HE := Lib.hid hEr
        have HZZ := Lib.hid (show (Lx.lex (a ++ ⟨#[10]⟩ ++ b).data.toList).2.1 = er by rw [HZ.out]; exact hce)
        clear he hEr hce
        rcases her with rfl | rfl
        all_goals
          go_enter Tryd.func7, Tryd.ntmps7
          go_wp2_with fail
          refine (head_any _ hy).mono ?_
          rintro e w1 ⟨rfl, b1⟩
          have y1 := hy.below b1 hl
          go_wp2_with fail
          refine (lex_any _ _ y1 ha).mono ?_
          rintro e w2 ⟨A2, c2, rfl, o2, b2⟩
          rw [← HE.out]
          have y2 := y1.below b2 y1.lt
          clear o2
          go_wp2_with fail
          refine (lex_any _ _ y2 hb).mono ?_
          rintro e w3 ⟨A3, c3, rfl, o3, b3⟩
          have y3 := y2.below b3 y2.lt
          clear o3
          go_wp2_with fail
          refine (lex_any _ _ y3 HX.out).mono ?_
          rintro e w4 ⟨A4, c4, rfl, o4, b4⟩
          rw [HZZ.out]
          clear o4
          go_wp2
          go_ret
          exact ⟨rfl, ((b1.trans (b2.mono b1.size)).trans (b3.mono (Nat.le_trans b1.size b2.size))).trans (b4.mono (Nat.le_trans b1.size (Nat.le_trans b2.size b3.size)))⟩
    · have d2 : decide ((3999 : Int) < (b.size : Int)) = true := by simp; omega
      go_enter Tryd.func7, Tryd.ntmps7
      go_wp2_with fail
      refine (head_any _ hy).mono ?_
      rintro e w1 ⟨rfl, b1⟩
      go_wp2
      go_ret
      exact ⟨rfl, b1⟩
  · have d1 : decide ((4000 : Int) < (a.size : Int)) = true := by simp; omega
    go_enter Tryd.func7, Tryd.ntmps7
    go_wp2_with fail
    refine (head_any _ hy).mono ?_
    rintro e w1 ⟨rfl, b1⟩
    go_wp2
    go_ret
    exact ⟨rfl, b1⟩
end Go.Proofs.YtgoplhlbcmfocaaDoor.lexerConcat
