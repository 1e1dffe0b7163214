/- The walk of LexerCover. -/
import Derived.Test.YtgoplhlbcmfocaaDoorLawGap
namespace Go.Proofs.YtgoplhlbcmfocaaDoor.lexerCover
set_option linter.unusedVariables false
set_option linter.unusedSimpArgs false
open Go.RowKit
/-- What a round of the law finds at token k. -/
structure At3 (s : List UInt8) (a p kd : Nat) (t : ByteArray) : Prop where
  le : a ≤ p
  pos : 0 < t.size
  fits : p + t.size ≤ s.length
  text : t.data.toList = (s.drop p).take t.size
  gap : Lx.gapG false ((s.drop a).take (p - a)) = p - a
  kind : Lx.rkind t.data.toList = kd
theorem at3 {s : List UInt8} (h : (Lx.lex s).2.1 = 0) {k : Nat} (hk : k < (Lx.lex s).1.length) :
    At3 s (Lx.endAt 0 (Lx.lex s).1 k) (Lx.lex s).1[k].pos (Lx.lex s).1[k].kind ⟨(Lx.lex s).1[k].text.toArray⟩ := by
  obtain ⟨h1, h2, h3, h4, h5, h6⟩ := Lx.lex_get h
  obtain ⟨e1, e2, e3, e4, e5, e6⟩ := h4 k hk
  have hsz : (⟨(Lx.lex s).1[k].text.toArray⟩ : ByteArray).size = (Lx.lex s).1[k].text.length := by rw [← size_len]
  refine ⟨by omega, by omega, by omega, by rw [hsz]; exact e3, ?_, ?_⟩
  · rw [Lx.gapG_take]; omega
  · have := Lx.rkind_next e4 e5
    rw [← e3] at this
    exact this
set_option maxHeartbeats 4000000 in
set_option maxRecDepth 100000 in
theorem law_walk (s : ByteArray) (w : World) (hy : Syms w) (hm : s.size ≤ 9223372036854775807) :
    Calls Tryd.prog 4 #[.string s] w fun e w' => e = .returned (.bool true) ∧ Below w.heap.size w w' := by
  have hl := hy.lt
  by_cases h81 : s.size ≤ 8100
  · have d1 : decide ((s.size : Int) ≤ 8100) = true := by simp; omega
    by_cases he : (Lx.lex s.data.toList).2.1 = 0
    · obtain ⟨g1, g2, g3, g4, g5, g6⟩ := Lx.lex_get he
      have H3 := Lib.hid (fun k hk => @at3 s.data.toList he k hk)
      rw [size_len] at g5 g6
      have HE := Lib.hid he
      have HG6 := Lib.hid g6
      clear g4 he g1 g3 g6
      go_enter Tryd.func4, Tryd.ntmps4
      go_wp2_with fail
      refine (head_any _ hy).mono ?_
      rintro e w1 ⟨rfl, b1⟩
      have y1 := hy.below b1 hl
      go_wp2_with fail
      refine (small_any _ true _ hm d1).mono ?_
      rintro e w' ⟨rfl, rfl⟩
      go_wp2_with fail
      refine (lex_any _ _ y1 hm).mono ?_
      rintro e w2 ⟨A2, c2, rfl, o2, b2⟩
      rw [HE.out]
      obtain ⟨er, her⟩ : ∃ er, er = (Lx.lex s.data.toList).2.2 := ⟨_, rfl⟩
      rw [← her]; clear her
      obtain ⟨ts, hts⟩ : ∃ ts, ts = (Lx.lex s.data.toList).1 := ⟨_, rfl⟩
      rw [← hts] at o2 g2 g5 HG6 H3 ⊢
      clear hts HE
      have hr := Reads3.own o2
      clear o2
      have bw := b1.trans (b2.mono b1.size)
      go_wp2_with fail
      go_loopw [7, 8] (fun a i wr => ∃ k : Nat, k ≤ ts.length ∧ i = .int .i64 k ∧ a = .int .i64 (Lx.endAt 0 ts k : Nat) ∧ Below w2.heap.size w2 wr) (fun _ i _ => ts.length - (intOf i).toNat)
      case atStart => exact ⟨0, by omega, rfl, by cases ts <;> rfl, Below.refl _ _⟩
      case round =>
        obtain ⟨k, hk, rfl, rfl, hbr⟩ := hrel
        by_cases hlt : k < ts.length
        · obtain ⟨g, o, rfl, hg0, z0, z1, z2⟩ := hr.tok hlt
          have c0 := (hbr.cell (p := ⟨g, o + k * 3, none⟩) hg0).trans z0
          have c1 := (hbr.cell (p := ⟨g, o + k * 3 + 1, none⟩) hg0).trans z1
          have c2' := (hbr.cell (p := ⟨g, o + k * 3 + 2, none⟩) hg0).trans z2
          have q := H3.out k hlt
          have hend := Lx.endAt_succ ts 0 k hlt
          have hsz : (⟨ts[k].text.toArray⟩ : ByteArray).size = ts[k].text.length := by rw [← size_len]
          rw [← hsz] at hend
          have HEND := Lib.hid hend
          clear hend hsz
          obtain ⟨a, ha⟩ : ∃ a, a = Lx.endAt 0 ts k := ⟨_, rfl⟩
          rw [← ha] at q ⊢
          clear ha
          generalize ts[k].pos = p at *
          generalize ts[k].kind = kd at *
          generalize (⟨ts[k].text.toArray⟩ : ByteArray) = t at *
          obtain ⟨q1, q2, q3, q4, q5, q6⟩ := q
          rw [size_len] at q3
          have d2 : decide ((p : Int) < (a : Int)) = false := by simp; omega
          have d2n : decide (p < a) = false := by simp; omega
          have d3 : (((t.size : Nat) : Int) == 0) = false := beq_eq_false_iff_ne.2 (by omega)
          have d4 : decide ((s.size : Int) - (p : Int) < (t.size : Int)) = false := by simp; omega
          have d5 : ((s.extract p (p + t.size)).toList == t.toList) = true := by
            rw [Lib.toList_data, Lib.toList_data, Lib.extract_data, q4, Nat.add_sub_cancel_left]; simp
          have HGP := Lib.hid (show Lx.gapG false (s.extract a p).data.toList = (s.extract a p).size by
            rw [← size_len, Lib.extract_data, q5, List.length_take, List.length_drop, size_len]; omega)
          have HK := Lib.hid q6
          have hxs : (s.extract a p).size ≤ 9223372036854775807 := by rw [← size_len, Lib.extract_data, List.length_take, List.length_drop, size_len]; omega
          have HX := Lib.hid hxs
          clear q4 q5 q6 hxs H3 hr
          go_wp2_with fail
          simp only [List.append]
          have f0 : ∀ x : Held w2.heap.size w2, x.w.cell? ⟨g, o + k * 3, none⟩ = some (.int .i64 kd) := fun x => x.cell hg0 z0
          have f1 : ∀ x : Held w2.heap.size w2, x.w.cell? ⟨g, o + k * 3 + 1, none⟩ = some (.string t) := fun x => x.cell hg0 z1
          have f2 : ∀ x : Held w2.heap.size w2, x.w.cell? ⟨g, o + k * 3 + 2, none⟩ = some (.int .i64 p) := fun x => x.cell hg0 z2
          refine wp_region_held w2.heap.size w2 hbr (by kernel_rfl) (by kernel_rfl) ?_
          repeat (go_big_quiet_step (first
            | (go_at_call 15; exact held_same _ (lawgap_true _ _ HX.out HGP.out))
            | (go_at_call 16; exact held_call _ (Nat.le_refl _) (rkind_k _ _ _ (by omega) HK.out))))
          refine wpQuiet_nil ?_
          rintro _ ⟨⟨w5, h5⟩, rfl⟩
          have c2' := h5.cell (p := ⟨g, o + k * 3 + 2, none⟩) hg0
          rw [z2] at c2'
          clear f0 f1 f2
          go_wp2
          go_roundw
          case rel => exact ⟨k + 1, by omega, by go_num, by rw [HEND.out]; go_num, h5⟩
          case measure => simp [intOf]; omega
        · obtain rfl : k = ts.length := by omega
          obtain ⟨a, ha⟩ : ∃ a, a = Lx.endAt 0 ts ts.length := ⟨_, rfl⟩
          rw [← ha] at g5 HG6 ⊢
          have HGP := Lib.hid (show Lx.gapG false (s.extract a s.size).data.toList = (s.extract a s.size).size by
            have := HG6.out
            rw [← size_len (s.extract a s.size), ext_drop, List.length_drop, size_len]; omega)
          have HX := Lib.hid (show (s.extract a s.size).size ≤ 9223372036854775807 by rw [← size_len, ext_drop, List.length_drop, size_len]; omega)
          clear ha
          go_wp2_with (go_at_call 15; refine (lawgap_true _ _ HX.out HGP.out).mono ?_; rintro e w' ⟨rfl, rfl⟩)
          go_ret
          exact ⟨rfl, bw.trans (hbr.mono bw.size)⟩
    · obtain ⟨hnil, her⟩ := lex_err he
      have hne : (((Lx.lex s.data.toList).2.1) != 0) = true := by simp [he]
      have HN := Lib.hid hnil; have HR := Lib.hid her
      clear he hnil her
      go_enter Tryd.func4, Tryd.ntmps4
      go_wp2_with fail
      refine (head_any _ hy).mono ?_
      rintro e w1 ⟨rfl, b1⟩
      have y1 := hy.below b1 hl
      go_wp2_with fail
      refine (small_any _ true _ hm d1).mono ?_
      rintro e w' ⟨rfl, rfl⟩
      go_wp2_with fail
      refine (lex_any _ _ y1 hm).mono ?_
      rintro e w2 ⟨A2, c2, rfl, o2, b2⟩
      rw [HN.out]
      clear o2
      generalize Lx.lex s.data.toList = L at *
      obtain ⟨ts, er, n⟩ := L
      dsimp only at *
      go_wp2
      go_ret
      exact ⟨rfl, b1.trans (b2.mono b1.size)⟩
  · have d1 : decide ((s.size : Int) ≤ 8100) = false := by simp; omega
    go_enter Tryd.func4, Tryd.ntmps4
    go_wp2_with fail
    refine (head_any _ hy).mono ?_
    rintro e w1 ⟨rfl, b1⟩
    go_wp2_with fail
    refine (small_any _ false _ hm d1).mono ?_
    rintro e w' ⟨rfl, rfl⟩
    go_wp2
    go_ret
    exact ⟨rfl, b1⟩
end Go.Proofs.YtgoplhlbcmfocaaDoor.lexerCover
