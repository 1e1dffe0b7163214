/- The walks of the circuits' laws. -/
import Derived.Test.YtigcmjnjcaoolaaDoorCHead
import Derived.Test.YtigcmjnjcaoolaaDoorCChain
import Derived.Test.YtigcmjnjcaoolaaDoorCNums
import Derived.Test.YtigcmjnjcaoolaaDoorCMisc
import Derived.Test.YtigcmjnjcaoolaaDoorCSame
import Derived.Test.YtigcmjnjcaoolaaDoorCREval
import Derived.Test.YtigcmjnjcaoolaaDoorCRVal
import Derived.Test.YtigcmjnjcaoolaaDoorCRVars
import Derived.Test.YtigcmjnjcaoolaaDoorCTxt2
import Derived.WalkSmall
namespace Go.Proofs.YtigcmjnjcaoolaaDoor
set_option linter.unusedVariables false
set_option linter.unusedSimpArgs false
open Go.RowKit
open Cx (N M)
set_option maxHeartbeats 4000000 in
set_option maxRecDepth 100000 in
theorem values_law (A : Option Addr) (c : Nat) (ms : List M) (ra rb : Nat) (B : Option Addr) (d : Nat) (xs : List UInt8) (E : Option Addr) (f : Nat) (ys : List UInt8) (w : World) (hT : Tab w) (hra : ra < 256) (hrb : rb < 256) (hm : ms.length ≤ 9223372036854775807) (hxm : xs.length ≤ 9223372036854775807) (hym : ys.length ≤ 9223372036854775807) (hA : Makes w A ms) (hX : Raws w B xs) (hY : Raws w E ys) :
    Calls Tryd.prog 5 #[.slice A ms.length c, .int .u8 (ra : Int), .int .u8 (rb : Int), .slice B xs.length d, .slice E ys.length f] w fun e w' => e = .returned (.bool true) ∧ Below w.heap.size w w' := by
  by_cases y60 : ys.length ≤ 60
  · have f60 : decide ((60 : Int) < (ys.length : Int)) = false := by simp; omega
    by_cases h60 : ms.length ≤ 60
    · have d60 : decide ((60 : Int) < (ms.length : Int)) = false := by simp; omega
      by_cases x60 : xs.length ≤ 60
      · have e60 : decide ((60 : Int) < (xs.length : Int)) = false := by simp; omega
        obtain ⟨l, hl⟩ : ∃ l, Cx.build ms = l := ⟨_, rfl⟩
        have hl0 : Fine l 62 := by rw [← hl]; exact fine_build hA h60
        have hll := Lib.hid hl0
        have y3 : (1 : Int) ≤ (l.length : Int) := by have := hl0.good.more; omega
        have yl := hl0.len
        obtain ⟨a, ha⟩ : ∃ a, a = ra % l.length := ⟨_, rfl⟩
        have la : a < l.length := by rw [ha]; exact Nat.mod_lt _ (by omega)
        have ma : (ra : Int) % (l.length : Int) = (a : Int) := by rw [mod_nat, ha]
        have ya : (0 : Int) ≤ (ra : Int) := by omega
        have za : (ra : Int) ≤ 255 := by omega
        clear ha
        obtain ⟨b, hb⟩ : ∃ b, b = rb % l.length := ⟨_, rfl⟩
        have lb : b < l.length := by rw [hb]; exact Nat.mod_lt _ (by omega)
        have mb : (rb : Int) % (l.length : Int) = (b : Int) := by rw [mod_nat, hb]
        have yb : (0 : Int) ≤ (rb : Int) := by omega
        have zb : (rb : Int) ≤ 255 := by omega
        clear hb
        obtain ⟨p, j, P1, gp, fp, _⟩ := plus_is hl0 (by omega) la lb
        obtain ⟨q, k, Q1, gq, fq, _⟩ := times_is hl0 (by omega) la lb
        have Hl := Lib.hid hl0; have Hp := Lib.hid fp; have Hq := Lib.hid fq
        have HP1 := Lib.hid P1; have HQ1 := Lib.hid Q1
        obtain ⟨X, hX0⟩ : ∃ X, Cx.eval l (a : Int) (ints xs) = X := ⟨_, rfl⟩
        obtain ⟨Y, hY0⟩ : ∃ Y, Cx.eval l (b : Int) (ints xs) = Y := ⟨_, rfl⟩
        have HX0 := Lib.hid hX0; have HY0 := Lib.hid hY0
        have HS := Lib.hid (show Cx.eval p (j : Int) (ints xs) = (X || Y) by rw [gp.val, hX0, hY0])
        have HM := Lib.hid (show Cx.eval q (k : Int) (ints xs) = (X && Y) by rw [gq.val, hX0, hY0])
        have HK := Lib.hid (show Cx.eval p (a : Int) (ints xs) = X by rw [gp.grow.eval la, hX0])
        have HO := Lib.hid (show X = true → Cx.eval l (a : Int) (ints xs ++ ints ys) = true from fun h => Cx.eval_mono hl0.good la (fun x hx => List.mem_append.2 (Or.inl hx)) (hX0.trans h))
        clear gp gq fp fq P1 Q1 hX0 hY0
        obtain ⟨i0, hi, hz0, hz1, hz2⟩ := info_parts int_info
        go_enter Tryd.func5, Tryd.ntmps5
        go_wp2_with fail
        refine (head_any w hT).mono ?_
        rintro e w0 ⟨rfl, bw⟩
        replace hA := hA.below bw
        replace hX := hX.below bw
        replace hY := hY.below bw
        go_wp2_with fail
        refine (build_any A c ms _ h60 hA).mono ?_
        rintro e w1 ⟨A1, c1, rfl, hc1, b1⟩
        rw [hl] at hc1 ⊢
        replace hA := hA.below b1
        replace hX := hX.below b1
        replace hY := hY.below b1
        replace bw := bw.trans (b1.mono bw.size)
        clear b1
        go_wp2_with fail
        refine (numbers_any B d xs _ (by omega) hX).mono ?_
        rintro e w2 ⟨T1, t1, rfl, hn1, b2⟩
        replace hX := hX.below b2
        replace hY := hY.below b2
        replace hc1 := hc1.below b2
        replace bw := bw.trans (b2.mono bw.size)
        clear b2
        go_wp2_with fail
        refine (numbers_own B d xs _ (by omega) hX).mono ?_
        rintro e W1 ⟨vo, rfl, o1, d1⟩
        obtain ⟨va, vc, rfl⟩ := own_len o1
        replace hY := hY.below d1
        go_wp2_with fail
        refine (numbers_any E f ys _ (by omega) hY).mono ?_
        rintro e W2 ⟨T3, t3, rfl, hn3, d2⟩
        have o2 := own_below o1 d2
        have d12 := d1.trans (d2.mono d1.size)
        clear o1 d2 d1 hY
        have LX := Lib.hid (ints_len xs); have LY := Lib.hid (ints_len ys)
        have LLY := Lib.hid (icells_len (ints ys))
        go_wp2_with (first | (at_builtin; go_loud (refine wpList_append_from rfl (.tmp 53) (.tmp 55) 25 rfl _ 3 i0 _ 1 8 Tryd.underlying25 hi hz0 hz1 hz2 rfl (by omega) (.slice va (ints xs).length vc) (ints xs).length (icells (ints xs)) rfl o2 T3 (ints ys).length t3 (icells (ints ys)) rfl (by rw [LLY.out]; omega) (fun h => hn3.none h) (nums_news hn3.nums) (icells_one _) (by have := LX.out; have := LY.out; unfold maxLen; omega) (by have := LX.out; have := LY.out; omega) d12.size ?_); intro v3 W3 o3 g3))
        have d13 := d12.grown g3 d12.size (fun q hq => (own_lt o2 hq).1)
        obtain ⟨XY, hXY⟩ : ∃ XY, ints xs ++ ints ys = XY := ⟨_, rfl⟩
        obtain ⟨T2, t2, rfl, hn2⟩ := ns_of_own (l := XY) (by rw [← hXY, icells_app, List.length_append]; exact o3)
        have HXY := Lib.hid hXY
        have xyl : XY.length ≤ 120 := by rw [← hXY, List.length_append, ints_len, ints_len]; omega
        have HXI := Lib.hid (show ∀ t ∈ XY, I64 t from fun t ht => by rw [← hXY] at ht; rcases List.mem_append.1 ht with h | h; exact ints_i64 xs t h; exact ints_i64 ys t h)
        rw [hXY] at HO
        clear hXY
        replace hc1 := hc1.below d13; replace hn1 := hn1.below d13; replace bw := bw.trans (d13.mono bw.size)
        clear o2 o3 g3 d12 d13 hn3 hX
        go_wp2_with fail
        refine (eval_any A1 c1 l a T1 t1 (ints xs) _ Hl.out.good (Hl.out.ng (by omega)) (by have := Hl.out.len; omega) (by rw [ints_len]; omega) (ints_i64 xs) hc1 hn1.nums).mono ?_
        rintro e w3 ⟨rfl, b3⟩
        rw [HX0.out]
        replace hc1 := hc1.below b3
        replace hn1 := hn1.below b3
        replace hn2 := hn2.below b3
        replace bw := bw.trans (b3.mono bw.size)
        clear b3
        go_wp2_with fail
        refine (eval_any A1 c1 l b T1 t1 (ints xs) _ Hl.out.good (Hl.out.ng (by omega)) (by have := Hl.out.len; omega) (by rw [ints_len]; omega) (ints_i64 xs) hc1 hn1.nums).mono ?_
        rintro e w4 ⟨rfl, b4⟩
        rw [HY0.out]
        replace hc1 := hc1.below b4
        replace hn1 := hn1.below b4
        replace hn2 := hn2.below b4
        replace bw := bw.trans (b4.mono bw.size)
        clear b4
        go_wp2_with fail
        refine (plus_val A1 c1 l a b _ (by omega) hc1 HP1.out).mono ?_
        rintro e w5 ⟨A2, c2, rfl, hc2, b5⟩
        replace hc1 := hc1.below b5
        replace hn1 := hn1.below b5
        replace hn2 := hn2.below b5
        replace bw := bw.trans (b5.mono bw.size)
        clear b5
        go_wp2_with fail
        refine (times_val A1 c1 l a b _ (by omega) hc1 HQ1.out).mono ?_
        rintro e w6 ⟨A3, c3, rfl, hc3, b6⟩
        replace hc1 := hc1.below b6
        replace hn1 := hn1.below b6
        replace hn2 := hn2.below b6
        replace hc2 := hc2.below b6
        replace bw := bw.trans (b6.mono bw.size)
        clear b6
        cases X
        · cases Y
          · go_wp2_with fail
            refine (eval_any A2 c2 p j T1 t1 (ints xs) _ Hp.out.good (Hp.out.ng (by omega)) (by have := Hp.out.len; omega) (by rw [ints_len]; omega) (ints_i64 xs) hc2 hn1.nums).mono ?_
            rintro e w7 ⟨rfl, b7⟩
            rw [HS.out]
            replace hc1 := hc1.below b7
            replace hn1 := hn1.below b7
            replace hn2 := hn2.below b7
            replace hc2 := hc2.below b7
            replace hc3 := hc3.below b7
            replace bw := bw.trans (b7.mono bw.size)
            clear b7
            go_wp2_with fail
            refine (eval_any A3 c3 q k T1 t1 (ints xs) _ Hq.out.good (Hq.out.ng (by omega)) (by have := Hq.out.len; omega) (by rw [ints_len]; omega) (ints_i64 xs) hc3 hn1.nums).mono ?_
            rintro e w8 ⟨rfl, b8⟩
            rw [HM.out]
            replace hc1 := hc1.below b8
            replace hn1 := hn1.below b8
            replace hn2 := hn2.below b8
            replace hc2 := hc2.below b8
            replace hc3 := hc3.below b8
            replace bw := bw.trans (b8.mono bw.size)
            clear b8
            go_wp2_with fail
            refine (eval_any A2 c2 p a T1 t1 (ints xs) _ Hp.out.good (Hp.out.ng (by omega)) (by have := Hp.out.len; omega) (by rw [ints_len]; omega) (ints_i64 xs) hc2 hn1.nums).mono ?_
            rintro e w9 ⟨rfl, b9⟩
            rw [HK.out]
            replace hc1 := hc1.below b9
            replace hn1 := hn1.below b9
            replace hn2 := hn2.below b9
            replace hc2 := hc2.below b9
            replace hc3 := hc3.below b9
            replace bw := bw.trans (b9.mono bw.size)
            clear b9
            go_wp2_with fail
            go_ret
            exact ⟨rfl, bw⟩
          · go_wp2_with fail
            refine (eval_any A2 c2 p j T1 t1 (ints xs) _ Hp.out.good (Hp.out.ng (by omega)) (by have := Hp.out.len; omega) (by rw [ints_len]; omega) (ints_i64 xs) hc2 hn1.nums).mono ?_
            rintro e w7 ⟨rfl, b7⟩
            rw [HS.out]
            replace hc1 := hc1.below b7
            replace hn1 := hn1.below b7
            replace hn2 := hn2.below b7
            replace hc2 := hc2.below b7
            replace hc3 := hc3.below b7
            replace bw := bw.trans (b7.mono bw.size)
            clear b7
            go_wp2_with fail
            refine (eval_any A3 c3 q k T1 t1 (ints xs) _ Hq.out.good (Hq.out.ng (by omega)) (by have := Hq.out.len; omega) (by rw [ints_len]; omega) (ints_i64 xs) hc3 hn1.nums).mono ?_
            rintro e w8 ⟨rfl, b8⟩
            rw [HM.out]
            replace hc1 := hc1.below b8
            replace hn1 := hn1.below b8
            replace hn2 := hn2.below b8
            replace hc2 := hc2.below b8
            replace hc3 := hc3.below b8
            replace bw := bw.trans (b8.mono bw.size)
            clear b8
            go_wp2_with fail
            refine (eval_any A2 c2 p a T1 t1 (ints xs) _ Hp.out.good (Hp.out.ng (by omega)) (by have := Hp.out.len; omega) (by rw [ints_len]; omega) (ints_i64 xs) hc2 hn1.nums).mono ?_
            rintro e w9 ⟨rfl, b9⟩
            rw [HK.out]
            replace hc1 := hc1.below b9
            replace hn1 := hn1.below b9
            replace hn2 := hn2.below b9
            replace hc2 := hc2.below b9
            replace hc3 := hc3.below b9
            replace bw := bw.trans (b9.mono bw.size)
            clear b9
            go_wp2_with fail
            go_ret
            exact ⟨rfl, bw⟩
        · cases Y
          · go_wp2_with fail
            refine (eval_any A2 c2 p j T1 t1 (ints xs) _ Hp.out.good (Hp.out.ng (by omega)) (by have := Hp.out.len; omega) (by rw [ints_len]; omega) (ints_i64 xs) hc2 hn1.nums).mono ?_
            rintro e w7 ⟨rfl, b7⟩
            rw [HS.out]
            replace hc1 := hc1.below b7
            replace hn1 := hn1.below b7
            replace hn2 := hn2.below b7
            replace hc2 := hc2.below b7
            replace hc3 := hc3.below b7
            replace bw := bw.trans (b7.mono bw.size)
            clear b7
            go_wp2_with fail
            refine (eval_any A3 c3 q k T1 t1 (ints xs) _ Hq.out.good (Hq.out.ng (by omega)) (by have := Hq.out.len; omega) (by rw [ints_len]; omega) (ints_i64 xs) hc3 hn1.nums).mono ?_
            rintro e w8 ⟨rfl, b8⟩
            rw [HM.out]
            replace hc1 := hc1.below b8
            replace hn1 := hn1.below b8
            replace hn2 := hn2.below b8
            replace hc2 := hc2.below b8
            replace hc3 := hc3.below b8
            replace bw := bw.trans (b8.mono bw.size)
            clear b8
            go_wp2_with fail
            refine (eval_any A1 c1 l a T2 t2 XY _ Hl.out.good (Hl.out.ng (by omega)) (by have := Hl.out.len; omega) (by omega) HXI.out hc1 hn2.nums).mono ?_
            rintro e w9 ⟨rfl, b9⟩
            rw [HO.out trivial]
            replace hc1 := hc1.below b9
            replace hn1 := hn1.below b9
            replace hn2 := hn2.below b9
            replace hc2 := hc2.below b9
            replace hc3 := hc3.below b9
            replace bw := bw.trans (b9.mono bw.size)
            clear b9
            go_wp2_with fail
            refine (eval_any A2 c2 p a T1 t1 (ints xs) _ Hp.out.good (Hp.out.ng (by omega)) (by have := Hp.out.len; omega) (by rw [ints_len]; omega) (ints_i64 xs) hc2 hn1.nums).mono ?_
            rintro e w10 ⟨rfl, b10⟩
            rw [HK.out]
            replace hc1 := hc1.below b10
            replace hn1 := hn1.below b10
            replace hn2 := hn2.below b10
            replace hc2 := hc2.below b10
            replace hc3 := hc3.below b10
            replace bw := bw.trans (b10.mono bw.size)
            clear b10
            go_wp2_with fail
            go_ret
            exact ⟨rfl, bw⟩
          · go_wp2_with fail
            refine (eval_any A2 c2 p j T1 t1 (ints xs) _ Hp.out.good (Hp.out.ng (by omega)) (by have := Hp.out.len; omega) (by rw [ints_len]; omega) (ints_i64 xs) hc2 hn1.nums).mono ?_
            rintro e w7 ⟨rfl, b7⟩
            rw [HS.out]
            replace hc1 := hc1.below b7
            replace hn1 := hn1.below b7
            replace hn2 := hn2.below b7
            replace hc2 := hc2.below b7
            replace hc3 := hc3.below b7
            replace bw := bw.trans (b7.mono bw.size)
            clear b7
            go_wp2_with fail
            refine (eval_any A3 c3 q k T1 t1 (ints xs) _ Hq.out.good (Hq.out.ng (by omega)) (by have := Hq.out.len; omega) (by rw [ints_len]; omega) (ints_i64 xs) hc3 hn1.nums).mono ?_
            rintro e w8 ⟨rfl, b8⟩
            rw [HM.out]
            replace hc1 := hc1.below b8
            replace hn1 := hn1.below b8
            replace hn2 := hn2.below b8
            replace hc2 := hc2.below b8
            replace hc3 := hc3.below b8
            replace bw := bw.trans (b8.mono bw.size)
            clear b8
            go_wp2_with fail
            refine (eval_any A1 c1 l a T2 t2 XY _ Hl.out.good (Hl.out.ng (by omega)) (by have := Hl.out.len; omega) (by omega) HXI.out hc1 hn2.nums).mono ?_
            rintro e w9 ⟨rfl, b9⟩
            rw [HO.out trivial]
            replace hc1 := hc1.below b9
            replace hn1 := hn1.below b9
            replace hn2 := hn2.below b9
            replace hc2 := hc2.below b9
            replace hc3 := hc3.below b9
            replace bw := bw.trans (b9.mono bw.size)
            clear b9
            go_wp2_with fail
            refine (eval_any A2 c2 p a T1 t1 (ints xs) _ Hp.out.good (Hp.out.ng (by omega)) (by have := Hp.out.len; omega) (by rw [ints_len]; omega) (ints_i64 xs) hc2 hn1.nums).mono ?_
            rintro e w10 ⟨rfl, b10⟩
            rw [HK.out]
            replace hc1 := hc1.below b10
            replace hn1 := hn1.below b10
            replace hn2 := hn2.below b10
            replace hc2 := hc2.below b10
            replace hc3 := hc3.below b10
            replace bw := bw.trans (b10.mono bw.size)
            clear b10
            go_wp2_with fail
            go_ret
            exact ⟨rfl, bw⟩
      · have e60 : decide ((60 : Int) < (xs.length : Int)) = true := by simp; omega
        go_enter Tryd.func5, Tryd.ntmps5
        go_wp2_with fail
        refine (head_any w hT).mono ?_
        rintro e w0 ⟨rfl, bw⟩
        replace hA := hA.below bw
        go_wp2_with fail
        go_ret
        exact ⟨rfl, bw⟩
    · have d60 : decide ((60 : Int) < (ms.length : Int)) = true := by simp; omega
      go_enter Tryd.func5, Tryd.ntmps5
      go_wp2_with fail
      refine (head_any w hT).mono ?_
      rintro e w0 ⟨rfl, bw⟩
      replace hA := hA.below bw
      go_wp2_with fail
      go_ret
      exact ⟨rfl, bw⟩

  by_cases h60 : ms.length ≤ 60
  · have d60 : decide ((60 : Int) < (ms.length : Int)) = false := by simp; omega
    have f60 : decide ((60 : Int) < (ys.length : Int)) = true := by simp; omega
    by_cases x60 : xs.length ≤ 60
    · have e60 : decide ((60 : Int) < (xs.length : Int)) = false := by simp; omega
      go_enter Tryd.func5, Tryd.ntmps5
      go_wp2_with fail
      refine (head_any w hT).mono ?_
      rintro e w0 ⟨rfl, bw⟩
      replace hA := hA.below bw
      go_wp2_with fail
      go_ret
      exact ⟨rfl, bw⟩
    · have e60 : decide ((60 : Int) < (xs.length : Int)) = true := by simp; omega
      go_enter Tryd.func5, Tryd.ntmps5
      go_wp2_with fail
      refine (head_any w hT).mono ?_
      rintro e w0 ⟨rfl, bw⟩
      replace hA := hA.below bw
      go_wp2_with fail
      go_ret
      exact ⟨rfl, bw⟩
  · have d60 : decide ((60 : Int) < (ms.length : Int)) = true := by simp; omega
    go_enter Tryd.func5, Tryd.ntmps5
    go_wp2_with fail
    refine (head_any w hT).mono ?_
    rintro e w0 ⟨rfl, bw⟩
    replace hA := hA.below bw
    go_wp2_with fail
    go_ret
    exact ⟨rfl, bw⟩
end Go.Proofs.YtigcmjnjcaoolaaDoor
