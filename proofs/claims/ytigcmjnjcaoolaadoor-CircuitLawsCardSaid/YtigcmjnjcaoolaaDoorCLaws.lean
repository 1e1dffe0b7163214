/- The walks of the circuits' laws. -/
import Derived.Test.YtigcmjnjcaoolaaDoorCHead
import Derived.Test.YtigcmjnjcaoolaaDoorCChain
import Derived.Test.YtigcmjnjcaoolaaDoorCValue
import Derived.Test.YtigcmjnjcaoolaaDoorCMisc
import Derived.Test.YtigcmjnjcaoolaaDoorCSame
import Derived.Test.YtigcmjnjcaoolaaDoorCREval
import Derived.Test.YtigcmjnjcaoolaaDoorCRVal
import Derived.Test.YtigcmjnjcaoolaaDoorCRVars
import Derived.Test.YtigcmjnjcaoolaaDoorCTxt2
import Derived.WalkSmall
namespace Go.Proofs.YtigcmjnjcaoolaaDoor
set_option linter.unusedVariables false
set_option linter.unusedSimpArgs false
open Go.RowKit
open Cx (N M)
set_option maxHeartbeats 16000000 in
set_option maxRecDepth 100000 in
theorem laws_any (A : Option Addr) (c : Nat) (ms : List M) (rx ry rz : Nat) (B : Option Addr) (d : Nat) (xs : List UInt8) (w : World) (hT : Tab w) (hrx : rx < 256) (hry : ry < 256) (hrz : rz < 256) (hm : ms.length ≤ 9223372036854775807) (hxm : xs.length ≤ 9223372036854775807) (hA : Makes w A ms) (hX : Raws w B xs) :
    Calls Tryd.prog 8 #[.slice A ms.length c, .int .u8 (rx : Int), .int .u8 (ry : Int), .int .u8 (rz : Int), .slice B xs.length d] w fun e w' => e = .returned (.bool true) ∧ Below w.heap.size w w' := by
  by_cases h60 : ms.length ≤ 60
  · have d60 : decide ((60 : Int) < (ms.length : Int)) = false := by simp; omega
    by_cases x60 : xs.length ≤ 60
    · have e60 : decide ((60 : Int) < (xs.length : Int)) = false := by simp; omega
      obtain ⟨l, hl⟩ : ∃ l, Cx.build ms = l := ⟨_, rfl⟩
      have hl0 : Fine l 62 := by rw [← hl]; exact fine_build hA h60
      have hll := Lib.hid hl0
      have y3 : (1 : Int) ≤ (l.length : Int) := by have := hl0.good.more; omega
      have yl := hl0.len
      obtain ⟨x, hx⟩ : ∃ x, x = rx % l.length := ⟨_, rfl⟩
      have lx : x < l.length := by rw [hx]; exact Nat.mod_lt _ (by omega)
      have mx : (rx : Int) % (l.length : Int) = (x : Int) := by rw [mod_nat, hx]
      have yx : (0 : Int) ≤ (rx : Int) := by omega
      have zx : (rx : Int) ≤ 255 := by omega
      clear hx
      obtain ⟨y, hy⟩ : ∃ y, y = ry % l.length := ⟨_, rfl⟩
      have ly : y < l.length := by rw [hy]; exact Nat.mod_lt _ (by omega)
      have my : (ry : Int) % (l.length : Int) = (y : Int) := by rw [mod_nat, hy]
      have yy : (0 : Int) ≤ (ry : Int) := by omega
      have zy : (ry : Int) ≤ 255 := by omega
      clear hy
      obtain ⟨z, hz⟩ : ∃ z, z = rz % l.length := ⟨_, rfl⟩
      have lz : z < l.length := by rw [hz]; exact Nat.mod_lt _ (by omega)
      have mz : (rz : Int) % (l.length : Int) = (z : Int) := by rw [mod_nat, hz]
      have yz : (0 : Int) ≤ (rz : Int) := by omega
      have zz : (rz : Int) ≤ 255 := by omega
      clear hz
      obtain ⟨m1, m2, m3, m4, m5, m6, m7, m8, m9, k1, k2, k3, k4, k5, k6, k7, k8, k9, hch⟩ := chain_of hl0 lx ly lz
      have CH := Lib.hid hch
      have S1 := Lib.hid (Cx.plus_self lx)
      have S2 := Lib.hid (Cx.times_self lx)
      have S3 := Lib.hid (Cx.plus_zero hl0.good lx)
      have S4 := Lib.hid (Cx.times_one hl0.good lx)
      have S5 := Lib.hid (Cx.plus_one hl0.good lx)
      have S6 := Lib.hid (Cx.times_zero hl0.good lx)
      have Hm9 := Lib.hid hch.f9
      clear hch
      go_enter Tryd.func8, Tryd.ntmps8
      go_wp2_with fail
      refine (head_any w hT).mono ?_
      rintro e w0 ⟨rfl, bw⟩
      replace hA := hA.below bw
      replace hX := hX.below bw
      go_wp2_with fail
      refine (build_any A c ms _ h60 hA).mono ?_
      rintro e w1 ⟨A1, c1, rfl, hc1, b1⟩
      rw [hl] at hc1 ⊢
      replace hA := hA.below b1
      replace hX := hX.below b1
      replace bw := bw.trans (b1.mono bw.size)
      clear b1
      go_wp2_with fail
      refine (numbers_any B d xs _ (by omega) hX).mono ?_
      rintro e w2 ⟨T1, t1, rfl, hn1, b2⟩
      replace hX := hX.below b2
      replace hc1 := hc1.below b2
      replace bw := bw.trans (b2.mono bw.size)
      clear b2
      go_wp2_with fail
      refine (plus_val A1 c1 l x x _ (by omega) hc1 S1.out).mono ?_
      rintro e w3 ⟨_, _, rfl, _, b3⟩
      replace hc1 := hc1.below b3
      replace hn1 := hn1.below b3
      replace bw := bw.trans (b3.mono bw.size)
      clear b3
      go_wp2_with fail
      refine (times_val A1 c1 l x x _ (by omega) hc1 S2.out).mono ?_
      rintro e w4 ⟨_, _, rfl, _, b4⟩
      replace hc1 := hc1.below b4
      replace hn1 := hn1.below b4
      replace bw := bw.trans (b4.mono bw.size)
      clear b4
      go_wp2_with fail
      refine (plus_val A1 c1 l 0 x _ (by omega) hc1 S3.out).mono ?_
      rintro e w5 ⟨_, _, rfl, _, b5⟩
      replace hc1 := hc1.below b5
      replace hn1 := hn1.below b5
      replace bw := bw.trans (b5.mono bw.size)
      clear b5
      go_wp2_with fail
      refine (times_val A1 c1 l x 1 _ (by omega) hc1 S4.out).mono ?_
      rintro e w6 ⟨_, _, rfl, _, b6⟩
      replace hc1 := hc1.below b6
      replace hn1 := hn1.below b6
      replace bw := bw.trans (b6.mono bw.size)
      clear b6
      go_wp2_with fail
      refine (plus_val A1 c1 l x 1 _ (by omega) hc1 S5.out).mono ?_
      rintro e w7 ⟨_, _, rfl, _, b7⟩
      replace hc1 := hc1.below b7
      replace hn1 := hn1.below b7
      replace bw := bw.trans (b7.mono bw.size)
      clear b7
      go_wp2_with fail
      refine (times_val A1 c1 l 0 x _ (by omega) hc1 S6.out).mono ?_
      rintro e w8 ⟨_, _, rfl, _, b8⟩
      replace hc1 := hc1.below b8
      replace hn1 := hn1.below b8
      replace bw := bw.trans (b8.mono bw.size)
      clear b8
      go_wp2_with fail
      refine (plus_val A1 c1 l x y _ (by have := CH.out.f0.len; omega) hc1 CH.out.e1).mono ?_
      rintro e w9 ⟨A2, c2, rfl, hc2, b9⟩
      replace hc1 := hc1.below b9
      replace hn1 := hn1.below b9
      replace bw := bw.trans (b9.mono bw.size)
      clear b9
      clear hc1
      go_wp2_with fail
      refine (plus_val A2 c2 m1 k1 z _ (by have := CH.out.f1.len; omega) hc2 CH.out.e2).mono ?_
      rintro e w10 ⟨A3, c3, rfl, hc3, b10⟩
      replace hn1 := hn1.below b10
      replace hc2 := hc2.below b10
      replace bw := bw.trans (b10.mono bw.size)
      clear b10
      clear hc2
      go_wp2_with fail
      refine (plus_val A3 c3 m2 y z _ (by have := CH.out.f2.len; omega) hc3 CH.out.e3).mono ?_
      rintro e w11 ⟨A4, c4, rfl, hc4, b11⟩
      replace hn1 := hn1.below b11
      replace hc3 := hc3.below b11
      replace bw := bw.trans (b11.mono bw.size)
      clear b11
      clear hc3
      go_wp2_with fail
      refine (plus_val A4 c4 m3 x k3 _ (by have := CH.out.f3.len; omega) hc4 CH.out.e4).mono ?_
      rintro e w12 ⟨A5, c5, rfl, hc5, b12⟩
      replace hn1 := hn1.below b12
      replace hc4 := hc4.below b12
      replace bw := bw.trans (b12.mono bw.size)
      clear b12
      clear hc4
      go_wp2_with fail
      refine (times_val A5 c5 m4 x k3 _ (by have := CH.out.f4.len; omega) hc5 CH.out.e5).mono ?_
      rintro e w13 ⟨A6, c6, rfl, hc6, b13⟩
      replace hn1 := hn1.below b13
      replace hc5 := hc5.below b13
      replace bw := bw.trans (b13.mono bw.size)
      clear b13
      clear hc5
      go_wp2_with fail
      refine (times_val A6 c6 m5 x y _ (by have := CH.out.f5.len; omega) hc6 CH.out.e6).mono ?_
      rintro e w14 ⟨A7, c7, rfl, hc7, b14⟩
      replace hn1 := hn1.below b14
      replace hc6 := hc6.below b14
      replace bw := bw.trans (b14.mono bw.size)
      clear b14
      clear hc6
      go_wp2_with fail
      refine (times_val A7 c7 m6 x z _ (by have := CH.out.f6.len; omega) hc7 CH.out.e7).mono ?_
      rintro e w15 ⟨A8, c8, rfl, hc8, b15⟩
      replace hn1 := hn1.below b15
      replace hc7 := hc7.below b15
      replace bw := bw.trans (b15.mono bw.size)
      clear b15
      clear hc7
      go_wp2_with fail
      refine (plus_val A8 c8 m7 k6 k7 _ (by have := CH.out.f7.len; omega) hc8 CH.out.e8).mono ?_
      rintro e w16 ⟨A9, c9, rfl, hc9, b16⟩
      replace hn1 := hn1.below b16
      replace hc8 := hc8.below b16
      replace bw := bw.trans (b16.mono bw.size)
      clear b16
      clear hc8
      go_wp2_with fail
      refine (plus_val A9 c9 m8 x k6 _ (by have := CH.out.f8.len; omega) hc9 CH.out.e9).mono ?_
      rintro e w17 ⟨A10, c10, rfl, hc10, b17⟩
      replace hn1 := hn1.below b17
      replace hc9 := hc9.below b17
      replace bw := bw.trans (b17.mono bw.size)
      clear b17
      clear hc9
      go_wp2_with fail
      refine (eval_any A10 c10 m9 k2 T1 t1 (ints xs) _ Hm9.out.good (Hm9.out.ng (by omega)) (by have := Hm9.out.len; omega) (by rw [ints_len]; omega) (ints_i64 xs) hc10 hn1.nums).mono ?_
      rintro e w18 ⟨rfl, b18⟩
      replace hn1 := hn1.below b18
      replace hc10 := hc10.below b18
      replace bw := bw.trans (b18.mono bw.size)
      clear b18
      go_wp2_with fail
      refine (eval_any A10 c10 m9 k4 T1 t1 (ints xs) _ Hm9.out.good (Hm9.out.ng (by omega)) (by have := Hm9.out.len; omega) (by rw [ints_len]; omega) (ints_i64 xs) hc10 hn1.nums).mono ?_
      rintro e w19 ⟨rfl, b19⟩
      rw [CH.out.v1]
      replace hn1 := hn1.below b19
      replace hc10 := hc10.below b19
      replace bw := bw.trans (b19.mono bw.size)
      clear b19
      go_wp2_with fail
      refine (eval_any A10 c10 m9 k5 T1 t1 (ints xs) _ Hm9.out.good (Hm9.out.ng (by omega)) (by have := Hm9.out.len; omega) (by rw [ints_len]; omega) (ints_i64 xs) hc10 hn1.nums).mono ?_
      rintro e w20 ⟨rfl, b20⟩
      replace hn1 := hn1.below b20
      replace hc10 := hc10.below b20
      replace bw := bw.trans (b20.mono bw.size)
      clear b20
      go_wp2_with fail
      refine (eval_any A10 c10 m9 k8 T1 t1 (ints xs) _ Hm9.out.good (Hm9.out.ng (by omega)) (by have := Hm9.out.len; omega) (by rw [ints_len]; omega) (ints_i64 xs) hc10 hn1.nums).mono ?_
      rintro e w21 ⟨rfl, b21⟩
      rw [CH.out.v2]
      replace hn1 := hn1.below b21
      replace hc10 := hc10.below b21
      replace bw := bw.trans (b21.mono bw.size)
      clear b21
      go_wp2_with fail
      refine (eval_any A10 c10 m9 k9 T1 t1 (ints xs) _ Hm9.out.good (Hm9.out.ng (by omega)) (by have := Hm9.out.len; omega) (by rw [ints_len]; omega) (ints_i64 xs) hc10 hn1.nums).mono ?_
      rintro e w22 ⟨rfl, b22⟩
      replace hn1 := hn1.below b22
      replace hc10 := hc10.below b22
      replace bw := bw.trans (b22.mono bw.size)
      clear b22
      go_wp2_with fail
      refine (eval_any A10 c10 m9 x T1 t1 (ints xs) _ Hm9.out.good (Hm9.out.ng (by omega)) (by have := Hm9.out.len; omega) (by rw [ints_len]; omega) (ints_i64 xs) hc10 hn1.nums).mono ?_
      rintro e w23 ⟨rfl, b23⟩
      rw [CH.out.v3]
      replace hn1 := hn1.below b23
      replace hc10 := hc10.below b23
      replace bw := bw.trans (b23.mono bw.size)
      clear b23
      go_wp2_with fail
      go_ret
      exact ⟨rfl, bw⟩
    · have e60 : decide ((60 : Int) < (xs.length : Int)) = true := by simp; omega
      go_enter Tryd.func8, Tryd.ntmps8
      go_wp2_with fail
      refine (head_any w hT).mono ?_
      rintro e w0 ⟨rfl, bw⟩
      replace hA := hA.below bw
      go_wp2_with fail
      go_ret
      exact ⟨rfl, bw⟩
  · have d60 : decide ((60 : Int) < (ms.length : Int)) = true := by simp; omega
    go_enter Tryd.func8, Tryd.ntmps8
    go_wp2_with fail
    refine (head_any w hT).mono ?_
    rintro e w0 ⟨rfl, bw⟩
    replace hA := hA.below bw
    go_wp2_with fail
    go_ret
    exact ⟨rfl, bw⟩
end Go.Proofs.YtigcmjnjcaoolaaDoor
