/- The walks of the circuits' laws. -/
import Derived.Test.YtigcmjnjcaoolaaDoorCHead
import Derived.Test.YtigcmjnjcaoolaaDoorCArgs
import Derived.Test.YtigcmjnjcaoolaaDoorCValue
import Derived.Test.YtigcmjnjcaoolaaDoorCMisc
import Derived.Test.YtigcmjnjcaoolaaDoorCSame
import Derived.Test.YtigcmjnjcaoolaaDoorCREval
import Derived.Test.YtigcmjnjcaoolaaDoorCRVal
import Derived.Test.YtigcmjnjcaoolaaDoorCRVars
import Derived.Test.YtigcmjnjcaoolaaDoorCTxt2
import Derived.WalkSmall
namespace Go.Proofs.YtigcmjnjcaoolaaDoor
set_option linter.unusedVariables false
set_option linter.unusedSimpArgs false
open Go.RowKit
open Cx (N M)
theorem begins_grow {l m : List N} (h : Cx.Grow l m) : beginsB l m = true := by
  obtain ⟨t, rfl⟩ := h.ext
  have := h.len
  unfold beginsB
  simp at this ⊢
  omega
set_option maxHeartbeats 16000000 in
set_option maxRecDepth 100000 in
theorem sharing_any (A : Option Addr) (c : Nat) (ms : List M) (ra rb : Nat) (w : World) (hT : Tab w) (hra : ra < 256) (hrb : rb < 256) (hm : ms.length ≤ 9223372036854775807) (hA : Makes w A ms) :
    Calls Tryd.prog 4 #[.slice A ms.length c, .int .u8 (ra : Int), .int .u8 (rb : Int)] w fun e w' => e = .returned (.bool true) ∧ Below w.heap.size w w' := by
  by_cases h60 : ms.length ≤ 60
  · have d60 : decide ((60 : Int) < (ms.length : Int)) = false := by simp; omega
    obtain ⟨l, hl⟩ : ∃ l, Cx.build ms = l := ⟨_, rfl⟩
    have hl0 : Fine l 62 := by rw [← hl]; exact fine_build hA h60
    have hll := Lib.hid hl0
    have y3 : (1 : Int) ≤ (l.length : Int) := by have := hl0.good.more; omega
    have yl := hl0.len
    obtain ⟨a, ha⟩ : ∃ a, a = ra % l.length := ⟨_, rfl⟩
    have la : a < l.length := by rw [ha]; exact Nat.mod_lt _ (by omega)
    have ma : (ra : Int) % (l.length : Int) = (a : Int) := by rw [mod_nat, ha]
    have ya : (0 : Int) ≤ (ra : Int) := by omega
    have za : (ra : Int) ≤ 255 := by omega
    clear ha
    obtain ⟨b, hb⟩ : ∃ b, b = rb % l.length := ⟨_, rfl⟩
    have lb : b < l.length := by rw [hb]; exact Nat.mod_lt _ (by omega)
    have mb : (rb : Int) % (l.length : Int) = (b : Int) := by rw [mod_nat, hb]
    have yb : (0 : Int) ≤ (rb : Int) := by omega
    have zb : (rb : Int) ≤ 255 := by omega
    clear hb
    obtain ⟨v, i, V1, gv, fv, V2⟩ := var_is hl0 (by omega) (show ra < 256 by omega)
    obtain ⟨p, j, P1, gp, fp, P2⟩ := plus_is hl0 (by omega) la lb
    obtain ⟨q, k, Q1, gq, fq, Q2⟩ := times_is hl0 (by omega) la lb
    have hv := Lib.hid fv; have hp := Lib.hid fp; have hq := Lib.hid fq; have GV := Lib.hid gv; have GP := Lib.hid gp.grow; have GQ := Lib.hid gq.grow
    have HV1 := Lib.hid V1; have HV2 := Lib.hid V2; have HP1 := Lib.hid P1; have HP2 := Lib.hid P2; have HQ1 := Lib.hid Q1; have HQ2 := Lib.hid Q2
    clear fv fp fq gv gp gq V1 V2 P1 P2 Q1 Q2
    have hl1 := hll
    go_enter Tryd.func4, Tryd.ntmps4
    go_wp2_with fail
    refine (head_any w hT).mono ?_
    rintro e w0 ⟨rfl, bw⟩
    replace hA := hA.below bw
    go_wp2_with fail
    refine (build_any A c ms _ h60 hA).mono ?_
    rintro e w1 ⟨A1, c1, rfl, hc1, b1⟩
    rw [hl] at hc1 ⊢
    replace hA := hA.below b1
    replace bw := bw.trans (b1.mono bw.size)
    clear b1
    go_wp2_with fail
    refine (var_val A1 c1 l (ra : Int) _ (by have := hll.out.len; omega) hc1 HV1.out).mono ?_
    rintro e w2 ⟨A2, c2, rfl, hc2, b2⟩
    replace hA := hA.below b2
    replace hc1 := hc1.below b2
    replace bw := bw.trans (b2.mono bw.size)
    clear b2
    go_wp2_with fail
    refine (var_val A2 c2 v (ra : Int) _ (by have := hv.out.len; omega) hc2 HV2.out).mono ?_
    rintro e w3 ⟨A3, c3, rfl, hc3, b3⟩
    replace hA := hA.below b3
    replace hc1 := hc1.below b3
    replace hc2 := hc2.below b3
    replace bw := bw.trans (b3.mono bw.size)
    clear b3
    go_wp2_with fail
    refine (valid_any A2 c2 v _ (by have := hv.out.len; omega) (hv.out.ng (by omega)) hc2).mono ?_
    rintro e w4 ⟨rfl, b4⟩
    rw [hv.out.good.valid (by have := hv.out.len; omega)]
    replace hA := hA.below b4
    replace hc1 := hc1.below b4
    replace hc2 := hc2.below b4
    replace hc3 := hc3.below b4
    replace bw := bw.trans (b4.mono bw.size)
    clear b4
    go_wp2_with fail
    refine (begins_any A1 c1 l A2 c2 v _ (by have := hll.out.len; omega) (by have := hv.out.len; omega) hc1 hc2).mono ?_
    rintro e w5 ⟨rfl, b5⟩
    rw [begins_grow GV.out]
    replace hA := hA.below b5
    replace hc1 := hc1.below b5
    replace hc2 := hc2.below b5
    replace hc3 := hc3.below b5
    replace bw := bw.trans (b5.mono bw.size)
    clear b5
    go_wp2_with fail
    refine (same_any A2 c2 v A3 c3 v _ (by have := hv.out.len; omega) (by have := hv.out.len; omega) hc2.circ hc3.circ).mono ?_
    rintro e w6 ⟨rfl, b6⟩
    rw [decide_eq_true (show v = v from rfl)]
    replace hA := hA.below b6
    replace hc1 := hc1.below b6
    replace hc2 := hc2.below b6
    replace hc3 := hc3.below b6
    replace bw := bw.trans (b6.mono bw.size)
    clear b6
    go_wp2_with fail
    refine (plus_val A1 c1 l a b _ (by have := hll.out.len; omega) hc1 HP1.out).mono ?_
    rintro e w7 ⟨A4, c4, rfl, hc4, b7⟩
    replace hA := hA.below b7
    replace hc1 := hc1.below b7
    replace hc2 := hc2.below b7
    replace hc3 := hc3.below b7
    replace bw := bw.trans (b7.mono bw.size)
    clear b7
    go_wp2_with fail
    refine (plus_val A4 c4 p b a _ (by have := hp.out.len; omega) hc4 HP2.out).mono ?_
    rintro e w8 ⟨A5, c5, rfl, hc5, b8⟩
    replace hA := hA.below b8
    replace hc1 := hc1.below b8
    replace hc2 := hc2.below b8
    replace hc3 := hc3.below b8
    replace hc4 := hc4.below b8
    replace bw := bw.trans (b8.mono bw.size)
    clear b8
    go_wp2_with fail
    refine (valid_any A4 c4 p _ (by have := hp.out.len; omega) (hp.out.ng (by omega)) hc4).mono ?_
    rintro e w9 ⟨rfl, b9⟩
    rw [hp.out.good.valid (by have := hp.out.len; omega)]
    replace hA := hA.below b9
    replace hc1 := hc1.below b9
    replace hc2 := hc2.below b9
    replace hc3 := hc3.below b9
    replace hc4 := hc4.below b9
    replace hc5 := hc5.below b9
    replace bw := bw.trans (b9.mono bw.size)
    clear b9
    go_wp2_with fail
    refine (begins_any A1 c1 l A4 c4 p _ (by have := hll.out.len; omega) (by have := hp.out.len; omega) hc1 hc4).mono ?_
    rintro e w10 ⟨rfl, b10⟩
    rw [begins_grow GP.out]
    replace hA := hA.below b10
    replace hc1 := hc1.below b10
    replace hc2 := hc2.below b10
    replace hc3 := hc3.below b10
    replace hc4 := hc4.below b10
    replace hc5 := hc5.below b10
    replace bw := bw.trans (b10.mono bw.size)
    clear b10
    go_wp2_with fail
    refine (same_any A4 c4 p A5 c5 p _ (by have := hp.out.len; omega) (by have := hp.out.len; omega) hc4.circ hc5.circ).mono ?_
    rintro e w11 ⟨rfl, b11⟩
    rw [decide_eq_true (show p = p from rfl)]
    replace hA := hA.below b11
    replace hc1 := hc1.below b11
    replace hc2 := hc2.below b11
    replace hc3 := hc3.below b11
    replace hc4 := hc4.below b11
    replace hc5 := hc5.below b11
    replace bw := bw.trans (b11.mono bw.size)
    clear b11
    go_wp2_with fail
    refine (times_val A1 c1 l a b _ (by have := hll.out.len; omega) hc1 HQ1.out).mono ?_
    rintro e w12 ⟨A6, c6, rfl, hc6, b12⟩
    replace hA := hA.below b12
    replace hc1 := hc1.below b12
    replace hc2 := hc2.below b12
    replace hc3 := hc3.below b12
    replace hc4 := hc4.below b12
    replace hc5 := hc5.below b12
    replace bw := bw.trans (b12.mono bw.size)
    clear b12
    go_wp2_with fail
    refine (times_val A6 c6 q b a _ (by have := hq.out.len; omega) hc6 HQ2.out).mono ?_
    rintro e w13 ⟨A7, c7, rfl, hc7, b13⟩
    replace hA := hA.below b13
    replace hc1 := hc1.below b13
    replace hc2 := hc2.below b13
    replace hc3 := hc3.below b13
    replace hc4 := hc4.below b13
    replace hc5 := hc5.below b13
    replace hc6 := hc6.below b13
    replace bw := bw.trans (b13.mono bw.size)
    clear b13
    go_wp2_with fail
    refine (valid_any A6 c6 q _ (by have := hq.out.len; omega) (hq.out.ng (by omega)) hc6).mono ?_
    rintro e w14 ⟨rfl, b14⟩
    rw [hq.out.good.valid (by have := hq.out.len; omega)]
    replace hA := hA.below b14
    replace hc1 := hc1.below b14
    replace hc2 := hc2.below b14
    replace hc3 := hc3.below b14
    replace hc4 := hc4.below b14
    replace hc5 := hc5.below b14
    replace hc6 := hc6.below b14
    replace hc7 := hc7.below b14
    replace bw := bw.trans (b14.mono bw.size)
    clear b14
    go_wp2_with fail
    refine (begins_any A1 c1 l A6 c6 q _ (by have := hll.out.len; omega) (by have := hq.out.len; omega) hc1 hc6).mono ?_
    rintro e w15 ⟨rfl, b15⟩
    rw [begins_grow GQ.out]
    replace hA := hA.below b15
    replace hc1 := hc1.below b15
    replace hc2 := hc2.below b15
    replace hc3 := hc3.below b15
    replace hc4 := hc4.below b15
    replace hc5 := hc5.below b15
    replace hc6 := hc6.below b15
    replace hc7 := hc7.below b15
    replace bw := bw.trans (b15.mono bw.size)
    clear b15
    go_wp2_with fail
    refine (same_any A6 c6 q A7 c7 q _ (by have := hq.out.len; omega) (by have := hq.out.len; omega) hc6.circ hc7.circ).mono ?_
    rintro e w16 ⟨rfl, b16⟩
    rw [decide_eq_true (show q = q from rfl)]
    replace hA := hA.below b16
    replace hc1 := hc1.below b16
    replace hc2 := hc2.below b16
    replace hc3 := hc3.below b16
    replace hc4 := hc4.below b16
    replace hc5 := hc5.below b16
    replace hc6 := hc6.below b16
    replace hc7 := hc7.below b16
    replace bw := bw.trans (b16.mono bw.size)
    clear b16
    go_wp2_with fail
    go_ret
    exact ⟨rfl, bw⟩
  have d60 : decide ((60 : Int) < (ms.length : Int)) = true := by simp; omega
  go_enter Tryd.func4, Tryd.ntmps4
  go_wp2_with fail
  refine (head_any w hT).mono ?_
  rintro e w0 ⟨rfl, bw⟩
  replace hA := hA.below bw
  go_wp2_with fail
  go_ret
  exact ⟨rfl, bw⟩
end Go.Proofs.YtigcmjnjcaoolaaDoor
