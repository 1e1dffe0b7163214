/- The walks of the circuits' laws. -/
import Derived.Test.YtigcmjnjcaoolaaDoorCHead
import Derived.Test.YtigcmjnjcaoolaaDoorCChain
import Derived.Test.YtigcmjnjcaoolaaDoorCNums
import Derived.Test.YtigcmjnjcaoolaaDoorCMisc
import Derived.Test.YtigcmjnjcaoolaaDoorCSame
import Derived.Test.YtigcmjnjcaoolaaDoorCREval
import Derived.Test.YtigcmjnjcaoolaaDoorCRVal
import Derived.Test.YtigcmjnjcaoolaaDoorCRVars
import Derived.Test.YtigcmjnjcaoolaaDoorCTxt2
import Derived.WalkSmall
namespace Go.Proofs.YtigcmjnjcaoolaaDoor
set_option linter.unusedVariables false
set_option linter.unusedSimpArgs false
open Go.RowKit
open Cx (N M)
theorem rvar_val (A : Option Addr) (c : Nat) (l : List N) (n : Int) (w : World) (hl : l.length ≤ 20000) (hA : Cir w A c l) (hl0 : 0 < l.length) {l' : List N} {k : Int} (h : Cx.var l n = (l', k)) :
    Calls Tryd.prog 12 #[.slice A l.length c, .int .i64 n] w (CirNum l' k w) := by
  have := rvar_any A c l n w hl hl0 hA
  rw [h] at this; exact this
theorem rplus_val (A : Option Addr) (c : Nat) (l : List N) (a b : Int) (w : World) (hl : l.length ≤ 20000) (hA : Cir w A c l) (hl0 : 0 < l.length) (ha : -9223372036854775808 ≤ a ∧ a ≤ 9223372036854775807) (hb : -9223372036854775808 ≤ b ∧ b ≤ 9223372036854775807) {l' : List N} {k : Int} (h : Cx.plus l a b = (l', k)) :
    Calls Tryd.prog 15 #[.slice A l.length c, .int .i64 a, .int .i64 b] w (CirNum l' k w) := by
  have := rplus_any A c l a b w hl hA hl0 ha hb
  rw [h] at this; exact this
theorem rtimes_val (A : Option Addr) (c : Nat) (l : List N) (a b : Int) (w : World) (hl : l.length ≤ 20000) (hA : Cir w A c l) (hl0 : 0 < l.length) (ha : -9223372036854775808 ≤ a ∧ a ≤ 9223372036854775807) (hb : -9223372036854775808 ≤ b ∧ b ≤ 9223372036854775807) {l' : List N} {k : Int} (h : Cx.times l a b = (l', k)) :
    Calls Tryd.prog 17 #[.slice A l.length c, .int .i64 a, .int .i64 b] w (CirNum l' k w) := by
  have := rtimes_any A c l a b w hl hA hl0 ha hb
  rw [h] at this; exact this
theorem circ_new {w : World} {g : Nat} (h : At w g 50 (ncells Cx.new).toArray) : Circ w (some ⟨g, 0, none⟩) Cx.new := fun _ => by
  have h0 := h.cell 0; have h1 := h.cell 1; have h2 := h.cell 2; have h3 := h.cell 3; have h4 := h.cell 4; have h5 := h.cell 5
  refine ⟨g, 0, rfl, World.block_lt_of_cell? w _ h0, fun k v hv => ?_⟩
  match k, hv with
  | 0, hv => obtain rfl := Option.some.inj hv; exact ⟨h0, h1, h2⟩
  | 1, hv => obtain rfl := Option.some.inj hv; exact ⟨h3, h4, h5⟩
  | k + 2, hv => simp [Cx.new] at hv
set_option maxHeartbeats 8000000 in
set_option maxRecDepth 100000 in
theorem match_law (A : Option Addr) (c : Nat) (ms : List M) (D : Option Addr) (rd : Nat) (raw : List N) (a b : Int) (T : Option Addr) (td : Nat) (ts : List Int) (lim : Int) (w : World) (hT : Tab w) (hm : ms.length ≤ 9223372036854775807) (hrm : raw.length ≤ 9223372036854775807) (htm : ts.length ≤ 9223372036854775807) (ha1 : -9223372036854775808 ≤ a ∧ a ≤ 9223372036854775807) (hb1 : -9223372036854775808 ≤ b ∧ b ≤ 9223372036854775807) (hF : ∀ n ∈ raw, NGood n) (hI : ∀ t ∈ ts, I64 t) (hA : Makes w A ms) (hR : Cir w D rd raw) (hN : Nums w T ts) :
    Calls Tryd.prog 3 #[.slice A ms.length c, .slice D raw.length rd, .int .i64 a, .int .i64 b, .slice T ts.length td, .int .i64 lim] w fun e w' => e = .returned (.bool true) ∧ Below w.heap.size w w' := by
  by_cases h60 : ms.length ≤ 60
  · have d60 : decide ((60 : Int) < (ms.length : Int)) = false := by simp; omega
    by_cases r100 : raw.length ≤ 100
    · have e100 : decide ((100 : Int) < (raw.length : Int)) = false := by simp; omega
      by_cases t60 : ts.length ≤ 60
      · have e60 : decide ((60 : Int) < (ts.length : Int)) = false := by simp; omega
        obtain ⟨l, hl⟩ : ∃ l, Cx.build ms = l := ⟨_, rfl⟩
        have hl0 : Fine l 62 := by rw [← hl]; exact fine_build hA h60
        have hll := Lib.hid hl0
        have y3 : (1 : Int) ≤ (l.length : Int) := by have := hl0.good.more; omega
        have yl := hl0.len
        have hng := hl0.ng (by omega)
        obtain ⟨v, i, ev⟩ : ∃ (v : List N) (i : Int), Cx.var l a = (v, i) := ⟨_, _, rfl⟩
        have zv : v.length ≤ 63 := by
          have h := (var_len l a).2
          change (Cx.var l a).1.length ≤ _ at h
          rw [ev] at h
          change v.length ≤ _ at h
          omega
        have Hv := Lib.hid ev
        have nv : (i != i) = false := by simp
        obtain ⟨p, j, ep⟩ : ∃ (p : List N) (j : Int), Cx.plus l a b = (p, j) := ⟨_, _, rfl⟩
        have zp : p.length ≤ 63 := by
          have h := (two_len l 3 a b 0 1).2
          change (Cx.plus l a b).1.length ≤ _ at h
          rw [ep] at h
          change p.length ≤ _ at h
          omega
        have Hp := Lib.hid ep
        have np : (j != j) = false := by simp
        obtain ⟨q, k, eq⟩ : ∃ (q : List N) (k : Int), Cx.times l a b = (q, k) := ⟨_, _, rfl⟩
        have zq : q.length ≤ 63 := by
          have h := (two_len l 4 a b 1 0).2
          change (Cx.times l a b).1.length ≤ _ at h
          rw [eq] at h
          change q.length ≤ _ at h
          omega
        have Hq := Lib.hid eq
        have nq : (k != k) = false := by simp
        obtain ⟨Z, hZ⟩ : ∃ Z, Cx.valid raw = Z := ⟨_, rfl⟩
        have HZ := Lib.hid hZ
        have qZ : (Z == Z) = true := by simp
        obtain ⟨X, hX⟩ : ∃ X, Cx.eval l a ts = X := ⟨_, rfl⟩
        have HX := Lib.hid hX
        have qX : (X == X) = true := by simp
        obtain ⟨S, eS⟩ : ∃ S : ByteArray, (⟨(Cx.text l a lim).toArray⟩ : ByteArray) = S := ⟨_, rfl⟩
        have HS := Lib.hid eS
        have qS : (S.toList == S.toList) = true := by simp
        have HF := Lib.hid hF; have HI := Lib.hid hI; have Hng := Lib.hid hng
        clear hF hI hng eS hX hZ ev ep eq
        go_enter Tryd.func3, Tryd.ntmps3
        go_wp2_with fail
        refine (head_any w hT).mono ?_
        rintro e w0 ⟨rfl, bw⟩
        replace hA := hA.below bw
        replace hR := hR.below bw
        replace hN := hN.below bw
        go_wp2_with fail
        refine (build_any A c ms _ h60 hA).mono ?_
        rintro e w1 ⟨A1, c1, rfl, hc1, b1⟩
        rw [hl] at hc1 ⊢
        replace hA := hA.below b1
        replace hR := hR.below b1
        replace hN := hN.below b1
        replace bw := bw.trans (b1.mono bw.size)
        clear b1
        clear hA
        go_wp2_with fail
        refine (var_val A1 c1 l a _ (by omega) hc1 Hv.out).mono ?_
        rintro e w2 ⟨A2, c2, rfl, hc2, b2⟩
        replace hR := hR.below b2
        replace hN := hN.below b2
        replace hc1 := hc1.below b2
        replace bw := bw.trans (b2.mono bw.size)
        clear b2
        go_wp2_with fail
        refine (rvar_val A1 c1 l a _ (by omega) hc1 (by omega)  Hv.out).mono ?_
        rintro e w3 ⟨A3, c3, rfl, hc3, b3⟩
        replace hR := hR.below b3
        replace hN := hN.below b3
        replace hc1 := hc1.below b3
        replace hc2 := hc2.below b3
        replace bw := bw.trans (b3.mono bw.size)
        clear b3
        go_wp2_with fail
        refine (same_any A2 c2 v A3 c3 v _ (by omega) (by omega) hc2.circ hc3.circ).mono ?_
        rintro e w4 ⟨rfl, b4⟩
        rw [decide_eq_true (show v = v from rfl)]
        replace hR := hR.below b4
        replace hN := hN.below b4
        replace hc1 := hc1.below b4
        replace hc2 := hc2.below b4
        replace hc3 := hc3.below b4
        replace bw := bw.trans (b4.mono bw.size)
        clear b4
        clear hc2 hc3
        go_wp2_with fail
        refine (plus_val A1 c1 l a b _ (by omega) hc1 Hp.out).mono ?_
        rintro e w5 ⟨A4, c4, rfl, hc4, b5⟩
        replace hR := hR.below b5
        replace hN := hN.below b5
        replace hc1 := hc1.below b5
        replace bw := bw.trans (b5.mono bw.size)
        clear b5
        go_wp2_with fail
        refine (rplus_val A1 c1 l a b _ (by omega) hc1 (by omega) ha1 hb1 Hp.out).mono ?_
        rintro e w6 ⟨A5, c5, rfl, hc5, b6⟩
        replace hR := hR.below b6
        replace hN := hN.below b6
        replace hc1 := hc1.below b6
        replace hc4 := hc4.below b6
        replace bw := bw.trans (b6.mono bw.size)
        clear b6
        go_wp2_with fail
        refine (same_any A4 c4 p A5 c5 p _ (by omega) (by omega) hc4.circ hc5.circ).mono ?_
        rintro e w7 ⟨rfl, b7⟩
        rw [decide_eq_true (show p = p from rfl)]
        replace hR := hR.below b7
        replace hN := hN.below b7
        replace hc1 := hc1.below b7
        replace hc4 := hc4.below b7
        replace hc5 := hc5.below b7
        replace bw := bw.trans (b7.mono bw.size)
        clear b7
        clear hc4 hc5
        go_wp2_with fail
        refine (times_val A1 c1 l a b _ (by omega) hc1 Hq.out).mono ?_
        rintro e w8 ⟨A6, c6, rfl, hc6, b8⟩
        replace hR := hR.below b8
        replace hN := hN.below b8
        replace hc1 := hc1.below b8
        replace bw := bw.trans (b8.mono bw.size)
        clear b8
        go_wp2_with fail
        refine (rtimes_val A1 c1 l a b _ (by omega) hc1 (by omega) ha1 hb1 Hq.out).mono ?_
        rintro e w9 ⟨A7, c7, rfl, hc7, b9⟩
        replace hR := hR.below b9
        replace hN := hN.below b9
        replace hc1 := hc1.below b9
        replace hc6 := hc6.below b9
        replace bw := bw.trans (b9.mono bw.size)
        clear b9
        go_wp2_with fail
        refine (same_any A6 c6 q A7 c7 q _ (by omega) (by omega) hc6.circ hc7.circ).mono ?_
        rintro e w10 ⟨rfl, b10⟩
        rw [decide_eq_true (show q = q from rfl)]
        replace hR := hR.below b10
        replace hN := hN.below b10
        replace hc1 := hc1.below b10
        replace hc6 := hc6.below b10
        replace hc7 := hc7.below b10
        replace bw := bw.trans (b10.mono bw.size)
        clear b10
        clear hc6 hc7
        go_wp2_with fail
        refine (new_any _).mono ?_
        rintro e W1 ⟨rfl, eW1⟩
        go_wp2_with fail
        refine (rnew_any _).mono ?_
        rintro e W2 ⟨rfl, eW2⟩
        have a1 : At W1 w10.heap.size 50 (ncells Cx.new).toArray := by rw [← eW1]; exact At.new _ _ _
        have B1 : Below w10.heap.size w10 W1 := by rw [← eW1]; exact below1 _ _
        have a2 : At W2 W1.heap.size 50 (ncells Cx.new).toArray := by rw [← eW2]; exact At.new _ _ _
        have B2 : Below W1.heap.size W1 W2 := by rw [← eW2]; exact below1 _ _
        have hn1 := circ_new (a1.next B2)
        have hn2 := circ_new a2
        replace hR := (hR.below B1).below B2
        replace hN := (hN.below B1).below B2
        replace hc1 := (hc1.below B1).below B2
        replace bw := (bw.trans (B1.mono bw.size)).trans (B2.mono (bw.trans (B1.mono bw.size)).size)
        clear a1 a2 B1 B2 eW1 eW2
        go_wp2_with fail
        refine (same_any _ _ Cx.new _ _ Cx.new _ (by decide) (by decide) hn1 hn2).mono ?_
        rintro e w11 ⟨rfl, b11⟩
        rw [decide_eq_true (show Cx.new = Cx.new from rfl)]
        replace hR := hR.below b11
        replace hN := hN.below b11
        replace hc1 := hc1.below b11
        replace bw := bw.trans (b11.mono bw.size)
        clear b11
        go_wp2_with fail
        refine (valid_any D rd raw _ (by omega) HF.out hR).mono ?_
        rintro e w12 ⟨rfl, b12⟩
        rw [HZ.out]
        replace hR := hR.below b12
        replace hN := hN.below b12
        replace hc1 := hc1.below b12
        replace bw := bw.trans (b12.mono bw.size)
        clear b12
        go_wp2_with fail
        refine (rvalid_any D rd raw _ (by omega) HF.out hR.circ).mono ?_
        rintro e w13 ⟨rfl, b13⟩
        rw [HZ.out]
        replace hR := hR.below b13
        replace hN := hN.below b13
        replace hc1 := hc1.below b13
        replace bw := bw.trans (b13.mono bw.size)
        clear b13
        go_wp2_with fail
        refine (valid_any A1 c1 l _ (by omega) Hng.out hc1).mono ?_
        rintro e w14 ⟨rfl, b14⟩
        rw [hll.out.good.valid (by omega)]
        replace hR := hR.below b14
        replace hN := hN.below b14
        replace hc1 := hc1.below b14
        replace bw := bw.trans (b14.mono bw.size)
        clear b14
        go_wp2_with fail
        refine (eval_any A1 c1 l a T td ts _ hll.out.good Hng.out (by omega) (by omega) HI.out hc1 hN).mono ?_
        rintro e w15 ⟨rfl, b15⟩
        rw [HX.out]
        replace hR := hR.below b15
        replace hN := hN.below b15
        replace hc1 := hc1.below b15
        replace bw := bw.trans (b15.mono bw.size)
        clear b15
        go_wp2_with fail
        refine (reval_any A1 c1 l a T td ts _ (by omega) (by omega) hll.out.good hc1.circ hN).mono ?_
        rintro e w16 ⟨rfl, b16⟩
        rw [HX.out]
        replace hR := hR.below b16
        replace hN := hN.below b16
        replace hc1 := hc1.below b16
        replace bw := bw.trans (b16.mono bw.size)
        clear b16
        go_wp2_with fail
        refine (cvars_all A1 c1 l a _ hll.out.good (by omega) hc1.circ).mono ?_
        rintro e w17 ⟨A8, c8, rfl, hc8, b17⟩
        replace hR := hR.below b17
        replace hN := hN.below b17
        replace hc1 := hc1.below b17
        replace bw := bw.trans (b17.mono bw.size)
        clear b17
        go_wp2_with fail
        refine (rvars_any A1 c1 l a _ hll.out.good (by omega) hc1.circ).mono ?_
        rintro e w18 ⟨A9, c9, rfl, hc9, b18⟩
        replace hR := hR.below b18
        replace hN := hN.below b18
        replace hc1 := hc1.below b18
        replace hc8 := hc8.below b18
        replace bw := bw.trans (b18.mono bw.size)
        clear b18
        go_wp2_with fail
        refine (ints_any A8 c8 (Cx.vars l a) A9 c9 (Cx.vars l a) _ (by have := hc8.le; have := hc8.cap; unfold maxLen at this; omega) (by have := hc9.le; have := hc9.cap; unfold maxLen at this; omega) hc8.nums hc9.nums).mono ?_
        rintro e w19 ⟨rfl, b19⟩
        rw [decide_eq_true (show Cx.vars l a = Cx.vars l a from rfl)]
        replace hR := hR.below b19
        replace hN := hN.below b19
        replace hc1 := hc1.below b19
        replace hc8 := hc8.below b19
        replace hc9 := hc9.below b19
        replace bw := bw.trans (b19.mono bw.size)
        clear b19
        go_wp2_with fail
        refine (Text_any A1 c1 l a lim _ hll.out.good Hng.out (by omega) hc1.circ (hT.next bw)).mono ?_
        rintro e w20 ⟨rfl, b20⟩
        rw [HS.out]
        replace hR := hR.below b20
        replace hN := hN.below b20
        replace hc1 := hc1.below b20
        replace hc8 := hc8.below b20
        replace hc9 := hc9.below b20
        replace bw := bw.trans (b20.mono bw.size)
        clear b20
        go_wp2_with fail
        refine (rText_any A1 c1 l a lim _ hll.out.good Hng.out (by omega) hc1.circ (hT.next bw)).mono ?_
        rintro e w21 ⟨rfl, b21⟩
        rw [HS.out]
        replace hR := hR.below b21
        replace hN := hN.below b21
        replace hc1 := hc1.below b21
        replace hc8 := hc8.below b21
        replace hc9 := hc9.below b21
        replace bw := bw.trans (b21.mono bw.size)
        clear b21
        go_wp2_with fail
        go_ret
        exact ⟨rfl, bw⟩
      · have e60 : decide ((60 : Int) < (ts.length : Int)) = true := by simp; omega
        go_enter Tryd.func3, Tryd.ntmps3
        go_wp2_with fail
        refine (head_any w hT).mono ?_
        rintro e w0 ⟨rfl, bw⟩
        replace hA := hA.below bw
        go_wp2_with fail
        go_ret
        exact ⟨rfl, bw⟩
    · have e100 : decide ((100 : Int) < (raw.length : Int)) = true := by simp; omega
      go_enter Tryd.func3, Tryd.ntmps3
      go_wp2_with fail
      refine (head_any w hT).mono ?_
      rintro e w0 ⟨rfl, bw⟩
      replace hA := hA.below bw
      go_wp2_with fail
      go_ret
      exact ⟨rfl, bw⟩
  · have d60 : decide ((60 : Int) < (ms.length : Int)) = true := by simp; omega
    go_enter Tryd.func3, Tryd.ntmps3
    go_wp2_with fail
    refine (head_any w hT).mono ?_
    rintro e w0 ⟨rfl, bw⟩
    replace hA := hA.below bw
    go_wp2_with fail
    go_ret
    exact ⟨rfl, bw⟩
end Go.Proofs.YtigcmjnjcaoolaaDoor
