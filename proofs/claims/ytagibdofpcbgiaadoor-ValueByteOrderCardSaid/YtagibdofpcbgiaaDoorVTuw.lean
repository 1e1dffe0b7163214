/- The walk of the law ValueTuples. -/
import Derived.Test.YtagibdofpcbgiaaDoorVLaw2
namespace Go.Proofs.YtagibdofpcbgiaaDoor
theorem fits_app {a b : List Vx.V} (ha : Fits a) (hb : Fits b) : Fits (a ++ b) := fun v hv => by
  rcases List.mem_append.1 hv with h | h
  · exact ha v h
  · exact hb v h
theorem join_val (A B : Option Addr) (n m c d : Nat) (xs ys : List Vx.V) (w : World) (hn : n = xs.length) (hm : m = ys.length) (hx : n ≤ 1000000) (hy : m ≤ 1000000) (hA : Tup w A xs) (hB : Tup w B ys) (zA : A = none → c = 0) (zB : B = none → d = 0) :
    Calls Tryd.prog 27 #[.slice A n c, .slice B m d] w (TupOut1 (xs ++ ys) w) := by
  subst hn; subst hm; exact join_any A B c d xs ys w hx hy hA hB zA zB
end Go.Proofs.YtagibdofpcbgiaaDoor
namespace Go.Proofs.YtagibdofpcbgiaaDoor.valueTuples
set_option linter.unusedVariables false
set_option linter.unusedSimpArgs false
open Go.RowKit Go.Shelf
set_option maxHeartbeats 4000000 in
set_option maxRecDepth 100000 in
theorem law_walk (A : Option Addr) (ka : Nat) (a : List Vx.V) (B : Option Addr) (kb : Nat) (b : List Vx.V) (C : Option Addr) (kc : Nat) (c : List Vx.V) (D : Option Addr) (kd : Nat) (d : List Vx.V) (w : World) (hy : Laid w)
    (ha : a.length ≤ 281474976710656) (zA : A = none → ka = 0) (hA : Tup w A a) (fa : Fits a) (hb : b.length ≤ 281474976710656) (zB : B = none → kb = 0) (hB : Tup w B b) (fb : Fits b)
    (hc : c.length ≤ 281474976710656) (zC : C = none → kc = 0) (hC : Tup w C c) (fc : Fits c) (hd : d.length ≤ 281474976710656) (zD : D = none → kd = 0) (hD : Tup w D d) (fd : Fits d) :
    Calls Tryd.prog 5 #[.slice A a.length ka, .slice B b.length kb, .slice C c.length kc, .slice D d.length kd] w fun e w' => e = .returned (.bool true) ∧ Below w.heap.size w w' := by
  by_cases hs : 2000 < a.length + b.length + c.length + d.length
  · have d1 : decide ((2000 : Int) < (a.length : Int) + (b.length : Int) + (c.length : Int) + (d.length : Int)) = true := by simp; omega
    go_enter Tryd.func5, Tryd.ntmps5
    go_wp2_with fail
    refine (head_any _ hy).mono ?_
    rintro e w1 ⟨rfl, b1⟩
    go_wp2_with fail
    go_ret
    exact ⟨rfl, b1⟩
  · have d1 : decide ((2000 : Int) < (a.length : Int) + (b.length : Int) + (c.length : Int) + (d.length : Int)) = false := by simp; omega
    obtain ⟨X, hX⟩ : ∃ X, Vx.cmpT a b = X := ⟨_, rfl⟩
    have hanti := cmpT_cmp.anti a b
    have hfront : Vx.cmpT (c ++ a) (c ++ b) = Vx.cmpT a b := cmpV_cmp.front c a b
    have hback : a.length = b.length → Vx.cmpT a b ≠ 0 → Vx.cmpT (a ++ c) (b ++ d) = Vx.cmpT a b := cmpV_cmp.back a b c d
    have hlong : c ≠ [] → Vx.cmpT a (a ++ c) = -1 := cmpV_cmp.longer a c
    have hxc := cmpT_cmp.rng a b
    rw [hX] at hanti hfront hback hxc
    have HX := Lib.hid hX; have HAN := Lib.hid hanti; have HF := Lib.hid hfront; have HBK := Lib.hid hback; have HL := Lib.hid hlong
    clear hX hanti hfront hback hlong
    have hA' := fun W (h : Below w.heap.size w W) => hA.below h
    have hB' := fun W (h : Below w.heap.size w W) => hB.below h
    have hC' := fun W (h : Below w.heap.size w W) => hC.below h
    have hD' := fun W (h : Below w.heap.size w W) => hD.below h
    have TA := Lib.hid hA'; have TB := Lib.hid hB'; have TC := Lib.hid hC'; have TD := Lib.hid hD'
    have FA := Lib.hid fa; have FB := Lib.hid fb; have FC := Lib.hid fc; have FD := Lib.hid fd
    have ZA := Lib.hid zA; have ZB := Lib.hid zB; have ZC := Lib.hid zC; have ZD := Lib.hid zD
    clear hA hB hC hD hA' hB' hC' hD' fa fb fc fd zA zB zC zD
    have hs' : a.length + b.length + c.length + d.length ≤ 2000 := by omega
    clear hs ha hb hc hd
    obtain ⟨nc, hnc⟩ : ∃ n, n = c.length := ⟨_, rfl⟩
    rw [← hnc] at hs' d1
    have HNC := Lib.hid hnc
    rw [show Value.slice C c.length kc = Value.slice C nc kc by rw [hnc]]
    clear hnc
    go_enter Tryd.func5, Tryd.ntmps5
    go_wp2_with fail
    refine (head_any _ hy).mono ?_
    rintro e w1 ⟨rfl, b1⟩
    rcases hxc with rfl | rfl | rfl
    all_goals
      go_wp2_with fail
      refine (ctuple_val A B _ _ ka kb a b _ _ rfl rfl (by omega) (by omega) (TA.out _ b1) (TB.out _ b1) FA.out FB.out HX.out).mono ?_
      rintro e w2 ⟨rfl, b2'⟩
      have b2 := b1.trans (b2'.mono b1.size)
      clear b2'
      go_wp2_with fail
      refine (ctuple_val B A _ _ kb ka b a _ _ rfl rfl (by omega) (by omega) (TB.out _ b2) (TA.out _ b2) FB.out FA.out HAN.out).mono ?_
      rintro e w3 ⟨rfl, b3'⟩
      have b3 := b2.trans (b3'.mono b2.size)
      clear b3'
      go_wp2_with fail
      refine (join_val C A _ _ kc ka c a _ HNC.out rfl (by omega) (by omega) (TC.out _ b3) (TA.out _ b3) ZC.out ZA.out).mono ?_
      rintro e w4 ⟨J4, c4, rfl, _, _, T4, b4'⟩
      have b4 := b3.trans (b4'.mono b3.size)
      clear b4'
      go_wp2_with fail
      refine (join_val C B _ _ kc kb c b _ HNC.out rfl (by omega) (by omega) (TC.out _ b4) (TB.out _ b4) ZC.out ZB.out).mono ?_
      rintro e w5 ⟨J5, c5, rfl, _, _, T5, b5'⟩
      have b5 := b4.trans (b5'.mono b4.size)
      have T4' := Lib.hid (T4.below b5')
      have T5' := Lib.hid T5
      clear b5' T4 T5
      go_wp2_with fail
      refine (ctuple_val J4 J5 _ _ c4 c5 (c ++ a) (c ++ b) _ _ (by simp) (by simp) (by rw [List.length_append, ← HNC.out]; omega) (by rw [List.length_append, ← HNC.out]; omega) T4'.out T5'.out (fits_app FC.out FA.out) (fits_app FC.out FB.out) HF.out).mono ?_
      rintro e w6 ⟨rfl, b6'⟩
      have b6 := b5.trans (b6'.mono b5.size)
      clear b6' T4' T5'
      have hlen : ∀ (p q : Bool), ((a.length : Int) == (b.length : Int)) = p → ((nc : Int) == 0) = q → (p = true → a.length = b.length) ∧ (q = false → c ≠ []) := fun p q hp hq => ⟨fun h => by rw [h] at hp; have := beq_iff_eq.1 hp; omega, fun h e => by
        rw [h] at hq
        have := beq_eq_false_iff_ne.1 hq
        rw [HNC.out, e] at this
        exact this rfl⟩
      have HLEN := Lib.hid hlen
      clear hlen
      cases p1 : ((a.length : Int) == (b.length : Int))
      · cases p2 : ((nc : Int) == 0)
        · have hcn := (HLEN.out _ _ p1 p2).2 rfl
          have HCN := Lib.hid (HL.out hcn)
          clear hcn HLEN
          go_wp2_with fail
          refine (join_val A C _ _ ka kc a c _ rfl HNC.out (by omega) (by omega) (TA.out _ b6) (TC.out _ b6) ZA.out ZC.out).mono ?_
          rintro e w10 ⟨J10, c10, rfl, _, _, T10, b10'⟩
          have b10 := b6.trans (b10'.mono b6.size)
          have T10' := Lib.hid T10
          clear b10' T10
          go_wp2_with fail
          refine (ctuple_val A J10 _ _ ka c10 a (a ++ c) _ _ rfl (by simp) (by omega) (by rw [List.length_append, ← HNC.out]; omega) (TA.out _ b10) T10'.out FA.out (fits_app FA.out FC.out) HCN.out).mono ?_
          rintro e w11 ⟨rfl, b11'⟩
          have b11 := b10.trans (b11'.mono b10.size)
          clear b11' T10'
          go_wp2_with fail
          go_ret
          exact ⟨rfl, b11⟩
        · clear HLEN
          go_wp2_with fail
          go_ret
          exact ⟨rfl, b6⟩
      · have hbk := fun h => HBK.out ((HLEN.out _ _ p1 rfl).1 rfl) h
        have HB2 := Lib.hid hbk
        clear hbk HBK
        first
          | (go_wp2_with fail
             refine (join_val A C _ _ ka kc a c _ rfl HNC.out (by omega) (by omega) (TA.out _ b6) (TC.out _ b6) ZA.out ZC.out).mono ?_
             rintro e w7 ⟨J7, c7, rfl, _, _, T7, b7'⟩
             have b7 := b6.trans (b7'.mono b6.size)
             clear b7'
             go_wp2_with fail
             refine (join_val B D _ _ kb kd b d _ rfl rfl (by omega) (by omega) (TB.out _ b7) (TD.out _ b7) ZB.out ZD.out).mono ?_
             rintro e w8 ⟨J8, c8, rfl, _, _, T8, b8'⟩
             have b8 := b7.trans (b8'.mono b7.size)
             have T7' := Lib.hid (T7.below b8')
             have T8' := Lib.hid T8
             clear T7 T8 b8'
             go_wp2_with fail
             refine (ctuple_val J7 J8 _ _ c7 c8 (a ++ c) (b ++ d) _ _ (by simp) (by simp) (by rw [List.length_append, ← HNC.out]; omega) (by rw [List.length_append]; omega) T7'.out T8'.out (fits_app FA.out FC.out) (fits_app FB.out FD.out) (HB2.out (by decide))).mono ?_
             rintro e w9 ⟨rfl, b9'⟩
             have b9 := b8.trans (b9'.mono b8.size)
             clear b9' T7' T8' HB2
             cases p2 : ((nc : Int) == 0)
             · have hcn := (HLEN.out _ _ p1 p2).2 rfl
               have HCN := Lib.hid (HL.out hcn)
               clear hcn HLEN
               go_wp2_with fail
               refine (join_val A C _ _ ka kc a c _ rfl HNC.out (by omega) (by omega) (TA.out _ b9) (TC.out _ b9) ZA.out ZC.out).mono ?_
               rintro e w10 ⟨J10, c10, rfl, _, _, T10, b10'⟩
               have b10 := b9.trans (b10'.mono b9.size)
               have T10' := Lib.hid T10
               clear b10' T10
               go_wp2_with fail
               refine (ctuple_val A J10 _ _ ka c10 a (a ++ c) _ _ rfl (by simp) (by omega) (by rw [List.length_append, ← HNC.out]; omega) (TA.out _ b10) T10'.out FA.out (fits_app FA.out FC.out) HCN.out).mono ?_
               rintro e w11 ⟨rfl, b11'⟩
               have b11 := b10.trans (b11'.mono b10.size)
               clear b11' T10'
               go_wp2_with fail
               go_ret
               exact ⟨rfl, b11⟩
             · clear HLEN
               go_wp2_with fail
               go_ret
               exact ⟨rfl, b9⟩)
          | (clear HB2
             cases p2 : ((nc : Int) == 0)
             · have hcn := (HLEN.out _ _ p1 p2).2 rfl
               have HCN := Lib.hid (HL.out hcn)
               clear hcn HLEN
               go_wp2_with fail
               refine (join_val A C _ _ ka kc a c _ rfl HNC.out (by omega) (by omega) (TA.out _ b6) (TC.out _ b6) ZA.out ZC.out).mono ?_
               rintro e w10 ⟨J10, c10, rfl, _, _, T10, b10'⟩
               have b10 := b6.trans (b10'.mono b6.size)
               have T10' := Lib.hid T10
               clear b10' T10
               go_wp2_with fail
               refine (ctuple_val A J10 _ _ ka c10 a (a ++ c) _ _ rfl (by simp) (by omega) (by rw [List.length_append, ← HNC.out]; omega) (TA.out _ b10) T10'.out FA.out (fits_app FA.out FC.out) HCN.out).mono ?_
               rintro e w11 ⟨rfl, b11'⟩
               have b11 := b10.trans (b11'.mono b10.size)
               clear b11' T10'
               go_wp2_with fail
               go_ret
               exact ⟨rfl, b11⟩
             · clear HLEN
               go_wp2_with fail
               go_ret
               exact ⟨rfl, b6⟩)
end Go.Proofs.YtagibdofpcbgiaaDoor.valueTuples
