/- The walk of the law ValueMatchesReference. -/
import Derived.Test.YtagibdofpcbgiaaDoorVTxw
import Derived.Test.YtagibdofpcbgiaaDoorVTuw
namespace Go.Proofs.YtagibdofpcbgiaaDoor
open Go.RowKit Go.Shelf
theorem short_val (A : Option Addr) (n c : Nat) (xs : List Vx.V) (b : Bool) (w : World) (hn : n = xs.length) (hx : xs.length ≤ 281474976710656) (hA : Tup w A xs) (fx : Fits xs) (hb : shortB xs = b) :
    Calls Tryd.prog 10 #[.slice A n c] w fun e w' => e = .returned (.bool b) ∧ w = w' := by
  subst hb; subst hn; exact short_any A c xs w hx hA fx
theorem rvalid_b (t n : Int) (s : ByteArray) (b : Bool) (w : World) (h : s.size ≤ 281474976710656) (hb : Vx.valid ⟨t, n, s.data.toList⟩ = b) :
    Calls Tryd.prog 12 #[.agg #[.int .i64 t, .int .i64 n, .string s]] w fun e w' => e = .returned (.bool b) ∧ Below w.heap.size w w' := by
  subst hb; exact rvalid_any t n s w h
theorem rtext_b (t n : Int) (s r : ByteArray) (w : World) (h : s.size ≤ 281474976710656) (hr : Vx.text ⟨t, n, s.data.toList⟩ = r.data.toList) :
    Calls Tryd.prog 18 #[.agg #[.int .i64 t, .int .i64 n, .string s]] w fun e w' => e = .returned (.string r) ∧ Below w.heap.size w w' := by
  have := rtext_any t n s w h
  rw [hr, str_mk] at this
  exact this
theorem rparse_b (s r : ByteArray) (t n e : Int) (w : World) (hs : s.size ≤ 281474976710656) (h : Vx.parse s.data.toList = (⟨t, n, r.data.toList⟩, e)) :
    Calls Tryd.prog 20 #[.string s] w fun e' w' => e' = .returned (.tuple #[.agg #[.int .i64 t, .int .i64 n, .string r], .int .i64 e]) ∧ Below w.heap.size w w' := by
  have := rparse_any s w hs
  rw [h] at this
  simp only [str_mk] at this
  exact this
theorem rctuple_val (A B : Option Addr) (n m c d : Nat) (xs ys : List Vx.V) (r : Int) (w : World) (hn : n = xs.length) (hm : m = ys.length) (hx : xs.length ≤ 281474976710656) (hy : ys.length ≤ 281474976710656) (hA : Tup w A xs) (hB : Tup w B ys) (fx : Fits xs) (fy : Fits ys) (hr : Vx.cmpT xs ys = r) :
    Calls Tryd.prog 16 #[.slice A n c, .slice B m d] w fun e w' => e = .returned (.int .i64 r) ∧ Below w.heap.size w w' := by
  subst hn; subst hm; subst hr; exact rctuple_any A B c d xs ys w hx hy hA hB fx fy
theorem cmp_b (ta na tb nb : Int) (sa sb : ByteArray) (r : Int) (w : World) (h : sa.size ≤ 281474976710656) (h' : sb.size ≤ 281474976710656) (hr : Vx.cmpV ⟨ta, na, sa.data.toList⟩ ⟨tb, nb, sb.data.toList⟩ = r) :
    Calls Tryd.prog 13 #[.agg #[.int .i64 ta, .int .i64 na, .string sa], .agg #[.int .i64 tb, .int .i64 nb, .string sb]] w fun e w' => e = .returned (.int .i64 r) ∧ Below w.heap.size w w' := by
  subst hr; exact compare_any ta na tb nb sa sb w h h'
theorem rcmp_b (ta na tb nb : Int) (sa sb : ByteArray) (r : Int) (w : World) (h : sa.size ≤ 281474976710656) (h' : sb.size ≤ 281474976710656) (hr : Vx.cmpV ⟨ta, na, sa.data.toList⟩ ⟨tb, nb, sb.data.toList⟩ = r) :
    Calls Tryd.prog 14 #[.agg #[.int .i64 ta, .int .i64 na, .string sa], .agg #[.int .i64 tb, .int .i64 nb, .string sb]] w fun e w' => e = .returned (.int .i64 r) ∧ Below w.heap.size w w' := by
  subst hr; exact rcompare_any ta na tb nb sa sb w (by omega) (by omega)
theorem same_val (A B : Option Addr) (n m c d : Nat) (xs ys : List Vx.V) (b : Bool) (w : World) (hn : n = xs.length) (hm : m = ys.length) (hx : xs.length ≤ 281474976710656) (hy : ys.length ≤ 281474976710656) (hA : Tup w A xs) (hB : Tup w B ys) (fx : Fits xs) (fy : Fits ys) (hr : (Vx.cmpT xs ys == 0) = b) :
    Calls Tryd.prog 23 #[.slice A n c, .slice B m d] w fun e w' => e = .returned (.bool b) ∧ Below w.heap.size w w' := by
  subst hn; subst hm; subst hr; exact same_any A B c d xs ys w hx hy hA hB fx fy
theorem samebytes_val (A B : Option Addr) (n m c d : Nat) (xs ys : List UInt8) (b : Bool) (w : World) (hn : n = xs.length) (hm : m = ys.length) (hx : xs.length ≤ 281474976710656) (hy : ys.length ≤ 281474976710656) (hA : Bytes w A xs) (hB : Bytes w B ys) (hr : sameB xs ys = b) :
    Calls Tryd.prog 24 #[.slice A n c, .slice B m d] w fun e w' => e = .returned (.bool b) ∧ Below w.heap.size w w' := by
  subst hn; subst hm; subst hr; exact samebytes_any A B c d xs ys w hx hy hA hB
theorem rencode_val (A : Option Addr) (n c : Nat) (xs : List Vx.V) (r : List UInt8) (w : World) (hn : n = xs.length) (hx : xs.length ≤ 1000000) (hA : Tup w A xs) (fx : Fits xs) (hr : Vx.encode xs = r) :
    Calls Tryd.prog 26 #[.slice A n c] w (BytesOut r w) := by
  subst hr; subst hn; exact rencode_out A c xs w hx hA fx
theorem rdecode_val (A : Option Addr) (n c : Nat) (xs : List UInt8) (r : List Vx.V) (er : Int) (w : World) (hn : n = xs.length) (hx : xs.length ≤ 1000000) (hxc : xs.length ≤ c) (hc : c ≤ 9223372036854775807) (hA : Bytes w A xs) (hr : (Vx.decode xs).getD [] = r) (he : decErr xs = er) :
    Calls Tryd.prog 22 #[.slice A n c] w (TupOut r er w) := by
  subst hr; subst hn; subst he; exact rdecode_out A c xs w hx hxc hc hA
theorem encode_len (l : List Vx.V) : (Vx.encode l).length ≤ 18 * l.length := by
  unfold Vx.encode
  split
  · rename_i h
    induction l with
    | nil => simp
    | cons v l ih =>
      simp only [List.all_cons, Bool.and_eq_true] at h
      have := ih h.2
      have := encV_len h.1
      rw [List.flatMap_cons, List.length_append, List.length_cons]; omega
  · simp
end Go.Proofs.YtagibdofpcbgiaaDoor
namespace Go.Proofs.YtagibdofpcbgiaaDoor.valueMatchesReference
set_option linter.unusedVariables false
set_option linter.unusedSimpArgs false
open Go.RowKit Go.Shelf
set_option maxHeartbeats 8000000 in
set_option maxRecDepth 100000 in
theorem law_walk (ta na : Int) (sa : ByteArray) (tb nb : Int) (sb : ByteArray) (A : Option Addr) (ka : Nat) (l : List Vx.V) (B : Option Addr) (kb : Nat) (m : List Vx.V) (s : ByteArray) (G : Option Addr) (kg : Nat) (g : List UInt8) (w : World) (hy : Laid w)
    (ha : sa.size ≤ 281474976710656) (hb : sb.size ≤ 281474976710656) (hll : l.length ≤ 281474976710656) (hA : Tup w A l) (fa : Fits l) (hlm : m.length ≤ 281474976710656) (hB : Tup w B m) (fb : Fits m) (hs : s.size ≤ 281474976710656)
    (hlg : g.length ≤ 281474976710656) (hgk : g.length ≤ kg) (hkg : kg ≤ 9223372036854775807) (hG : Bytes w G g) :
    Calls Tryd.prog 3 #[.agg #[.int .i64 ta, .int .i64 na, .string sa], .agg #[.int .i64 tb, .int .i64 nb, .string sb], .slice A l.length ka, .slice B m.length kb, .string s, .slice G g.length kg] w fun e w' => e = .returned (.bool true) ∧ Below w.heap.size w w' := by
  obtain ⟨W, hW⟩ : ∃ W, W = (w.alloc (.cells #[.int .i64 ta, .int .i64 na, .string sa] 23)).alloc (.cells #[.int .i64 tb, .int .i64 nb, .string sb] 23) := ⟨_, rfl⟩
  have gA : At W w.heap.size 23 #[.int .i64 ta, .int .i64 na, .string sa] := by rw [hW]; exact (At.new _ _ _).alloc _
  have gB : At W (w.heap.size + 1) 23 #[.int .i64 tb, .int .i64 nb, .string sb] := by rw [hW]; exact At.newAt (by simp) _ _
  have bW : Below w.heap.size w W := by rw [hW]; exact ((Below.refl _ _).alloc (Nat.le_refl _) _).alloc (by simp) _
  have HW := Lib.hid hW
  clear hW
  have LY := Lib.hid (fun W (h : Below w.heap.size w W) => hy.next h)
  have TA := Lib.hid (fun W (h : Below w.heap.size w W) => hA.below h)
  have TB := Lib.hid (fun W (h : Below w.heap.size w W) => hB.below h)
  have TG := Lib.hid (fun W (h : Below w.heap.size w W) => hG.below h)
  have FA := Lib.hid fa; have FB := Lib.hid fb
  go_enter Tryd.func3, Tryd.ntmps3
  go_wp2_with fail
  rw [← HW.out]
  refine (head_any _ (hy.next bW)).mono ?_
  rintro e w1 ⟨rfl, b1⟩
  have gA1 := gA.next b1; have gB1 := gB.next b1
  have bw1 := bW.trans (b1.mono bW.size)
  have a2 : w1.cell? ⟨w.heap.size, 2, none⟩ = some (.string sa) := gA1.cell 2
  have c2 : w1.cell? ⟨w.heap.size + 1, 2, none⟩ = some (.string sb) := gB1.cell 2
  clear gA gB bW b1 hy hA hB hG fa fb
  have SA := Lib.hid (fun b W (h : Below w.heap.size w W) (hb : shortB l = b) => short_val A _ ka l b W rfl hll (TA.out W h) FA.out hb)
  have SB := Lib.hid (fun b W (h : Below w.heap.size w W) (hb : shortB m = b) => short_val B _ kb m b W rfl hlm (TB.out W h) FB.out hb)
  by_cases hall : shortB l = true ∧ shortB m = true ∧ sa.size ≤ 2000 ∧ sb.size ≤ 2000 ∧ s.size ≤ 2000 ∧ g.length ≤ 2000
  · obtain ⟨hs1, hs2, hs3, hs4, hs5, hs6⟩ := hall
    have k1 : decide ((2000 : Int) < (sa.size : Int)) = false := by simp; omega
    have k2 : decide ((2000 : Int) < (sb.size : Int)) = false := by simp; omega
    have k3 : decide ((2000 : Int) < (s.size : Int)) = false := by simp; omega
    have k4 : decide ((2000 : Int) < (g.length : Int)) = false := by simp; omega
    have hl2 : l.length ≤ 2000 := by unfold shortB at hs1; simp at hs1; omega
    have hm2 : m.length ≤ 2000 := by unfold shortB at hs2; simp at hs2; omega
    have HS1 := Lib.hid hs1; have HS2 := Lib.hid hs2
    clear hs1 hs2
    go_wp2_with fail
    refine (SA.out true _ bw1 HS1.out).mono ?_
    rintro e w' ⟨rfl, rfl⟩
    go_wp2_with fail
    refine (SB.out true _ bw1 HS2.out).mono ?_
    rintro e w' ⟨rfl, rfl⟩
    go_wp2_with fail
    clear a2 c2 k1 k2 k3 k4 SA SB HS1 HS2
    obtain ⟨f0, f1, f2⟩ := held3 gA1
    obtain ⟨h0, h1, h2⟩ := held3 gB1
    obtain ⟨va, hva⟩ : ∃ b, Vx.valid ⟨ta, na, sa.data.toList⟩ = b := ⟨_, rfl⟩
    obtain ⟨X, hX⟩ : ∃ X, Vx.cmpV ⟨ta, na, sa.data.toList⟩ ⟨tb, nb, sb.data.toList⟩ = X := ⟨_, rfl⟩
    obtain ⟨Y, hY⟩ : ∃ Y, Vx.cmpT l m = Y := ⟨_, rfl⟩
    obtain ⟨R, hR⟩ : ∃ R : ByteArray, Vx.text ⟨ta, na, sa.data.toList⟩ = R.data.toList := ⟨⟨(Vx.text ⟨ta, na, sa.data.toList⟩).toArray⟩, rfl⟩
    have E1 : ∀ z : Held w1.heap.size w1, _ := fun z => valid_b ta na sa va z.w (LY.out z.w (bw1.trans (z.ok.mono bw1.size))).words ha hva
    have E2 : ∀ z : Held w1.heap.size w1, _ := fun z => rvalid_b ta na sa va z.w ha hva
    have E3 : ∀ z : Held w1.heap.size w1, _ := fun z => cmp_b ta na tb nb sa sb X z.w ha hb hX
    have E4 : ∀ z : Held w1.heap.size w1, _ := fun z => rcmp_b ta na tb nb sa sb X z.w ha hb hX
    have E5 : ∀ z : Held w1.heap.size w1, _ := fun z => ctuple_val A B _ _ ka kb l m Y z.w rfl rfl hll hlm (TA.out z.w (bw1.trans (z.ok.mono bw1.size))) (TB.out z.w (bw1.trans (z.ok.mono bw1.size))) FA.out FB.out hY
    have E6 : ∀ z : Held w1.heap.size w1, _ := fun z => rctuple_val A B _ _ ka kb l m Y z.w rfl rfl hll hlm (TA.out z.w (bw1.trans (z.ok.mono bw1.size))) (TB.out z.w (bw1.trans (z.ok.mono bw1.size))) FA.out FB.out hY
    have E7 : ∀ z : Held w1.heap.size w1, _ := fun z => text_b ta na sa R z.w (LY.out z.w (bw1.trans (z.ok.mono bw1.size))) ha hR
    have E8 : ∀ z : Held w1.heap.size w1, _ := fun z => rtext_b ta na sa R z.w ha hR
    clear hva hX hY hR
    refine wp_region_held w1.heap.size w1 (Below.refl _ _) (by kernel_rfl) (by kernel_rfl) ?_
    repeat (go_big_quiet_step ((first
      | (go_at_call 11; with_reducible exact held_call _ (Nat.le_refl _) (E1 _))
      | (go_at_call 12; with_reducible exact held_call _ (Nat.le_refl _) (E2 _))
      | (go_at_call 13; with_reducible exact held_call _ (Nat.le_refl _) (E3 _))
      | (go_at_call 14; with_reducible exact held_call _ (Nat.le_refl _) (E4 _))
      | (go_at_call 15; with_reducible exact held_call _ (Nat.le_refl _) (E5 _))
      | (go_at_call 16; with_reducible exact held_call _ (Nat.le_refl _) (E6 _))
      | (go_at_call 17; with_reducible exact held_call _ (Nat.le_refl _) (E7 _))
      | (go_at_call 18; with_reducible exact held_call _ (Nat.le_refl _) (E8 _)))))
    refine wpQuiet_nil ?_
    rintro w2 ⟨⟨_, b2'⟩, rfl⟩
    have bw2 := bw1.trans (b2'.mono bw1.size)
    clear f0 f1 f2 h0 h1 h2 gA1 gB1 E1 E2 E3 E4 E5 E6 E7 E8 b2'
    obtain ⟨⟨⟨tp, np, lp⟩, ep⟩, hpe⟩ : ∃ q, Vx.parse s.data.toList = q := ⟨_, rfl⟩
    obtain ⟨P, hP⟩ : ∃ P : ByteArray, lp = P.data.toList := ⟨⟨lp.toArray⟩, rfl⟩
    rw [hP] at hpe
    have HPE := Lib.hid hpe
    clear hpe hP
    go_wp2_with fail
    refine (parse_b s P tp np ep _ (LY.out _ bw2) hs HPE.out).mono ?_
    rintro e w3 ⟨rfl, b3'⟩
    have g3 := At.new w3 23 #[.int .i64 tp, .int .i64 np, .string P]
    have bw3' := bw2.trans (b3'.mono bw2.size)
    have bw3 := bw3'.alloc bw3'.size (.cells #[.int .i64 tp, .int .i64 np, .string P] 23)
    clear b3' bw3'
    go_wp2_with fail
    refine (rparse_b s P tp np ep _ hs HPE.out).mono ?_
    rintro e w4 ⟨rfl, b4'⟩
    have g4 := (g3.next b4').alloc (.cells #[.int .i64 tp, .int .i64 np, .string P] 23)
    have g4' := At.new w4 23 #[.int .i64 tp, .int .i64 np, .string P]
    have bw4' := bw3.trans (b4'.mono bw3.size)
    have bw4 := bw4'.alloc bw4'.size (.cells #[.int .i64 tp, .int .i64 np, .string P] 23)
    clear b4' bw4' g3
    obtain ⟨D, hD⟩ : ∃ D, (Vx.decode g).getD [] = D := ⟨_, rfl⟩
    obtain ⟨q, hq⟩ : ∃ q, decErr g = q := ⟨_, rfl⟩
    have hdl := decode_len g
    have hdf := fits_valid (decode_valid g)
    rw [hD] at hdl hdf
    have HD := Lib.hid hD; have HQ := Lib.hid hq; have HDF := Lib.hid hdf
    clear hD hq hdf
    go_wp2_with fail
    refine (decode_val G _ kg g D q _ rfl (by omega) hgk hkg (TG.out _ bw4) (LY.out _ bw4).words HD.out HQ.out).mono ?_
    rintro e w5 ⟨A5, c5, rfl, _, _, T5, b5'⟩
    have g5 := g4.next b5'; have g5' := g4'.next b5'
    have bw5 := bw4.trans (b5'.mono bw4.size)
    clear b5' g4 g4'
    have T5' := Lib.hid T5
    clear T5
    go_wp2_with fail
    refine (rdecode_val G _ kg g D q _ rfl (by omega) hgk hkg (TG.out _ bw5) HD.out HQ.out).mono ?_
    rintro e w6 ⟨A6, c6, rfl, _, _, T6, b6'⟩
    have g6 := g5.next b6'; have g6' := g5'.next b6'
    have bw6 := bw5.trans (b6'.mono bw5.size)
    have T5'' := Lib.hid (T5'.out.below b6')
    have T6' := Lib.hid T6
    clear b6' g5 g5' T6 T5'
    have a0 := g6.cell 0; have a1 := g6.cell 1; have a2 := g6.cell 2
    have c0 := g6'.cell 0; have c1 := g6'.cell 1; have c2 := g6'.cell 2
    simp at a0 a1 a2 c0 c1 c2
    go_wp2_with fail
    refine (same_val A5 A6 _ _ c5 c6 D D true _ rfl rfl (by omega) (by omega) T5''.out T6'.out HDF.out HDF.out (by rw [cmpT_cmp.same]; rfl)).mono ?_
    rintro e w7 ⟨rfl, b7'⟩
    have bw7 := bw6.trans (b7'.mono bw6.size)
    clear b7' g6 g6' a0 a1 a2 c0 c1 c2 T5'' T6'
    obtain ⟨Z, hZ⟩ : ∃ Z, Vx.encode l = Z := ⟨_, rfl⟩
    have hzl := encode_len l
    rw [hZ] at hzl
    have HZ := Lib.hid hZ
    clear hZ
    go_wp2_with fail
    refine (encode_val A _ ka l Z _ rfl (by omega) (TA.out _ bw7) FA.out (LY.out _ bw7).words HZ.out).mono ?_
    rintro e w8 ⟨A8, c8, rfl, _, _, T8, b8'⟩
    have bw8 := bw7.trans (b8'.mono bw7.size)
    have T8' := Lib.hid T8
    clear b8' T8
    go_wp2_with fail
    refine (rencode_val A _ ka l Z _ rfl (by omega) (TA.out _ bw8) FA.out HZ.out).mono ?_
    rintro e w9 ⟨A9, c9, rfl, _, _, T9, b9'⟩
    have bw9 := bw8.trans (b9'.mono bw8.size)
    have T8'' := Lib.hid (T8'.out.below b9')
    have T9' := Lib.hid T9
    clear b9' T9 T8'
    go_wp2_with fail
    refine (samebytes_val A8 A9 _ _ c8 c9 Z Z true _ rfl rfl (by omega) (by omega) T8''.out T9'.out (by rw [sameB_eq]; simp)).mono ?_
    rintro e w10 ⟨rfl, b10'⟩
    have bw10 := bw9.trans (b10'.mono bw9.size)
    clear b10' T8'' T9'
    go_wp2_with fail
    go_ret
    exact ⟨rfl, bw10⟩
  · have tests : ∃ p1 p2 p3 p4 p5 p6 : Bool, shortB l = p1 ∧ shortB m = p2 ∧ decide ((2000 : Int) < (sa.size : Int)) = p3 ∧ decide ((2000 : Int) < (sb.size : Int)) = p4 ∧ decide ((2000 : Int) < (s.size : Int)) = p5 ∧ decide ((2000 : Int) < (g.length : Int)) = p6 ∧ (p1 && p2 && !p3 && !p4 && !p5 && !p6) = false := by
      refine ⟨_, _, _, _, _, _, rfl, rfl, rfl, rfl, rfl, rfl, ?_⟩
      rw [Bool.eq_false_iff]
      intro h
      simp only [Bool.and_eq_true, Bool.not_eq_true', decide_eq_false_iff_not] at h
      exact hall ⟨h.1.1.1.1.1, h.1.1.1.1.2, by omega, by omega, by omega, by omega⟩
    obtain ⟨p1, p2, p3, p4, p5, p6, q1, q2, q3, q4, q5, q6, qq⟩ := tests
    have Q1 := Lib.hid q1; have Q2 := Lib.hid q2
    clear hall q1 q2
    have fin : ∀ (q : Bool), p1 = false ∨ (p1 = true ∧ p2 = false) ∨ (p1 = true ∧ p2 = true ∧ p3 = true) ∨ (p1 = true ∧ p2 = true ∧ p3 = false ∧ p4 = true) ∨ (p1 = true ∧ p2 = true ∧ p3 = false ∧ p4 = false ∧ p5 = true) ∨ (p1 = true ∧ p2 = true ∧ p3 = false ∧ p4 = false ∧ p5 = false ∧ p6 = true) := by
      revert qq; cases p1 <;> cases p2 <;> cases p3 <;> cases p4 <;> cases p5 <;> cases p6 <;> simp
    clear qq
    rcases fin true with rfl | ⟨rfl, rfl⟩ | ⟨rfl, rfl, rfl⟩ | ⟨rfl, rfl, rfl, rfl⟩ | ⟨rfl, rfl, rfl, rfl, rfl⟩ | ⟨rfl, rfl, rfl, rfl, rfl, rfl⟩
    all_goals
      clear fin
      go_wp2_with (first
        | (go_at_call 10; with_reducible refine (SA.out _ _ bw1 Q1.out).mono ?_; rintro e w' ⟨rfl, rfl⟩)
        | (go_at_call 10; with_reducible refine (SB.out _ _ bw1 Q2.out).mono ?_; rintro e w' ⟨rfl, rfl⟩))
      go_ret
      exact ⟨rfl, bw1⟩
end Go.Proofs.YtagibdofpcbgiaaDoor.valueMatchesReference
