/- The walk of the law ValueBytes. -/
import Derived.Test.YtagibdofpcbgiaaDoorVMrw
namespace Go.Proofs.YtagibdofpcbgiaaDoor
open Go.RowKit Go.Shelf
/-- A slice of bytes in memory; where there is no address there is no room. -/
def BytesOut2 (l : List UInt8) (w : World) (e : Ending) (w' : World) : Prop := ∃ A c, e = .returned (.slice A l.length c) ∧ l.length ≤ c ∧ c ≤ maxLen ∧ (A = none → l.length = 0 ∧ c = 0) ∧ Bytes w' A l ∧ Below w.heap.size w w'
theorem encode_out2 (A : Option Addr) (n c : Nat) (xs : List Vx.V) (r : List UInt8) (w : World) (hn : n = xs.length) (hx : xs.length ≤ 1000000) (hA : Tup w A xs) (fx : Fits xs) (hw : Words w) (hr : Vx.encode xs = r) :
    Calls Tryd.prog 25 #[.slice A n c] w (BytesOut2 r w) := by
  subst hn; subst hr
  refine (encode_any A c xs w hx hA fx hw).mono fun e w' h => ?_
  obtain ⟨⟨v, rfl, ho⟩, hb⟩ := h
  obtain ⟨A', c', rfl, h1, h2, h3⟩ := bytes_of_own ho
  refine ⟨A', c', rfl, h1, h2, fun h => ?_, h3, hb⟩
  subst h
  rcases ho.2 with ⟨hv, hz⟩ | ⟨g, cap, cur, hv, _⟩
  · injection hv with _ h4 h5; exact ⟨h4, h5⟩
  · injection hv with h4 _ _; cases h4
theorem bytes_news {w : World} {A : Option Addr} {l : List UInt8} (h : Bytes w A l) : ∀ ad, A = some ad → ∀ j u, (byteCells l)[j]? = some u → w.cell? (ad.add j) = some u := by
  intro ad hA j u hu
  unfold byteCells at hu
  rw [List.getElem?_map, Option.map_eq_some_iff] at hu
  obtain ⟨x, hx, rfl⟩ := hu
  obtain ⟨g, o, e, hg, hcell⟩ := h (by intro e; rw [e] at hx; simp at hx)
  rw [hA] at e
  obtain rfl := Option.some.inj e
  rw [add_at]
  exact hcell j x hx
theorem byteCells_one (l : List UInt8) : ∀ u ∈ byteCells l, u.oneCell' = true := by
  intro u hu
  unfold byteCells at hu
  rw [List.mem_map] at hu
  obtain ⟨x, _, rfl⟩ := hu
  rfl
theorem valids_val (A : Option Addr) (n c : Nat) (xs : List Vx.V) (b : Bool) (w : World) (hn : n = xs.length) (hx : xs.length ≤ 281474976710656) (hA : Tup w A xs) (fx : Fits xs) (hw : Words w) (hb : xs.all Vx.valid = b) :
    Calls Tryd.prog 28 #[.slice A n c] w fun e w' => e = .returned (.bool b) ∧ Below w.heap.size w w' := by
  subst hn; subst hb; exact vvalids_any A c xs w hx hA fx hw
end Go.Proofs.YtagibdofpcbgiaaDoor
namespace Go.Proofs.YtagibdofpcbgiaaDoor.valueBytes
set_option linter.unusedVariables false
set_option linter.unusedSimpArgs false
open Go.RowKit Go.Shelf
set_option maxHeartbeats 8000000 in
set_option maxRecDepth 100000 in
theorem law_walk (A : Option Addr) (ka : Nat) (a : List Vx.V) (B : Option Addr) (kb : Nat) (b : List Vx.V) (G : Option Addr) (kg : Nat) (g : List UInt8) (w : World) (hy : Laid w)
    (ha : a.length ≤ 281474976710656) (zA : A = none → ka = 0) (hA : Tup w A a) (fa : Fits a) (hb : b.length ≤ 281474976710656) (zB : B = none → kb = 0) (hB : Tup w B b) (fb : Fits b)
    (hlg : g.length ≤ 281474976710656) (hgk : g.length ≤ kg) (hkg : kg ≤ 9223372036854775807) (hG : Bytes w G g) :
    Calls Tryd.prog 7 #[.slice A a.length ka, .slice B b.length kb, .slice G g.length kg] w fun e w' => e = .returned (.bool true) ∧ Below w.heap.size w w' := by
  have LY := Lib.hid (fun W (h : Below w.heap.size w W) => hy.next h)
  have TA := Lib.hid (fun W (h : Below w.heap.size w W) => hA.below h)
  have TB := Lib.hid (fun W (h : Below w.heap.size w W) => hB.below h)
  have TG := Lib.hid (fun W (h : Below w.heap.size w W) => hG.below h)
  have FA := Lib.hid fa; have FB := Lib.hid fb
  have ZA := Lib.hid zA; have ZB := Lib.hid zB
  have SA := Lib.hid (fun b W (h : Below w.heap.size w W) (hb : shortB a = b) => short_val A _ ka a b W rfl ha (TA.out W h) FA.out hb)
  have SB := Lib.hid (fun b' W (h : Below w.heap.size w W) (hb' : shortB b = b') => short_val B _ kb b b' W rfl hb (TB.out W h) FB.out hb')
  clear hA hB hG fa fb zA zB
  obtain ⟨i0, hi, hz0, hz1, hz2⟩ := info_parts byte_info
  go_enter Tryd.func7, Tryd.ntmps7
  go_wp2_with fail
  refine (head_any _ hy).mono ?_
  rintro e w1 ⟨rfl, bw1⟩
  clear hy
  by_cases hall : shortB a = true ∧ shortB b = true ∧ a.length + b.length ≤ 60 ∧ g.length ≤ 2000
  · obtain ⟨hs1, hs2, hs3, hs4⟩ := hall
    have k1 : decide ((60 : Int) < (a.length : Int) + (b.length : Int)) = false := by simp; omega
    have k4 : decide ((2000 : Int) < (g.length : Int)) = false := by simp; omega
    have HS1 := Lib.hid hs1; have HS2 := Lib.hid hs2
    clear hs1 hs2
    go_wp2_with fail
    refine (SA.out true _ bw1 HS1.out).mono ?_
    rintro e w' ⟨rfl, rfl⟩
    go_wp2_with fail
    refine (SB.out true _ bw1 HS2.out).mono ?_
    rintro e w' ⟨rfl, rfl⟩
    go_wp2_with fail
    clear k1 k4 SA SB HS1 HS2
    cases va : a.all Vx.valid
    · refine (valids_val A _ ka a false _ rfl ha (TA.out _ bw1) FA.out (LY.out _ bw1).words va).mono ?_
      rintro e w2 ⟨rfl, b2'⟩
      have bw2 := bw1.trans (b2'.mono bw1.size)
      clear b2' va
      go_wp2_with fail
      cases hd : Vx.decode g with
      | none =>
        refine (decode_val G _ kg g [] 270 _ rfl (by omega) hgk hkg (TG.out _ bw2) (LY.out _ bw2).words (by rw [hd]; rfl) (by unfold decErr; rw [hd]; rfl)).mono ?_
        rintro e wt1 ⟨At1, ct1, rfl, _, _, Tt1, bt1'⟩
        have bt1 := bw2.trans (bt1'.mono bw2.size)
        clear bt1' Tt1 hd
        go_wp2_with fail
        go_ret
        exact ⟨rfl, bt1⟩
      | some d =>
        have hdl := decode_len g
        rw [hd] at hdl
        simp only [Option.getD_some] at hdl
        obtain ⟨hdv, hde⟩ := encode_decode hd
        have HDE := Lib.hid hde; have HDV := Lib.hid hdv
        refine (decode_val G _ kg g d 0 _ rfl (by omega) hgk hkg (TG.out _ bw2) (LY.out _ bw2).words (by rw [hd]; rfl) (by unfold decErr; rw [hd]; rfl)).mono ?_
        rintro e wt1 ⟨At1, ct1, rfl, _, _, Tt1, bt1'⟩
        have bt1 := bw2.trans (bt1'.mono bw2.size)
        have Tt1' := Lib.hid Tt1
        clear bt1' Tt1 hd hdv hde
        go_wp2_with fail
        refine (valids_val At1 _ ct1 d true _ rfl (by omega) Tt1'.out (fits_valid HDV.out) (LY.out _ bt1).words HDV.out).mono ?_
        rintro e wt2 ⟨rfl, bt2'⟩
        have bt2 := bt1.trans (bt2'.mono bt1.size)
        have Tt2 := Lib.hid (Tt1'.out.below bt2')
        clear bt2' Tt1'
        go_wp2_with fail
        refine (encode_val At1 _ ct1 d g _ rfl (by omega) Tt2.out (fits_valid HDV.out) (LY.out _ bt2).words HDE.out).mono ?_
        rintro e wt3 ⟨At3, ct3, rfl, _, _, Tt3, bt3'⟩
        have bt3 := bt2.trans (bt3'.mono bt2.size)
        have Tt3' := Lib.hid Tt3
        clear bt3' Tt2 Tt3
        go_wp2_with fail
        refine (samebytes_val At3 G _ _ ct3 kg g g true _ rfl rfl (by omega) (by omega) Tt3'.out (TG.out _ bt3) (by rw [sameB_eq]; simp)).mono ?_
        rintro e wt4 ⟨rfl, bt4'⟩
        have bt4 := bt3.trans (bt4'.mono bt3.size)
        clear bt4' Tt3'
        go_wp2_with fail
        go_ret
        exact ⟨rfl, bt4⟩
    · have HVA := Lib.hid va
      refine (valids_val A _ ka a true _ rfl ha (TA.out _ bw1) FA.out (LY.out _ bw1).words va).mono ?_
      rintro e w2 ⟨rfl, b2'⟩
      have bw2 := bw1.trans (b2'.mono bw1.size)
      clear b2' va
      go_wp2_with fail
      cases vb : b.all Vx.valid
      · refine (valids_val B _ kb b false _ rfl hb (TB.out _ bw2) FB.out (LY.out _ bw2).words vb).mono ?_
        rintro e w3 ⟨rfl, b3'⟩
        have bw3 := bw2.trans (b3'.mono bw2.size)
        clear b3' vb
        go_wp2_with fail
        cases hd : Vx.decode g with
        | none =>
          refine (decode_val G _ kg g [] 270 _ rfl (by omega) hgk hkg (TG.out _ bw3) (LY.out _ bw3).words (by rw [hd]; rfl) (by unfold decErr; rw [hd]; rfl)).mono ?_
          rintro e wt1 ⟨At1, ct1, rfl, _, _, Tt1, bt1'⟩
          have bt1 := bw3.trans (bt1'.mono bw3.size)
          clear bt1' Tt1 hd
          go_wp2_with fail
          go_ret
          exact ⟨rfl, bt1⟩
        | some d =>
          have hdl := decode_len g
          rw [hd] at hdl
          simp only [Option.getD_some] at hdl
          obtain ⟨hdv, hde⟩ := encode_decode hd
          have HDE := Lib.hid hde; have HDV := Lib.hid hdv
          refine (decode_val G _ kg g d 0 _ rfl (by omega) hgk hkg (TG.out _ bw3) (LY.out _ bw3).words (by rw [hd]; rfl) (by unfold decErr; rw [hd]; rfl)).mono ?_
          rintro e wt1 ⟨At1, ct1, rfl, _, _, Tt1, bt1'⟩
          have bt1 := bw3.trans (bt1'.mono bw3.size)
          have Tt1' := Lib.hid Tt1
          clear bt1' Tt1 hd hdv hde
          go_wp2_with fail
          refine (valids_val At1 _ ct1 d true _ rfl (by omega) Tt1'.out (fits_valid HDV.out) (LY.out _ bt1).words HDV.out).mono ?_
          rintro e wt2 ⟨rfl, bt2'⟩
          have bt2 := bt1.trans (bt2'.mono bt1.size)
          have Tt2 := Lib.hid (Tt1'.out.below bt2')
          clear bt2' Tt1'
          go_wp2_with fail
          refine (encode_val At1 _ ct1 d g _ rfl (by omega) Tt2.out (fits_valid HDV.out) (LY.out _ bt2).words HDE.out).mono ?_
          rintro e wt3 ⟨At3, ct3, rfl, _, _, Tt3, bt3'⟩
          have bt3 := bt2.trans (bt3'.mono bt2.size)
          have Tt3' := Lib.hid Tt3
          clear bt3' Tt2 Tt3
          go_wp2_with fail
          refine (samebytes_val At3 G _ _ ct3 kg g g true _ rfl rfl (by omega) (by omega) Tt3'.out (TG.out _ bt3) (by rw [sameB_eq]; simp)).mono ?_
          rintro e wt4 ⟨rfl, bt4'⟩
          have bt4 := bt3.trans (bt4'.mono bt3.size)
          clear bt4' Tt3'
          go_wp2_with fail
          go_ret
          exact ⟨rfl, bt4⟩
      · have HVB := Lib.hid vb
        refine (valids_val B _ kb b true _ rfl hb (TB.out _ bw2) FB.out (LY.out _ bw2).words vb).mono ?_
        rintro e w3 ⟨rfl, b3'⟩
        have bw3 := bw2.trans (b3'.mono bw2.size)
        clear b3' vb
        obtain ⟨xa, hxa⟩ : ∃ x, Vx.encode a = x := ⟨_, rfl⟩
        obtain ⟨xb, hxb⟩ : ∃ x, Vx.encode b = x := ⟨_, rfl⟩
        have happ := encode_app HVA.out HVB.out
        rw [hxa, hxb] at happ
        have hla := encode_len a; have hlb := encode_len b
        rw [hxa] at hla; rw [hxb] at hlb
        have hvab : (a ++ b).all Vx.valid = true := by rw [List.all_append, HVA.out, HVB.out]; rfl
        have hdab : Vx.decode (xa ++ xb) = some (a ++ b) := by rw [← happ]; exact decode_encode hvab
        have HXA := Lib.hid hxa; have HXB := Lib.hid hxb; have HAPP := Lib.hid happ; have HVAB := Lib.hid hvab; have HDAB := Lib.hid hdab
        clear hxa hxb happ hvab hdab
        have o0 := own_empty w3 5 1 w.heap.size bw3.size
        have bw3e := bw3.alloc bw3.size (.cells #[] 5)
        go_wp2_with fail
        refine (encode_out2 A _ ka a xa _ rfl (by omega) (TA.out _ bw3e) FA.out (LY.out _ bw3e).words HXA.out).mono ?_
        rintro e w4 ⟨A4, c4, rfl, _, _, z4, T4, b4'⟩
        have bw4 := bw3e.trans (b4'.mono bw3e.size)
        have o1 := Lib.hid (own_below o0 b4')
        have T4' := Lib.hid T4; have Z4 := Lib.hid z4
        clear b4' T4 z4 o0
        go_wp2_with (first
          | (at_builtin; refine wpList_append_from rfl (.tmp 43) (.tmp 45) 25 rfl w.heap.size 5 i0 _ 1 1 Tryd.underlying25 hi hz0 hz1 hz2 rfl (by omega) (.slice (some ⟨w3.heap.size, 0, none⟩) 0 0) 0 [] rfl o1.out A4 xa.length c4 (byteCells xa) rfl (by rw [byteCells_len]; omega) Z4.out (bytes_news T4'.out) (byteCells_one xa) (by unfold maxLen; omega) (by omega) bw4.size ?_; intro v5 w5 o5 g5))
        have hw3 := bw3.size
        have bw5 : Below w.heap.size w w5 := bw4.grown g5 bw4.size (fun q hq => (own_lt o1.out hq).1)
        simp only [Nat.zero_add, List.nil_append] at o5
        obtain ⟨a5, k5, rfl⟩ := own_len o5
        have O5 := Lib.hid o5
        clear o1 T4' Z4 g5 o5
        refine (encode_out2 B _ kb b xb _ rfl (by omega) (TB.out _ bw5) FB.out (LY.out _ bw5).words HXB.out).mono ?_
        rintro e w6 ⟨A6, c6, rfl, _, _, z6, T6, b6'⟩
        have bw6 := bw5.trans (b6'.mono bw5.size)
        have o6 := Lib.hid (own_below O5.out b6')
        have T6' := Lib.hid T6; have Z6 := Lib.hid z6
        clear b6' T6 z6 O5
        go_wp2_with (first
          | (at_builtin; refine wpList_append_from rfl (.tmp 46) (.tmp 48) 25 rfl w.heap.size 5 i0 _ 1 1 Tryd.underlying25 hi hz0 hz1 hz2 rfl (by omega) (.slice a5 xa.length k5) xa.length (byteCells xa) rfl o6.out A6 xb.length c6 (byteCells xb) rfl (by rw [byteCells_len]; omega) Z6.out (bytes_news T6'.out) (byteCells_one xb) (by unfold maxLen; omega) (by omega) bw6.size ?_; intro v7 w7 o7 g7))
        have bw7 : Below w.heap.size w w7 := bw6.grown g7 bw6.size (fun q hq => (own_lt o6.out hq).1)
        have o7' : w7.ownsRow w.heap.size 5 1 v7 (xa ++ xb).length (byteCells (xa ++ xb)) := by rw [byteCells_app, List.length_append]; exact o7
        obtain ⟨A7, c7, rfl, r7, s7, T7⟩ := bytes_of_own o7'
        have T7' := Lib.hid (fun W (h : Below w7.heap.size w7 W) => T7.below h)
        clear o7 o7' g7 o6 T6' Z6 T7
        obtain ⟨xy, hxy⟩ : ∃ x, x = xa ++ xb := ⟨_, rfl⟩
        rw [← hxy] at r7 T7'
        have hxyl : xy.length ≤ 1200 := by rw [hxy, List.length_append]; omega
        have HXY := Lib.hid hxy
        simp only [← hxy]
        clear hxy
        refine (join_val A B _ _ ka kb a b _ rfl rfl (by omega) (by omega) (TA.out _ bw7) (TB.out _ bw7) ZA.out ZB.out).mono ?_
        rintro e w8 ⟨A8, c8, rfl, _, _, T8, b8'⟩
        have bw8 := bw7.trans (b8'.mono bw7.size)
        have T8' := Lib.hid T8; have B8 := Lib.hid b8'
        clear b8' T8
        have hfab := fits_app FA.out FB.out
        have HFAB := Lib.hid hfab
        clear hfab
        go_wp2_with fail
        refine (encode_val A8 _ c8 (a ++ b) xy _ (by simp) (by rw [List.length_append]; omega) T8'.out HFAB.out (LY.out _ bw8).words (by rw [HAPP.out, HXY.out])).mono ?_
        rintro e w9 ⟨A9, c9, rfl, r9, s9, T9, b9'⟩
        have bw9 := bw8.trans (b9'.mono bw8.size)
        have T9' := Lib.hid T9
        have B9 := Lib.hid (B8.out.trans (b9'.mono B8.out.size))
        have m9 : c9 ≤ 9223372036854775807 := by unfold maxLen at s9; omega
        clear b9' T9 T8' B8
        go_wp2_with fail
        refine (decode_val A9 _ c9 xy (a ++ b) 0 _ rfl (by omega) r9 m9 T9'.out (LY.out _ bw9).words (by rw [HXY.out, HDAB.out]; rfl) (by unfold decErr; rw [HXY.out, HDAB.out]; rfl)).mono ?_
        rintro e w10 ⟨A10, c10, rfl, _, _, T10, b10'⟩
        have bw10 := bw9.trans (b10'.mono bw9.size)
        have T10' := Lib.hid T10; have T9'' := Lib.hid (T9'.out.below b10')
        have B10 := Lib.hid (B9.out.trans (b10'.mono B9.out.size))
        clear b10' T10 T9' B9
        go_wp2_with fail
        refine (samebytes_val A7 A9 _ _ c7 c9 xy xy true _ (by first | rfl | (rw [HXY.out]; simp)) rfl (by omega) (by omega) (T7'.out _ B10.out) T9''.out (by rw [sameB_eq]; simp)).mono ?_
        rintro e w11 ⟨rfl, b11'⟩
        have bw11 := bw10.trans (b11'.mono bw10.size)
        have T11 := Lib.hid (T10'.out.below b11')
        clear b11' T10' T9'' B10
        go_wp2_with fail
        refine (join_val A B _ _ ka kb a b _ rfl rfl (by omega) (by omega) (TA.out _ bw11) (TB.out _ bw11) ZA.out ZB.out).mono ?_
        rintro e w12 ⟨A12, c12, rfl, _, _, T12, b12'⟩
        have bw12 := bw11.trans (b12'.mono bw11.size)
        have T12' := Lib.hid T12; have T11' := Lib.hid (T11.out.below b12')
        clear b12' T12 T11
        go_wp2_with fail
        refine (same_val A10 A12 _ _ c10 c12 (a ++ b) (a ++ b) true _ (by simp) (by simp) (by rw [List.length_append]; omega) (by rw [List.length_append]; omega) T11'.out T12'.out HFAB.out HFAB.out (by rw [cmpT_cmp.same]; rfl)).mono ?_
        rintro e w13 ⟨rfl, b13'⟩
        have bw13 := bw12.trans (b13'.mono bw12.size)
        clear b13' T11' T12'
        go_wp2_with fail
        cases hd : Vx.decode g with
        | none =>
          refine (decode_val G _ kg g [] 270 _ rfl (by omega) hgk hkg (TG.out _ bw13) (LY.out _ bw13).words (by rw [hd]; rfl) (by unfold decErr; rw [hd]; rfl)).mono ?_
          rintro e wt1 ⟨At1, ct1, rfl, _, _, Tt1, bt1'⟩
          have bt1 := bw13.trans (bt1'.mono bw13.size)
          clear bt1' Tt1 hd
          go_wp2_with fail
          go_ret
          exact ⟨rfl, bt1⟩
        | some d =>
          have hdl := decode_len g
          rw [hd] at hdl
          simp only [Option.getD_some] at hdl
          obtain ⟨hdv, hde⟩ := encode_decode hd
          have HDE := Lib.hid hde; have HDV := Lib.hid hdv
          refine (decode_val G _ kg g d 0 _ rfl (by omega) hgk hkg (TG.out _ bw13) (LY.out _ bw13).words (by rw [hd]; rfl) (by unfold decErr; rw [hd]; rfl)).mono ?_
          rintro e wt1 ⟨At1, ct1, rfl, _, _, Tt1, bt1'⟩
          have bt1 := bw13.trans (bt1'.mono bw13.size)
          have Tt1' := Lib.hid Tt1
          clear bt1' Tt1 hd hdv hde
          go_wp2_with fail
          refine (valids_val At1 _ ct1 d true _ rfl (by omega) Tt1'.out (fits_valid HDV.out) (LY.out _ bt1).words HDV.out).mono ?_
          rintro e wt2 ⟨rfl, bt2'⟩
          have bt2 := bt1.trans (bt2'.mono bt1.size)
          have Tt2 := Lib.hid (Tt1'.out.below bt2')
          clear bt2' Tt1'
          go_wp2_with fail
          refine (encode_val At1 _ ct1 d g _ rfl (by omega) Tt2.out (fits_valid HDV.out) (LY.out _ bt2).words HDE.out).mono ?_
          rintro e wt3 ⟨At3, ct3, rfl, _, _, Tt3, bt3'⟩
          have bt3 := bt2.trans (bt3'.mono bt2.size)
          have Tt3' := Lib.hid Tt3
          clear bt3' Tt2 Tt3
          go_wp2_with fail
          refine (samebytes_val At3 G _ _ ct3 kg g g true _ rfl rfl (by omega) (by omega) Tt3'.out (TG.out _ bt3) (by rw [sameB_eq]; simp)).mono ?_
          rintro e wt4 ⟨rfl, bt4'⟩
          have bt4 := bt3.trans (bt4'.mono bt3.size)
          clear bt4' Tt3'
          go_wp2_with fail
          go_ret
          exact ⟨rfl, bt4⟩
  · have tests : ∃ p1 p2 p3 p4 : Bool, shortB a = p1 ∧ shortB b = p2 ∧ decide ((60 : Int) < (a.length : Int) + (b.length : Int)) = p3 ∧ decide ((2000 : Int) < (g.length : Int)) = p4 ∧ (p1 && p2 && !p3 && !p4) = false := by
      refine ⟨_, _, _, _, rfl, rfl, rfl, rfl, ?_⟩
      rw [Bool.eq_false_iff]
      intro h
      simp only [Bool.and_eq_true, Bool.not_eq_true', decide_eq_false_iff_not] at h
      exact hall ⟨h.1.1.1, h.1.1.2, by omega, by omega⟩
    obtain ⟨p1, p2, p3, p4, q1, q2, q3, q4, qq⟩ := tests
    have Q1 := Lib.hid q1; have Q2 := Lib.hid q2
    clear hall q1 q2
    have fin : ∀ (q : Bool), p1 = false ∨ (p1 = true ∧ p2 = false) ∨ (p1 = true ∧ p2 = true ∧ p3 = true) ∨ (p1 = true ∧ p2 = true ∧ p3 = false ∧ p4 = true) := by
      revert qq; cases p1 <;> cases p2 <;> cases p3 <;> cases p4 <;> simp
    clear qq
    rcases fin true with rfl | ⟨rfl, rfl⟩ | ⟨rfl, rfl, rfl⟩ | ⟨rfl, rfl, rfl, rfl⟩
    all_goals
      clear fin
      go_wp2_with (first
        | (go_at_call 10; with_reducible refine (SA.out _ _ bw1 Q1.out).mono ?_; rintro e w' ⟨rfl, rfl⟩)
        | (go_at_call 10; with_reducible refine (SB.out _ _ bw1 Q2.out).mono ?_; rintro e w' ⟨rfl, rfl⟩))
      go_ret
      exact ⟨rfl, bw1⟩
end Go.Proofs.YtagibdofpcbgiaaDoor.valueBytes
