/- The walks of the circuits' laws. -/
import Derived.Test.YtigcmjnjcaoolaaDoorCHead
import Derived.Test.YtigcmjnjcaoolaaDoorCChain
import Derived.Test.YtigcmjnjcaoolaaDoorCValue
import Derived.Test.YtigcmjnjcaoolaaDoorCMisc
import Derived.Test.YtigcmjnjcaoolaaDoorCSame
import Derived.Test.YtigcmjnjcaoolaaDoorCREval
import Derived.Test.YtigcmjnjcaoolaaDoorCRVal
import Derived.Test.YtigcmjnjcaoolaaDoorCRVars
import Derived.Test.YtigcmjnjcaoolaaDoorCTxt2
import Derived.WalkSmall
namespace Go.Proofs.YtigcmjnjcaoolaaDoor
set_option linter.unusedVariables false
set_option linter.unusedSimpArgs false
open Go.RowKit
open Cx (N M)
theorem loop_eq (s : ByteArray) : ∀ (n i : Nat) (r : List UInt8), s.size - i ≤ n → ByteArray.toList.loop s i r = r.reverse ++ s.data.toList.drop i := by
  intro n
  induction n with
  | zero =>
    intro i r h
    rw [ByteArray.toList.loop.eq_def, if_neg (by omega), List.drop_eq_nil_of_le (by have h2 : s.data.toList.length = s.data.size := Array.length_toList; have h3 : s.size = s.data.size := rfl; omega)]
    simp
  | succ n ih =>
    intro i r h
    rw [ByteArray.toList.loop.eq_def]
    have h2 : s.data.toList.length = s.data.size := Array.length_toList
    have h3 : s.size = s.data.size := rfl
    by_cases hi : i < s.size
    · rw [if_pos hi, ih _ _ (by omega), List.drop_eq_getElem_cons (show i < s.data.toList.length by omega)]
      have : s.get! i = s.data.toList[i]'(by omega) := by
        rw [Array.getElem_toList]
        show s.data[i]! = _
        exact getElem!_pos s.data i (by omega)
      rw [this]; simp
    · rw [if_neg hi, List.drop_eq_nil_of_le (by omega)]; simp
theorem str_list (s : ByteArray) : s.toList = s.data.toList := by
  unfold ByteArray.toList
  rw [loop_eq s s.size 0 [] (by omega)]; simp
theorem str_inj {s t : ByteArray} (h : s.toList = t.toList) : s = t := by
  rw [str_list, str_list] at h
  exact ByteArray.ext (Array.toList_inj.1 h)
theorem str_more {s : ByteArray} (h : 0 < s.size) : s.toList.isEmpty = false := by
  rw [str_list]
  have h2 : s.data.toList.length = s.data.size := Array.length_toList
  have h3 : s.size = s.data.size := rfl
  cases e : s.data.toList with
  | nil => rw [e] at h2; simp at h2; omega
  | cons a l => rfl
theorem text_full {l : List N} (h : Cx.Good l) (hF : ∀ n ∈ l, NGood n) {k : Nat} (hk : k < l.length) :
    (1 ≤ (Cx.textAt l k).length ∧ (Cx.textAt l k).length ≤ 8000 ∧ Cx.text l (k : Int) 8000 = Cx.textAt l k ∧ ∀ lim, Cx.text l (k : Int) lim = if ((Cx.textAt l k).length : Int) ≤ lim then Cx.textAt l k else []) ∨
    (8000 < (Cx.textAt l k).length ∧ Cx.text l (k : Int) 8000 = [] ∧ ∀ lim, Cx.text l (k : Int) lim = []) := by
  obtain ⟨h1, h2⟩ := Cx.size_text h (fun n hn => by have := (hF n hn).2.1; unfold I64 at this; omega) k hk
  by_cases h8 : (Cx.textAt l k).length ≤ 8000
  · refine Or.inl ⟨h2, h8, ?_, fun lim => ?_⟩
    · rw [text_in hk, if_neg (by omega)]
    · rw [text_in hk]
      by_cases hl : ((Cx.textAt l k).length : Int) ≤ lim
      · rw [if_neg (by omega), if_pos hl]
      · rw [if_pos (by omega), if_neg hl]
  · refine Or.inr ⟨by omega, ?_, fun lim => ?_⟩
    · rw [text_in hk, if_pos (by omega)]
    · rw [text_in hk, if_pos (by omega)]
set_option maxHeartbeats 16000000 in
set_option maxRecDepth 100000 in
theorem texts_any (A : Option Addr) (c : Nat) (ms : List M) (ra rb : Nat) (B : Option Addr) (d : Nat) (xs : List UInt8) (lim : Int) (w : World) (hT : Tab w) (hra : ra < 256) (hrb : rb < 256) (hlim : -32768 ≤ lim ∧ lim ≤ 32767) (hm : ms.length ≤ 9223372036854775807) (hxm : xs.length ≤ 9223372036854775807) (hA : Makes w A ms) (hX : Raws w B xs) :
    Calls Tryd.prog 7 #[.slice A ms.length c, .int .u8 (ra : Int), .int .u8 (rb : Int), .slice B xs.length d, .int .i16 lim] w fun e w' => e = .returned (.bool true) ∧ Below w.heap.size w w' := by
  have hT0 := hT
  obtain ⟨lm1, lm2⟩ := hlim
  by_cases h60 : ms.length ≤ 24
  · have d60 : decide ((24 : Int) < (ms.length : Int)) = false := by simp; omega
    by_cases x60 : xs.length ≤ 60
    · have e60 : decide ((60 : Int) < (xs.length : Int)) = false := by simp; omega
      have h60 : ms.length ≤ 60 := by omega
      obtain ⟨l, hl⟩ : ∃ l, Cx.build ms = l := ⟨_, rfl⟩
      have hl0 : Fine l 62 := by rw [← hl]; exact fine_build hA h60
      have hll := Lib.hid hl0
      have y3 : (1 : Int) ≤ (l.length : Int) := by have := hl0.good.more; omega
      have yl := hl0.len
      obtain ⟨a, ha⟩ : ∃ a, a = ra % l.length := ⟨_, rfl⟩
      have la : a < l.length := by rw [ha]; exact Nat.mod_lt _ (by omega)
      have ma : (ra : Int) % (l.length : Int) = (a : Int) := by rw [mod_nat, ha]
      have ya : (0 : Int) ≤ (ra : Int) := by omega
      have za : (ra : Int) ≤ 255 := by omega
      clear ha
      obtain ⟨b, hb⟩ : ∃ b, b = rb % l.length := ⟨_, rfl⟩
      have lb : b < l.length := by rw [hb]; exact Nat.mod_lt _ (by omega)
      have mb : (rb : Int) % (l.length : Int) = (b : Int) := by rw [mod_nat, hb]
      have yb : (0 : Int) ≤ (rb : Int) := by omega
      have zb : (rb : Int) ≤ 255 := by omega
      clear hb
      have hng := hl0.ng (by omega)
      have FA := text_full hl0.good hng la
      have FB := text_full hl0.good hng lb
      obtain ⟨S, eS⟩ : ∃ S : ByteArray, (⟨(Cx.text l (a : Int) 8000).toArray⟩ : ByteArray) = S := ⟨_, rfl⟩
      have HS := Lib.hid eS
      obtain ⟨T, eT⟩ : ∃ T : ByteArray, (⟨(Cx.text l (b : Int) 8000).toArray⟩ : ByteArray) = T := ⟨_, rfl⟩
      have HT := Lib.hid eT
      obtain ⟨U, eU⟩ : ∃ U : ByteArray, (⟨(Cx.text l (a : Int) lim).toArray⟩ : ByteArray) = U := ⟨_, rfl⟩
      have HU := Lib.hid eU
      have Hng := Lib.hid hng
      clear hng
      rcases FA with ⟨fa1, fa2, fa3, fa4⟩ | ⟨fa1, fa2, fa3⟩
      · have qs := str_more (show 0 < S.size by rw [← eS, fa3]; exact fa1)
        have HS3 := Lib.hid fa3; have HU3 := Lib.hid fa4
        rcases FB with ⟨fb1, fb2, fb3, fb4⟩ | ⟨fb1, fb2, fb3⟩
        · have qt := str_more (show 0 < T.size by rw [← eT, fb3]; exact fb1)
          have zS : S.size ≤ 8000 := by rw [← eS, fa3]; exact fa2
          have z0 : 0 < S.size := by rw [← eS, fa3]; exact fa1
          have zL : S.size = (Cx.textAt l a).length := by rw [← eS, fa3]; rfl
          have ZL := Lib.hid zL
          have iS : (0 : Int) ≤ (S.size : Int) ∧ (S.size : Int) ≤ 8000 := by omega
          have SD : S.data.toList = Cx.textAt l a := by rw [← eS, fa3]
          have HSD := Lib.hid SD
          obtain ⟨R, hR⟩ : ∃ R, (Cx.values (ints xs) l).getD a false = R := ⟨_, rfl⟩
          have HR := Lib.hid hR
          have HRE := Lib.hid (show Cx.eval l (a : Int) (ints xs) = R by rw [Cx.eval_in la, hR])
          have hU : (((S.size : Nat) : Int) ≤ lim ∧ U = S) ∨ (¬ ((S.size : Nat) : Int) ≤ lim ∧ U = ⟨#[]⟩) := by
            by_cases hle : ((S.size : Nat) : Int) ≤ lim
            · exact Or.inl ⟨hle, by rw [← eU, fa4, if_pos (by omega), ← eS, fa3]⟩
            · exact Or.inr ⟨hle, by rw [← eU, fa4, if_neg (by omega)]⟩
          have hAB : (a = b ∧ T = S) ∨ (a ≠ b ∧ T ≠ S) := by
            by_cases hab : a = b
            · subst hab; exact Or.inl ⟨rfl, by rw [← eT, eS]⟩
            · refine Or.inr ⟨hab, fun e => hab ?_⟩
              rw [← eT, ← eS, fb3, fa3] at e
              have e2 : Cx.textAt l b = Cx.textAt l a := by injection e with e; simpa using congrArg Array.toList e
              exact ((Cx.text_inj hll.out.good a b [] [] la lb noDig_nil noDig_nil (by rw [e2])).1)
          clear fa3 fa4 fb3 fb4 eS eT eU zL SD hR
          rcases hU with ⟨u1, u2⟩ | ⟨u1, u2⟩
          all_goals
            have hu := Lib.hid u2
            have n3 := Lib.hid u1
            clear u1 u2
            rcases hAB with ⟨ab, st⟩ | ⟨ab, st⟩
            · subst ab
              have n1 := Lib.hid st
              clear st
              go_enter Tryd.func7, Tryd.ntmps7
              go_wp2_with fail
              refine (head_any w hT).mono ?_
              rintro e w0 ⟨rfl, bw⟩
              replace hA := hA.below bw
              replace hX := hX.below bw
              replace hT := hT0.next bw
              go_wp2_with fail
              refine (build_any A c ms _ h60 hA).mono ?_
              rintro e w1 ⟨A1, c1, rfl, hc1, b1⟩
              rw [hl] at hc1 ⊢
              replace hA := hA.below b1
              replace hX := hX.below b1
              replace bw := bw.trans (b1.mono bw.size)
              clear b1
              replace hT := hT0.next bw
              go_wp2_with fail
              refine (Text_any A1 c1 l (a : Int) 8000 _ hll.out.good Hng.out (by omega) hc1.circ hT).mono ?_
              rintro e w2 ⟨rfl, b2⟩
              rw [HS.out]
              replace hX := hX.below b2
              replace hc1 := hc1.below b2
              replace bw := bw.trans (b2.mono bw.size)
              clear b2
              replace hT := hT0.next bw
              go_wp2_with fail
              refine (Text_any A1 c1 l (a : Int) 8000 _ hll.out.good Hng.out (by omega) hc1.circ hT).mono ?_
              rintro e w3 ⟨rfl, b3⟩
              rw [HT.out, n1.out]
              replace hX := hX.below b3
              replace hc1 := hc1.below b3
              replace bw := bw.trans (b3.mono bw.size)
              clear b3
              replace hT := hT0.next bw
              go_wp2_with fail
              refine (Text_any A1 c1 l (a : Int) lim _ hll.out.good Hng.out (by omega) hc1.circ hT).mono ?_
              rintro e w4 ⟨rfl, b4⟩
              rw [HU.out, hu.out]
              replace hX := hX.below b4
              replace hc1 := hc1.below b4
              replace bw := bw.trans (b4.mono bw.size)
              clear b4
              replace hT := hT0.next bw
              go_wp2_with fail
              refine (numbers_any B d xs _ (by omega) hX).mono ?_
              rintro e w5 ⟨T1, t1, rfl, hn1, b5⟩
              replace hX := hX.below b5
              replace hc1 := hc1.below b5
              replace bw := bw.trans (b5.mono bw.size)
              clear b5
              go_wp2_with fail
              refine (lvalue_any l hll.out.good Hng.out T1 t1 (ints xs) (by rw [ints_len]; omega) _ (by omega) a la 0 0 [] _ rfl (by rw [HSD.out]; simp) noDig_nil hn1.nums).mono ?_
              rintro e w9 ⟨q, hq, rfl, rfl⟩
              rw [Nat.zero_add, ← ZL.out] at hq
              subst hq
              rw [HR.out]
              have u1 := n3.out
              go_wp2_with fail
              refine (numbers_any B d xs _ (by omega) hX).mono ?_
              rintro e w6 ⟨T2, t2, rfl, hn2, b6⟩
              replace hX := hX.below b6
              replace hc1 := hc1.below b6
              replace hn1 := hn1.below b6
              replace bw := bw.trans (b6.mono bw.size)
              clear b6
              go_wp2_with fail
              refine (eval_any A1 c1 l a T2 t2 (ints xs) _ hll.out.good Hng.out (by omega) (by rw [ints_len]; omega) (ints_i64 xs) hc1 hn2.nums).mono ?_
              rintro e w7 ⟨rfl, b7⟩
              rw [HRE.out]
              replace hX := hX.below b7
              replace hc1 := hc1.below b7
              replace hn1 := hn1.below b7
              replace hn2 := hn2.below b7
              replace bw := bw.trans (b7.mono bw.size)
              clear b7
              go_wp2_with fail
              all_goals
                go_ret
                exact ⟨by first | rfl | (simp [hu.out]; done), bw⟩
            · have n1 := Lib.hid st
              have n2 := Lib.hid ab
              clear st ab
              go_enter Tryd.func7, Tryd.ntmps7
              go_wp2_with fail
              refine (head_any w hT).mono ?_
              rintro e w0 ⟨rfl, bw⟩
              replace hA := hA.below bw
              replace hX := hX.below bw
              replace hT := hT0.next bw
              go_wp2_with fail
              refine (build_any A c ms _ h60 hA).mono ?_
              rintro e w8 ⟨A1, c1, rfl, hc1, b8⟩
              rw [hl] at hc1 ⊢
              replace hA := hA.below b8
              replace hX := hX.below b8
              replace bw := bw.trans (b8.mono bw.size)
              clear b8
              replace hT := hT0.next bw
              go_wp2_with fail
              refine (Text_any A1 c1 l (a : Int) 8000 _ hll.out.good Hng.out (by omega) hc1.circ hT).mono ?_
              rintro e w9 ⟨rfl, b9⟩
              rw [HS.out]
              replace hX := hX.below b9
              replace hc1 := hc1.below b9
              replace bw := bw.trans (b9.mono bw.size)
              clear b9
              replace hT := hT0.next bw
              go_wp2_with fail
              refine (Text_any A1 c1 l (b : Int) 8000 _ hll.out.good Hng.out (by omega) hc1.circ hT).mono ?_
              rintro e w10 ⟨rfl, b10⟩
              rw [HT.out]
              replace hX := hX.below b10
              replace hc1 := hc1.below b10
              replace bw := bw.trans (b10.mono bw.size)
              clear b10
              replace hT := hT0.next bw
              go_wp2_with fail
              refine (Text_any A1 c1 l (a : Int) lim _ hll.out.good Hng.out (by omega) hc1.circ hT).mono ?_
              rintro e w11 ⟨rfl, b11⟩
              rw [HU.out, hu.out]
              replace hX := hX.below b11
              replace hc1 := hc1.below b11
              replace bw := bw.trans (b11.mono bw.size)
              clear b11
              replace hT := hT0.next bw
              go_wp2_with fail
              refine (numbers_any B d xs _ (by omega) hX).mono ?_
              rintro e w12 ⟨T1, t1, rfl, hn1, b12⟩
              replace hX := hX.below b12
              replace hc1 := hc1.below b12
              replace bw := bw.trans (b12.mono bw.size)
              clear b12
              go_wp2_with fail
              refine (lvalue_any l hll.out.good Hng.out T1 t1 (ints xs) (by rw [ints_len]; omega) _ (by omega) a la 0 0 [] _ rfl (by rw [HSD.out]; simp) noDig_nil hn1.nums).mono ?_
              rintro e w9 ⟨q, hq, rfl, rfl⟩
              rw [Nat.zero_add, ← ZL.out] at hq
              subst hq
              rw [HR.out]
              have ab1 : ((a : Int) == (b : Int)) = false := by have := n2.out; simp; omega
              have st1 : ¬ S.toList = T.toList := fun e => n1.out (str_inj e).symm
              have st2 : (S.toList == T.toList) = false := by rw [beq_eq_false_iff_ne]; exact st1
              have u1 := n3.out
              go_wp2_with fail
              refine (numbers_any B d xs _ (by omega) hX).mono ?_
              rintro e w13 ⟨T2, t2, rfl, hn2, b13⟩
              replace hX := hX.below b13
              replace hc1 := hc1.below b13
              replace hn1 := hn1.below b13
              replace bw := bw.trans (b13.mono bw.size)
              clear b13
              go_wp2_with fail
              refine (eval_any A1 c1 l a T2 t2 (ints xs) _ hll.out.good Hng.out (by omega) (by rw [ints_len]; omega) (ints_i64 xs) hc1 hn2.nums).mono ?_
              rintro e w14 ⟨rfl, b14⟩
              rw [HRE.out]
              replace hX := hX.below b14
              replace hc1 := hc1.below b14
              replace hn1 := hn1.below b14
              replace hn2 := hn2.below b14
              replace bw := bw.trans (b14.mono bw.size)
              clear b14
              go_wp2_with fail
              all_goals
                go_ret
                exact ⟨by first | rfl | (simp [hu.out]; done), bw⟩
        · have et : (⟨(Cx.text l (b : Int) 8000).toArray⟩ : ByteArray) = ⟨#[]⟩ := by rw [fb2]
          have qs2 : S.toList.isEmpty = false := qs
          have HE := Lib.hid et
          clear fa3 fa4 fb2 fb3 eS eT eU et
          go_enter Tryd.func7, Tryd.ntmps7
          go_wp2_with fail
          refine (head_any w hT).mono ?_
          rintro e w0 ⟨rfl, bw⟩
          replace hA := hA.below bw
          replace hX := hX.below bw
          replace hT := hT0.next bw
          go_wp2_with fail
          refine (build_any A c ms _ h60 hA).mono ?_
          rintro e w15 ⟨A1, c1, rfl, hc1, b15⟩
          rw [hl] at hc1 ⊢
          replace hA := hA.below b15
          replace hX := hX.below b15
          replace bw := bw.trans (b15.mono bw.size)
          clear b15
          replace hT := hT0.next bw
          go_wp2_with fail
          refine (Text_any A1 c1 l (a : Int) 8000 _ hll.out.good Hng.out (by omega) hc1.circ hT).mono ?_
          rintro e w16 ⟨rfl, b16⟩
          rw [HS.out]
          replace hX := hX.below b16
          replace hc1 := hc1.below b16
          replace bw := bw.trans (b16.mono bw.size)
          clear b16
          replace hT := hT0.next bw
          go_wp2_with fail
          refine (Text_any A1 c1 l (b : Int) 8000 _ hll.out.good Hng.out (by omega) hc1.circ hT).mono ?_
          rintro e w17 ⟨rfl, b17⟩
          rw [HE.out]
          replace hX := hX.below b17
          replace hc1 := hc1.below b17
          replace bw := bw.trans (b17.mono bw.size)
          clear b17
          replace hT := hT0.next bw
          go_wp2_with fail
          refine (Text_any A1 c1 l (a : Int) lim _ hll.out.good Hng.out (by omega) hc1.circ hT).mono ?_
          rintro e w18 ⟨rfl, b18⟩
          rw [HU.out]
          replace hX := hX.below b18
          replace hc1 := hc1.below b18
          replace bw := bw.trans (b18.mono bw.size)
          clear b18
          replace hT := hT0.next bw
          go_wp2_with fail
          go_ret
          exact ⟨by first | rfl | (simp [qs]; done), bw⟩
      · have es : (⟨(Cx.text l (a : Int) 8000).toArray⟩ : ByteArray) = ⟨#[]⟩ := by rw [fa2]
        have eu : (⟨(Cx.text l (a : Int) lim).toArray⟩ : ByteArray) = ⟨#[]⟩ := by rw [fa3]
        have HE := Lib.hid es
        have HE2 := Lib.hid eu
        clear fa2 fa3 eS eT eU es eu
        go_enter Tryd.func7, Tryd.ntmps7
        go_wp2_with fail
        refine (head_any w hT).mono ?_
        rintro e w0 ⟨rfl, bw⟩
        replace hA := hA.below bw
        replace hX := hX.below bw
        replace hT := hT0.next bw
        go_wp2_with fail
        refine (build_any A c ms _ h60 hA).mono ?_
        rintro e w19 ⟨A1, c1, rfl, hc1, b19⟩
        rw [hl] at hc1 ⊢
        replace hA := hA.below b19
        replace hX := hX.below b19
        replace bw := bw.trans (b19.mono bw.size)
        clear b19
        replace hT := hT0.next bw
        go_wp2_with fail
        refine (Text_any A1 c1 l (a : Int) 8000 _ hll.out.good Hng.out (by omega) hc1.circ hT).mono ?_
        rintro e w20 ⟨rfl, b20⟩
        rw [HE.out]
        replace hX := hX.below b20
        replace hc1 := hc1.below b20
        replace bw := bw.trans (b20.mono bw.size)
        clear b20
        replace hT := hT0.next bw
        go_wp2_with fail
        refine (Text_any A1 c1 l (b : Int) 8000 _ hll.out.good Hng.out (by omega) hc1.circ hT).mono ?_
        rintro e w21 ⟨rfl, b21⟩
        rw [HT.out]
        replace hX := hX.below b21
        replace hc1 := hc1.below b21
        replace bw := bw.trans (b21.mono bw.size)
        clear b21
        replace hT := hT0.next bw
        go_wp2_with fail
        refine (Text_any A1 c1 l (a : Int) lim _ hll.out.good Hng.out (by omega) hc1.circ hT).mono ?_
        rintro e w22 ⟨rfl, b22⟩
        rw [HE2.out]
        replace hX := hX.below b22
        replace hc1 := hc1.below b22
        replace bw := bw.trans (b22.mono bw.size)
        clear b22
        replace hT := hT0.next bw
        go_wp2_with fail
        go_ret
        exact ⟨rfl, bw⟩
    · have e60 : decide ((60 : Int) < (xs.length : Int)) = true := by simp; omega
      go_enter Tryd.func7, Tryd.ntmps7
      go_wp2_with fail
      refine (head_any w hT).mono ?_
      rintro e w0 ⟨rfl, bw⟩
      replace hA := hA.below bw
      go_wp2_with fail
      go_ret
      exact ⟨rfl, bw⟩
  · have d60 : decide ((24 : Int) < (ms.length : Int)) = true := by simp; omega
    go_enter Tryd.func7, Tryd.ntmps7
    go_wp2_with fail
    refine (head_any w hT).mono ?_
    rintro e w0 ⟨rfl, bw⟩
    replace hA := hA.below bw
    go_wp2_with fail
    go_ret
    exact ⟨rfl, bw⟩
end Go.Proofs.YtigcmjnjcaoolaaDoor
