/- The walks of the circuits' laws. -/
import Derived.Test.YtigcmjnjcaoolaaDoorCHead
import Derived.Test.YtigcmjnjcaoolaaDoorCChain
import Derived.Test.YtigcmjnjcaoolaaDoorCNums
import Derived.Test.YtigcmjnjcaoolaaDoorCMisc
import Derived.Test.YtigcmjnjcaoolaaDoorCSame
import Derived.Test.YtigcmjnjcaoolaaDoorCREval
import Derived.Test.YtigcmjnjcaoolaaDoorCRVal
import Derived.Test.YtigcmjnjcaoolaaDoorCRVars
import Derived.Test.YtigcmjnjcaoolaaDoorCTxt2
import Derived.WalkSmall
namespace Go.Proofs.YtigcmjnjcaoolaaDoor
set_option linter.unusedVariables false
set_option linter.unusedSimpArgs false
open Go.RowKit
open Cx (N M)
theorem vars_len (l : List N) (n : Int) : (Cx.vars l n).length ≤ l.length := by
  rw [Cx.vars_to, (Cx.varsTo_perm l (Cx.below l n) l.length).length_eq]
  refine Nat.le_trans (List.length_filterMap_le _ _) (Nat.le_trans (List.length_filter_le _ _) ?_)
  simp
set_option maxHeartbeats 8000000 in
set_option maxRecDepth 100000 in
theorem vars_law (A : Option Addr) (c : Nat) (ms : List M) (rn : Nat) (B : Option Addr) (d : Nat) (xs : List UInt8) (w : World) (hT : Tab w) (hrn : rn < 256) (hm : ms.length ≤ 9223372036854775807) (hxm : xs.length ≤ 9223372036854775807) (hA : Makes w A ms) (hX : Raws w B xs) :
    Calls Tryd.prog 6 #[.slice A ms.length c, .int .u8 (rn : Int), .slice B xs.length d] w fun e w' => e = .returned (.bool true) ∧ Below w.heap.size w w' := by
  by_cases h60 : ms.length ≤ 60
  · have d60 : decide ((60 : Int) < (ms.length : Int)) = false := by simp; omega
    by_cases x60 : xs.length ≤ 60
    · have e60 : decide ((60 : Int) < (xs.length : Int)) = false := by simp; omega
      obtain ⟨l, hl⟩ : ∃ l, Cx.build ms = l := ⟨_, rfl⟩
      have hl0 : Fine l 62 := by rw [← hl]; exact fine_build hA h60
      have hll := Lib.hid hl0
      have y3 : (1 : Int) ≤ (l.length : Int) := by have := hl0.good.more; omega
      have yl := hl0.len
      obtain ⟨n, hn⟩ : ∃ n, n = rn % l.length := ⟨_, rfl⟩
      have ln : n < l.length := by rw [hn]; exact Nat.mod_lt _ (by omega)
      have mn : (rn : Int) % (l.length : Int) = (n : Int) := by rw [mod_nat, hn]
      have yn : (0 : Int) ≤ (rn : Int) := by omega
      have zn : (rn : Int) ≤ 255 := by omega
      clear hn
      have hng := hl0.ng (by omega)
      obtain ⟨V, hV⟩ : ∃ V, Cx.vars l (n : Int) = V := ⟨_, rfl⟩
      have hless : V.Pairwise (· < ·) := by rw [← hV]; exact Cx.vars_less hl0.good n
      have hVI : ∀ t ∈ V, I64 t := by
        intro t ht; rw [← hV] at ht
        obtain ⟨j, v, _, hv, _, rfl⟩ := (Cx.mem_vars hl0.good ln t).1 ht
        exact (hng v (List.mem_of_getElem? hv)).2.1
      have hVL : V.length ≤ l.length := by rw [← hV]; exact vars_len l n
      have eo := Cx.eval_only hl0.good ln (ints xs)
      unfold Cx.only at eo
      rw [hV] at eo
      have ev := Cx.eval_vars hl0.good ln
      rw [hV] at ev
      have en := Cx.eval_nil hl0.good ln
      obtain ⟨Q, hQ⟩ : ∃ Q, ((n : Int) != 0) = Q := ⟨_, rfl⟩
      obtain ⟨U, hU⟩ : ∃ U, ((n : Int) == 1) = U := ⟨_, rfl⟩
      obtain ⟨X, hX0⟩ : ∃ X, Cx.eval l (n : Int) (ints xs) = X := ⟨_, rfl⟩
      have HEO := Lib.hid (eo.trans hX0)
      have HEX := Lib.hid hX0
      have HEV := Lib.hid (show Cx.eval l (n : Int) V = Q by rw [ev, ← hQ]; rw [Bool.eq_iff_iff]; simp)
      have HEN := Lib.hid (show Cx.eval l (n : Int) [] = U by rw [en, ← hU]; rw [Bool.eq_iff_iff]; simp)
      have qq : (Q == Q) = true := by simp
      have uu : (U == U) = true := by simp
      have xx : (X == X) = true := by simp
      have HV := Lib.hid hV; have HLess := Lib.hid hless; have HVI := Lib.hid hVI; have Hng := Lib.hid hng
      clear hV hless hVI hng eo ev en hX0
      obtain ⟨i0, hi, hz0, hz1, hz2⟩ := info_parts int_info
      go_enter Tryd.func6, Tryd.ntmps6
      go_wp2_with fail
      refine (head_any w hT).mono ?_
      rintro e w0 ⟨rfl, bw⟩
      replace hA := hA.below bw
      replace hX := hX.below bw
      go_wp2_with fail
      refine (build_any A c ms _ h60 hA).mono ?_
      rintro e w1 ⟨A1, c1, rfl, hc1, b1⟩
      rw [hl] at hc1 ⊢
      replace hA := hA.below b1
      replace hX := hX.below b1
      replace bw := bw.trans (b1.mono bw.size)
      clear b1
      clear hA
      go_wp2_with fail
      refine (cvars_all A1 c1 l (n : Int) _ hll.out.good (by omega) hc1.circ).mono ?_
      rintro e w3 ⟨A2, c2, rfl, hv, b2⟩
      rw [HV.out] at hv ⊢
      replace hc1 := hc1.below b2; replace hX := hX.below b2; replace bw := bw.trans (b2.mono bw.size)
      clear b2
      have o0 := own_empty w3 3 1 w3.heap.size (Nat.le_refl _)
      have bw0 := below1 w3 (.cells #[] 3)
      have hVM : V.length ≤ 20000 := by omega
      go_wp2_with fail
      go_loopw [11, 12] (fun v i wr => ∃ (k : Nat) (O : List Int), k ≤ V.length ∧ O.length ≤ k ∧ Hid (O = (V.take k).filter fun x => (ints xs).contains x) ∧ i = .int .i64 k ∧ wr.ownsRow w3.heap.size 3 1 v O.length (icells O) ∧ Below w3.heap.size w3 wr) (fun _ i _ => V.length - (intOf i).toNat)
      case atStart => exact ⟨0, [], by omega, by simp, Lib.hid rfl, rfl, o0, bw0⟩
      case round =>
        obtain ⟨k, O, hk, hOk, HO, rfl, hown, hbw⟩ := hrel
        clear o0 bw0
        obtain ⟨va, vc, rfl⟩ := own_len hown
        have LO := Lib.hid (icells_len O)
        by_cases h1 : k < V.length
        · have d1 : decide ((k : Int) < (V.length : Int)) = true := by simp; omega
          obtain ⟨g, o, e, hg, c0⟩ := (hv.nums.below hbw).at h1
          have ek := getElem_of h1
          have j0 : (0 : Int) ≤ (k : Int) := by omega
          have j1 : (k : Int) < (V.length : Int) := by omega
          have hNext : (V.take (k + 1)).filter (fun x => (ints xs).contains x) = O ++ (if (ints xs).contains V[k] then [V[k]] else []) := by
            rw [List.take_succ_eq_append_getElem h1, List.filter_append, ← HO.out]; congr 1; simp [List.filter_cons]
          have hZ : k = 0 ∨ ∃ (m : Nat) (y : Int), k = m + 1 ∧ V[m]? = some y ∧ y < V[k] := by
            rcases Nat.eq_zero_or_pos k with h | h
            · exact Or.inl h
            · refine Or.inr ⟨k - 1, V[k - 1], by omega, getElem_of (by omega), List.pairwise_iff_getElem.1 HLess.out (k - 1) k (by omega) h1 (by omega)⟩
          obtain ⟨z, hz⟩ : ∃ z, V[k] = z := ⟨_, rfl⟩
          rw [hz] at c0 hNext hZ ek
          clear hz
          obtain ⟨R, hR⟩ : ∃ R, (ints xs).contains z = R := ⟨_, rfl⟩
          rw [hR] at hNext
          have HR := Lib.hid (show R = ((ints xs).drop 0).any (· == z) by rw [← hR, contains_any])
          have HNext := Lib.hid hNext
          clear hNext hR
          rcases hZ with hk0 | ⟨m, y, hm, hy, hlt⟩
          · obtain rfl := e
            have p1 : decide ((0 : Int) < (k : Int)) = false := by simp; omega
            have p1n : decide (0 < k) = false := by simp; omega
            have HK0 := Lib.hid hk0
            clear hk0
            go_wp2_with fail
            go_quiet (fail)
            go_wp2_with fail
            go_loopw [13, 14] (fun b i wq => ∃ (q p : Nat) (yy : Bool), q ≤ xs.length ∧ Hid (R = (yy || ((ints xs).drop q).any (· == z))) ∧ b = .bool yy ∧ i = .int .i64 q ∧ wq = wr.drewN p) (fun _ i _ => xs.length - (intOf i).toNat)
            case atStart => exact ⟨0, _, false, by omega, Lib.hid (by rw [HR.out]; rfl), rfl, rfl, rfl⟩
            case round =>
              obtain ⟨q, p, yy, hq, HK, rfl, rfl, rfl⟩ := hrel
              by_cases h2 : q < xs.length
              · have d2 : decide ((q : Int) < (xs.length : Int)) = true := by simp; omega
                obtain ⟨gx, ox, rfl, hgx, x0⟩ := (hX.below hbw).at h2
                have q0 : (0 : Int) ≤ (q : Int) := by omega
                have q1 : (q : Int) < (xs.length : Int) := by omega
                have hE : R = ((yy || ((xs[q].toNat : Int) == z)) || ((ints xs).drop (q + 1)).any (· == z)) := by
                  rw [HK.out, List.drop_eq_getElem_cons (by rw [ints_len]; exact h2), List.any_cons, Bool.or_assoc]; simp [ints]
                generalize xs[q] = x at *
                have HE := Lib.hid hE
                clear hE
                have y0 : (0 : Int) ≤ (x.toNat : Int) := by omega
                have y1 : (x.toNat : Int) < 256 := by have := x.toNat_lt; omega
                cases yy
                · obtain ⟨bb, hbb⟩ : ∃ bb, ((x.toNat : Int) == z) = bb := ⟨_, rfl⟩
                  rw [hbb] at HE
                  go_wp2_with fail
                  go_quiet (fail)
                  go_wp2_with fail
                  go_roundw
                  case rel => exact ⟨q + 1, _, bb, by omega, Lib.hid (by rw [HE.out]; rfl), rfl, by go_num, rfl⟩
                  case measure => simp [intOf]; omega
                · go_wp2_with fail
                  go_quiet (fail)
                  go_wp2_with fail
                  go_roundw
                  case rel => exact ⟨q + 1, _, true, by omega, Lib.hid (by rw [HE.out]; rfl), rfl, by go_num, rfl⟩
                  case measure => simp [intOf]; omega
              · have d2 : decide ((q : Int) < (xs.length : Int)) = false := by simp; omega
                have hRy : R = yy := by rw [HK.out, List.drop_eq_nil_of_le (by rw [ints_len]; omega)]; simp
                subst hRy
                have bp : Below wr.heap.size wr (wr.drewN p) := below_drewN (Below.refl _ _) _
                cases R
                · go_wp2_with fail
                  go_roundw
                  case rel => exact ⟨k + 1, O, by omega, by omega, Lib.hid (by rw [HNext.out]; simp), by go_num, own_below hown bp, hbw.trans (bp.mono hbw.size)⟩
                  case measure => simp [intOf]; omega
                · have ho2 := own_below hown bp
                  have hbw2 := hbw.trans (bp.mono hbw.size)
                  have cc := (bp.cell (p := ⟨g, o + k, none⟩) hg).trans c0
                  generalize wr.drewN p = wp at *
                  go_wp2_with (first
                    | (at_builtin; go_loud (refine wpList_append_from rfl (.tmp 76) (.tmp 81) 25 rfl w3.heap.size 3 i0 _ 1 8 Tryd.underlying25 hi hz0 hz1 hz2 rfl (by omega) (.slice va O.length vc) O.length (icells O) rfl (ho2.alloc _) (some ⟨wp.heap.size, 0, none⟩) 1 1 [.int .i64 z] rfl rfl (fun h => by cases h) (fun ad h => by obtain rfl := Option.some.inj h; exact At.news (At.new _ _ _)) (one1 rfl) (by unfold maxLen; omega) (by omega) (by have := hbw2.size; simp; omega) ?_); intro v2 w2 o2 g2))
                  have bw2 : Below w3.heap.size w3 w2 := (hbw2.alloc hbw2.size _).grown g2 (by have := hbw2.size; simp; omega) (fun q hq => (own_lt ho2 hq).1)
                  go_roundw
                  case rel => exact ⟨k + 1, O ++ [z], by omega, by rw [List.length_append]; simp; omega, Lib.hid (by rw [HNext.out]; rfl), by go_num, by rw [icells_app, List.length_append]; exact o2, bw2⟩
                  case measure => simp [intOf]; omega
          · have hmV : m < V.length := by omega
            obtain ⟨g1, o1, e1, hg1, c1⟩ := (hv.nums.below hbw).at hmV
            rw [e] at e1
            injection e1 with e1
            injection e1 with e1 e2
            subst e1; subst e2
            obtain rfl := e
            rw [show V[m] = y from Option.some.inj ((getElem_of hmV).symm.trans hy)] at c1
            have k1 : (k : Int) - 1 = (m : Int) := by omega
            have m0 : (0 : Int) ≤ (m : Int) := by omega
            have m1 : (m : Int) < (V.length : Int) := by omega
            have p1 : decide ((0 : Int) < (k : Int)) = true := by simp; omega
            have p1n : decide (0 < k) = true := by simp; omega
            have p3 : (0 : Int) < (k : Int) := by omega
            have b1 : (-9223372036854775808 : Int) ≤ (k : Int) - 1 := by omega
            have b2 : (k : Int) - 1 ≤ 9223372036854775807 := by omega
            have p2 : decide (z ≤ y) = false := by simp; omega
            have HM := Lib.hid hm
            clear hm hy
            go_wp2_with fail
            go_quiet (fail)
            go_wp2_with fail
            go_loopw [13, 14] (fun b i wq => ∃ (q p : Nat) (yy : Bool), q ≤ xs.length ∧ Hid (R = (yy || ((ints xs).drop q).any (· == z))) ∧ b = .bool yy ∧ i = .int .i64 q ∧ wq = wr.drewN p) (fun _ i _ => xs.length - (intOf i).toNat)
            case atStart => exact ⟨0, _, false, by omega, Lib.hid (by rw [HR.out]; rfl), rfl, rfl, rfl⟩
            case round =>
              obtain ⟨q, p, yy, hq, HK, rfl, rfl, rfl⟩ := hrel
              by_cases h2 : q < xs.length
              · have d2 : decide ((q : Int) < (xs.length : Int)) = true := by simp; omega
                obtain ⟨gx, ox, rfl, hgx, x0⟩ := (hX.below hbw).at h2
                have q0 : (0 : Int) ≤ (q : Int) := by omega
                have q1 : (q : Int) < (xs.length : Int) := by omega
                have hE : R = ((yy || ((xs[q].toNat : Int) == z)) || ((ints xs).drop (q + 1)).any (· == z)) := by
                  rw [HK.out, List.drop_eq_getElem_cons (by rw [ints_len]; exact h2), List.any_cons, Bool.or_assoc]; simp [ints]
                generalize xs[q] = x at *
                have HE := Lib.hid hE
                clear hE
                have y0 : (0 : Int) ≤ (x.toNat : Int) := by omega
                have y1 : (x.toNat : Int) < 256 := by have := x.toNat_lt; omega
                cases yy
                · obtain ⟨bb, hbb⟩ : ∃ bb, ((x.toNat : Int) == z) = bb := ⟨_, rfl⟩
                  rw [hbb] at HE
                  go_wp2_with fail
                  go_quiet (fail)
                  go_wp2_with fail
                  go_roundw
                  case rel => exact ⟨q + 1, _, bb, by omega, Lib.hid (by rw [HE.out]; rfl), rfl, by go_num, rfl⟩
                  case measure => simp [intOf]; omega
                · go_wp2_with fail
                  go_quiet (fail)
                  go_wp2_with fail
                  go_roundw
                  case rel => exact ⟨q + 1, _, true, by omega, Lib.hid (by rw [HE.out]; rfl), rfl, by go_num, rfl⟩
                  case measure => simp [intOf]; omega
              · have d2 : decide ((q : Int) < (xs.length : Int)) = false := by simp; omega
                have hRy : R = yy := by rw [HK.out, List.drop_eq_nil_of_le (by rw [ints_len]; omega)]; simp
                subst hRy
                have bp : Below wr.heap.size wr (wr.drewN p) := below_drewN (Below.refl _ _) _
                cases R
                · go_wp2_with fail
                  go_roundw
                  case rel => exact ⟨k + 1, O, by omega, by omega, Lib.hid (by rw [HNext.out]; simp), by go_num, own_below hown bp, hbw.trans (bp.mono hbw.size)⟩
                  case measure => simp [intOf]; omega
                · have ho2 := own_below hown bp
                  have hbw2 := hbw.trans (bp.mono hbw.size)
                  have cc := (bp.cell (p := ⟨g, o + k, none⟩) hg).trans c0
                  generalize wr.drewN p = wp at *
                  go_wp2_with (first
                    | (at_builtin; go_loud (refine wpList_append_from rfl (.tmp 76) (.tmp 81) 25 rfl w3.heap.size 3 i0 _ 1 8 Tryd.underlying25 hi hz0 hz1 hz2 rfl (by omega) (.slice va O.length vc) O.length (icells O) rfl (ho2.alloc _) (some ⟨wp.heap.size, 0, none⟩) 1 1 [.int .i64 z] rfl rfl (fun h => by cases h) (fun ad h => by obtain rfl := Option.some.inj h; exact At.news (At.new _ _ _)) (one1 rfl) (by unfold maxLen; omega) (by omega) (by have := hbw2.size; simp; omega) ?_); intro v2 w2 o2 g2))
                  have bw2 : Below w3.heap.size w3 w2 := (hbw2.alloc hbw2.size _).grown g2 (by have := hbw2.size; simp; omega) (fun q hq => (own_lt ho2 hq).1)
                  go_roundw
                  case rel => exact ⟨k + 1, O ++ [z], by omega, by rw [List.length_append]; simp; omega, Lib.hid (by rw [HNext.out]; rfl), by go_num, by rw [icells_app, List.length_append]; exact o2, bw2⟩
                  case measure => simp [intOf]; omega
        · have d1 : decide ((k : Int) < (V.length : Int)) = false := by simp; omega
          have HOF := Lib.hid (show O = V.filter (fun x => (ints xs).contains x) by rw [HO.out, List.take_of_length_le (by omega)])
          obtain ⟨A3, c3, e3, hn1⟩ := ns_of_own hown
          injection e3 with e31 _ e32
          subst e31; subst e32
          replace hc1 := hc1.below hbw; replace hX := hX.below hbw; replace hv := hv.below hbw; replace bw := bw.trans (hbw.mono bw.size)
          clear hbw hown
          have hOI : ∀ t ∈ O, I64 t := fun t ht => HVI.out t (by rw [HOF.out] at ht; exact (List.mem_filter.1 ht).1)
          have HOI := Lib.hid hOI
          clear hOI
          go_wp2_with fail
          refine (eval_any A1 c1 l n va vc O _ hll.out.good Hng.out (by omega) (by omega) HOI.out hc1 hn1.nums).mono ?_
          rintro e w5 ⟨rfl, b5⟩
          rw [show Cx.eval l (n : Int) O = X by rw [HOF.out]; exact HEO.out]
          replace hc1 := hc1.below b5
          replace hX := hX.below b5
          replace hv := hv.below b5
          replace hn1 := hn1.below b5
          replace bw := bw.trans (b5.mono bw.size)
          clear b5
          go_wp2_with fail
          refine (numbers_any B d xs _ (by omega) hX).mono ?_
          rintro e w6 ⟨T5, t5, rfl, hn5, b6⟩
          replace hc1 := hc1.below b6
          replace hX := hX.below b6
          replace hv := hv.below b6
          replace hn1 := hn1.below b6
          replace bw := bw.trans (b6.mono bw.size)
          clear b6
          go_wp2_with fail
          refine (eval_any A1 c1 l n T5 t5 (ints xs) _ hll.out.good Hng.out (by omega) (by rw [ints_len]; omega) (ints_i64 xs) hc1 hn5.nums).mono ?_
          rintro e w7 ⟨rfl, b7⟩
          rw [HEX.out]
          replace hc1 := hc1.below b7
          replace hX := hX.below b7
          replace hv := hv.below b7
          replace hn1 := hn1.below b7
          replace hn5 := hn5.below b7
          replace bw := bw.trans (b7.mono bw.size)
          clear b7
          go_wp2_with fail
          refine (eval_any A1 c1 l n A2 c2 V _ hll.out.good Hng.out (by omega) (by omega) HVI.out hc1 hv.nums).mono ?_
          rintro e w8 ⟨rfl, b8⟩
          rw [HEV.out]
          replace hc1 := hc1.below b8
          replace hX := hX.below b8
          replace hv := hv.below b8
          replace hn1 := hn1.below b8
          replace hn5 := hn5.below b8
          replace bw := bw.trans (b8.mono bw.size)
          clear b8
          cases Q
          all_goals
            go_wp2_with fail
            refine (eval_any A1 c1 l n none 0 [] _ hll.out.good Hng.out (by omega) (by simp) (fun t ht => by cases ht) hc1 (fun h => absurd rfl h)).mono ?_
            rintro e w9 ⟨rfl, b9⟩
            rw [HEN.out]
            replace hc1 := hc1.below b9
            replace hX := hX.below b9
            replace hv := hv.below b9
            replace hn1 := hn1.below b9
            replace hn5 := hn5.below b9
            replace bw := bw.trans (b9.mono bw.size)
            clear b9
            go_wp2_with fail
            go_ret
            exact ⟨rfl, bw⟩
    · have e60 : decide ((60 : Int) < (xs.length : Int)) = true := by simp; omega
      go_enter Tryd.func6, Tryd.ntmps6
      go_wp2_with fail
      refine (head_any w hT).mono ?_
      rintro e w0 ⟨rfl, bw⟩
      replace hA := hA.below bw
      go_wp2_with fail
      go_ret
      exact ⟨rfl, bw⟩
  · have d60 : decide ((60 : Int) < (ms.length : Int)) = true := by simp; omega
    go_enter Tryd.func6, Tryd.ntmps6
    go_wp2_with fail
    refine (head_any w hT).mono ?_
    rintro e w0 ⟨rfl, bw⟩
    replace hA := hA.below bw
    go_wp2_with fail
    go_ret
    exact ⟨rfl, bw⟩
end Go.Proofs.YtigcmjnjcaoolaaDoor
