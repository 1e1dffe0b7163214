/- The walk of the law SemiringOperations. -/
import Derived.Test.YtphmicbpkljmfaaGreatSOp1
import Derived.Test.YtphmicbpkljmfaaGreatSMrl
namespace Go.Proofs.YtphmicbpkljmfaaGreat
set_option linter.unusedVariables false
set_option linter.unusedSimpArgs false
open Go.RowKit
open Cx (N fam Few)
theorem FamV.sets {w : World} {A : Option Addr} {c : Nat} {F : List (List Int)} (h : FamV w (.slice A F.length c) F) : Sets w A F := by
  obtain ⟨A', c', e, _, _, _, h⟩ := h
  injection e with e1 e2 e3; subst e1; exact h
/-- What Witnesses hands back: few sets. -/
def FewOut (F : List (List Int)) (w : World) (e : Ending) (w' : World) : Prop := ∃ V k, e = .returned (.tuple #[.slice V F.length k, .int .i64 0]) ∧ FamV w' (.slice V F.length k) F ∧ Below w.heap.size w w'
def ManyOut (w : World) (e : Ending) (w' : World) : Prop := ∃ V k, e = .returned (.tuple #[.slice V 0 k, .int .i64 2]) ∧ Below w.heap.size w w'
theorem wit_few (A : Option Addr) (c : Nat) (l : List N) (i : Nat) (w : World) (hl : l.length ≤ 20000) (hF : ∀ n ∈ l, NGood n) (hA : Cir w A c l) (hv : Cx.valid l = true) (hi : i < l.length) (hf : Few l i) :
    Calls Tryz.prog 12 #[.slice A l.length c, .int .i64 (i : Int)] w (FewOut (fam l i) w) := by
  refine (cWitnesses_any A c l (i : Int) w hl hF hA).mono ?_
  rintro e w' ⟨v, rfl, hs, hb⟩
  rcases wcode_in hv hi with ⟨_, h1, h2⟩ | ⟨h1, _⟩
  · rw [h2] at hs
    obtain ⟨V, k, rfl, _, hm⟩ := hs.mem.open
    exact ⟨V, k, by rw [h1], hm, hb⟩
  · exact absurd hf h1
theorem wit_many (A : Option Addr) (c : Nat) (l : List N) (i : Nat) (w : World) (hl : l.length ≤ 20000) (hF : ∀ n ∈ l, NGood n) (hA : Cir w A c l) (hv : Cx.valid l = true) (hi : i < l.length) (hf : ¬ Few l i) :
    Calls Tryz.prog 12 #[.slice A l.length c, .int .i64 (i : Int)] w (ManyOut w) := by
  refine (cWitnesses_any A c l (i : Int) w hl hF hA).mono ?_
  rintro e w' ⟨v, rfl, hs, hb⟩
  rcases wcode_in hv hi with ⟨h1, _⟩ | ⟨_, h1, h2⟩
  · exact absurd h1 hf
  · rw [h2] at hs
    obtain ⟨V, k, rfl, _, hm⟩ := hs.mem.open
    exact ⟨V, k, by rw [h1]; rfl, hb⟩
set_option maxHeartbeats 4000000 in
set_option maxRecDepth 100000 in
theorem ops_law (A : Option Addr) (c : Nat) (l : List N) (a b : Int) (w : World) (hl : l.length ≤ 140737488351232) (hF : ∀ n ∈ l, NGood n) (hA : Cir w A c l) :
    Calls Tryz.prog 4 #[.slice A l.length c, .int .i64 a, .int .i64 b] w fun e w' => e = .returned (.bool true) ∧ Below w.heap.size w w' := by
  have HFA := Lib.hid (fun W (bw : Below w.heap.size w W) => fine_any A c l a W (by omega) hF (hA.circ.below bw))
  have HFB := Lib.hid (fun W (bw : Below w.heap.size w W) => fine_any A c l b W (by omega) hF (hA.circ.below bw))
  cases hfa : fineP l a with
  | false =>
    have HA0 := Lib.hid hfa
    clear hfa hA hF hl
    go_enter Tryz.func4, Tryz.ntmps4
    go_wp2_with fail
    refine (head_any w).mono ?_
    rintro e w0 ⟨rfl, bw⟩
    go_wp2_with fail
    refine (HFA.out _ bw).mono ?_
    rintro e w1 ⟨rfl, bn⟩
    rw [HA0.out]
    replace bw := bw.trans (bn.mono bw.size)
    clear bn
    go_wp2_with fail
    go_ret
    exact ⟨rfl, bw⟩
  | true =>
    have HA0 := Lib.hid hfa
    cases hfb : fineP l b with
    | false =>
      have HB0 := Lib.hid hfb
      clear hfa hfb hA hF hl
      go_enter Tryz.func4, Tryz.ntmps4
      go_wp2_with fail
      refine (head_any w).mono ?_
      rintro e w0 ⟨rfl, bw⟩
      go_wp2_with fail
      refine (HFA.out _ bw).mono ?_
      rintro e w1 ⟨rfl, bn⟩
      rw [HA0.out]
      replace bw := bw.trans (bn.mono bw.size)
      clear bn
      go_wp2_with fail
      refine (HFB.out _ bw).mono ?_
      rintro e w2 ⟨rfl, bn⟩
      rw [HB0.out]
      replace bw := bw.trans (bn.mono bw.size)
      clear bn
      go_wp2_with fail
      go_ret
      exact ⟨rfl, bw⟩
    | true =>
      have HB0 := Lib.hid hfb
      obtain ⟨i, rfl, hi, h40, hv⟩ := fineP_true hfa
      obtain ⟨j, rfl, hj, _, _⟩ := fineP_true hfb
      clear hfa hfb
      by_cases h36 : 36 < l.length
      · have d1 : decide ((36 : Int) < (l.length : Int)) = true := by simp; omega
        have d1' : decide (36 < l.length) = true := by simp; omega
        clear hA hF hl h36 h40 hi hj hv
        go_enter Tryz.func4, Tryz.ntmps4
        go_wp2_with fail
        refine (head_any w).mono ?_
        rintro e w0 ⟨rfl, bw⟩
        go_wp2_with fail
        refine (HFA.out _ bw).mono ?_
        rintro e w1 ⟨rfl, bn⟩
        rw [HA0.out]
        replace bw := bw.trans (bn.mono bw.size)
        clear bn
        go_wp2_with fail
        refine (HFB.out _ bw).mono ?_
        rintro e w2 ⟨rfl, bn⟩
        rw [HB0.out]
        replace bw := bw.trans (bn.mono bw.size)
        clear bn
        go_wp2_with fail
        go_ret
        exact ⟨rfl, bw⟩
      have d1 : decide ((36 : Int) < (l.length : Int)) = false := by simp; omega
      have d1' : decide (36 < l.length) = false := by simp; omega
      have hg := Cx.valid_good hv
      have hl2 : l.length ≤ 20000 := by omega
      have hl3 : l.length < 20000 := by omega
      by_cases hfi : Few l i
      · have HWA := Lib.hid (fun W (bw : Below w.heap.size w W) => wit_few A c l i W hl2 hF (hA.below bw) hv hi hfi)
        by_cases hfj : Few l j
        · have HWB := Lib.hid (fun W (bw : Below w.heap.size w W) => wit_few A c l j W hl2 hF (hA.below bw) hv hj hfj)
          obtain ⟨GP, kp, hkp, hkpl, hep⟩ := Cx.plus_val hg hl3 hi hj
          obtain ⟨GQ, kq, hkq, hkql, heq⟩ := Cx.times_val hg hl3 hi hj
          have HPM := op_perm (o := 3) hg GP.good hi hj hkpl (fun ts => by rw [if_pos rfl]; exact hep ts)
          have HQM := op_perm (o := 4) hg GQ.good hi hj hkql (fun ts => by rw [if_neg (by decide)]; exact heq ts)
          have hpf : (fam (Cx.plus l (i : Int) (j : Int)).1 kp).length ≤ 200 → Few (Cx.plus l (i : Int) (j : Int)).1 kp := two_few hg hl3 hi hj (Or.inl ⟨rfl, rfl, rfl⟩) hfi hfj kp hkp
          have hqf : (fam (Cx.times l (i : Int) (j : Int)).1 kq).length ≤ 200 → Few (Cx.times l (i : Int) (j : Int)).1 kq := two_few hg hl3 hi hj (Or.inr ⟨rfl, rfl, rfl⟩) hfi hfj kq hkq
          have hpn : ∀ n ∈ (Cx.plus l (i : Int) (j : Int)).1, NGood n := two_ngood hF (op := 3) (z := 0) (o := 1) hi hj hl2 (Or.inl rfl)
          have hqn : ∀ n ∈ (Cx.times l (i : Int) (j : Int)).1, NGood n := two_ngood hF (op := 4) (z := 1) (o := 0) hi hj hl2 (Or.inr rfl)
          have hxl := few_len hfi
          have hyl := few_len hfj
          have iX : ∀ s ∈ fam l i, s.length ≤ 100000 ∧ Fm.Inc s := fun s hs => ⟨Nat.le_trans (fam_len hg hi hs) (by omega), (Cx.fam_is hg hi).fam.inc s hs⟩
          have iY : ∀ s ∈ fam l j, s.length ≤ 100000 ∧ Fm.Inc s := fun s hs => ⟨Nat.le_trans (fam_len hg hj hs) (by omega), (Cx.fam_is hg hj).fam.inc s hs⟩
          have HPA := Lib.hid (fun W (bw : Below w.heap.size w W) => plus_any A c l (i : Int) (j : Int) W hl2 (hA.below bw))
          have HTA := Lib.hid (fun W (bw : Below w.heap.size w W) => times_any A c l (i : Int) (j : Int) W hl2 (hA.below bw))
          rw [hkp] at HPA
          rw [hkq] at HTA
          have HPN := Lib.hid (Cx.fam_is GP.good hkpl).fam.nodup
          have HQN := Lib.hid (Cx.fam_is GQ.good hkql).fam.nodup
          have hp20 : (Cx.plus l (i : Int) (j : Int)).1.length ≤ 20000 := by have := GP.len; omega
          have hq20 : (Cx.times l (i : Int) (j : Int)).1.length ≤ 20000 := by have := GQ.len; omega
          have hpv := GP.good.valid hp20
          have hqv := GQ.good.valid hq20
          generalize (Cx.plus l (i : Int) (j : Int)).1 = p at *
          generalize (Cx.times l (i : Int) (j : Int)).1 = q at *
          have HWP := Lib.hid (fun (hf : Few p kp) A' c' W (hc : Cir W A' c' p) => wit_few A' c' p kp W hp20 hpn hc hpv hkpl hf)
          have HWQ := Lib.hid (fun (hf : Few q kq) A' c' W (hc : Cir W A' c' q) => wit_few A' c' q kq W hq20 hqn hc hqv hkql hf)
          have HMP := Lib.hid (fun (hf : ¬ Few p kp) A' c' W (hc : Cir W A' c' p) => wit_many A' c' p kp W hp20 hpn hc hpv hkpl hf)
          have HMQ := Lib.hid (fun (hf : ¬ Few q kq) A' c' W (hc : Cir W A' c' q) => wit_many A' c' q kq W hq20 hqn hc hqv hkql hf)
          have HPR := Lib.hid (show ∀ (V1 : Option Addr) (k1 : Nat) (V2 : Option Addr) (k2 : Nat) W, FamV W (.slice V1 (fam l i).length k1) (fam l i) → FamV W (.slice V2 (fam l j).length k2) (fam l j) → Calls Tryz.prog 20 #[.slice V1 (fam l i).length k1, .slice V2 (fam l j).length k2] W (FamOut none (rTwo 3 (fam l i) (fam l j)) W) from fun V1 k1 V2 k2 W h1 h2 => by
            have := two29_any 3 none V1 k1 (fam l i) V2 k2 (fam l j) W hxl hyl iX iY (lo_none _) (famA_none h1) (famA_none h2) _ rfl
            rwa [if_pos rfl] at this)
          have HTI := Lib.hid (show ∀ (V1 : Option Addr) (k1 : Nat) (V2 : Option Addr) (k2 : Nat) W, FamV W (.slice V1 (fam l i).length k1) (fam l i) → FamV W (.slice V2 (fam l j).length k2) (fam l j) → Calls Tryz.prog 22 #[.slice V1 (fam l i).length k1, .slice V2 (fam l j).length k2] W (FamOut none (rTwo 4 (fam l i) (fam l j)) W) from fun V1 k1 V2 k2 W h1 h2 => by
            have := two29_any 4 none V1 k1 (fam l i) V2 k2 (fam l j) W hxl hyl iX iY (lo_none _) (famA_none h1) (famA_none h2) _ rfl
            rwa [if_neg (by decide)] at this)
          have HPL2 := Lib.hid (show Few p kp → (fam p kp).length ≤ 200 from fun h => h kp Cx.Reach.refl)
          have HQL2 := Lib.hid (show Few q kq → (fam q kq).length ≤ 200 from fun h => h kq Cx.Reach.refl)
          have HPLN := Lib.hid HPM.length_eq
          have HQLN := Lib.hid HQM.length_eq
          have HPP := Lib.hid HPM
          have HQQ := Lib.hid HQM
          clear HPM HQM hpn hqn iX iY hep heq GP GQ hkp hkq hpv hqv hp20 hq20 hA hF hl hfi hfj hg hv hl2 hl3 h36 h40 hi hj hkpl hkql
          generalize fam p kp = PF at *
          generalize fam q kq = QF at *
          generalize rTwo 3 (fam l i) (fam l j) = PL at *
          generalize rTwo 4 (fam l i) (fam l j) = TI at *
          generalize fam l i = X at *
          generalize fam l j = Y at *
          have x1 : decide ((200 : Int) < (X.length : Int)) = false := by simp; omega
          have x1' : decide (200 < X.length) = false := by simp; omega
          have x2 : decide ((200 : Int) < (Y.length : Int)) = false := by simp; omega
          have x2' : decide (200 < Y.length) = false := by simp; omega
          have hxy : X.length * Y.length ≤ 200 * 200 := Nat.mul_le_mul hxl hyl
          have hm0 : ((X.length * Y.length : Nat) : Int) = (X.length : Int) * (Y.length : Int) := by simp
          have hm1 : IntKind.i64.wrap ((X.length : Int) * (Y.length : Int)) = (X.length : Int) * (Y.length : Int) := by rw [← hm0, IntKind.wrap_i64]; omega
          by_cases hfp : Few p kp
          · have hpl := HPL2.out hfp
            by_cases hfq : Few q kq
            · have hql := HQL2.out hfq
              by_cases hb : 400 < X.length * Y.length
              · have hb1 : decide ((400 : Int) < (X.length : Int) * (Y.length : Int)) = true := by rw [← hm0]; simp; omega
                have hb2 : decide (400 < X.length * Y.length) = true := by simp; omega
                clear hb
                go_enter Tryz.func4, Tryz.ntmps4
                go_wp2_with fail
                refine (head_any w).mono ?_
                rintro e w0 ⟨rfl, bw⟩
                go_wp2_with fail
                refine (HFA.out _ bw).mono ?_
                rintro e w1 ⟨rfl, bn⟩
                rw [HA0.out]
                replace bw := bw.trans (bn.mono bw.size)
                clear bn
                go_wp2_with fail
                refine (HFB.out _ bw).mono ?_
                rintro e w2 ⟨rfl, bn⟩
                rw [HB0.out]
                replace bw := bw.trans (bn.mono bw.size)
                clear bn
                go_wp2_with fail
                refine (HWA.out _ bw).mono ?_
                rintro e w3 ⟨V1, k1, rfl, f1, bn⟩
                replace bw := bw.trans (bn.mono bw.size)
                clear bn
                go_wp2_with fail
                refine (HWB.out _ bw).mono ?_
                rintro e w4 ⟨V2, k2, rfl, f2, bn⟩
                replace f1 := f1.below bn
                replace bw := bw.trans (bn.mono bw.size)
                clear bn
                go_wp2_with fail
                refine (HPA.out _ bw).mono ?_
                rintro e w5 ⟨A1, c1, rfl, hc1, bn⟩
                replace f1 := f1.below bn
                replace f2 := f2.below bn
                replace bw := bw.trans (bn.mono bw.size)
                clear bn
                go_wp2_with fail
                refine (HTA.out _ bw).mono ?_
                rintro e w6 ⟨A2, c2, rfl, hc2, bn⟩
                replace f1 := f1.below bn
                replace f2 := f2.below bn
                replace hc1 := hc1.below bn
                replace bw := bw.trans (bn.mono bw.size)
                clear bn
                go_wp2_with fail
                refine (HWP.out hfp A1 c1 _ hc1).mono ?_
                rintro e w7 ⟨V3, k3, rfl, f3, bn⟩
                replace f1 := f1.below bn
                replace f2 := f2.below bn
                replace hc2 := hc2.below bn
                replace bw := bw.trans (bn.mono bw.size)
                clear bn
                go_wp2_with fail
                refine (HWQ.out hfq A2 c2 _ hc2).mono ?_
                rintro e w8 ⟨V4, k4, rfl, f4, bn⟩
                replace f1 := f1.below bn
                replace f2 := f2.below bn
                replace f3 := f3.below bn
                replace bw := bw.trans (bn.mono bw.size)
                clear bn
                go_wp2_with fail
                refine (HPR.out _ _ _ _ _ f1 f2).mono ?_
                rintro e w9 ⟨v5, rfl, f5, bn⟩
                obtain ⟨V5, k5, rfl, s5, _⟩ := f5.open
                replace f1 := f1.below bn
                replace f2 := f2.below bn
                replace f3 := f3.below bn
                replace f4 := f4.below bn
                replace bw := bw.trans (bn.mono bw.size)
                clear bn
                go_wp2_with fail
                refine (equal29_any V3 k3 PF V5 k5 PL _ (by omega) HPP.out HPN.out f3.sets s5).mono ?_
                rintro e w10 ⟨rfl, bn⟩
                replace f1 := f1.below bn
                replace f2 := f2.below bn
                replace f4 := f4.below bn
                replace bw := bw.trans (bn.mono bw.size)
                clear bn
                go_wp2_with fail
                go_ret
                exact ⟨rfl, bw⟩
              · have hb1 : decide ((400 : Int) < (X.length : Int) * (Y.length : Int)) = false := by rw [← hm0]; simp; omega
                have hb2 : decide (400 < X.length * Y.length) = false := by simp; omega
                clear hb
                go_enter Tryz.func4, Tryz.ntmps4
                go_wp2_with fail
                refine (head_any w).mono ?_
                rintro e w0 ⟨rfl, bw⟩
                go_wp2_with fail
                refine (HFA.out _ bw).mono ?_
                rintro e w1 ⟨rfl, bn⟩
                rw [HA0.out]
                replace bw := bw.trans (bn.mono bw.size)
                clear bn
                go_wp2_with fail
                refine (HFB.out _ bw).mono ?_
                rintro e w2 ⟨rfl, bn⟩
                rw [HB0.out]
                replace bw := bw.trans (bn.mono bw.size)
                clear bn
                go_wp2_with fail
                refine (HWA.out _ bw).mono ?_
                rintro e w3 ⟨V1, k1, rfl, f1, bn⟩
                replace bw := bw.trans (bn.mono bw.size)
                clear bn
                go_wp2_with fail
                refine (HWB.out _ bw).mono ?_
                rintro e w4 ⟨V2, k2, rfl, f2, bn⟩
                replace f1 := f1.below bn
                replace bw := bw.trans (bn.mono bw.size)
                clear bn
                go_wp2_with fail
                refine (HPA.out _ bw).mono ?_
                rintro e w5 ⟨A1, c1, rfl, hc1, bn⟩
                replace f1 := f1.below bn
                replace f2 := f2.below bn
                replace bw := bw.trans (bn.mono bw.size)
                clear bn
                go_wp2_with fail
                refine (HTA.out _ bw).mono ?_
                rintro e w6 ⟨A2, c2, rfl, hc2, bn⟩
                replace f1 := f1.below bn
                replace f2 := f2.below bn
                replace hc1 := hc1.below bn
                replace bw := bw.trans (bn.mono bw.size)
                clear bn
                go_wp2_with fail
                refine (HWP.out hfp A1 c1 _ hc1).mono ?_
                rintro e w7 ⟨V3, k3, rfl, f3, bn⟩
                replace f1 := f1.below bn
                replace f2 := f2.below bn
                replace hc2 := hc2.below bn
                replace bw := bw.trans (bn.mono bw.size)
                clear bn
                go_wp2_with fail
                refine (HWQ.out hfq A2 c2 _ hc2).mono ?_
                rintro e w8 ⟨V4, k4, rfl, f4, bn⟩
                replace f1 := f1.below bn
                replace f2 := f2.below bn
                replace f3 := f3.below bn
                replace bw := bw.trans (bn.mono bw.size)
                clear bn
                go_wp2_with fail
                refine (HPR.out _ _ _ _ _ f1 f2).mono ?_
                rintro e w9 ⟨v5, rfl, f5, bn⟩
                obtain ⟨V5, k5, rfl, s5, _⟩ := f5.open
                replace f1 := f1.below bn
                replace f2 := f2.below bn
                replace f3 := f3.below bn
                replace f4 := f4.below bn
                replace bw := bw.trans (bn.mono bw.size)
                clear bn
                go_wp2_with fail
                refine (equal29_any V3 k3 PF V5 k5 PL _ (by omega) HPP.out HPN.out f3.sets s5).mono ?_
                rintro e w10 ⟨rfl, bn⟩
                replace f1 := f1.below bn
                replace f2 := f2.below bn
                replace f4 := f4.below bn
                replace bw := bw.trans (bn.mono bw.size)
                clear bn
                go_wp2_with fail
                refine (HTI.out _ _ _ _ _ f1 f2).mono ?_
                rintro e w11 ⟨v6, rfl, f6, bn⟩
                obtain ⟨V6, k6, rfl, s6, _⟩ := f6.open
                replace f4 := f4.below bn
                replace bw := bw.trans (bn.mono bw.size)
                clear bn
                go_wp2_with fail
                refine (equal29_any V4 k4 QF V6 k6 TI _ (by omega) HQQ.out HQN.out f4.sets s6).mono ?_
                rintro e w12 ⟨rfl, bn⟩
                replace bw := bw.trans (bn.mono bw.size)
                clear bn
                go_wp2_with fail
                go_ret
                exact ⟨rfl, bw⟩
            · have hql : 200 < TI.length := by rw [HQLN.out]; exact Nat.lt_of_not_le (fun h => hfq (hqf h))
              have z1 : decide ((200 : Int) < (TI.length : Int)) = true := by simp; omega
              have z1' : decide (200 < TI.length) = true := by simp; omega
              by_cases hb : 400 < X.length * Y.length
              · have hb1 : decide ((400 : Int) < (X.length : Int) * (Y.length : Int)) = true := by rw [← hm0]; simp; omega
                have hb2 : decide (400 < X.length * Y.length) = true := by simp; omega
                clear hb
                go_enter Tryz.func4, Tryz.ntmps4
                go_wp2_with fail
                refine (head_any w).mono ?_
                rintro e w0 ⟨rfl, bw⟩
                go_wp2_with fail
                refine (HFA.out _ bw).mono ?_
                rintro e w1 ⟨rfl, bn⟩
                rw [HA0.out]
                replace bw := bw.trans (bn.mono bw.size)
                clear bn
                go_wp2_with fail
                refine (HFB.out _ bw).mono ?_
                rintro e w2 ⟨rfl, bn⟩
                rw [HB0.out]
                replace bw := bw.trans (bn.mono bw.size)
                clear bn
                go_wp2_with fail
                refine (HWA.out _ bw).mono ?_
                rintro e w3 ⟨V1, k1, rfl, f1, bn⟩
                replace bw := bw.trans (bn.mono bw.size)
                clear bn
                go_wp2_with fail
                refine (HWB.out _ bw).mono ?_
                rintro e w4 ⟨V2, k2, rfl, f2, bn⟩
                replace f1 := f1.below bn
                replace bw := bw.trans (bn.mono bw.size)
                clear bn
                go_wp2_with fail
                refine (HPA.out _ bw).mono ?_
                rintro e w5 ⟨A1, c1, rfl, hc1, bn⟩
                replace f1 := f1.below bn
                replace f2 := f2.below bn
                replace bw := bw.trans (bn.mono bw.size)
                clear bn
                go_wp2_with fail
                refine (HTA.out _ bw).mono ?_
                rintro e w6 ⟨A2, c2, rfl, hc2, bn⟩
                replace f1 := f1.below bn
                replace f2 := f2.below bn
                replace hc1 := hc1.below bn
                replace bw := bw.trans (bn.mono bw.size)
                clear bn
                go_wp2_with fail
                refine (HWP.out hfp A1 c1 _ hc1).mono ?_
                rintro e w7 ⟨V3, k3, rfl, f3, bn⟩
                replace f1 := f1.below bn
                replace f2 := f2.below bn
                replace hc2 := hc2.below bn
                replace bw := bw.trans (bn.mono bw.size)
                clear bn
                go_wp2_with fail
                refine (HMQ.out hfq A2 c2 _ hc2).mono ?_
                rintro e w8 ⟨V4, k4, rfl, bn⟩
                replace f1 := f1.below bn
                replace f2 := f2.below bn
                replace f3 := f3.below bn
                replace bw := bw.trans (bn.mono bw.size)
                clear bn
                go_wp2_with fail
                refine (HPR.out _ _ _ _ _ f1 f2).mono ?_
                rintro e w9 ⟨v5, rfl, f5, bn⟩
                obtain ⟨V5, k5, rfl, s5, _⟩ := f5.open
                replace f1 := f1.below bn
                replace f2 := f2.below bn
                replace f3 := f3.below bn
                replace bw := bw.trans (bn.mono bw.size)
                clear bn
                go_wp2_with fail
                refine (equal29_any V3 k3 PF V5 k5 PL _ (by omega) HPP.out HPN.out f3.sets s5).mono ?_
                rintro e w10 ⟨rfl, bn⟩
                replace f1 := f1.below bn
                replace f2 := f2.below bn
                replace bw := bw.trans (bn.mono bw.size)
                clear bn
                go_wp2_with fail
                go_ret
                exact ⟨rfl, bw⟩
              · have hb1 : decide ((400 : Int) < (X.length : Int) * (Y.length : Int)) = false := by rw [← hm0]; simp; omega
                have hb2 : decide (400 < X.length * Y.length) = false := by simp; omega
                clear hb
                go_enter Tryz.func4, Tryz.ntmps4
                go_wp2_with fail
                refine (head_any w).mono ?_
                rintro e w0 ⟨rfl, bw⟩
                go_wp2_with fail
                refine (HFA.out _ bw).mono ?_
                rintro e w1 ⟨rfl, bn⟩
                rw [HA0.out]
                replace bw := bw.trans (bn.mono bw.size)
                clear bn
                go_wp2_with fail
                refine (HFB.out _ bw).mono ?_
                rintro e w2 ⟨rfl, bn⟩
                rw [HB0.out]
                replace bw := bw.trans (bn.mono bw.size)
                clear bn
                go_wp2_with fail
                refine (HWA.out _ bw).mono ?_
                rintro e w3 ⟨V1, k1, rfl, f1, bn⟩
                replace bw := bw.trans (bn.mono bw.size)
                clear bn
                go_wp2_with fail
                refine (HWB.out _ bw).mono ?_
                rintro e w4 ⟨V2, k2, rfl, f2, bn⟩
                replace f1 := f1.below bn
                replace bw := bw.trans (bn.mono bw.size)
                clear bn
                go_wp2_with fail
                refine (HPA.out _ bw).mono ?_
                rintro e w5 ⟨A1, c1, rfl, hc1, bn⟩
                replace f1 := f1.below bn
                replace f2 := f2.below bn
                replace bw := bw.trans (bn.mono bw.size)
                clear bn
                go_wp2_with fail
                refine (HTA.out _ bw).mono ?_
                rintro e w6 ⟨A2, c2, rfl, hc2, bn⟩
                replace f1 := f1.below bn
                replace f2 := f2.below bn
                replace hc1 := hc1.below bn
                replace bw := bw.trans (bn.mono bw.size)
                clear bn
                go_wp2_with fail
                refine (HWP.out hfp A1 c1 _ hc1).mono ?_
                rintro e w7 ⟨V3, k3, rfl, f3, bn⟩
                replace f1 := f1.below bn
                replace f2 := f2.below bn
                replace hc2 := hc2.below bn
                replace bw := bw.trans (bn.mono bw.size)
                clear bn
                go_wp2_with fail
                refine (HMQ.out hfq A2 c2 _ hc2).mono ?_
                rintro e w8 ⟨V4, k4, rfl, bn⟩
                replace f1 := f1.below bn
                replace f2 := f2.below bn
                replace f3 := f3.below bn
                replace bw := bw.trans (bn.mono bw.size)
                clear bn
                go_wp2_with fail
                refine (HPR.out _ _ _ _ _ f1 f2).mono ?_
                rintro e w9 ⟨v5, rfl, f5, bn⟩
                obtain ⟨V5, k5, rfl, s5, _⟩ := f5.open
                replace f1 := f1.below bn
                replace f2 := f2.below bn
                replace f3 := f3.below bn
                replace bw := bw.trans (bn.mono bw.size)
                clear bn
                go_wp2_with fail
                refine (equal29_any V3 k3 PF V5 k5 PL _ (by omega) HPP.out HPN.out f3.sets s5).mono ?_
                rintro e w10 ⟨rfl, bn⟩
                replace f1 := f1.below bn
                replace f2 := f2.below bn
                replace bw := bw.trans (bn.mono bw.size)
                clear bn
                go_wp2_with fail
                refine (HTI.out _ _ _ _ _ f1 f2).mono ?_
                rintro e w11 ⟨v6, rfl, f6, bn⟩
                obtain ⟨V6, k6, rfl, s6, _⟩ := f6.open
                replace bw := bw.trans (bn.mono bw.size)
                clear bn
                go_wp2_with fail
                go_ret
                exact ⟨rfl, bw⟩
          · have hpl : 200 < PL.length := by rw [HPLN.out]; exact Nat.lt_of_not_le (fun h => hfp (hpf h))
            have y1 : decide ((PL.length : Int) ≤ 200) = false := by simp; omega
            have y1' : decide (PL.length ≤ 200) = false := by simp; omega
            by_cases hfq : Few q kq
            · have hql := HQL2.out hfq
              by_cases hb : 400 < X.length * Y.length
              · have hb1 : decide ((400 : Int) < (X.length : Int) * (Y.length : Int)) = true := by rw [← hm0]; simp; omega
                have hb2 : decide (400 < X.length * Y.length) = true := by simp; omega
                clear hb
                go_enter Tryz.func4, Tryz.ntmps4
                go_wp2_with fail
                refine (head_any w).mono ?_
                rintro e w0 ⟨rfl, bw⟩
                go_wp2_with fail
                refine (HFA.out _ bw).mono ?_
                rintro e w1 ⟨rfl, bn⟩
                rw [HA0.out]
                replace bw := bw.trans (bn.mono bw.size)
                clear bn
                go_wp2_with fail
                refine (HFB.out _ bw).mono ?_
                rintro e w2 ⟨rfl, bn⟩
                rw [HB0.out]
                replace bw := bw.trans (bn.mono bw.size)
                clear bn
                go_wp2_with fail
                refine (HWA.out _ bw).mono ?_
                rintro e w3 ⟨V1, k1, rfl, f1, bn⟩
                replace bw := bw.trans (bn.mono bw.size)
                clear bn
                go_wp2_with fail
                refine (HWB.out _ bw).mono ?_
                rintro e w4 ⟨V2, k2, rfl, f2, bn⟩
                replace f1 := f1.below bn
                replace bw := bw.trans (bn.mono bw.size)
                clear bn
                go_wp2_with fail
                refine (HPA.out _ bw).mono ?_
                rintro e w5 ⟨A1, c1, rfl, hc1, bn⟩
                replace f1 := f1.below bn
                replace f2 := f2.below bn
                replace bw := bw.trans (bn.mono bw.size)
                clear bn
                go_wp2_with fail
                refine (HTA.out _ bw).mono ?_
                rintro e w6 ⟨A2, c2, rfl, hc2, bn⟩
                replace f1 := f1.below bn
                replace f2 := f2.below bn
                replace hc1 := hc1.below bn
                replace bw := bw.trans (bn.mono bw.size)
                clear bn
                go_wp2_with fail
                refine (HMP.out hfp A1 c1 _ hc1).mono ?_
                rintro e w7 ⟨V3, k3, rfl, bn⟩
                replace f1 := f1.below bn
                replace f2 := f2.below bn
                replace hc2 := hc2.below bn
                replace bw := bw.trans (bn.mono bw.size)
                clear bn
                go_wp2_with fail
                refine (HWQ.out hfq A2 c2 _ hc2).mono ?_
                rintro e w8 ⟨V4, k4, rfl, f4, bn⟩
                replace f1 := f1.below bn
                replace f2 := f2.below bn
                replace bw := bw.trans (bn.mono bw.size)
                clear bn
                go_wp2_with fail
                refine (HPR.out _ _ _ _ _ f1 f2).mono ?_
                rintro e w9 ⟨v5, rfl, f5, bn⟩
                obtain ⟨V5, k5, rfl, s5, _⟩ := f5.open
                replace f1 := f1.below bn
                replace f2 := f2.below bn
                replace f4 := f4.below bn
                replace bw := bw.trans (bn.mono bw.size)
                clear bn
                go_wp2_with fail
                go_ret
                exact ⟨rfl, bw⟩
              · have hb1 : decide ((400 : Int) < (X.length : Int) * (Y.length : Int)) = false := by rw [← hm0]; simp; omega
                have hb2 : decide (400 < X.length * Y.length) = false := by simp; omega
                clear hb
                go_enter Tryz.func4, Tryz.ntmps4
                go_wp2_with fail
                refine (head_any w).mono ?_
                rintro e w0 ⟨rfl, bw⟩
                go_wp2_with fail
                refine (HFA.out _ bw).mono ?_
                rintro e w1 ⟨rfl, bn⟩
                rw [HA0.out]
                replace bw := bw.trans (bn.mono bw.size)
                clear bn
                go_wp2_with fail
                refine (HFB.out _ bw).mono ?_
                rintro e w2 ⟨rfl, bn⟩
                rw [HB0.out]
                replace bw := bw.trans (bn.mono bw.size)
                clear bn
                go_wp2_with fail
                refine (HWA.out _ bw).mono ?_
                rintro e w3 ⟨V1, k1, rfl, f1, bn⟩
                replace bw := bw.trans (bn.mono bw.size)
                clear bn
                go_wp2_with fail
                refine (HWB.out _ bw).mono ?_
                rintro e w4 ⟨V2, k2, rfl, f2, bn⟩
                replace f1 := f1.below bn
                replace bw := bw.trans (bn.mono bw.size)
                clear bn
                go_wp2_with fail
                refine (HPA.out _ bw).mono ?_
                rintro e w5 ⟨A1, c1, rfl, hc1, bn⟩
                replace f1 := f1.below bn
                replace f2 := f2.below bn
                replace bw := bw.trans (bn.mono bw.size)
                clear bn
                go_wp2_with fail
                refine (HTA.out _ bw).mono ?_
                rintro e w6 ⟨A2, c2, rfl, hc2, bn⟩
                replace f1 := f1.below bn
                replace f2 := f2.below bn
                replace hc1 := hc1.below bn
                replace bw := bw.trans (bn.mono bw.size)
                clear bn
                go_wp2_with fail
                refine (HMP.out hfp A1 c1 _ hc1).mono ?_
                rintro e w7 ⟨V3, k3, rfl, bn⟩
                replace f1 := f1.below bn
                replace f2 := f2.below bn
                replace hc2 := hc2.below bn
                replace bw := bw.trans (bn.mono bw.size)
                clear bn
                go_wp2_with fail
                refine (HWQ.out hfq A2 c2 _ hc2).mono ?_
                rintro e w8 ⟨V4, k4, rfl, f4, bn⟩
                replace f1 := f1.below bn
                replace f2 := f2.below bn
                replace bw := bw.trans (bn.mono bw.size)
                clear bn
                go_wp2_with fail
                refine (HPR.out _ _ _ _ _ f1 f2).mono ?_
                rintro e w9 ⟨v5, rfl, f5, bn⟩
                obtain ⟨V5, k5, rfl, s5, _⟩ := f5.open
                replace f1 := f1.below bn
                replace f2 := f2.below bn
                replace f4 := f4.below bn
                replace bw := bw.trans (bn.mono bw.size)
                clear bn
                go_wp2_with fail
                refine (HTI.out _ _ _ _ _ f1 f2).mono ?_
                rintro e w11 ⟨v6, rfl, f6, bn⟩
                obtain ⟨V6, k6, rfl, s6, _⟩ := f6.open
                replace f4 := f4.below bn
                replace bw := bw.trans (bn.mono bw.size)
                clear bn
                go_wp2_with fail
                refine (equal29_any V4 k4 QF V6 k6 TI _ (by omega) HQQ.out HQN.out f4.sets s6).mono ?_
                rintro e w12 ⟨rfl, bn⟩
                replace bw := bw.trans (bn.mono bw.size)
                clear bn
                go_wp2_with fail
                go_ret
                exact ⟨rfl, bw⟩
            · have hql : 200 < TI.length := by rw [HQLN.out]; exact Nat.lt_of_not_le (fun h => hfq (hqf h))
              have z1 : decide ((200 : Int) < (TI.length : Int)) = true := by simp; omega
              have z1' : decide (200 < TI.length) = true := by simp; omega
              by_cases hb : 400 < X.length * Y.length
              · have hb1 : decide ((400 : Int) < (X.length : Int) * (Y.length : Int)) = true := by rw [← hm0]; simp; omega
                have hb2 : decide (400 < X.length * Y.length) = true := by simp; omega
                clear hb
                go_enter Tryz.func4, Tryz.ntmps4
                go_wp2_with fail
                refine (head_any w).mono ?_
                rintro e w0 ⟨rfl, bw⟩
                go_wp2_with fail
                refine (HFA.out _ bw).mono ?_
                rintro e w1 ⟨rfl, bn⟩
                rw [HA0.out]
                replace bw := bw.trans (bn.mono bw.size)
                clear bn
                go_wp2_with fail
                refine (HFB.out _ bw).mono ?_
                rintro e w2 ⟨rfl, bn⟩
                rw [HB0.out]
                replace bw := bw.trans (bn.mono bw.size)
                clear bn
                go_wp2_with fail
                refine (HWA.out _ bw).mono ?_
                rintro e w3 ⟨V1, k1, rfl, f1, bn⟩
                replace bw := bw.trans (bn.mono bw.size)
                clear bn
                go_wp2_with fail
                refine (HWB.out _ bw).mono ?_
                rintro e w4 ⟨V2, k2, rfl, f2, bn⟩
                replace f1 := f1.below bn
                replace bw := bw.trans (bn.mono bw.size)
                clear bn
                go_wp2_with fail
                refine (HPA.out _ bw).mono ?_
                rintro e w5 ⟨A1, c1, rfl, hc1, bn⟩
                replace f1 := f1.below bn
                replace f2 := f2.below bn
                replace bw := bw.trans (bn.mono bw.size)
                clear bn
                go_wp2_with fail
                refine (HTA.out _ bw).mono ?_
                rintro e w6 ⟨A2, c2, rfl, hc2, bn⟩
                replace f1 := f1.below bn
                replace f2 := f2.below bn
                replace hc1 := hc1.below bn
                replace bw := bw.trans (bn.mono bw.size)
                clear bn
                go_wp2_with fail
                refine (HMP.out hfp A1 c1 _ hc1).mono ?_
                rintro e w7 ⟨V3, k3, rfl, bn⟩
                replace f1 := f1.below bn
                replace f2 := f2.below bn
                replace hc2 := hc2.below bn
                replace bw := bw.trans (bn.mono bw.size)
                clear bn
                go_wp2_with fail
                refine (HMQ.out hfq A2 c2 _ hc2).mono ?_
                rintro e w8 ⟨V4, k4, rfl, bn⟩
                replace f1 := f1.below bn
                replace f2 := f2.below bn
                replace bw := bw.trans (bn.mono bw.size)
                clear bn
                go_wp2_with fail
                refine (HPR.out _ _ _ _ _ f1 f2).mono ?_
                rintro e w9 ⟨v5, rfl, f5, bn⟩
                obtain ⟨V5, k5, rfl, s5, _⟩ := f5.open
                replace f1 := f1.below bn
                replace f2 := f2.below bn
                replace bw := bw.trans (bn.mono bw.size)
                clear bn
                go_wp2_with fail
                go_ret
                exact ⟨rfl, bw⟩
              · have hb1 : decide ((400 : Int) < (X.length : Int) * (Y.length : Int)) = false := by rw [← hm0]; simp; omega
                have hb2 : decide (400 < X.length * Y.length) = false := by simp; omega
                clear hb
                go_enter Tryz.func4, Tryz.ntmps4
                go_wp2_with fail
                refine (head_any w).mono ?_
                rintro e w0 ⟨rfl, bw⟩
                go_wp2_with fail
                refine (HFA.out _ bw).mono ?_
                rintro e w1 ⟨rfl, bn⟩
                rw [HA0.out]
                replace bw := bw.trans (bn.mono bw.size)
                clear bn
                go_wp2_with fail
                refine (HFB.out _ bw).mono ?_
                rintro e w2 ⟨rfl, bn⟩
                rw [HB0.out]
                replace bw := bw.trans (bn.mono bw.size)
                clear bn
                go_wp2_with fail
                refine (HWA.out _ bw).mono ?_
                rintro e w3 ⟨V1, k1, rfl, f1, bn⟩
                replace bw := bw.trans (bn.mono bw.size)
                clear bn
                go_wp2_with fail
                refine (HWB.out _ bw).mono ?_
                rintro e w4 ⟨V2, k2, rfl, f2, bn⟩
                replace f1 := f1.below bn
                replace bw := bw.trans (bn.mono bw.size)
                clear bn
                go_wp2_with fail
                refine (HPA.out _ bw).mono ?_
                rintro e w5 ⟨A1, c1, rfl, hc1, bn⟩
                replace f1 := f1.below bn
                replace f2 := f2.below bn
                replace bw := bw.trans (bn.mono bw.size)
                clear bn
                go_wp2_with fail
                refine (HTA.out _ bw).mono ?_
                rintro e w6 ⟨A2, c2, rfl, hc2, bn⟩
                replace f1 := f1.below bn
                replace f2 := f2.below bn
                replace hc1 := hc1.below bn
                replace bw := bw.trans (bn.mono bw.size)
                clear bn
                go_wp2_with fail
                refine (HMP.out hfp A1 c1 _ hc1).mono ?_
                rintro e w7 ⟨V3, k3, rfl, bn⟩
                replace f1 := f1.below bn
                replace f2 := f2.below bn
                replace hc2 := hc2.below bn
                replace bw := bw.trans (bn.mono bw.size)
                clear bn
                go_wp2_with fail
                refine (HMQ.out hfq A2 c2 _ hc2).mono ?_
                rintro e w8 ⟨V4, k4, rfl, bn⟩
                replace f1 := f1.below bn
                replace f2 := f2.below bn
                replace bw := bw.trans (bn.mono bw.size)
                clear bn
                go_wp2_with fail
                refine (HPR.out _ _ _ _ _ f1 f2).mono ?_
                rintro e w9 ⟨v5, rfl, f5, bn⟩
                obtain ⟨V5, k5, rfl, s5, _⟩ := f5.open
                replace f1 := f1.below bn
                replace f2 := f2.below bn
                replace bw := bw.trans (bn.mono bw.size)
                clear bn
                go_wp2_with fail
                refine (HTI.out _ _ _ _ _ f1 f2).mono ?_
                rintro e w11 ⟨v6, rfl, f6, bn⟩
                obtain ⟨V6, k6, rfl, s6, _⟩ := f6.open
                replace bw := bw.trans (bn.mono bw.size)
                clear bn
                go_wp2_with fail
                go_ret
                exact ⟨rfl, bw⟩
        · have HWB := Lib.hid (fun W (bw : Below w.heap.size w W) => wit_many A c l j W hl2 hF (hA.below bw) hv hj hfj)
          clear hfi hfj hA hF hl hi hj hv h36 h40 hg hl2 hl3
          go_enter Tryz.func4, Tryz.ntmps4
          go_wp2_with fail
          refine (head_any w).mono ?_
          rintro e w0 ⟨rfl, bw⟩
          go_wp2_with fail
          refine (HFA.out _ bw).mono ?_
          rintro e w1 ⟨rfl, bn⟩
          rw [HA0.out]
          replace bw := bw.trans (bn.mono bw.size)
          clear bn
          go_wp2_with fail
          refine (HFB.out _ bw).mono ?_
          rintro e w2 ⟨rfl, bn⟩
          rw [HB0.out]
          replace bw := bw.trans (bn.mono bw.size)
          clear bn
          go_wp2_with fail
          refine (HWA.out _ bw).mono ?_
          rintro e w3 ⟨V1, k1, rfl, f1, bn⟩
          replace bw := bw.trans (bn.mono bw.size)
          clear bn
          go_wp2_with fail
          refine (HWB.out _ bw).mono ?_
          rintro e w4 ⟨V2, k2, rfl, bn⟩
          replace bw := bw.trans (bn.mono bw.size)
          clear bn
          go_wp2_with fail
          go_ret
          exact ⟨rfl, bw⟩
      · have HWA := Lib.hid (fun W (bw : Below w.heap.size w W) => wit_many A c l i W hl2 hF (hA.below bw) hv hi hfi)
        by_cases hfj : Few l j
        · have HWB := Lib.hid (fun W (bw : Below w.heap.size w W) => wit_few A c l j W hl2 hF (hA.below bw) hv hj hfj)
          clear hfi hfj hA hF hl hi hj hv h36 h40 hg hl2 hl3
          go_enter Tryz.func4, Tryz.ntmps4
          go_wp2_with fail
          refine (head_any w).mono ?_
          rintro e w0 ⟨rfl, bw⟩
          go_wp2_with fail
          refine (HFA.out _ bw).mono ?_
          rintro e w1 ⟨rfl, bn⟩
          rw [HA0.out]
          replace bw := bw.trans (bn.mono bw.size)
          clear bn
          go_wp2_with fail
          refine (HFB.out _ bw).mono ?_
          rintro e w2 ⟨rfl, bn⟩
          rw [HB0.out]
          replace bw := bw.trans (bn.mono bw.size)
          clear bn
          go_wp2_with fail
          refine (HWA.out _ bw).mono ?_
          rintro e w3 ⟨V1, k1, rfl, bn⟩
          replace bw := bw.trans (bn.mono bw.size)
          clear bn
          go_wp2_with fail
          refine (HWB.out _ bw).mono ?_
          rintro e w4 ⟨V2, k2, rfl, f2, bn⟩
          replace bw := bw.trans (bn.mono bw.size)
          clear bn
          go_wp2_with fail
          go_ret
          exact ⟨rfl, bw⟩
        · have HWB := Lib.hid (fun W (bw : Below w.heap.size w W) => wit_many A c l j W hl2 hF (hA.below bw) hv hj hfj)
          clear hfi hfj hA hF hl hi hj hv h36 h40 hg hl2 hl3
          go_enter Tryz.func4, Tryz.ntmps4
          go_wp2_with fail
          refine (head_any w).mono ?_
          rintro e w0 ⟨rfl, bw⟩
          go_wp2_with fail
          refine (HFA.out _ bw).mono ?_
          rintro e w1 ⟨rfl, bn⟩
          rw [HA0.out]
          replace bw := bw.trans (bn.mono bw.size)
          clear bn
          go_wp2_with fail
          refine (HFB.out _ bw).mono ?_
          rintro e w2 ⟨rfl, bn⟩
          rw [HB0.out]
          replace bw := bw.trans (bn.mono bw.size)
          clear bn
          go_wp2_with fail
          refine (HWA.out _ bw).mono ?_
          rintro e w3 ⟨V1, k1, rfl, bn⟩
          replace bw := bw.trans (bn.mono bw.size)
          clear bn
          go_wp2_with fail
          refine (HWB.out _ bw).mono ?_
          rintro e w4 ⟨V2, k2, rfl, bn⟩
          replace bw := bw.trans (bn.mono bw.size)
          clear bn
          go_wp2_with fail
          go_ret
          exact ⟨rfl, bw⟩
end Go.Proofs.YtphmicbpkljmfaaGreat
