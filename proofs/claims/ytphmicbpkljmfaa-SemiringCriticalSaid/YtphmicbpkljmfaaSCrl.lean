/- The walk of the law SemiringCritical. -/
import Derived.Test.YtphmicbpkljmfaaSLaw0
namespace Go.Proofs.Ytphmicbpkljmfaa
set_option linter.unusedVariables false
set_option linter.unusedSimpArgs false
open Go.RowKit
open Cx (N fam Few)
theorem any_more' {F : List (List Int)} {p : List Int → Bool} {k : Nat} {s : List Int} (h : F[k]? = some s) : (F.take (k + 1)).any p = ((F.take k).any p || p s) := by
  rw [take_more h]; simp
theorem some_out {F : List (List Int)} {v : Int} {b : Bool} (h : b = true ↔ ∀ s ∈ F, v ∈ s) : (F.any fun s => !s.contains v) = !b := by
  rw [Bool.eq_iff_iff, List.any_eq_true, Bool.not_eq_true', Bool.eq_false_iff]
  constructor
  · rintro ⟨s, hs, h1⟩ h2
    have := h.1 h2 s hs
    simp [this] at h1
  · intro h1
    have h2 : ¬ ∀ s ∈ F, v ∈ s := fun h3 => h1 (h.2 h3)
    refine Classical.byContradiction fun h3 => h2 fun s hs => ?_
    refine Classical.byContradiction fun h4 => h3 ⟨s, hs, by simp [h4]⟩
set_option maxHeartbeats 4000000 in
set_option maxRecDepth 100000 in
theorem critical_law (A : Option Addr) (c : Nat) (l : List N) (n v : Int) (w : World) (hl : l.length ≤ 140737488351232) (hF : ∀ n ∈ l, NGood n) (hA : Cir w A c l) (hvI : I64 v) :
    Calls Try.prog 6 #[.slice A l.length c, .int .i64 n, .int .i64 v] w fun e w' => e = .returned (.bool true) ∧ Below w.heap.size w w' := by
  cases hf : fineP l n with
  | false =>
    go_enter Try.func6, Try.ntmps6
    go_wp2_with fail
    refine (head_any w).mono ?_
    rintro e w0 ⟨rfl, bw⟩
    go_wp2_with fail
    refine (fine_any A c l n _ (by omega) hF (hA.circ.below bw)).mono ?_
    rintro e w1 ⟨rfl, b1⟩
    rw [hf]
    go_wp2_with fail
    go_ret
    exact ⟨rfl, bw.trans (b1.mono bw.size)⟩
  | true =>
    obtain ⟨i, rfl, hi, h40, hv⟩ := fineP_true hf
    have hg := Cx.valid_good hv
    have HVI := Lib.hid (vars_i64 hg hF hi)
    have hvl := vars_length hg i hi
    have HCM := Lib.hid (crit_mem hv hi v)
    have HCI := Lib.hid (crit_inc (n := i) hv)
    have hcl := crit_len hv hi
    have HFN := Lib.hid hf
    have HWC := Lib.hid (wcode_in hv hi)
    have HCF := Lib.hid (fun (h : fam l i ≠ []) => crit_iff hv hi h)
    have HCN := Lib.hid (fun (h : fam l i = []) => crit_nil hv hi h)
    have HFV := Lib.hid (show ∀ s ∈ fam l i, s.length ≤ 40 from fun s hs => Nat.le_trans (fam_len hg hi hs) h40)
    obtain ⟨K, hK⟩ : ∃ K, critP l (i : Int) = K := ⟨_, rfl⟩
    obtain ⟨vs, hvs⟩ : ∃ vs, Cx.vars l (i : Int) = vs := ⟨_, rfl⟩
    have HK := Lib.hid hK
    have HV := Lib.hid hvs
    rw [hK] at HCM HCI hcl HCF HCN
    rw [hvs] at HVI hvl HCM
    have HVI2 := Lib.hid (show ∀ t ∈ vs, I64 t from fun t ht => (HVI.out t ht).1)
    have HRI := Lib.hid (show ∀ t ∈ restL vs [v], I64 t from fun t ht => (HVI.out t (mem_restL.1 ht).1).1)
    have hrl := restL_len vs [v]
    clear hf hK hvs HVI
    cases hE1 : Cx.eval l (i : Int) vs with
    | false =>
      have E1 := Lib.hid hE1
      have HIN := Lib.hid (show K.contains v = false by rw [HCM.out, hE1]; rfl)
      clear hE1
      go_enter Try.func6, Try.ntmps6
      go_wp2_with fail
      refine (head_any w).mono ?_
      rintro e w0 ⟨rfl, bw⟩
      go_wp2_with fail
      refine (fine_any A c l _ _ (by omega) hF (hA.circ.below bw)).mono ?_
      rintro e w1 ⟨rfl, b1⟩
      rw [HFN.out]
      replace bw := bw.trans (b1.mono bw.size)
      clear b1
      go_wp2_with fail
      refine (critical_any A c l _ _ (by omega) hF (hA.below bw)).mono ?_
      rintro e w2 ⟨vk, rfl, ok, b2⟩
      rw [HK.out] at ok
      obtain ⟨K0, kc, rfl, hkn⟩ := ns_of_own ok
      replace bw := bw.trans (b2.mono bw.size)
      clear ok b2
      go_wp2_with fail
      refine (cvars_own A c l _ _ hg (by omega) (hA.circ.below bw)).mono ?_
      rintro e w5 ⟨vv, rfl, ov, b5⟩
      rw [HV.out] at ov
      obtain ⟨V, vc', rfl, hvn⟩ := ns_of_own ov
      replace bw := bw.trans (b5.mono bw.size)
      replace hkn := hkn.below b5
      clear ov b5
      go_wp2_with fail
      refine (eval_any A c l _ V vc' vs _ hg hF (by omega) (by omega) HVI2.out (hA.below bw) hvn.nums).mono ?_
      rintro e w6 ⟨rfl, b6⟩
      rw [E1.out]
      replace bw := bw.trans (b6.mono bw.size)
      replace hkn := hkn.below b6
      replace hvn := hvn.below b6
      clear b6
      go_wp2_with fail
      refine (in29_any K0 kc K v _ (by omega) hkn.nums).mono ?_
      rintro e wz ⟨rfl, rfl⟩
      rw [HIN.out]
      go_wp2_with fail
      refine (cWitnesses_any A c l _ _ (by omega) hF (hA.below bw)).mono ?_
      rintro e w9 ⟨vw, rfl, s9, b9⟩
      replace bw := bw.trans (b9.mono bw.size)
      replace hkn := hkn.below b9
      clear b9
      rcases HWC.out with ⟨hfew, hc0, hw0⟩ | ⟨hfew, hc0, hw0⟩
      · rw [hc0]
        rw [hw0] at s9
        obtain ⟨⟨V1, k1, rfl, p1, p2, _, p4⟩, _, _⟩ := s9
        have hFL : (fam l i).length ≤ 200 := few_len hfew
        obtain ⟨F, hFF⟩ : ∃ F, fam l i = F := ⟨_, rfl⟩
        rw [hFF] at p1 p4 hFL HFV HCF HCN
        simp only [hFF]
        clear hFF hc0 hw0 hfew HWC
        by_cases hF0 : F.length = 0
        · have d0 : ((F.length : Int) == 0) = true := by rw [beq_iff_eq]; omega
          have hK0 := HCN.out (List.eq_nil_of_length_eq_zero hF0)
          have d1 : ((K.length : Int) == 0) = true := by rw [hK0]; rfl
          clear hK0
          go_wp2_with fail
          go_ret
          exact ⟨rfl, bw⟩
        · have d0 : ((F.length : Int) == 0) = false := by rw [beq_eq_false_iff_ne]; omega
          have hFn : F ≠ [] := fun h => hF0 (by rw [h]; rfl)
          have HCA := Lib.hid (show ∀ x ∈ K, ∀ s ∈ F, s.contains x = true from fun x hx s hs => by
            have := (HCF.out hFn x).1 (by simpa using hx) s hs
            simpa using this)
          have HSO := Lib.hid (show (F.any fun s => !s.contains v) = true by
            have h1 := HCF.out hFn v
            rw [HIN.out] at h1
            exact some_out h1)
          clear HCF HCN hFn hF0
          go_wp2_with fail
          go_loopw [13] (fun j wr => ∃ k : Nat, k ≤ K.length ∧ j = .int .i64 k ∧ Below w.heap.size w wr ∧ Below w9.heap.size w9 wr) (fun j _ => K.length - (intOf j).toNat)
          case atStart => exact ⟨0, by omega, rfl, bw, Below.refl _ _⟩
          case round =>
            obtain ⟨k, hk, rfl, hbw, hb9⟩ := hrel
            by_cases h3 : k < K.length
            · have d3 : decide ((k : Int) < (K.length : Int)) = true := by simp; omega
              obtain ⟨x, hx⟩ : ∃ x, K[k]? = some x := ⟨_, List.getElem?_eq_getElem h3⟩
              obtain ⟨g, oo, e0, hgl, c0'⟩ := (hkn.nums.below hb9).at h3
              have c0 : wr.cell? ⟨g, oo + k, none⟩ = some (.int .i64 x) := by rw [c0']; congr 2; exact (List.getElem?_eq_some_iff.1 hx).2
              have HCX := Lib.hid (fun s hs => HCA.out x (List.mem_of_getElem? hx) s hs)
              have i0 : (0 : Int) ≤ (k : Int) := by omega
              have i1 : (k : Int) < (K.length : Int) := by omega
              clear c0'
              subst e0
              have inner : ∀ wr : World, Below w.heap.size w wr → Below w9.heap.size w9 wr → wr.cell? ⟨g, oo + k, none⟩ = some (.int .i64 x) → g < wr.heap.size → True := fun _ _ _ _ _ => trivial
              clear inner
              rcases Nat.eq_zero_or_pos k with hk0 | hk0
              · subst hk0
                have z0 : decide ((0 : Int) < 0) = false := rfl
                clear hx
                have HC0 := Lib.hid c0
                have f0 : ∀ z : Held wr.heap.size wr, z.w.cell? ⟨g, oo + 0, none⟩ = some (.int .i64 x) := fun z => z.cell hgl c0
                go_wp2_with fail
                refine wp_region_held wr.heap.size wr (Below.refl _ _) (by kernel_rfl) (by kernel_rfl) ?_
                repeat (go_big_quiet_step (fail))
                refine wpQuiet_nil ?_
                rintro wt ⟨⟨_, bt⟩, rfl⟩
                have hbw' := hbw.trans (bt.mono hbw.size)
                have hb9' := hb9.trans (bt.mono hb9.size)
                have HC1 := Lib.hid ((bt.cell hgl).trans c0)
                have hgt : g < wt.heap.size := Nat.lt_of_lt_of_le hgl bt.size
                clear f0 hbw hb9 bt c0 HC0 hgl
                go_wp2_with fail
                go_loopw [14] (fun j wr => ∃ q : Nat, q ≤ F.length ∧ j = .int .i64 q ∧ Below w.heap.size w wr ∧ Below w9.heap.size w9 wr ∧ Below wt.heap.size wt wr) (fun j _ => F.length - (intOf j).toNat)
                case atStart => exact ⟨0, by omega, rfl, hbw', hb9', Below.refl _ _⟩
                case round =>
                  clear hbw' hb9'
                  obtain ⟨q, hq, rfl, hbw, hb9, hbt⟩ := hrel
                  by_cases h4 : q < F.length
                  · have d4 : decide ((q : Int) < (F.length : Int)) = true := by simp; omega
                    have ii0 : (0 : Int) ≤ (q : Int) := by omega
                    have ii1 : (q : Int) < (F.length : Int) := by omega
                    obtain ⟨s, hs⟩ : ∃ s, F[q]? = some s := ⟨_, List.getElem?_eq_getElem h4⟩
                    have hsl := HFV.out s (List.mem_of_getElem? hs)
                    have hct := HCX.out s (List.mem_of_getElem? hs)
                    obtain ⟨g2, o2, C, cc, rfl, hgl2, c2, x1, x2, x3, x4⟩ := (p4.below hb9).at hs
                    have hgq : g < wr.heap.size := Nat.lt_of_lt_of_le hgt hbt.size
                    have c0 := (hbt.cell hgt).trans HC1.out
                    have f0 : ∀ z : Held wr.heap.size wr, z.w.cell? ⟨g, oo + 0, none⟩ = some (.int .i64 x) := fun z => z.cell hgq c0
                    have f9 : ∀ z : Held wr.heap.size wr, z.w.cell? ⟨g, oo + 0, none⟩ = some (.int .i64 x) := f0
                    rw [Nat.add_zero] at f9
                    have f2 : ∀ z : Held wr.heap.size wr, z.w.cell? ⟨g2, o2 + q, none⟩ = some (.slice C s.length cc) := fun z => z.cell hgl2 c2
                    have CI : ∀ z : Held wr.heap.size wr, Calls Try.prog 17 #[.slice C s.length cc, .int .i64 x] z.w fun e w' => e = .returned (.bool true) ∧ z.w = w' := fun z => by
                      have := in29_any C cc s x z.w (by omega) (x4.below z.ok)
                      rw [hct] at this
                      exact this
                    have HCI2 := Lib.hid CI
                    clear hs hct CI c0 c2 x4 x3 x2 x1
                    go_wp2_with fail
                    refine wp_region_held wr.heap.size wr (Below.refl _ _) (by kernel_rfl) (by kernel_rfl) ?_
                    repeat (go_big_quiet_step ((go_at_call 17; exact held_same _ (HCI2.out _))))
                    refine wpQuiet_nil ?_
                    rintro wu ⟨⟨_, bu⟩, rfl⟩
                    clear f0 f2 f9
                    go_wp2_with fail
                    go_roundw
                    case rel => exact ⟨q + 1, by omega, by go_num, hbw.trans (bu.mono hbw.size), hb9.trans (bu.mono hb9.size), hbt.trans (bu.mono hbt.size)⟩
                    case measure => simp [intOf]; omega
                  · have d4 : decide ((q : Int) < (F.length : Int)) = false := by simp; omega
                    go_wp2_with fail
                    go_roundw
                    case rel => exact ⟨0 + 1, by omega, by go_num, hbw, hb9⟩
                    case measure => simp [intOf]; omega
              · obtain ⟨k', rfl⟩ : ∃ k', k = k' + 1 := ⟨k - 1, by omega⟩
                have z0 : decide ((0 : Int) < ((k' + 1 : Nat) : Int)) = true := decide_eq_true (by omega)
                obtain ⟨y, hy⟩ : ∃ y, K[k']? = some y := ⟨_, List.getElem?_eq_getElem (by omega)⟩
                have hxy := inc_at HCI.out hy hx
                have z1 : decide (x ≤ y) = false := by simp; omega
                obtain ⟨g', oo', e1, hgl', c1'⟩ := (hkn.nums.below hb9).at (show k' < K.length by omega)
                have c1 : wr.cell? ⟨g, oo + k', none⟩ = some (.int .i64 y) := by
                  have e1' := Option.some.inj e1
                  injection e1' with e2 e3
                  subst e2; subst e3
                  rw [c1']; congr 2; exact (List.getElem?_eq_some_iff.1 hy).2
                have m0 : ((k' + 1 : Nat) : Int) - 1 = (k' : Int) := by omega
                have m1 : IntKind.i64.wrap (((k' + 1 : Nat) : Int) - 1) = (k' : Int) := by rw [IntKind.wrap_i64]; omega
                have j0 : (0 : Int) ≤ (k' : Int) := by omega
                have j1 : (k' : Int) < (K.length : Int) := by omega
                have f1 : ∀ z : Held wr.heap.size wr, z.w.cell? ⟨g, oo + k', none⟩ = some (.int .i64 y) := fun z => z.cell hgl c1
                clear hx hy hxy e1 c1' c1 hk0
                have HC0 := Lib.hid c0
                have f0 : ∀ z : Held wr.heap.size wr, z.w.cell? ⟨g, oo + (k' + 1), none⟩ = some (.int .i64 x) := fun z => z.cell hgl c0
                go_wp2_with fail
                refine wp_region_held wr.heap.size wr (Below.refl _ _) (by kernel_rfl) (by kernel_rfl) ?_
                repeat (go_big_quiet_step (fail))
                refine wpQuiet_nil ?_
                rintro wt ⟨⟨_, bt⟩, rfl⟩
                have hbw' := hbw.trans (bt.mono hbw.size)
                have hb9' := hb9.trans (bt.mono hb9.size)
                have HC1 := Lib.hid ((bt.cell hgl).trans c0)
                have hgt : g < wt.heap.size := Nat.lt_of_lt_of_le hgl bt.size
                clear f0 f1 hbw hb9 bt c0 HC0 hgl
                go_wp2_with fail
                go_loopw [14] (fun j wr => ∃ q : Nat, q ≤ F.length ∧ j = .int .i64 q ∧ Below w.heap.size w wr ∧ Below w9.heap.size w9 wr ∧ Below wt.heap.size wt wr) (fun j _ => F.length - (intOf j).toNat)
                case atStart => exact ⟨0, by omega, rfl, hbw', hb9', Below.refl _ _⟩
                case round =>
                  clear hbw' hb9'
                  obtain ⟨q, hq, rfl, hbw, hb9, hbt⟩ := hrel
                  by_cases h4 : q < F.length
                  · have d4 : decide ((q : Int) < (F.length : Int)) = true := by simp; omega
                    have ii0 : (0 : Int) ≤ (q : Int) := by omega
                    have ii1 : (q : Int) < (F.length : Int) := by omega
                    obtain ⟨s, hs⟩ : ∃ s, F[q]? = some s := ⟨_, List.getElem?_eq_getElem h4⟩
                    have hsl := HFV.out s (List.mem_of_getElem? hs)
                    have hct := HCX.out s (List.mem_of_getElem? hs)
                    obtain ⟨g2, o2, C, cc, rfl, hgl2, c2, x1, x2, x3, x4⟩ := (p4.below hb9).at hs
                    have hgq : g < wr.heap.size := Nat.lt_of_lt_of_le hgt hbt.size
                    have c0 := (hbt.cell hgt).trans HC1.out
                    have f0 : ∀ z : Held wr.heap.size wr, z.w.cell? ⟨g, oo + (k' + 1), none⟩ = some (.int .i64 x) := fun z => z.cell hgq c0
                    have f9 : ∀ z : Held wr.heap.size wr, z.w.cell? ⟨g, oo + k' + 1, none⟩ = some (.int .i64 x) := f0
                    skip
                    have f2 : ∀ z : Held wr.heap.size wr, z.w.cell? ⟨g2, o2 + q, none⟩ = some (.slice C s.length cc) := fun z => z.cell hgl2 c2
                    have CI : ∀ z : Held wr.heap.size wr, Calls Try.prog 17 #[.slice C s.length cc, .int .i64 x] z.w fun e w' => e = .returned (.bool true) ∧ z.w = w' := fun z => by
                      have := in29_any C cc s x z.w (by omega) (x4.below z.ok)
                      rw [hct] at this
                      exact this
                    have HCI2 := Lib.hid CI
                    clear hs hct CI c0 c2 x4 x3 x2 x1
                    go_wp2_with fail
                    refine wp_region_held wr.heap.size wr (Below.refl _ _) (by kernel_rfl) (by kernel_rfl) ?_
                    repeat (go_big_quiet_step ((go_at_call 17; exact held_same _ (HCI2.out _))))
                    refine wpQuiet_nil ?_
                    rintro wu ⟨⟨_, bu⟩, rfl⟩
                    clear f0 f2 f9
                    go_wp2_with fail
                    go_roundw
                    case rel => exact ⟨q + 1, by omega, by go_num, hbw.trans (bu.mono hbw.size), hb9.trans (bu.mono hb9.size), hbt.trans (bu.mono hbt.size)⟩
                    case measure => simp [intOf]; omega
                  · have d4 : decide ((q : Int) < (F.length : Int)) = false := by simp; omega
                    go_wp2_with fail
                    go_roundw
                    case rel => exact ⟨k' + 1 + 1, by omega, by go_num, hbw, hb9⟩
                    case measure => simp [intOf]; omega
            · have d3 : decide ((k : Int) < (K.length : Int)) = false := by simp; omega
              go_wp2_with fail
              go_loopw [15, 16] (fun h j wr => ∃ (q : Nat) (x : Bool), q ≤ F.length ∧ Hid (x = (F.take q).any fun s => !s.contains v) ∧ h = .bool x ∧ j = .int .i64 q ∧ Below w.heap.size w wr ∧ Below w9.heap.size w9 wr) (fun _ j _ => F.length - (intOf j).toNat)
              case atStart => exact ⟨0, false, by omega, Lib.hid (by simp), rfl, rfl, hbw, hb9⟩
              case round =>
                clear hbw hb9
                obtain ⟨q, x, hq, HX, rfl, rfl, hbw, hb9⟩ := hrel
                by_cases h4 : q < F.length
                · have d4 : decide ((q : Int) < (F.length : Int)) = true := by simp; omega
                  have i0 : (0 : Int) ≤ (q : Int) := by omega
                  have i1 : (q : Int) < (F.length : Int) := by omega
                  obtain ⟨s, hs⟩ : ∃ s, F[q]? = some s := ⟨_, List.getElem?_eq_getElem h4⟩
                  have hE3 := any_more' (p := fun s => !s.contains v) hs
                  rw [← HX.out] at hE3
                  have hsl := HFV.out s (List.mem_of_getElem? hs)
                  cases x with
                  | true =>
                    have HE := Lib.hid (show true = (F.take (q + 1)).any fun s => !s.contains v by rw [hE3]; rfl)
                    clear hE3
                    go_wp2_with fail
                    go_roundw
                    case rel => exact ⟨q + 1, true, by omega, HE, rfl, by go_num, hbw, hb9⟩
                    case measure => simp [intOf]; omega
                  | false =>
                    have HE := Lib.hid (show (!s.contains v) = (F.take (q + 1)).any fun s => !s.contains v by rw [hE3]; rfl)
                    obtain ⟨g, o, C, cc, rfl, hgl, c0, x1, x2, x3, x4⟩ := (p4.below hb9).at hs
                    clear hE3 hs
                    go_wp2_with fail
                    refine (in29_any C cc s v _ (by omega) x4).mono ?_
                    rintro e wm ⟨rfl, rfl⟩
                    go_wp2_with fail
                    go_roundw
                    case rel => exact ⟨q + 1, _, by omega, HE, by first | rfl | simp, by go_num, hbw, hb9⟩
                    case measure => simp [intOf]; omega
                · have d4 : decide ((q : Int) < (F.length : Int)) = false := by simp; omega
                  have hx : x = true := by rw [HX.out, List.take_of_length_le (by omega)]; exact HSO.out
                  subst hx
                  go_wp2_with fail
                  go_ret
                  exact ⟨rfl, hbw⟩
      · rw [hc0]
        go_wp2_with fail
        go_ret
        exact ⟨rfl, bw⟩
    | true =>
      have E1 := Lib.hid hE1
      cases hE2 : Cx.eval l (i : Int) (restL vs [v]) with
      | true =>
        have E2 := Lib.hid hE2
        have HIN := Lib.hid (show K.contains v = false by rw [HCM.out, hE1, hE2]; rfl)
        clear hE1 hE2
        go_enter Try.func6, Try.ntmps6
        go_wp2_with fail
        refine (head_any w).mono ?_
        rintro e w0 ⟨rfl, bw⟩
        go_wp2_with fail
        refine (fine_any A c l _ _ (by omega) hF (hA.circ.below bw)).mono ?_
        rintro e w1 ⟨rfl, b1⟩
        rw [HFN.out]
        replace bw := bw.trans (b1.mono bw.size)
        clear b1
        go_wp2_with fail
        refine (critical_any A c l _ _ (by omega) hF (hA.below bw)).mono ?_
        rintro e w2 ⟨vk, rfl, ok, b2⟩
        rw [HK.out] at ok
        obtain ⟨K0, kc, rfl, hkn⟩ := ns_of_own ok
        replace bw := bw.trans (b2.mono bw.size)
        clear ok b2
        go_wp2_with fail
        refine (cvars_own A c l _ _ hg (by omega) (hA.circ.below bw)).mono ?_
        rintro e w5 ⟨vv, rfl, ov, b5⟩
        rw [HV.out] at ov
        obtain ⟨V, vc', rfl, hvn⟩ := ns_of_own ov
        replace bw := bw.trans (b5.mono bw.size)
        replace hkn := hkn.below b5
        clear ov b5
        go_wp2_with fail
        refine (eval_any A c l _ V vc' vs _ hg hF (by omega) (by omega) HVI2.out (hA.below bw) hvn.nums).mono ?_
        rintro e w6 ⟨rfl, b6⟩
        rw [E1.out]
        replace bw := bw.trans (b6.mono bw.size)
        replace hkn := hkn.below b6
        replace hvn := hvn.below b6
        clear b6
        go_wp2_with fail
        refine (rest_any V vc' vs (some ⟨w6.heap.size, 0, none⟩) 1 [v] _ (by omega) (by simp) ((hvn.below (below1 w6 _)).nums) (nums_lit w6 v)).mono ?_
        rintro e w7 ⟨vr, rfl, ov, b7⟩
        obtain ⟨R, rc, rfl, hrn⟩ := ns_of_own ov
        obtain ⟨rs, hrs⟩ : ∃ rs, restL vs [v] = rs := ⟨_, rfl⟩
        rw [hrs] at hrn hrl HRI E2
        simp only [hrs]
        replace b7 := below_a1 b7
        replace bw := bw.trans (b7.mono bw.size)
        replace hkn := hkn.below b7
        clear ov b7 hvn hrs
        go_wp2_with fail
        refine (eval_any A c l _ R rc rs _ hg hF (by omega) (by omega) HRI.out (hA.below bw) hrn.nums).mono ?_
        rintro e w8 ⟨rfl, b8⟩
        rw [E2.out]
        replace bw := bw.trans (b8.mono bw.size)
        replace hkn := hkn.below b8
        clear b8 hrn
        go_wp2_with fail
        refine (in29_any K0 kc K v _ (by omega) hkn.nums).mono ?_
        rintro e wz ⟨rfl, rfl⟩
        rw [HIN.out]
        go_wp2_with fail
        refine (cWitnesses_any A c l _ _ (by omega) hF (hA.below bw)).mono ?_
        rintro e w9 ⟨vw, rfl, s9, b9⟩
        replace bw := bw.trans (b9.mono bw.size)
        replace hkn := hkn.below b9
        clear b9
        rcases HWC.out with ⟨hfew, hc0, hw0⟩ | ⟨hfew, hc0, hw0⟩
        · rw [hc0]
          rw [hw0] at s9
          obtain ⟨⟨V1, k1, rfl, p1, p2, _, p4⟩, _, _⟩ := s9
          have hFL : (fam l i).length ≤ 200 := few_len hfew
          obtain ⟨F, hFF⟩ : ∃ F, fam l i = F := ⟨_, rfl⟩
          rw [hFF] at p1 p4 hFL HFV HCF HCN
          simp only [hFF]
          clear hFF hc0 hw0 hfew HWC
          by_cases hF0 : F.length = 0
          · have d0 : ((F.length : Int) == 0) = true := by rw [beq_iff_eq]; omega
            have hK0 := HCN.out (List.eq_nil_of_length_eq_zero hF0)
            have d1 : ((K.length : Int) == 0) = true := by rw [hK0]; rfl
            clear hK0
            go_wp2_with fail
            go_ret
            exact ⟨rfl, bw⟩
          · have d0 : ((F.length : Int) == 0) = false := by rw [beq_eq_false_iff_ne]; omega
            have hFn : F ≠ [] := fun h => hF0 (by rw [h]; rfl)
            have HCA := Lib.hid (show ∀ x ∈ K, ∀ s ∈ F, s.contains x = true from fun x hx s hs => by
              have := (HCF.out hFn x).1 (by simpa using hx) s hs
              simpa using this)
            have HSO := Lib.hid (show (F.any fun s => !s.contains v) = true by
              have h1 := HCF.out hFn v
              rw [HIN.out] at h1
              exact some_out h1)
            clear HCF HCN hFn hF0
            go_wp2_with fail
            go_loopw [13] (fun j wr => ∃ k : Nat, k ≤ K.length ∧ j = .int .i64 k ∧ Below w.heap.size w wr ∧ Below w9.heap.size w9 wr) (fun j _ => K.length - (intOf j).toNat)
            case atStart => exact ⟨0, by omega, rfl, bw, Below.refl _ _⟩
            case round =>
              obtain ⟨k, hk, rfl, hbw, hb9⟩ := hrel
              by_cases h3 : k < K.length
              · have d3 : decide ((k : Int) < (K.length : Int)) = true := by simp; omega
                obtain ⟨x, hx⟩ : ∃ x, K[k]? = some x := ⟨_, List.getElem?_eq_getElem h3⟩
                obtain ⟨g, oo, e0, hgl, c0'⟩ := (hkn.nums.below hb9).at h3
                have c0 : wr.cell? ⟨g, oo + k, none⟩ = some (.int .i64 x) := by rw [c0']; congr 2; exact (List.getElem?_eq_some_iff.1 hx).2
                have HCX := Lib.hid (fun s hs => HCA.out x (List.mem_of_getElem? hx) s hs)
                have i0 : (0 : Int) ≤ (k : Int) := by omega
                have i1 : (k : Int) < (K.length : Int) := by omega
                clear c0'
                subst e0
                have inner : ∀ wr : World, Below w.heap.size w wr → Below w9.heap.size w9 wr → wr.cell? ⟨g, oo + k, none⟩ = some (.int .i64 x) → g < wr.heap.size → True := fun _ _ _ _ _ => trivial
                clear inner
                rcases Nat.eq_zero_or_pos k with hk0 | hk0
                · subst hk0
                  have z0 : decide ((0 : Int) < 0) = false := rfl
                  clear hx
                  have HC0 := Lib.hid c0
                  have f0 : ∀ z : Held wr.heap.size wr, z.w.cell? ⟨g, oo + 0, none⟩ = some (.int .i64 x) := fun z => z.cell hgl c0
                  go_wp2_with fail
                  refine wp_region_held wr.heap.size wr (Below.refl _ _) (by kernel_rfl) (by kernel_rfl) ?_
                  repeat (go_big_quiet_step (fail))
                  refine wpQuiet_nil ?_
                  rintro wt ⟨⟨_, bt⟩, rfl⟩
                  have hbw' := hbw.trans (bt.mono hbw.size)
                  have hb9' := hb9.trans (bt.mono hb9.size)
                  have HC1 := Lib.hid ((bt.cell hgl).trans c0)
                  have hgt : g < wt.heap.size := Nat.lt_of_lt_of_le hgl bt.size
                  clear f0 hbw hb9 bt c0 HC0 hgl
                  go_wp2_with fail
                  go_loopw [14] (fun j wr => ∃ q : Nat, q ≤ F.length ∧ j = .int .i64 q ∧ Below w.heap.size w wr ∧ Below w9.heap.size w9 wr ∧ Below wt.heap.size wt wr) (fun j _ => F.length - (intOf j).toNat)
                  case atStart => exact ⟨0, by omega, rfl, hbw', hb9', Below.refl _ _⟩
                  case round =>
                    clear hbw' hb9'
                    obtain ⟨q, hq, rfl, hbw, hb9, hbt⟩ := hrel
                    by_cases h4 : q < F.length
                    · have d4 : decide ((q : Int) < (F.length : Int)) = true := by simp; omega
                      have ii0 : (0 : Int) ≤ (q : Int) := by omega
                      have ii1 : (q : Int) < (F.length : Int) := by omega
                      obtain ⟨s, hs⟩ : ∃ s, F[q]? = some s := ⟨_, List.getElem?_eq_getElem h4⟩
                      have hsl := HFV.out s (List.mem_of_getElem? hs)
                      have hct := HCX.out s (List.mem_of_getElem? hs)
                      obtain ⟨g2, o2, C, cc, rfl, hgl2, c2, x1, x2, x3, x4⟩ := (p4.below hb9).at hs
                      have hgq : g < wr.heap.size := Nat.lt_of_lt_of_le hgt hbt.size
                      have c0 := (hbt.cell hgt).trans HC1.out
                      have f0 : ∀ z : Held wr.heap.size wr, z.w.cell? ⟨g, oo + 0, none⟩ = some (.int .i64 x) := fun z => z.cell hgq c0
                      have f9 : ∀ z : Held wr.heap.size wr, z.w.cell? ⟨g, oo + 0, none⟩ = some (.int .i64 x) := f0
                      rw [Nat.add_zero] at f9
                      have f2 : ∀ z : Held wr.heap.size wr, z.w.cell? ⟨g2, o2 + q, none⟩ = some (.slice C s.length cc) := fun z => z.cell hgl2 c2
                      have CI : ∀ z : Held wr.heap.size wr, Calls Try.prog 17 #[.slice C s.length cc, .int .i64 x] z.w fun e w' => e = .returned (.bool true) ∧ z.w = w' := fun z => by
                        have := in29_any C cc s x z.w (by omega) (x4.below z.ok)
                        rw [hct] at this
                        exact this
                      have HCI2 := Lib.hid CI
                      clear hs hct CI c0 c2 x4 x3 x2 x1
                      go_wp2_with fail
                      refine wp_region_held wr.heap.size wr (Below.refl _ _) (by kernel_rfl) (by kernel_rfl) ?_
                      repeat (go_big_quiet_step ((go_at_call 17; exact held_same _ (HCI2.out _))))
                      refine wpQuiet_nil ?_
                      rintro wu ⟨⟨_, bu⟩, rfl⟩
                      clear f0 f2 f9
                      go_wp2_with fail
                      go_roundw
                      case rel => exact ⟨q + 1, by omega, by go_num, hbw.trans (bu.mono hbw.size), hb9.trans (bu.mono hb9.size), hbt.trans (bu.mono hbt.size)⟩
                      case measure => simp [intOf]; omega
                    · have d4 : decide ((q : Int) < (F.length : Int)) = false := by simp; omega
                      go_wp2_with fail
                      go_roundw
                      case rel => exact ⟨0 + 1, by omega, by go_num, hbw, hb9⟩
                      case measure => simp [intOf]; omega
                · obtain ⟨k', rfl⟩ : ∃ k', k = k' + 1 := ⟨k - 1, by omega⟩
                  have z0 : decide ((0 : Int) < ((k' + 1 : Nat) : Int)) = true := decide_eq_true (by omega)
                  obtain ⟨y, hy⟩ : ∃ y, K[k']? = some y := ⟨_, List.getElem?_eq_getElem (by omega)⟩
                  have hxy := inc_at HCI.out hy hx
                  have z1 : decide (x ≤ y) = false := by simp; omega
                  obtain ⟨g', oo', e1, hgl', c1'⟩ := (hkn.nums.below hb9).at (show k' < K.length by omega)
                  have c1 : wr.cell? ⟨g, oo + k', none⟩ = some (.int .i64 y) := by
                    have e1' := Option.some.inj e1
                    injection e1' with e2 e3
                    subst e2; subst e3
                    rw [c1']; congr 2; exact (List.getElem?_eq_some_iff.1 hy).2
                  have m0 : ((k' + 1 : Nat) : Int) - 1 = (k' : Int) := by omega
                  have m1 : IntKind.i64.wrap (((k' + 1 : Nat) : Int) - 1) = (k' : Int) := by rw [IntKind.wrap_i64]; omega
                  have j0 : (0 : Int) ≤ (k' : Int) := by omega
                  have j1 : (k' : Int) < (K.length : Int) := by omega
                  have f1 : ∀ z : Held wr.heap.size wr, z.w.cell? ⟨g, oo + k', none⟩ = some (.int .i64 y) := fun z => z.cell hgl c1
                  clear hx hy hxy e1 c1' c1 hk0
                  have HC0 := Lib.hid c0
                  have f0 : ∀ z : Held wr.heap.size wr, z.w.cell? ⟨g, oo + (k' + 1), none⟩ = some (.int .i64 x) := fun z => z.cell hgl c0
                  go_wp2_with fail
                  refine wp_region_held wr.heap.size wr (Below.refl _ _) (by kernel_rfl) (by kernel_rfl) ?_
                  repeat (go_big_quiet_step (fail))
                  refine wpQuiet_nil ?_
                  rintro wt ⟨⟨_, bt⟩, rfl⟩
                  have hbw' := hbw.trans (bt.mono hbw.size)
                  have hb9' := hb9.trans (bt.mono hb9.size)
                  have HC1 := Lib.hid ((bt.cell hgl).trans c0)
                  have hgt : g < wt.heap.size := Nat.lt_of_lt_of_le hgl bt.size
                  clear f0 f1 hbw hb9 bt c0 HC0 hgl
                  go_wp2_with fail
                  go_loopw [14] (fun j wr => ∃ q : Nat, q ≤ F.length ∧ j = .int .i64 q ∧ Below w.heap.size w wr ∧ Below w9.heap.size w9 wr ∧ Below wt.heap.size wt wr) (fun j _ => F.length - (intOf j).toNat)
                  case atStart => exact ⟨0, by omega, rfl, hbw', hb9', Below.refl _ _⟩
                  case round =>
                    clear hbw' hb9'
                    obtain ⟨q, hq, rfl, hbw, hb9, hbt⟩ := hrel
                    by_cases h4 : q < F.length
                    · have d4 : decide ((q : Int) < (F.length : Int)) = true := by simp; omega
                      have ii0 : (0 : Int) ≤ (q : Int) := by omega
                      have ii1 : (q : Int) < (F.length : Int) := by omega
                      obtain ⟨s, hs⟩ : ∃ s, F[q]? = some s := ⟨_, List.getElem?_eq_getElem h4⟩
                      have hsl := HFV.out s (List.mem_of_getElem? hs)
                      have hct := HCX.out s (List.mem_of_getElem? hs)
                      obtain ⟨g2, o2, C, cc, rfl, hgl2, c2, x1, x2, x3, x4⟩ := (p4.below hb9).at hs
                      have hgq : g < wr.heap.size := Nat.lt_of_lt_of_le hgt hbt.size
                      have c0 := (hbt.cell hgt).trans HC1.out
                      have f0 : ∀ z : Held wr.heap.size wr, z.w.cell? ⟨g, oo + (k' + 1), none⟩ = some (.int .i64 x) := fun z => z.cell hgq c0
                      have f9 : ∀ z : Held wr.heap.size wr, z.w.cell? ⟨g, oo + k' + 1, none⟩ = some (.int .i64 x) := f0
                      skip
                      have f2 : ∀ z : Held wr.heap.size wr, z.w.cell? ⟨g2, o2 + q, none⟩ = some (.slice C s.length cc) := fun z => z.cell hgl2 c2
                      have CI : ∀ z : Held wr.heap.size wr, Calls Try.prog 17 #[.slice C s.length cc, .int .i64 x] z.w fun e w' => e = .returned (.bool true) ∧ z.w = w' := fun z => by
                        have := in29_any C cc s x z.w (by omega) (x4.below z.ok)
                        rw [hct] at this
                        exact this
                      have HCI2 := Lib.hid CI
                      clear hs hct CI c0 c2 x4 x3 x2 x1
                      go_wp2_with fail
                      refine wp_region_held wr.heap.size wr (Below.refl _ _) (by kernel_rfl) (by kernel_rfl) ?_
                      repeat (go_big_quiet_step ((go_at_call 17; exact held_same _ (HCI2.out _))))
                      refine wpQuiet_nil ?_
                      rintro wu ⟨⟨_, bu⟩, rfl⟩
                      clear f0 f2 f9
                      go_wp2_with fail
                      go_roundw
                      case rel => exact ⟨q + 1, by omega, by go_num, hbw.trans (bu.mono hbw.size), hb9.trans (bu.mono hb9.size), hbt.trans (bu.mono hbt.size)⟩
                      case measure => simp [intOf]; omega
                    · have d4 : decide ((q : Int) < (F.length : Int)) = false := by simp; omega
                      go_wp2_with fail
                      go_roundw
                      case rel => exact ⟨k' + 1 + 1, by omega, by go_num, hbw, hb9⟩
                      case measure => simp [intOf]; omega
              · have d3 : decide ((k : Int) < (K.length : Int)) = false := by simp; omega
                go_wp2_with fail
                go_loopw [15, 16] (fun h j wr => ∃ (q : Nat) (x : Bool), q ≤ F.length ∧ Hid (x = (F.take q).any fun s => !s.contains v) ∧ h = .bool x ∧ j = .int .i64 q ∧ Below w.heap.size w wr ∧ Below w9.heap.size w9 wr) (fun _ j _ => F.length - (intOf j).toNat)
                case atStart => exact ⟨0, false, by omega, Lib.hid (by simp), rfl, rfl, hbw, hb9⟩
                case round =>
                  clear hbw hb9
                  obtain ⟨q, x, hq, HX, rfl, rfl, hbw, hb9⟩ := hrel
                  by_cases h4 : q < F.length
                  · have d4 : decide ((q : Int) < (F.length : Int)) = true := by simp; omega
                    have i0 : (0 : Int) ≤ (q : Int) := by omega
                    have i1 : (q : Int) < (F.length : Int) := by omega
                    obtain ⟨s, hs⟩ : ∃ s, F[q]? = some s := ⟨_, List.getElem?_eq_getElem h4⟩
                    have hE3 := any_more' (p := fun s => !s.contains v) hs
                    rw [← HX.out] at hE3
                    have hsl := HFV.out s (List.mem_of_getElem? hs)
                    cases x with
                    | true =>
                      have HE := Lib.hid (show true = (F.take (q + 1)).any fun s => !s.contains v by rw [hE3]; rfl)
                      clear hE3
                      go_wp2_with fail
                      go_roundw
                      case rel => exact ⟨q + 1, true, by omega, HE, rfl, by go_num, hbw, hb9⟩
                      case measure => simp [intOf]; omega
                    | false =>
                      have HE := Lib.hid (show (!s.contains v) = (F.take (q + 1)).any fun s => !s.contains v by rw [hE3]; rfl)
                      obtain ⟨g, o, C, cc, rfl, hgl, c0, x1, x2, x3, x4⟩ := (p4.below hb9).at hs
                      clear hE3 hs
                      go_wp2_with fail
                      refine (in29_any C cc s v _ (by omega) x4).mono ?_
                      rintro e wm ⟨rfl, rfl⟩
                      go_wp2_with fail
                      go_roundw
                      case rel => exact ⟨q + 1, _, by omega, HE, by first | rfl | simp, by go_num, hbw, hb9⟩
                      case measure => simp [intOf]; omega
                  · have d4 : decide ((q : Int) < (F.length : Int)) = false := by simp; omega
                    have hx : x = true := by rw [HX.out, List.take_of_length_le (by omega)]; exact HSO.out
                    subst hx
                    go_wp2_with fail
                    go_ret
                    exact ⟨rfl, hbw⟩
        · rw [hc0]
          go_wp2_with fail
          go_ret
          exact ⟨rfl, bw⟩
      | false =>
        have E2 := Lib.hid hE2
        have HIN := Lib.hid (show K.contains v = true by rw [HCM.out, hE1, hE2]; rfl)
        clear hE1 hE2
        go_enter Try.func6, Try.ntmps6
        go_wp2_with fail
        refine (head_any w).mono ?_
        rintro e w0 ⟨rfl, bw⟩
        go_wp2_with fail
        refine (fine_any A c l _ _ (by omega) hF (hA.circ.below bw)).mono ?_
        rintro e w1 ⟨rfl, b1⟩
        rw [HFN.out]
        replace bw := bw.trans (b1.mono bw.size)
        clear b1
        go_wp2_with fail
        refine (critical_any A c l _ _ (by omega) hF (hA.below bw)).mono ?_
        rintro e w2 ⟨vk, rfl, ok, b2⟩
        rw [HK.out] at ok
        obtain ⟨K0, kc, rfl, hkn⟩ := ns_of_own ok
        replace bw := bw.trans (b2.mono bw.size)
        clear ok b2
        go_wp2_with fail
        refine (cvars_own A c l _ _ hg (by omega) (hA.circ.below bw)).mono ?_
        rintro e w5 ⟨vv, rfl, ov, b5⟩
        rw [HV.out] at ov
        obtain ⟨V, vc', rfl, hvn⟩ := ns_of_own ov
        replace bw := bw.trans (b5.mono bw.size)
        replace hkn := hkn.below b5
        clear ov b5
        go_wp2_with fail
        refine (eval_any A c l _ V vc' vs _ hg hF (by omega) (by omega) HVI2.out (hA.below bw) hvn.nums).mono ?_
        rintro e w6 ⟨rfl, b6⟩
        rw [E1.out]
        replace bw := bw.trans (b6.mono bw.size)
        replace hkn := hkn.below b6
        replace hvn := hvn.below b6
        clear b6
        go_wp2_with fail
        refine (rest_any V vc' vs (some ⟨w6.heap.size, 0, none⟩) 1 [v] _ (by omega) (by simp) ((hvn.below (below1 w6 _)).nums) (nums_lit w6 v)).mono ?_
        rintro e w7 ⟨vr, rfl, ov, b7⟩
        obtain ⟨R, rc, rfl, hrn⟩ := ns_of_own ov
        obtain ⟨rs, hrs⟩ : ∃ rs, restL vs [v] = rs := ⟨_, rfl⟩
        rw [hrs] at hrn hrl HRI E2
        simp only [hrs]
        replace b7 := below_a1 b7
        replace bw := bw.trans (b7.mono bw.size)
        replace hkn := hkn.below b7
        clear ov b7 hvn hrs
        go_wp2_with fail
        refine (eval_any A c l _ R rc rs _ hg hF (by omega) (by omega) HRI.out (hA.below bw) hrn.nums).mono ?_
        rintro e w8 ⟨rfl, b8⟩
        rw [E2.out]
        replace bw := bw.trans (b8.mono bw.size)
        replace hkn := hkn.below b8
        clear b8 hrn
        go_wp2_with fail
        refine (in29_any K0 kc K v _ (by omega) hkn.nums).mono ?_
        rintro e wz ⟨rfl, rfl⟩
        rw [HIN.out]
        go_wp2_with fail
        refine (cWitnesses_any A c l _ _ (by omega) hF (hA.below bw)).mono ?_
        rintro e w9 ⟨vw, rfl, s9, b9⟩
        replace bw := bw.trans (b9.mono bw.size)
        replace hkn := hkn.below b9
        clear b9
        rcases HWC.out with ⟨hfew, hc0, hw0⟩ | ⟨hfew, hc0, hw0⟩
        · rw [hc0]
          rw [hw0] at s9
          obtain ⟨⟨V1, k1, rfl, p1, p2, _, p4⟩, _, _⟩ := s9
          have hFL : (fam l i).length ≤ 200 := few_len hfew
          obtain ⟨F, hFF⟩ : ∃ F, fam l i = F := ⟨_, rfl⟩
          rw [hFF] at p1 p4 hFL HFV HCF HCN
          simp only [hFF]
          clear hFF hc0 hw0 hfew HWC
          by_cases hF0 : F.length = 0
          · have d0 : ((F.length : Int) == 0) = true := by rw [beq_iff_eq]; omega
            have hK0 := HCN.out (List.eq_nil_of_length_eq_zero hF0)
            have d1 : ((K.length : Int) == 0) = true := by rw [hK0]; rfl
            clear hK0
            go_wp2_with fail
            go_ret
            exact ⟨rfl, bw⟩
          · have d0 : ((F.length : Int) == 0) = false := by rw [beq_eq_false_iff_ne]; omega
            have hFn : F ≠ [] := fun h => hF0 (by rw [h]; rfl)
            have HCA := Lib.hid (show ∀ x ∈ K, ∀ s ∈ F, s.contains x = true from fun x hx s hs => by
              have := (HCF.out hFn x).1 (by simpa using hx) s hs
              simpa using this)
            have HSO := Lib.hid (show (F.any fun s => !s.contains v) = false by
              have h1 := HCF.out hFn v
              rw [HIN.out] at h1
              exact some_out h1)
            clear HCF HCN hFn hF0
            go_wp2_with fail
            go_loopw [13] (fun j wr => ∃ k : Nat, k ≤ K.length ∧ j = .int .i64 k ∧ Below w.heap.size w wr ∧ Below w9.heap.size w9 wr) (fun j _ => K.length - (intOf j).toNat)
            case atStart => exact ⟨0, by omega, rfl, bw, Below.refl _ _⟩
            case round =>
              obtain ⟨k, hk, rfl, hbw, hb9⟩ := hrel
              by_cases h3 : k < K.length
              · have d3 : decide ((k : Int) < (K.length : Int)) = true := by simp; omega
                obtain ⟨x, hx⟩ : ∃ x, K[k]? = some x := ⟨_, List.getElem?_eq_getElem h3⟩
                obtain ⟨g, oo, e0, hgl, c0'⟩ := (hkn.nums.below hb9).at h3
                have c0 : wr.cell? ⟨g, oo + k, none⟩ = some (.int .i64 x) := by rw [c0']; congr 2; exact (List.getElem?_eq_some_iff.1 hx).2
                have HCX := Lib.hid (fun s hs => HCA.out x (List.mem_of_getElem? hx) s hs)
                have i0 : (0 : Int) ≤ (k : Int) := by omega
                have i1 : (k : Int) < (K.length : Int) := by omega
                clear c0'
                subst e0
                have inner : ∀ wr : World, Below w.heap.size w wr → Below w9.heap.size w9 wr → wr.cell? ⟨g, oo + k, none⟩ = some (.int .i64 x) → g < wr.heap.size → True := fun _ _ _ _ _ => trivial
                clear inner
                rcases Nat.eq_zero_or_pos k with hk0 | hk0
                · subst hk0
                  have z0 : decide ((0 : Int) < 0) = false := rfl
                  clear hx
                  have HC0 := Lib.hid c0
                  have f0 : ∀ z : Held wr.heap.size wr, z.w.cell? ⟨g, oo + 0, none⟩ = some (.int .i64 x) := fun z => z.cell hgl c0
                  go_wp2_with fail
                  refine wp_region_held wr.heap.size wr (Below.refl _ _) (by kernel_rfl) (by kernel_rfl) ?_
                  repeat (go_big_quiet_step (fail))
                  refine wpQuiet_nil ?_
                  rintro wt ⟨⟨_, bt⟩, rfl⟩
                  have hbw' := hbw.trans (bt.mono hbw.size)
                  have hb9' := hb9.trans (bt.mono hb9.size)
                  have HC1 := Lib.hid ((bt.cell hgl).trans c0)
                  have hgt : g < wt.heap.size := Nat.lt_of_lt_of_le hgl bt.size
                  clear f0 hbw hb9 bt c0 HC0 hgl
                  go_wp2_with fail
                  go_loopw [14] (fun j wr => ∃ q : Nat, q ≤ F.length ∧ j = .int .i64 q ∧ Below w.heap.size w wr ∧ Below w9.heap.size w9 wr ∧ Below wt.heap.size wt wr) (fun j _ => F.length - (intOf j).toNat)
                  case atStart => exact ⟨0, by omega, rfl, hbw', hb9', Below.refl _ _⟩
                  case round =>
                    clear hbw' hb9'
                    obtain ⟨q, hq, rfl, hbw, hb9, hbt⟩ := hrel
                    by_cases h4 : q < F.length
                    · have d4 : decide ((q : Int) < (F.length : Int)) = true := by simp; omega
                      have ii0 : (0 : Int) ≤ (q : Int) := by omega
                      have ii1 : (q : Int) < (F.length : Int) := by omega
                      obtain ⟨s, hs⟩ : ∃ s, F[q]? = some s := ⟨_, List.getElem?_eq_getElem h4⟩
                      have hsl := HFV.out s (List.mem_of_getElem? hs)
                      have hct := HCX.out s (List.mem_of_getElem? hs)
                      obtain ⟨g2, o2, C, cc, rfl, hgl2, c2, x1, x2, x3, x4⟩ := (p4.below hb9).at hs
                      have hgq : g < wr.heap.size := Nat.lt_of_lt_of_le hgt hbt.size
                      have c0 := (hbt.cell hgt).trans HC1.out
                      have f0 : ∀ z : Held wr.heap.size wr, z.w.cell? ⟨g, oo + 0, none⟩ = some (.int .i64 x) := fun z => z.cell hgq c0
                      have f9 : ∀ z : Held wr.heap.size wr, z.w.cell? ⟨g, oo + 0, none⟩ = some (.int .i64 x) := f0
                      rw [Nat.add_zero] at f9
                      have f2 : ∀ z : Held wr.heap.size wr, z.w.cell? ⟨g2, o2 + q, none⟩ = some (.slice C s.length cc) := fun z => z.cell hgl2 c2
                      have CI : ∀ z : Held wr.heap.size wr, Calls Try.prog 17 #[.slice C s.length cc, .int .i64 x] z.w fun e w' => e = .returned (.bool true) ∧ z.w = w' := fun z => by
                        have := in29_any C cc s x z.w (by omega) (x4.below z.ok)
                        rw [hct] at this
                        exact this
                      have HCI2 := Lib.hid CI
                      clear hs hct CI c0 c2 x4 x3 x2 x1
                      go_wp2_with fail
                      refine wp_region_held wr.heap.size wr (Below.refl _ _) (by kernel_rfl) (by kernel_rfl) ?_
                      repeat (go_big_quiet_step ((go_at_call 17; exact held_same _ (HCI2.out _))))
                      refine wpQuiet_nil ?_
                      rintro wu ⟨⟨_, bu⟩, rfl⟩
                      clear f0 f2 f9
                      go_wp2_with fail
                      go_roundw
                      case rel => exact ⟨q + 1, by omega, by go_num, hbw.trans (bu.mono hbw.size), hb9.trans (bu.mono hb9.size), hbt.trans (bu.mono hbt.size)⟩
                      case measure => simp [intOf]; omega
                    · have d4 : decide ((q : Int) < (F.length : Int)) = false := by simp; omega
                      go_wp2_with fail
                      go_roundw
                      case rel => exact ⟨0 + 1, by omega, by go_num, hbw, hb9⟩
                      case measure => simp [intOf]; omega
                · obtain ⟨k', rfl⟩ : ∃ k', k = k' + 1 := ⟨k - 1, by omega⟩
                  have z0 : decide ((0 : Int) < ((k' + 1 : Nat) : Int)) = true := decide_eq_true (by omega)
                  obtain ⟨y, hy⟩ : ∃ y, K[k']? = some y := ⟨_, List.getElem?_eq_getElem (by omega)⟩
                  have hxy := inc_at HCI.out hy hx
                  have z1 : decide (x ≤ y) = false := by simp; omega
                  obtain ⟨g', oo', e1, hgl', c1'⟩ := (hkn.nums.below hb9).at (show k' < K.length by omega)
                  have c1 : wr.cell? ⟨g, oo + k', none⟩ = some (.int .i64 y) := by
                    have e1' := Option.some.inj e1
                    injection e1' with e2 e3
                    subst e2; subst e3
                    rw [c1']; congr 2; exact (List.getElem?_eq_some_iff.1 hy).2
                  have m0 : ((k' + 1 : Nat) : Int) - 1 = (k' : Int) := by omega
                  have m1 : IntKind.i64.wrap (((k' + 1 : Nat) : Int) - 1) = (k' : Int) := by rw [IntKind.wrap_i64]; omega
                  have j0 : (0 : Int) ≤ (k' : Int) := by omega
                  have j1 : (k' : Int) < (K.length : Int) := by omega
                  have f1 : ∀ z : Held wr.heap.size wr, z.w.cell? ⟨g, oo + k', none⟩ = some (.int .i64 y) := fun z => z.cell hgl c1
                  clear hx hy hxy e1 c1' c1 hk0
                  have HC0 := Lib.hid c0
                  have f0 : ∀ z : Held wr.heap.size wr, z.w.cell? ⟨g, oo + (k' + 1), none⟩ = some (.int .i64 x) := fun z => z.cell hgl c0
                  go_wp2_with fail
                  refine wp_region_held wr.heap.size wr (Below.refl _ _) (by kernel_rfl) (by kernel_rfl) ?_
                  repeat (go_big_quiet_step (fail))
                  refine wpQuiet_nil ?_
                  rintro wt ⟨⟨_, bt⟩, rfl⟩
                  have hbw' := hbw.trans (bt.mono hbw.size)
                  have hb9' := hb9.trans (bt.mono hb9.size)
                  have HC1 := Lib.hid ((bt.cell hgl).trans c0)
                  have hgt : g < wt.heap.size := Nat.lt_of_lt_of_le hgl bt.size
                  clear f0 f1 hbw hb9 bt c0 HC0 hgl
                  go_wp2_with fail
                  go_loopw [14] (fun j wr => ∃ q : Nat, q ≤ F.length ∧ j = .int .i64 q ∧ Below w.heap.size w wr ∧ Below w9.heap.size w9 wr ∧ Below wt.heap.size wt wr) (fun j _ => F.length - (intOf j).toNat)
                  case atStart => exact ⟨0, by omega, rfl, hbw', hb9', Below.refl _ _⟩
                  case round =>
                    clear hbw' hb9'
                    obtain ⟨q, hq, rfl, hbw, hb9, hbt⟩ := hrel
                    by_cases h4 : q < F.length
                    · have d4 : decide ((q : Int) < (F.length : Int)) = true := by simp; omega
                      have ii0 : (0 : Int) ≤ (q : Int) := by omega
                      have ii1 : (q : Int) < (F.length : Int) := by omega
                      obtain ⟨s, hs⟩ : ∃ s, F[q]? = some s := ⟨_, List.getElem?_eq_getElem h4⟩
                      have hsl := HFV.out s (List.mem_of_getElem? hs)
                      have hct := HCX.out s (List.mem_of_getElem? hs)
                      obtain ⟨g2, o2, C, cc, rfl, hgl2, c2, x1, x2, x3, x4⟩ := (p4.below hb9).at hs
                      have hgq : g < wr.heap.size := Nat.lt_of_lt_of_le hgt hbt.size
                      have c0 := (hbt.cell hgt).trans HC1.out
                      have f0 : ∀ z : Held wr.heap.size wr, z.w.cell? ⟨g, oo + (k' + 1), none⟩ = some (.int .i64 x) := fun z => z.cell hgq c0
                      have f9 : ∀ z : Held wr.heap.size wr, z.w.cell? ⟨g, oo + k' + 1, none⟩ = some (.int .i64 x) := f0
                      skip
                      have f2 : ∀ z : Held wr.heap.size wr, z.w.cell? ⟨g2, o2 + q, none⟩ = some (.slice C s.length cc) := fun z => z.cell hgl2 c2
                      have CI : ∀ z : Held wr.heap.size wr, Calls Try.prog 17 #[.slice C s.length cc, .int .i64 x] z.w fun e w' => e = .returned (.bool true) ∧ z.w = w' := fun z => by
                        have := in29_any C cc s x z.w (by omega) (x4.below z.ok)
                        rw [hct] at this
                        exact this
                      have HCI2 := Lib.hid CI
                      clear hs hct CI c0 c2 x4 x3 x2 x1
                      go_wp2_with fail
                      refine wp_region_held wr.heap.size wr (Below.refl _ _) (by kernel_rfl) (by kernel_rfl) ?_
                      repeat (go_big_quiet_step ((go_at_call 17; exact held_same _ (HCI2.out _))))
                      refine wpQuiet_nil ?_
                      rintro wu ⟨⟨_, bu⟩, rfl⟩
                      clear f0 f2 f9
                      go_wp2_with fail
                      go_roundw
                      case rel => exact ⟨q + 1, by omega, by go_num, hbw.trans (bu.mono hbw.size), hb9.trans (bu.mono hb9.size), hbt.trans (bu.mono hbt.size)⟩
                      case measure => simp [intOf]; omega
                    · have d4 : decide ((q : Int) < (F.length : Int)) = false := by simp; omega
                      go_wp2_with fail
                      go_roundw
                      case rel => exact ⟨k' + 1 + 1, by omega, by go_num, hbw, hb9⟩
                      case measure => simp [intOf]; omega
              · have d3 : decide ((k : Int) < (K.length : Int)) = false := by simp; omega
                go_wp2_with fail
                go_loopw [15, 16] (fun h j wr => ∃ (q : Nat) (x : Bool), q ≤ F.length ∧ Hid (x = (F.take q).any fun s => !s.contains v) ∧ h = .bool x ∧ j = .int .i64 q ∧ Below w.heap.size w wr ∧ Below w9.heap.size w9 wr) (fun _ j _ => F.length - (intOf j).toNat)
                case atStart => exact ⟨0, false, by omega, Lib.hid (by simp), rfl, rfl, hbw, hb9⟩
                case round =>
                  clear hbw hb9
                  obtain ⟨q, x, hq, HX, rfl, rfl, hbw, hb9⟩ := hrel
                  by_cases h4 : q < F.length
                  · have d4 : decide ((q : Int) < (F.length : Int)) = true := by simp; omega
                    have i0 : (0 : Int) ≤ (q : Int) := by omega
                    have i1 : (q : Int) < (F.length : Int) := by omega
                    obtain ⟨s, hs⟩ : ∃ s, F[q]? = some s := ⟨_, List.getElem?_eq_getElem h4⟩
                    have hE3 := any_more' (p := fun s => !s.contains v) hs
                    rw [← HX.out] at hE3
                    have hsl := HFV.out s (List.mem_of_getElem? hs)
                    cases x with
                    | true =>
                      have HE := Lib.hid (show true = (F.take (q + 1)).any fun s => !s.contains v by rw [hE3]; rfl)
                      clear hE3
                      go_wp2_with fail
                      go_roundw
                      case rel => exact ⟨q + 1, true, by omega, HE, rfl, by go_num, hbw, hb9⟩
                      case measure => simp [intOf]; omega
                    | false =>
                      have HE := Lib.hid (show (!s.contains v) = (F.take (q + 1)).any fun s => !s.contains v by rw [hE3]; rfl)
                      obtain ⟨g, o, C, cc, rfl, hgl, c0, x1, x2, x3, x4⟩ := (p4.below hb9).at hs
                      clear hE3 hs
                      go_wp2_with fail
                      refine (in29_any C cc s v _ (by omega) x4).mono ?_
                      rintro e wm ⟨rfl, rfl⟩
                      go_wp2_with fail
                      go_roundw
                      case rel => exact ⟨q + 1, _, by omega, HE, by first | rfl | simp, by go_num, hbw, hb9⟩
                      case measure => simp [intOf]; omega
                  · have d4 : decide ((q : Int) < (F.length : Int)) = false := by simp; omega
                    have hx : x = false := by rw [HX.out, List.take_of_length_le (by omega)]; exact HSO.out
                    subst hx
                    go_wp2_with fail
                    go_ret
                    exact ⟨rfl, hbw⟩
        · rw [hc0]
          go_wp2_with fail
          go_ret
          exact ⟨rfl, bw⟩
end Go.Proofs.Ytphmicbpkljmfaa
