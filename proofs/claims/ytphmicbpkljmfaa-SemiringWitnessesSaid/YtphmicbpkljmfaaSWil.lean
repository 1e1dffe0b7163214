/- The walk of the law SemiringWitnesses. -/
import Derived.Test.YtphmicbpkljmfaaSLaw0
namespace Go.Proofs.Ytphmicbpkljmfaa
set_option linter.unusedVariables false
set_option linter.unusedSimpArgs false
open Go.RowKit
open Cx (N fam Few)
theorem any_more2 {F : List (List Int)} {p : List Int → Bool} {k : Nat} {s : List Int} (h : F[k]? = some s) : (F.take (k + 1)).any p = ((F.take k).any p || p s) := by
  rw [take_more h]; simp
/-- A slice of these numbers. -/
def NumsSl (rs : List Int) : Value → World → Prop := fun x w => ∃ R rc, x = .slice R rs.length rc ∧ Ns w R rc rs
theorem lasting_numsSl {J : World → Prop} (rs : List Int) : Lasting J Onward (NumsSl rs) := fun x w w' _ hb ⟨R, rc, e, h⟩ => ⟨R, rc, e, h.below hb⟩
theorem nums_sub {w : World} {g o k : Nat} {x : Int} (hg : g < w.heap.size) (h : w.cell? ⟨g, o + k, none⟩ = some (.int .i64 x)) : Nums w (some ⟨g, o + k, none⟩) [x] := fun _ => ⟨g, o + k, rfl, hg, fun j y hj => by
  cases j with
  | zero => simp at hj; subst hj; exact h
  | succ j => simp at hj⟩
set_option maxHeartbeats 40000000 in
set_option maxRecDepth 100000 in
theorem wit_law (A : Option Addr) (c : Nat) (l : List N) (n : Int) (B : Option Addr) (d : Nat) (ts : List Int) (w : World) (hl : l.length ≤ 140737488351232) (hF : ∀ n ∈ l, NGood n) (hA : Cir w A c l)
    (hts : ts.length ≤ 140737488351232) (hI : ∀ t ∈ ts, I64 t) (hB : Nums w B ts) :
    Calls Try.prog 4 #[.slice A l.length c, .int .i64 n, .slice B ts.length d] w fun e w' => e = .returned (.bool true) ∧ Below w.heap.size w w' := by
  cases hf : fineP l n with
  | false =>
    go_enter Try.func4, Try.ntmps4
    go_wp2_with fail
    refine (head_any w).mono ?_
    rintro e w0 ⟨rfl, bw⟩
    go_wp2_with fail
    refine (fine_any A c l n _ (by omega) hF (hA.circ.below bw)).mono ?_
    rintro e w1 ⟨rfl, b1⟩
    rw [hf]
    go_wp2_with fail
    go_ret
    exact ⟨rfl, bw.trans (b1.mono bw.size)⟩
  | true =>
    obtain ⟨i, rfl, hi, h40, hv⟩ := fineP_true hf
    have hg := Cx.valid_good hv
    by_cases h1 : 60 < ts.length
    · have d1 : decide ((60 : Int) < (ts.length : Int)) = true := by simp; omega
      have d1' : decide (60 < ts.length) = true := by simp; omega
      go_enter Try.func4, Try.ntmps4
      go_wp2_with fail
      refine (head_any w).mono ?_
      rintro e w0 ⟨rfl, bw⟩
      go_wp2_with fail
      refine (fine_any A c l _ _ (by omega) hF (hA.circ.below bw)).mono ?_
      rintro e w1 ⟨rfl, b1⟩
      rw [hf]
      go_wp2_with fail
      go_ret
      exact ⟨rfl, bw.trans (b1.mono bw.size)⟩
    have d1 : decide ((60 : Int) < (ts.length : Int)) = false := by simp; omega
    have d1' : decide (60 < ts.length) = false := by simp; omega
    have HFN := Lib.hid hf
    have HWC := Lib.hid (wcode_in hv hi)
    have HFV := Lib.hid (show ∀ s ∈ fam l i, s.length ≤ 40 from fun s hs => Nat.le_trans (fam_len hg hi hs) h40)
    have HFI := Lib.hid (show ∀ s ∈ fam l i, ∀ x ∈ s, I64 x from fun s hs x hx => (vars_i64 hg hF hi x (Cx.fam_vars hg hi s hs hx)).1)
    have HFT := Lib.hid (show ∀ s ∈ fam l i, Cx.eval l (i : Int) s = true from fun s hs => fam_true hg hi hs)
    have HFL := Lib.hid (show ∀ s ∈ fam l i, ∀ x ∈ s, Cx.eval l (i : Int) (restL s [x]) = false from fun s hs x hx => fam_least hg hi hs hx)
    have HFA := Lib.hid (show ∀ (k : Nat) (s t : List Int), (fam l i)[k]? = some s → (fam l i)[k + 1]? = some t → Fm.lt s t = true from fun k s t h1 h2 => fam_asc hg hi h1 h2)
    have HFC := Lib.hid (show ∀ s ∈ fam l i, Fm.Inc s from (Cx.fam_is hg hi).fam.inc)
    have HES := Lib.hid (eval_any_sub hg hi ts)
    clear hf
    go_enter Try.func4, Try.ntmps4
    go_wp2_with fail
    refine (head_any w).mono ?_
    rintro e w0 ⟨rfl, bw⟩
    go_wp2_with fail
    refine (fine_any A c l _ _ (by omega) hF (hA.circ.below bw)).mono ?_
    rintro e w1 ⟨rfl, b1⟩
    rw [HFN.out]
    replace bw := bw.trans (b1.mono bw.size)
    clear b1
    go_wp2_with fail
    refine (cWitnesses_any A c l _ _ (by omega) hF (hA.below bw)).mono ?_
    rintro e w9 ⟨vw, rfl, s9, b9⟩
    replace bw := bw.trans (b9.mono bw.size)
    clear b9
    rcases HWC.out with ⟨hfew, hc0, hw0⟩ | ⟨hfew, hc0, hw0⟩
    · rw [hc0]
      rw [hw0] at s9
      obtain ⟨⟨V1, k1, rfl, p1, p2, _, p4⟩, _, _⟩ := s9
      have hL2 : (fam l i).length ≤ 200 := few_len hfew
      obtain ⟨F, hFF⟩ : ∃ F, fam l i = F := ⟨_, rfl⟩
      rw [hFF] at p1 p4 hL2 HFV HFI HFT HFL HFA HFC HES
      simp only [hFF]
      clear hFF hc0 hw0 hfew HWC
      have d2 : decide ((200 : Int) < (F.length : Int)) = false := by simp; omega
      have d2' : decide (200 < F.length) = false := by simp; omega
      go_wp2_with fail
      go_loopw [10, 11] (fun h j wr => ∃ (k : Nat) (x : Bool), k ≤ F.length ∧ Hid (x = (F.take k).any fun s => Fm.sub s ts) ∧ h = .bool x ∧ j = .int .i64 k ∧ Below w.heap.size w wr ∧ Below w9.heap.size w9 wr) (fun _ j _ => F.length - (intOf j).toNat)
      case atStart => exact ⟨0, false, by omega, Lib.hid (by simp), rfl, rfl, bw, Below.refl _ _⟩
      case round =>
        clear bw
        obtain ⟨k, x, hk, HX, rfl, rfl, hbw, hb9⟩ := hrel
        by_cases h3 : k < F.length
        · have d3 : decide ((k : Int) < (F.length : Int)) = true := by simp; omega
          have i0 : (0 : Int) ≤ (k : Int) := by omega
          have i1 : (k : Int) < (F.length : Int) := by omega
          obtain ⟨s, hs⟩ : ∃ s, F[k]? = some s := ⟨_, List.getElem?_eq_getElem h3⟩
          have hm := List.mem_of_getElem? hs
          have hE3 := any_more2 (p := fun s => Fm.sub s ts) hs
          rw [← HX.out] at hE3
          have HE3 := Lib.hid hE3
          have hsl := HFV.out s hm
          have HSI := Lib.hid (HFI.out s hm)
          have HST := Lib.hid (HFT.out s hm)
          have HSL := Lib.hid (HFL.out s hm)
          have HSC := Lib.hid (HFC.out s hm)
          obtain ⟨g, o, C, cc, e0, hgl, c0, x1, x2, x3, x4⟩ := (p4.below hb9).at hs
          subst e0
          have s40 : decide ((40 : Int) < (s.length : Int)) = false := by simp; omega
          have s40' : decide (40 < s.length) = false := by simp; omega
          have HC0 := Lib.hid c0
          have HX4 := Lib.hid x4
          have CE : ∀ z : Held wr.heap.size wr, Calls Try.prog 10 #[.slice A l.length c, .int .i64 i, .slice C s.length cc] z.w fun e w' => e = .returned (.bool true) ∧ Below z.w.heap.size z.w w' := fun z => by
            have := eval_any A c l (i : Int) C cc s z.w hg hF (by omega) (by omega) HSI.out ((hA.below hbw).below z.ok) (x4.below z.ok)
            rw [HST.out] at this
            exact this
          have HCE := Lib.hid CE
          have f0 : ∀ z : Held wr.heap.size wr, z.w.cell? ⟨g, o + k, none⟩ = some (.slice C s.length cc) := fun z => z.cell hgl c0
          clear hE3 CE c0 x4
          have step : ∀ wt, Below wr.heap.size wr wt → Below w.heap.size w wt ∧ Below w9.heap.size w9 wt ∧ wt.cell? ⟨g, o + k, none⟩ = some (.slice C s.length cc) ∧ g < wt.heap.size ∧ Nums wt C s := fun wt bt =>
            ⟨hbw.trans (bt.mono hbw.size), hb9.trans (bt.mono hb9.size), (bt.cell hgl).trans HC0.out, Nat.lt_of_lt_of_le hgl bt.size, HX4.out.below bt⟩
          have HSTEP := Lib.hid step
          clear step
          rcases Nat.eq_zero_or_pos k with hk0 | hk0
          · have z0 : decide ((0 : Int) < (k : Int)) = false := decide_eq_false (by omega)
            have z0' : decide (0 < k) = false := decide_eq_false (by omega)
            clear hs hk0
            go_wp2_with fail
            refine wp_region_held wr.heap.size wr (Below.refl _ _) (by kernel_rfl) (by kernel_rfl) ?_
            repeat (go_big_quiet_step ((go_at_call 10; exact held_call _ (Nat.le_refl _) (HCE.out _))))
            refine wpQuiet_nil ?_
            rintro wt ⟨⟨_, bt⟩, rfl⟩
            obtain ⟨hbt, hbt9, c0, hgt, x4⟩ := HSTEP.out _ bt
            clear f0 hbw hb9 bt HCE HSTEP HX4 HC0 hgl
            have AF : Hid (∃ x' : Bool, x' = (x || Fm.sub s ts)) := Lib.hid ⟨_, rfl⟩
            have TAIL : ∀ (x' : Bool) (wr : World), Hid (x' = (F.take (k + 1)).any fun s => Fm.sub s ts) → True := fun _ _ _ => trivial
            clear TAIL AF
            cases x with
            | true =>
              have HE := Lib.hid (show true = (F.take (k + 1)).any fun s => Fm.sub s ts by rw [HE3.out]; rfl)
              clear HE3 HX
              go_wp2_with fail
              go_loopw [12] (fun j wr => ∃ q : Nat, q ≤ s.length ∧ j = .int .i64 q ∧ Below w.heap.size w wr ∧ Below w9.heap.size w9 wr ∧ Below wt.heap.size wt wr) (fun j _ => s.length - (intOf j).toNat)
              case atStart => exact ⟨0, by omega, rfl, hbt, hbt9, Below.refl _ _⟩
              case round =>
                obtain ⟨q, hq, rfl, hbw, hb9, hbq⟩ := hrel
                have hgq : g < wr.heap.size := Nat.lt_of_lt_of_le hgt hbq.size
                have c0q := (hbq.cell hgt).trans c0
                by_cases h4 : q < s.length
                · have d4 : decide ((q : Int) < (s.length : Int)) = true := by simp; omega
                  have ii0 : (0 : Int) ≤ (q : Int) := by omega
                  have ii1 : (q : Int) < (s.length : Int) := by omega
                  obtain ⟨y, hy⟩ : ∃ y, s[q]? = some y := ⟨_, List.getElem?_eq_getElem h4⟩
                  have HEF := Lib.hid (HSL.out y (List.mem_of_getElem? hy))
                  obtain ⟨gs, os, es, hgs, cs'⟩ := (x4.below hbq).at h4
                  have cs : wr.cell? ⟨gs, os + q, none⟩ = some (.int .i64 y) := by rw [cs']; congr 2; exact (List.getElem?_eq_some_iff.1 hy).2
                  subst es
                  obtain ⟨rs, hrs⟩ : ∃ rs, restL s [y] = rs := ⟨_, rfl⟩
                  have HRQ := Lib.hid hrs
                  have hrl : rs.length ≤ s.length := by rw [← hrs]; exact restL_len s [y]
                  have HRI := Lib.hid (show ∀ t ∈ rs, I64 t from fun t ht => by rw [← hrs] at ht; exact HSI.out t (mem_restL.1 ht).1)
                  rw [hrs] at HEF
                  have HRS := Lib.hid (show ∀ W, Below wr.heap.size wr W → Calls Try.prog 11 #[.slice (some ⟨gs, os, none⟩) s.length cc, .slice (some ⟨gs, os + q, none⟩) 1 (cc - q)] W (NumsOwn (restL s [y]) W) from
                    fun W hW => rest_any _ cc s _ (cc - q) [y] W (by omega) (by simp) ((x4.below hbq).below hW) (nums_sub (Nat.lt_of_lt_of_le hgs hW.size) ((hW.cell hgs).trans cs)))
                  have HEV := Lib.hid (show ∀ (R : Option Addr) (rc : Nat) W, Below wr.heap.size wr W → Nums W R rs → Calls Try.prog 10 #[.slice A l.length c, .int .i64 i, .slice R rs.length rc] W fun e w' => e = .returned (.bool false) ∧ Below W.heap.size W w' from
                    fun R rc W hW hR => by
                      have := eval_any A c l (i : Int) R rc rs W hg hF (by omega) (by omega) HRI.out ((hA.below hbw).below hW) hR
                      rw [HEF.out] at this
                      exact this)
                  have sl1 : (q : Int) ≤ (q : Int) + 1 := by omega
                  have sl2 : q + 1 ≤ cc := by omega
                  have sl3 : (q : Int) + 1 ≤ (cc : Int) := by omega
                  have sl4 : IntKind.i64.wrap ((q : Int) + 1) = (q : Int) + 1 := by rw [IntKind.wrap_i64]; omega
                  have sl5 : q + 1 - q = 1 := by omega
                  have sl7 : ¬ cc = q := by omega
                  have sl6 : ((q : Int) + 1).toNat = q + 1 := by omega
                  clear hrs cs'
                  rcases Nat.eq_zero_or_pos q with hq0 | hq0
                  · have z1 : decide ((0 : Int) < (q : Int)) = false := decide_eq_false (by omega)
                    have z1' : decide (0 < q) = false := decide_eq_false (by omega)
                    have HBD := Lib.hid (show ∀ W, Below wr.heap.size wr W → W.cell? ⟨g, o + k, none⟩ = some (.slice (some ⟨gs, os, none⟩) s.length cc) ∧ W.cell? ⟨gs, os + q, none⟩ = some (.int .i64 y) ∧ True from
                      fun W hW => ⟨(hW.cell hgq).trans c0q, (hW.cell hgs).trans cs, trivial⟩)
                    clear hy cs hq0
                    go_wp2_with fail
                    refine' wp_region_each _ (Below wr.heap.size wr) (Onward) (Vl :: Vl :: Vl :: Pin undef :: Pin undef :: Pin undef :: Pin undef :: Pin undef :: Pin undef :: Pin undef :: Pin undef :: Pin undef :: Pin undef :: Pin undef :: Pin undef :: Pin undef :: Pin undef :: Pin undef :: Pin undef :: Vl :: Vl :: Vl :: Vl :: Vl :: Vl :: Vl :: Vl :: Vl :: Vl :: Vl :: Vl :: Vl :: Vl :: Vl :: Vl :: NumsSl rs :: Vl :: Vl :: []) ?hF (by kernel_rfl) (by kernel_rfl) (by kernel_rfl) ((Below.refl _ _).drew) (lasting_cons (lasting_vl) (lasting_cons (lasting_vl) (lasting_cons (lasting_vl) (lasting_cons (lasting_pin _) (lasting_cons (lasting_pin _) (lasting_cons (lasting_pin _) (lasting_cons (lasting_pin _) (lasting_cons (lasting_pin _) (lasting_cons (lasting_pin _) (lasting_cons (lasting_pin _) (lasting_cons (lasting_pin _) (lasting_cons (lasting_pin _) (lasting_cons (lasting_pin _) (lasting_cons (lasting_pin _) (lasting_cons (lasting_pin _) (lasting_cons (lasting_pin _) (lasting_cons (lasting_pin _) (lasting_cons (lasting_pin _) (lasting_cons (lasting_pin _) (lasting_cons (lasting_vl) (lasting_cons (lasting_vl) (lasting_cons (lasting_vl) (lasting_cons (lasting_vl) (lasting_cons (lasting_vl) (lasting_cons (lasting_vl) (lasting_cons (lasting_vl) (lasting_cons (lasting_vl) (lasting_cons (lasting_vl) (lasting_cons (lasting_vl) (lasting_cons (lasting_vl) (lasting_cons (lasting_vl) (lasting_cons (lasting_vl) (lasting_cons (lasting_vl) (lasting_cons (lasting_vl) (lasting_cons (lasting_vl) (lasting_cons (lasting_numsSl _) (lasting_cons (lasting_vl) (lasting_cons (lasting_vl) (lasting_none))))))))))))))))))))))))))))))))))))))) ?hops ?hend
                    case hF => (intro v; simp only [over, Act.put, List.setIfInBounds_toArray, List.set_cons_zero, List.set_cons_succ, Nat.zero_add, Nat.reduceAdd]; exact rfl)
                    case hops =>
                      refine ⟨?_, ?_⟩
                      · intro v w' hj hd hs K hK
                        have hk := hK.out
                        simp only [Act.put, List.setIfInBounds_toArray, List.set_cons_zero, List.set_cons_succ] at hk
                        have HK := Lib.hid hk
                        clear hd hs hk hK
                        go_simp
                        exact HK.out _ _ hj.out (Below.refl _ _) (show _ = _ from rfl)
                      refine ⟨?_, ?_⟩
                      · intro v w' hj hd hs K hK
                        have t0 : v 0 = _ := hd.out 0 (by kernel_rfl)
                        have hk := hK.out
                        simp only [t0, Act.put, List.setIfInBounds_toArray, List.set_cons_zero, List.set_cons_succ] at hk
                        have HK := Lib.hid hk
                        clear hd hs hk hK
                        go_simp
                        exact HK.out _ _ hj.out (Below.refl _ _) (show _ = _ from rfl)
                      refine ⟨?_, ?_⟩
                      · intro v w' hj hd hs K hK
                        have t1 : v 1 = _ := hd.out 1 (by kernel_rfl)
                        have hk := hK.out
                        simp only [t1, Act.put, List.setIfInBounds_toArray, List.set_cons_zero, List.set_cons_succ] at hk
                        have HK := Lib.hid hk
                        clear hd hs hk hK
                        go_simp
                        exact HK.out _ _ hj.out (Below.refl _ _) (show _ = _ from rfl)
                      refine ⟨?_, ?_⟩
                      · intro v w' hj hd hs K hK
                        have t2 : v 2 = _ := hd.out 2 (by kernel_rfl)
                        have hk := hK.out
                        simp only [t2, Act.put, List.setIfInBounds_toArray, List.set_cons_zero, List.set_cons_succ] at hk
                        have HK := Lib.hid hk
                        clear hd hs hk hK
                        go_simp
                        exact HK.out _ _ hj.out (Below.refl _ _) (show _ = _ from rfl)
                      refine ⟨?_, ?_⟩
                      · intro v w' hj hd hs K hK
                        have t2 : v 2 = _ := hd.out 2 (by kernel_rfl)
                        have hk := hK.out
                        simp only [t2, Act.put, List.setIfInBounds_toArray, List.set_cons_zero, List.set_cons_succ] at hk
                        have HK := Lib.hid hk
                        clear hd hs hk hK
                        go_simp
                        exact HK.out _ _ hj.out (Below.refl _ _) (show _ = _ from rfl)
                      refine ⟨?_, ?_⟩
                      · intro v w' hj hd hs K hK
                        have t2 : v 2 = _ := hd.out 2 (by kernel_rfl)
                        have hk := hK.out
                        simp only [t2, Act.put, List.setIfInBounds_toArray, List.set_cons_zero, List.set_cons_succ] at hk
                        have HK := Lib.hid hk
                        clear hd hs hk hK
                        go_simp
                        exact HK.out _ _ hj.out (Below.refl _ _) (show _ = _ from rfl)
                      refine ⟨?_, ?_⟩
                      · intro v w' hj hd hs K hK
                        have t2 : v 2 = _ := hd.out 2 (by kernel_rfl)
                        have hk := hK.out
                        simp only [t2, Act.put, List.setIfInBounds_toArray, List.set_cons_zero, List.set_cons_succ] at hk
                        have HK := Lib.hid hk
                        clear hd hs hk hK
                        go_simp
                        exact HK.out _ _ hj.out (Below.refl _ _) (show _ = _ from rfl)
                      refine ⟨?_, ?_⟩
                      · intro v w' hj hd hs K hK
                        have t2 : v 2 = _ := hd.out 2 (by kernel_rfl)
                        have hk := hK.out
                        simp only [t2, Act.put, List.setIfInBounds_toArray, List.set_cons_zero, List.set_cons_succ] at hk
                        have HK := Lib.hid hk
                        clear hd hs hk hK
                        go_simp
                        exact HK.out _ _ hj.out (Below.refl _ _) (show _ = _ from rfl)
                      refine ⟨?_, ?_⟩
                      · intro v w' hj hd hs K hK
                        have t2 : v 2 = _ := hd.out 2 (by kernel_rfl)
                        have hk := hK.out
                        simp only [t2, Act.put, List.setIfInBounds_toArray, List.set_cons_zero, List.set_cons_succ] at hk
                        have HK := Lib.hid hk
                        clear hd hs hk hK
                        go_simp
                        exact HK.out _ _ hj.out (Below.refl _ _) (show _ = _ from rfl)
                      refine ⟨?_, ?_⟩
                      · intro v w' hj hd hs K hK
                        have t2 : v 2 = _ := hd.out 2 (by kernel_rfl)
                        have hk := hK.out
                        simp only [t2, Act.put, List.setIfInBounds_toArray, List.set_cons_zero, List.set_cons_succ] at hk
                        have HK := Lib.hid hk
                        clear hd hs hk hK
                        go_simp
                        exact HK.out _ _ hj.out (Below.refl _ _) (show _ = _ from rfl)
                      refine ⟨?_, ?_⟩
                      · intro v w' hj hd hs K hK
                        have t2 : v 2 = _ := hd.out 2 (by kernel_rfl)
                        have hk := hK.out
                        simp only [t2, Act.put, List.setIfInBounds_toArray, List.set_cons_zero, List.set_cons_succ] at hk
                        have HK := Lib.hid hk
                        clear hd hs hk hK
                        go_simp
                        exact HK.out _ _ hj.out (Below.refl _ _) (show _ = _ from rfl)
                      refine ⟨?_, ?_⟩
                      · intro v w' hj hd hs K hK
                        have t2 : v 2 = _ := hd.out 2 (by kernel_rfl)
                        have hk := hK.out
                        simp only [t2, Act.put, List.setIfInBounds_toArray, List.set_cons_zero, List.set_cons_succ] at hk
                        have HK := Lib.hid hk
                        clear hd hs hk hK
                        go_simp
                        exact HK.out _ _ hj.out (Below.refl _ _) (show _ = _ from rfl)
                      refine ⟨?_, ?_⟩
                      · intro v w' hj hd hs K hK
                        have t2 : v 2 = _ := hd.out 2 (by kernel_rfl)
                        have hk := hK.out
                        simp only [t2, Act.put, List.setIfInBounds_toArray, List.set_cons_zero, List.set_cons_succ] at hk
                        have HK := Lib.hid hk
                        clear hd hs hk hK
                        go_simp
                        exact HK.out _ _ hj.out (Below.refl _ _) (show _ = _ from rfl)
                      refine ⟨?_, ?_⟩
                      · intro v w' hj hd hs K hK
                        have t2 : v 2 = _ := hd.out 2 (by kernel_rfl)
                        have hk := hK.out
                        simp only [t2, Act.put, List.setIfInBounds_toArray, List.set_cons_zero, List.set_cons_succ] at hk
                        have HK := Lib.hid hk
                        clear hd hs hk hK
                        go_simp
                        exact HK.out _ _ hj.out (Below.refl _ _) (show _ = _ from rfl)
                      refine ⟨?_, ?_⟩
                      · intro v w' hj hd hs K hK
                        have t2 : v 2 = _ := hd.out 2 (by kernel_rfl)
                        have hk := hK.out
                        simp only [t2, Act.put, List.setIfInBounds_toArray, List.set_cons_zero, List.set_cons_succ] at hk
                        have HK := Lib.hid hk
                        clear hd hs hk hK
                        go_simp
                        exact HK.out _ _ hj.out (Below.refl _ _) (show _ = _ from rfl)
                      refine ⟨?_, ?_⟩
                      · intro v w' hj hd hs K hK
                        have t2 : v 2 = _ := hd.out 2 (by kernel_rfl)
                        have hk := hK.out
                        simp only [t2, Act.put, List.setIfInBounds_toArray, List.set_cons_zero, List.set_cons_succ] at hk
                        have HK := Lib.hid hk
                        clear hd hs hk hK
                        go_simp
                        exact HK.out _ _ hj.out (Below.refl _ _) (show _ = _ from rfl)
                      refine ⟨?_, ?_⟩
                      · intro v w' hj hd hs K hK
                        have t2 : v 2 = _ := hd.out 2 (by kernel_rfl)
                        have hk := hK.out
                        simp only [t2, Act.put, List.setIfInBounds_toArray, List.set_cons_zero, List.set_cons_succ] at hk
                        have HK := Lib.hid hk
                        clear hd hs hk hK
                        go_simp
                        exact HK.out _ _ hj.out (Below.refl _ _) (show _ = _ from rfl)
                      refine ⟨?_, ?_⟩
                      · intro v w' hj hd hs K hK
                        have t2 : v 2 = _ := hd.out 2 (by kernel_rfl)
                        have hk := hK.out
                        simp only [t2, Act.put, List.setIfInBounds_toArray, List.set_cons_zero, List.set_cons_succ] at hk
                        have HK := Lib.hid hk
                        clear hd hs hk hK
                        go_simp
                        exact HK.out _ _ hj.out (Below.refl _ _) (show _ = _ from rfl)
                      refine ⟨?_, ?_⟩
                      · intro v w' hj hd hs K hK
                        have t2 : v 2 = _ := hd.out 2 (by kernel_rfl)
                        have hk := hK.out
                        simp only [t2, Act.put, List.setIfInBounds_toArray, List.set_cons_zero, List.set_cons_succ] at hk
                        have HK := Lib.hid hk
                        clear hd hs hk hK
                        go_simp
                        exact HK.out _ _ hj.out (Below.refl _ _) (show _ = _ from rfl)
                      refine ⟨?_, ?_⟩
                      · intro v w' hj hd hs K hK
                        have t2 : v 2 = _ := hd.out 2 (by kernel_rfl)
                        have t18 : v 18 = _ := hd.out 18 (by kernel_rfl)
                        have hk := hK.out
                        simp only [t2, t18, Act.put, List.setIfInBounds_toArray, List.set_cons_zero, List.set_cons_succ] at hk
                        have HK := Lib.hid hk
                        clear hd hs hk hK
                        go_simp
                        exact HK.out _ _ hj.out (Below.refl _ _) (show _ = _ from rfl)
                      refine ⟨?_, ?_⟩
                      · intro v w' hj hd hs K hK
                        have t19 : v 19 = _ := hd.out 19 (by kernel_rfl)
                        have hk := hK.out
                        simp only [t19, Act.put, List.setIfInBounds_toArray, List.set_cons_zero, List.set_cons_succ] at hk
                        have HK := Lib.hid hk
                        clear hd hs hk hK
                        go_simp
                        exact HK.out _ _ hj.out (Below.refl _ _) (show _ = _ from rfl)
                      refine ⟨?_, ?_⟩
                      · intro v w' hj hd hs K hK
                        have t20 : v 20 = _ := hd.out 20 (by kernel_rfl)
                        have hk := hK.out
                        simp only [t20, Act.put, List.setIfInBounds_toArray, List.set_cons_zero, List.set_cons_succ] at hk
                        have HK := Lib.hid hk
                        clear hd hs hk hK
                        go_simp
                        exact HK.out _ _ hj.out (Below.refl _ _) (show _ = _ from rfl)
                      refine ⟨?_, ?_⟩
                      · intro v w' hj hd hs K hK
                        have t20 : v 20 = _ := hd.out 20 (by kernel_rfl)
                        have hk := hK.out
                        simp only [t20, Act.put, List.setIfInBounds_toArray, List.set_cons_zero, List.set_cons_succ] at hk
                        have HK := Lib.hid hk
                        clear hd hs hk hK
                        go_simp
                        exact HK.out _ _ hj.out (Below.refl _ _) (show _ = _ from rfl)
                      refine ⟨?_, ?_⟩
                      · intro v w' hj hd hs K hK
                        have t20 : v 20 = _ := hd.out 20 (by kernel_rfl)
                        have hk := hK.out
                        simp only [t20, Act.put, List.setIfInBounds_toArray, List.set_cons_zero, List.set_cons_succ] at hk
                        have HK := Lib.hid hk
                        clear hd hs hk hK
                        go_simp
                        exact HK.out _ _ hj.out (Below.refl _ _) (show _ = _ from rfl)
                      refine ⟨?_, ?_⟩
                      · intro v w' hj hd hs K hK
                        have t20 : v 20 = _ := hd.out 20 (by kernel_rfl)
                        have hk := hK.out
                        simp only [t20, Act.put, List.setIfInBounds_toArray, List.set_cons_zero, List.set_cons_succ] at hk
                        have HK := Lib.hid hk
                        clear hd hs hk hK
                        go_simp
                        exact HK.out _ _ hj.out (Below.refl _ _) (show _ = _ from rfl)
                      refine ⟨?_, ?_⟩
                      · intro v w' hj hd hs K hK
                        have t20 : v 20 = _ := hd.out 20 (by kernel_rfl)
                        have t23 : v 23 = _ := hd.out 23 (by kernel_rfl)
                        have t24 : v 24 = _ := hd.out 24 (by kernel_rfl)
                        have hk := hK.out
                        simp only [t20, t23, t24, Act.put, List.setIfInBounds_toArray, List.set_cons_zero, List.set_cons_succ] at hk
                        have HK := Lib.hid hk
                        clear hd hs hk hK
                        go_simp
                        exact HK.out _ _ hj.out (Below.refl _ _) (show _ = _ from rfl)
                      refine ⟨?_, ?_⟩
                      · intro v w' hj hd hs K hK
                        have t20 : v 20 = _ := hd.out 20 (by kernel_rfl)
                        have t25 : v 25 = _ := hd.out 25 (by kernel_rfl)
                        obtain ⟨x1, x2, x3⟩ := HBD.out _ hj.out
                        have hk := hK.out
                        simp only [t20, t25, Act.put, List.setIfInBounds_toArray, List.set_cons_zero, List.set_cons_succ] at hk
                        have HK := Lib.hid hk
                        clear hd hs hk hK
                        go_simp
                        exact HK.out _ _ hj.out (Below.refl _ _) (show _ = _ from rfl)
                      refine ⟨?_, ?_⟩
                      · intro v w' hj hd hs K hK
                        have t20 : v 20 = _ := hd.out 20 (by kernel_rfl)
                        have hk := hK.out
                        simp only [t20, Act.put, List.setIfInBounds_toArray, List.set_cons_zero, List.set_cons_succ] at hk
                        have HK := Lib.hid hk
                        clear hd hs hk hK
                        go_simp
                        exact HK.out _ _ hj.out (Below.refl _ _) (show _ = _ from rfl)
                      refine ⟨?_, ?_⟩
                      · intro v w' hj hd hs K hK
                        have t20 : v 20 = _ := hd.out 20 (by kernel_rfl)
                        have hk := hK.out
                        simp only [t20, Act.put, List.setIfInBounds_toArray, List.set_cons_zero, List.set_cons_succ] at hk
                        have HK := Lib.hid hk
                        clear hd hs hk hK
                        go_simp
                        exact HK.out _ _ hj.out (Below.refl _ _) (show _ = _ from rfl)
                      refine ⟨?_, ?_⟩
                      · intro v w' hj hd hs K hK
                        have t20 : v 20 = _ := hd.out 20 (by kernel_rfl)
                        have t27 : v 27 = _ := hd.out 27 (by kernel_rfl)
                        have t28 : v 28 = _ := hd.out 28 (by kernel_rfl)
                        have hk := hK.out
                        simp only [t20, t27, t28, Act.put, List.setIfInBounds_toArray, List.set_cons_zero, List.set_cons_succ] at hk
                        have HK := Lib.hid hk
                        clear hd hs hk hK
                        go_simp
                        exact HK.out _ _ hj.out (Below.refl _ _) (show _ = _ from rfl)
                      refine ⟨?_, ?_⟩
                      · intro v w' hj hd hs K hK
                        have t20 : v 20 = _ := hd.out 20 (by kernel_rfl)
                        have t29 : v 29 = _ := hd.out 29 (by kernel_rfl)
                        obtain ⟨x1, x2, x3⟩ := HBD.out _ hj.out
                        have hk := hK.out
                        simp only [t20, t29, Act.put, List.setIfInBounds_toArray, List.set_cons_zero, List.set_cons_succ] at hk
                        have HK := Lib.hid hk
                        clear hd hs hk hK
                        go_simp
                        exact HK.out _ _ hj.out (Below.refl _ _) (show _ = _ from rfl)
                      refine ⟨?_, ?_⟩
                      · intro v w' hj hd hs K hK
                        have t20 : v 20 = _ := hd.out 20 (by kernel_rfl)
                        have hk := hK.out
                        simp only [t20, Act.put, List.setIfInBounds_toArray, List.set_cons_zero, List.set_cons_succ] at hk
                        have HK := Lib.hid hk
                        clear hd hs hk hK
                        go_simp
                        exact HK.out _ _ hj.out (Below.refl _ _) (show _ = _ from rfl)
                      refine ⟨?_, ?_⟩
                      · intro v w' hj hd hs K hK
                        have t20 : v 20 = _ := hd.out 20 (by kernel_rfl)
                        have hk := hK.out
                        simp only [t20, Act.put, List.setIfInBounds_toArray, List.set_cons_zero, List.set_cons_succ] at hk
                        have HK := Lib.hid hk
                        clear hd hs hk hK
                        go_simp
                        exact HK.out _ _ hj.out (Below.refl _ _) (show _ = _ from rfl)
                      refine ⟨?_, ?_⟩
                      · intro v w' hj hd hs K hK
                        have t20 : v 20 = _ := hd.out 20 (by kernel_rfl)
                        have t32 : v 32 = _ := hd.out 32 (by kernel_rfl)
                        have hk := hK.out
                        simp only [t20, t32, Act.put, List.setIfInBounds_toArray, List.set_cons_zero, List.set_cons_succ] at hk
                        have HK := Lib.hid hk
                        clear hd hs hk hK
                        go_simp
                        exact HK.out _ _ hj.out (Below.refl _ _) (show _ = _ from rfl)
                      refine ⟨?_, ?_⟩
                      · intro v w' hj hd hs K hK
                        have t20 : v 20 = _ := hd.out 20 (by kernel_rfl)
                        have t30 : v 30 = _ := hd.out 30 (by kernel_rfl)
                        have t31 : v 31 = _ := hd.out 31 (by kernel_rfl)
                        have t33 : v 33 = _ := hd.out 33 (by kernel_rfl)
                        have hk := hK.out
                        simp only [t20, t30, t31, t33, Act.put, List.setIfInBounds_toArray, List.set_cons_zero, List.set_cons_succ] at hk
                        have HK := Lib.hid hk
                        clear hd hs hk hK
                        go_simp
                        exact HK.out _ _ hj.out (Below.refl _ _) (show _ = _ from rfl)
                      refine ⟨?_, ?_⟩
                      · intro v w' hj hd hs K hK
                        have t20 : v 20 = _ := hd.out 20 (by kernel_rfl)
                        have t26 : v 26 = _ := hd.out 26 (by kernel_rfl)
                        have t34 : v 34 = _ := hd.out 34 (by kernel_rfl)
                        obtain ⟨x1, x2, x3⟩ := HBD.out _ hj.out
                        have hk := hK.out
                        simp only [t20, t26, t34, Act.put, List.setIfInBounds_toArray, List.set_cons_zero, List.set_cons_succ] at hk
                        have HK := Lib.hid hk
                        clear hd hs hk hK
                        go_simp
                        have HRC := Lib.hid (HRS.out _ hj.out)
                        refine HRC.out.mono ?_
                        rintro e w3 ⟨vr, rfl, ov, hb2⟩
                        rw [HRQ.out] at ov
                        obtain ⟨R, rc, rfl, hrn⟩ := ns_of_own ov
                        exact HK.out _ _ (hj.out.trans (hb2.mono hj.out.size)) hb2 ⟨R, rc, rfl, hrn⟩
                      refine ⟨?_, ?_⟩
                      · intro v w' hj hd hs K hK
                        have t20 : v 20 = _ := hd.out 20 (by kernel_rfl)
                        have t21 : v 21 = _ := hd.out 21 (by kernel_rfl)
                        have t22 : v 22 = _ := hd.out 22 (by kernel_rfl)
                        obtain ⟨R35, rc35, t35, q35⟩ : NumsSl rs (v 35) w' := hd.out 35 (by kernel_rfl)
                        have hk := hK.out
                        simp only [t20, t21, t22, t35, Act.put, List.setIfInBounds_toArray, List.set_cons_zero, List.set_cons_succ] at hk
                        have HK := Lib.hid hk
                        clear hd hs hk hK
                        go_simp
                        refine (HEV.out R35 rc35 _ hj.out q35.nums).mono ?_
                        rintro e w3 ⟨rfl, hb2⟩
                        exact HK.out _ _ (hj.out.trans (hb2.mono hj.out.size)) hb2 (show _ = _ from rfl)
                      refine ⟨?_, ?_⟩
                      · intro v w' hj hd hs K hK
                        have t20 : v 20 = _ := hd.out 20 (by kernel_rfl)
                        have t36 : v 36 = _ := hd.out 36 (by kernel_rfl)
                        have hk := hK.out
                        simp only [t20, t36, Act.put, List.setIfInBounds_toArray, List.set_cons_zero, List.set_cons_succ] at hk
                        have HK := Lib.hid hk
                        clear hd hs hk hK
                        go_simp
                        exact HK.out _ _ hj.out (Below.refl _ _) (show _ = _ from rfl)
                      trivial
                    case hend =>
                      intro vv w2 hj hd
                      have t37 : vv 37 = _ := hd.out 37 (of_decide_eq_true (by kernel_rfl))
                      simp only [t37]
                      have b1 := hj.out
                      clear hj hd t37
                      go_wp2_with fail
                      go_roundw
                      case rel => exact ⟨q + 1, by omega, by go_num, hbw.trans (b1.mono hbw.size), hb9.trans (b1.mono hb9.size), hbq.trans (b1.mono hbq.size)⟩
                      case measure => simp [intOf]; omega
                  · obtain ⟨q', hq'⟩ : ∃ q', q = q' + 1 := ⟨q - 1, by omega⟩
                    have z1 : decide ((0 : Int) < (q : Int)) = true := decide_eq_true (by omega)
                    have z1' : decide (0 < q) = true := decide_eq_true (by omega)
                    obtain ⟨u, hu⟩ : ∃ u, s[q']? = some u := ⟨_, List.getElem?_eq_getElem (by omega)⟩
                    have hlt := inc_at HSC.out hu (by rw [← hq']; exact hy)
                    have z2 : decide (y ≤ u) = false := by simp; omega
                    obtain ⟨gu, ou, eu, hgu, cu'⟩ := (x4.below hbq).at (show q' < s.length by omega)
                    have cu : wr.cell? ⟨gs, os + q', none⟩ = some (.int .i64 u) := by
                      have eu' := Option.some.inj eu
                      injection eu' with e2 e3
                      subst e2; subst e3
                      rw [cu']; congr 2; exact (List.getElem?_eq_some_iff.1 hu).2
                    have n0 : (q : Int) - 1 = (q' : Int) := by omega
                    have n1 : IntKind.i64.wrap ((q : Int) - 1) = (q' : Int) := by rw [IntKind.wrap_i64]; omega
                    have n2 : IntKind.i64.wrap (q' : Int) = (q' : Int) := by rw [IntKind.wrap_i64]; omega
                    have jj0 : (0 : Int) ≤ (q' : Int) := by omega
                    have jj1 : (q' : Int) < (s.length : Int) := by omega
                    have HBD := Lib.hid (show ∀ W, Below wr.heap.size wr W → W.cell? ⟨g, o + k, none⟩ = some (.slice (some ⟨gs, os, none⟩) s.length cc) ∧ W.cell? ⟨gs, os + q, none⟩ = some (.int .i64 y) ∧ W.cell? ⟨gs, os + q', none⟩ = some (.int .i64 u) from
                      fun W hW => ⟨(hW.cell hgq).trans c0q, (hW.cell hgs).trans cs, (hW.cell hgs).trans cu⟩)
                    clear hy hu hlt eu cu' cs cu hq0 hq'
                    go_wp2_with fail
                    refine' wp_region_each _ (Below wr.heap.size wr) (Onward) (Vl :: Vl :: Vl :: Vl :: Vl :: Vl :: Vl :: Vl :: Vl :: Vl :: Vl :: Vl :: Vl :: Vl :: Vl :: Vl :: Vl :: Vl :: Vl :: Vl :: Vl :: Vl :: Vl :: Vl :: Vl :: Vl :: Vl :: Vl :: Vl :: Vl :: Vl :: Vl :: Vl :: Vl :: Vl :: NumsSl rs :: Vl :: Vl :: []) ?hF (by kernel_rfl) (by kernel_rfl) (by kernel_rfl) ((Below.refl _ _).drew) (lasting_cons (lasting_vl) (lasting_cons (lasting_vl) (lasting_cons (lasting_vl) (lasting_cons (lasting_vl) (lasting_cons (lasting_vl) (lasting_cons (lasting_vl) (lasting_cons (lasting_vl) (lasting_cons (lasting_vl) (lasting_cons (lasting_vl) (lasting_cons (lasting_vl) (lasting_cons (lasting_vl) (lasting_cons (lasting_vl) (lasting_cons (lasting_vl) (lasting_cons (lasting_vl) (lasting_cons (lasting_vl) (lasting_cons (lasting_vl) (lasting_cons (lasting_vl) (lasting_cons (lasting_vl) (lasting_cons (lasting_vl) (lasting_cons (lasting_vl) (lasting_cons (lasting_vl) (lasting_cons (lasting_vl) (lasting_cons (lasting_vl) (lasting_cons (lasting_vl) (lasting_cons (lasting_vl) (lasting_cons (lasting_vl) (lasting_cons (lasting_vl) (lasting_cons (lasting_vl) (lasting_cons (lasting_vl) (lasting_cons (lasting_vl) (lasting_cons (lasting_vl) (lasting_cons (lasting_vl) (lasting_cons (lasting_vl) (lasting_cons (lasting_vl) (lasting_cons (lasting_vl) (lasting_cons (lasting_numsSl _) (lasting_cons (lasting_vl) (lasting_cons (lasting_vl) (lasting_none))))))))))))))))))))))))))))))))))))))) ?hops ?hend
                    case hF => (intro v; simp only [over, Act.put, List.setIfInBounds_toArray, List.set_cons_zero, List.set_cons_succ, Nat.zero_add, Nat.reduceAdd]; exact rfl)
                    case hops =>
                      refine ⟨?_, ?_⟩
                      · intro v w' hj hd hs K hK
                        have hk := hK.out
                        simp only [Act.put, List.setIfInBounds_toArray, List.set_cons_zero, List.set_cons_succ] at hk
                        have HK := Lib.hid hk
                        clear hd hs hk hK
                        go_simp
                        exact HK.out _ _ hj.out (Below.refl _ _) (show _ = _ from rfl)
                      refine ⟨?_, ?_⟩
                      · intro v w' hj hd hs K hK
                        have t0 : v 0 = _ := hd.out 0 (by kernel_rfl)
                        have hk := hK.out
                        simp only [t0, Act.put, List.setIfInBounds_toArray, List.set_cons_zero, List.set_cons_succ] at hk
                        have HK := Lib.hid hk
                        clear hd hs hk hK
                        go_simp
                        exact HK.out _ _ hj.out (Below.refl _ _) (show _ = _ from rfl)
                      refine ⟨?_, ?_⟩
                      · intro v w' hj hd hs K hK
                        have t1 : v 1 = _ := hd.out 1 (by kernel_rfl)
                        have hk := hK.out
                        simp only [t1, Act.put, List.setIfInBounds_toArray, List.set_cons_zero, List.set_cons_succ] at hk
                        have HK := Lib.hid hk
                        clear hd hs hk hK
                        go_simp
                        exact HK.out _ _ hj.out (Below.refl _ _) (show _ = _ from rfl)
                      refine ⟨?_, ?_⟩
                      · intro v w' hj hd hs K hK
                        have t2 : v 2 = _ := hd.out 2 (by kernel_rfl)
                        have hk := hK.out
                        simp only [t2, Act.put, List.setIfInBounds_toArray, List.set_cons_zero, List.set_cons_succ] at hk
                        have HK := Lib.hid hk
                        clear hd hs hk hK
                        go_simp
                        exact HK.out _ _ hj.out (Below.refl _ _) (show _ = _ from rfl)
                      refine ⟨?_, ?_⟩
                      · intro v w' hj hd hs K hK
                        have t2 : v 2 = _ := hd.out 2 (by kernel_rfl)
                        have hk := hK.out
                        simp only [t2, Act.put, List.setIfInBounds_toArray, List.set_cons_zero, List.set_cons_succ] at hk
                        have HK := Lib.hid hk
                        clear hd hs hk hK
                        go_simp
                        exact HK.out _ _ hj.out (Below.refl _ _) (show _ = _ from rfl)
                      refine ⟨?_, ?_⟩
                      · intro v w' hj hd hs K hK
                        have t2 : v 2 = _ := hd.out 2 (by kernel_rfl)
                        have t3 : v 3 = _ := hd.out 3 (by kernel_rfl)
                        have t4 : v 4 = _ := hd.out 4 (by kernel_rfl)
                        have hk := hK.out
                        simp only [t2, t3, t4, Act.put, List.setIfInBounds_toArray, List.set_cons_zero, List.set_cons_succ] at hk
                        have HK := Lib.hid hk
                        clear hd hs hk hK
                        go_simp
                        exact HK.out _ _ hj.out (Below.refl _ _) (show _ = _ from rfl)
                      refine ⟨?_, ?_⟩
                      · intro v w' hj hd hs K hK
                        have t2 : v 2 = _ := hd.out 2 (by kernel_rfl)
                        have t5 : v 5 = _ := hd.out 5 (by kernel_rfl)
                        obtain ⟨x1, x2, x3⟩ := HBD.out _ hj.out
                        have hk := hK.out
                        simp only [t2, t5, Act.put, List.setIfInBounds_toArray, List.set_cons_zero, List.set_cons_succ] at hk
                        have HK := Lib.hid hk
                        clear hd hs hk hK
                        go_simp
                        exact HK.out _ _ hj.out (Below.refl _ _) (show _ = _ from rfl)
                      refine ⟨?_, ?_⟩
                      · intro v w' hj hd hs K hK
                        have t2 : v 2 = _ := hd.out 2 (by kernel_rfl)
                        have hk := hK.out
                        simp only [t2, Act.put, List.setIfInBounds_toArray, List.set_cons_zero, List.set_cons_succ] at hk
                        have HK := Lib.hid hk
                        clear hd hs hk hK
                        go_simp
                        exact HK.out _ _ hj.out (Below.refl _ _) (show _ = _ from rfl)
                      refine ⟨?_, ?_⟩
                      · intro v w' hj hd hs K hK
                        have t2 : v 2 = _ := hd.out 2 (by kernel_rfl)
                        have t6 : v 6 = _ := hd.out 6 (by kernel_rfl)
                        have t7 : v 7 = _ := hd.out 7 (by kernel_rfl)
                        have hk := hK.out
                        simp only [t2, t6, t7, Act.put, List.setIfInBounds_toArray, List.set_cons_zero, List.set_cons_succ] at hk
                        have HK := Lib.hid hk
                        clear hd hs hk hK
                        go_simp
                        exact HK.out _ _ hj.out (Below.refl _ _) (show _ = _ from rfl)
                      refine ⟨?_, ?_⟩
                      · intro v w' hj hd hs K hK
                        have t2 : v 2 = _ := hd.out 2 (by kernel_rfl)
                        have t8 : v 8 = _ := hd.out 8 (by kernel_rfl)
                        obtain ⟨x1, x2, x3⟩ := HBD.out _ hj.out
                        have hk := hK.out
                        simp only [t2, t8, Act.put, List.setIfInBounds_toArray, List.set_cons_zero, List.set_cons_succ] at hk
                        have HK := Lib.hid hk
                        clear hd hs hk hK
                        go_simp
                        exact HK.out _ _ hj.out (Below.refl _ _) (show _ = _ from rfl)
                      refine ⟨?_, ?_⟩
                      · intro v w' hj hd hs K hK
                        have t2 : v 2 = _ := hd.out 2 (by kernel_rfl)
                        have hk := hK.out
                        simp only [t2, Act.put, List.setIfInBounds_toArray, List.set_cons_zero, List.set_cons_succ] at hk
                        have HK := Lib.hid hk
                        clear hd hs hk hK
                        go_simp
                        exact HK.out _ _ hj.out (Below.refl _ _) (show _ = _ from rfl)
                      refine ⟨?_, ?_⟩
                      · intro v w' hj hd hs K hK
                        have t2 : v 2 = _ := hd.out 2 (by kernel_rfl)
                        have hk := hK.out
                        simp only [t2, Act.put, List.setIfInBounds_toArray, List.set_cons_zero, List.set_cons_succ] at hk
                        have HK := Lib.hid hk
                        clear hd hs hk hK
                        go_simp
                        exact HK.out _ _ hj.out (Below.refl _ _) (show _ = _ from rfl)
                      refine ⟨?_, ?_⟩
                      · intro v w' hj hd hs K hK
                        have t2 : v 2 = _ := hd.out 2 (by kernel_rfl)
                        have t10 : v 10 = _ := hd.out 10 (by kernel_rfl)
                        have t11 : v 11 = _ := hd.out 11 (by kernel_rfl)
                        have hk := hK.out
                        simp only [t2, t10, t11, Act.put, List.setIfInBounds_toArray, List.set_cons_zero, List.set_cons_succ] at hk
                        have HK := Lib.hid hk
                        clear hd hs hk hK
                        go_simp
                        exact HK.out _ _ hj.out (Below.refl _ _) (show _ = _ from rfl)
                      refine ⟨?_, ?_⟩
                      · intro v w' hj hd hs K hK
                        have t2 : v 2 = _ := hd.out 2 (by kernel_rfl)
                        have t12 : v 12 = _ := hd.out 12 (by kernel_rfl)
                        obtain ⟨x1, x2, x3⟩ := HBD.out _ hj.out
                        have hk := hK.out
                        simp only [t2, t12, Act.put, List.setIfInBounds_toArray, List.set_cons_zero, List.set_cons_succ] at hk
                        have HK := Lib.hid hk
                        clear hd hs hk hK
                        go_simp
                        exact HK.out _ _ hj.out (Below.refl _ _) (show _ = _ from rfl)
                      refine ⟨?_, ?_⟩
                      · intro v w' hj hd hs K hK
                        have t2 : v 2 = _ := hd.out 2 (by kernel_rfl)
                        have hk := hK.out
                        simp only [t2, Act.put, List.setIfInBounds_toArray, List.set_cons_zero, List.set_cons_succ] at hk
                        have HK := Lib.hid hk
                        clear hd hs hk hK
                        go_simp
                        exact HK.out _ _ hj.out (Below.refl _ _) (show _ = _ from rfl)
                      refine ⟨?_, ?_⟩
                      · intro v w' hj hd hs K hK
                        have t2 : v 2 = _ := hd.out 2 (by kernel_rfl)
                        have t14 : v 14 = _ := hd.out 14 (by kernel_rfl)
                        have hk := hK.out
                        simp only [t2, t14, Act.put, List.setIfInBounds_toArray, List.set_cons_zero, List.set_cons_succ] at hk
                        have HK := Lib.hid hk
                        clear hd hs hk hK
                        go_simp
                        exact HK.out _ _ hj.out (Below.refl _ _) (show _ = _ from rfl)
                      refine ⟨?_, ?_⟩
                      · intro v w' hj hd hs K hK
                        have t2 : v 2 = _ := hd.out 2 (by kernel_rfl)
                        have t13 : v 13 = _ := hd.out 13 (by kernel_rfl)
                        have t15 : v 15 = _ := hd.out 15 (by kernel_rfl)
                        have hk := hK.out
                        simp only [t2, t13, t15, Act.put, List.setIfInBounds_toArray, List.set_cons_zero, List.set_cons_succ] at hk
                        have HK := Lib.hid hk
                        clear hd hs hk hK
                        go_simp
                        exact HK.out _ _ hj.out (Below.refl _ _) (show _ = _ from rfl)
                      refine ⟨?_, ?_⟩
                      · intro v w' hj hd hs K hK
                        have t2 : v 2 = _ := hd.out 2 (by kernel_rfl)
                        have t16 : v 16 = _ := hd.out 16 (by kernel_rfl)
                        obtain ⟨x1, x2, x3⟩ := HBD.out _ hj.out
                        have hk := hK.out
                        simp only [t2, t16, Act.put, List.setIfInBounds_toArray, List.set_cons_zero, List.set_cons_succ] at hk
                        have HK := Lib.hid hk
                        clear hd hs hk hK
                        go_simp
                        exact HK.out _ _ hj.out (Below.refl _ _) (show _ = _ from rfl)
                      refine ⟨?_, ?_⟩
                      · intro v w' hj hd hs K hK
                        have t2 : v 2 = _ := hd.out 2 (by kernel_rfl)
                        have t9 : v 9 = _ := hd.out 9 (by kernel_rfl)
                        have t17 : v 17 = _ := hd.out 17 (by kernel_rfl)
                        have hk := hK.out
                        simp only [t2, t9, t17, Act.put, List.setIfInBounds_toArray, List.set_cons_zero, List.set_cons_succ] at hk
                        have HK := Lib.hid hk
                        clear hd hs hk hK
                        go_simp
                        exact HK.out _ _ hj.out (Below.refl _ _) (show _ = _ from rfl)
                      refine ⟨?_, ?_⟩
                      · intro v w' hj hd hs K hK
                        have t2 : v 2 = _ := hd.out 2 (by kernel_rfl)
                        have t18 : v 18 = _ := hd.out 18 (by kernel_rfl)
                        have hk := hK.out
                        simp only [t2, t18, Act.put, List.setIfInBounds_toArray, List.set_cons_zero, List.set_cons_succ] at hk
                        have HK := Lib.hid hk
                        clear hd hs hk hK
                        go_simp
                        exact HK.out _ _ hj.out (Below.refl _ _) (show _ = _ from rfl)
                      refine ⟨?_, ?_⟩
                      · intro v w' hj hd hs K hK
                        have t19 : v 19 = _ := hd.out 19 (by kernel_rfl)
                        have hk := hK.out
                        simp only [t19, Act.put, List.setIfInBounds_toArray, List.set_cons_zero, List.set_cons_succ] at hk
                        have HK := Lib.hid hk
                        clear hd hs hk hK
                        go_simp
                        exact HK.out _ _ hj.out (Below.refl _ _) (show _ = _ from rfl)
                      refine ⟨?_, ?_⟩
                      · intro v w' hj hd hs K hK
                        have t20 : v 20 = _ := hd.out 20 (by kernel_rfl)
                        have hk := hK.out
                        simp only [t20, Act.put, List.setIfInBounds_toArray, List.set_cons_zero, List.set_cons_succ] at hk
                        have HK := Lib.hid hk
                        clear hd hs hk hK
                        go_simp
                        exact HK.out _ _ hj.out (Below.refl _ _) (show _ = _ from rfl)
                      refine ⟨?_, ?_⟩
                      · intro v w' hj hd hs K hK
                        have t20 : v 20 = _ := hd.out 20 (by kernel_rfl)
                        have hk := hK.out
                        simp only [t20, Act.put, List.setIfInBounds_toArray, List.set_cons_zero, List.set_cons_succ] at hk
                        have HK := Lib.hid hk
                        clear hd hs hk hK
                        go_simp
                        exact HK.out _ _ hj.out (Below.refl _ _) (show _ = _ from rfl)
                      refine ⟨?_, ?_⟩
                      · intro v w' hj hd hs K hK
                        have t20 : v 20 = _ := hd.out 20 (by kernel_rfl)
                        have hk := hK.out
                        simp only [t20, Act.put, List.setIfInBounds_toArray, List.set_cons_zero, List.set_cons_succ] at hk
                        have HK := Lib.hid hk
                        clear hd hs hk hK
                        go_simp
                        exact HK.out _ _ hj.out (Below.refl _ _) (show _ = _ from rfl)
                      refine ⟨?_, ?_⟩
                      · intro v w' hj hd hs K hK
                        have t20 : v 20 = _ := hd.out 20 (by kernel_rfl)
                        have hk := hK.out
                        simp only [t20, Act.put, List.setIfInBounds_toArray, List.set_cons_zero, List.set_cons_succ] at hk
                        have HK := Lib.hid hk
                        clear hd hs hk hK
                        go_simp
                        exact HK.out _ _ hj.out (Below.refl _ _) (show _ = _ from rfl)
                      refine ⟨?_, ?_⟩
                      · intro v w' hj hd hs K hK
                        have t20 : v 20 = _ := hd.out 20 (by kernel_rfl)
                        have t23 : v 23 = _ := hd.out 23 (by kernel_rfl)
                        have t24 : v 24 = _ := hd.out 24 (by kernel_rfl)
                        have hk := hK.out
                        simp only [t20, t23, t24, Act.put, List.setIfInBounds_toArray, List.set_cons_zero, List.set_cons_succ] at hk
                        have HK := Lib.hid hk
                        clear hd hs hk hK
                        go_simp
                        exact HK.out _ _ hj.out (Below.refl _ _) (show _ = _ from rfl)
                      refine ⟨?_, ?_⟩
                      · intro v w' hj hd hs K hK
                        have t20 : v 20 = _ := hd.out 20 (by kernel_rfl)
                        have t25 : v 25 = _ := hd.out 25 (by kernel_rfl)
                        obtain ⟨x1, x2, x3⟩ := HBD.out _ hj.out
                        have hk := hK.out
                        simp only [t20, t25, Act.put, List.setIfInBounds_toArray, List.set_cons_zero, List.set_cons_succ] at hk
                        have HK := Lib.hid hk
                        clear hd hs hk hK
                        go_simp
                        exact HK.out _ _ hj.out (Below.refl _ _) (show _ = _ from rfl)
                      refine ⟨?_, ?_⟩
                      · intro v w' hj hd hs K hK
                        have t20 : v 20 = _ := hd.out 20 (by kernel_rfl)
                        have hk := hK.out
                        simp only [t20, Act.put, List.setIfInBounds_toArray, List.set_cons_zero, List.set_cons_succ] at hk
                        have HK := Lib.hid hk
                        clear hd hs hk hK
                        go_simp
                        exact HK.out _ _ hj.out (Below.refl _ _) (show _ = _ from rfl)
                      refine ⟨?_, ?_⟩
                      · intro v w' hj hd hs K hK
                        have t20 : v 20 = _ := hd.out 20 (by kernel_rfl)
                        have hk := hK.out
                        simp only [t20, Act.put, List.setIfInBounds_toArray, List.set_cons_zero, List.set_cons_succ] at hk
                        have HK := Lib.hid hk
                        clear hd hs hk hK
                        go_simp
                        exact HK.out _ _ hj.out (Below.refl _ _) (show _ = _ from rfl)
                      refine ⟨?_, ?_⟩
                      · intro v w' hj hd hs K hK
                        have t20 : v 20 = _ := hd.out 20 (by kernel_rfl)
                        have t27 : v 27 = _ := hd.out 27 (by kernel_rfl)
                        have t28 : v 28 = _ := hd.out 28 (by kernel_rfl)
                        have hk := hK.out
                        simp only [t20, t27, t28, Act.put, List.setIfInBounds_toArray, List.set_cons_zero, List.set_cons_succ] at hk
                        have HK := Lib.hid hk
                        clear hd hs hk hK
                        go_simp
                        exact HK.out _ _ hj.out (Below.refl _ _) (show _ = _ from rfl)
                      refine ⟨?_, ?_⟩
                      · intro v w' hj hd hs K hK
                        have t20 : v 20 = _ := hd.out 20 (by kernel_rfl)
                        have t29 : v 29 = _ := hd.out 29 (by kernel_rfl)
                        obtain ⟨x1, x2, x3⟩ := HBD.out _ hj.out
                        have hk := hK.out
                        simp only [t20, t29, Act.put, List.setIfInBounds_toArray, List.set_cons_zero, List.set_cons_succ] at hk
                        have HK := Lib.hid hk
                        clear hd hs hk hK
                        go_simp
                        exact HK.out _ _ hj.out (Below.refl _ _) (show _ = _ from rfl)
                      refine ⟨?_, ?_⟩
                      · intro v w' hj hd hs K hK
                        have t20 : v 20 = _ := hd.out 20 (by kernel_rfl)
                        have hk := hK.out
                        simp only [t20, Act.put, List.setIfInBounds_toArray, List.set_cons_zero, List.set_cons_succ] at hk
                        have HK := Lib.hid hk
                        clear hd hs hk hK
                        go_simp
                        exact HK.out _ _ hj.out (Below.refl _ _) (show _ = _ from rfl)
                      refine ⟨?_, ?_⟩
                      · intro v w' hj hd hs K hK
                        have t20 : v 20 = _ := hd.out 20 (by kernel_rfl)
                        have hk := hK.out
                        simp only [t20, Act.put, List.setIfInBounds_toArray, List.set_cons_zero, List.set_cons_succ] at hk
                        have HK := Lib.hid hk
                        clear hd hs hk hK
                        go_simp
                        exact HK.out _ _ hj.out (Below.refl _ _) (show _ = _ from rfl)
                      refine ⟨?_, ?_⟩
                      · intro v w' hj hd hs K hK
                        have t20 : v 20 = _ := hd.out 20 (by kernel_rfl)
                        have t32 : v 32 = _ := hd.out 32 (by kernel_rfl)
                        have hk := hK.out
                        simp only [t20, t32, Act.put, List.setIfInBounds_toArray, List.set_cons_zero, List.set_cons_succ] at hk
                        have HK := Lib.hid hk
                        clear hd hs hk hK
                        go_simp
                        exact HK.out _ _ hj.out (Below.refl _ _) (show _ = _ from rfl)
                      refine ⟨?_, ?_⟩
                      · intro v w' hj hd hs K hK
                        have t20 : v 20 = _ := hd.out 20 (by kernel_rfl)
                        have t30 : v 30 = _ := hd.out 30 (by kernel_rfl)
                        have t31 : v 31 = _ := hd.out 31 (by kernel_rfl)
                        have t33 : v 33 = _ := hd.out 33 (by kernel_rfl)
                        have hk := hK.out
                        simp only [t20, t30, t31, t33, Act.put, List.setIfInBounds_toArray, List.set_cons_zero, List.set_cons_succ] at hk
                        have HK := Lib.hid hk
                        clear hd hs hk hK
                        go_simp
                        exact HK.out _ _ hj.out (Below.refl _ _) (show _ = _ from rfl)
                      refine ⟨?_, ?_⟩
                      · intro v w' hj hd hs K hK
                        have t20 : v 20 = _ := hd.out 20 (by kernel_rfl)
                        have t26 : v 26 = _ := hd.out 26 (by kernel_rfl)
                        have t34 : v 34 = _ := hd.out 34 (by kernel_rfl)
                        obtain ⟨x1, x2, x3⟩ := HBD.out _ hj.out
                        have hk := hK.out
                        simp only [t20, t26, t34, Act.put, List.setIfInBounds_toArray, List.set_cons_zero, List.set_cons_succ] at hk
                        have HK := Lib.hid hk
                        clear hd hs hk hK
                        go_simp
                        have HRC := Lib.hid (HRS.out _ hj.out)
                        refine HRC.out.mono ?_
                        rintro e w3 ⟨vr, rfl, ov, hb2⟩
                        rw [HRQ.out] at ov
                        obtain ⟨R, rc, rfl, hrn⟩ := ns_of_own ov
                        exact HK.out _ _ (hj.out.trans (hb2.mono hj.out.size)) hb2 ⟨R, rc, rfl, hrn⟩
                      refine ⟨?_, ?_⟩
                      · intro v w' hj hd hs K hK
                        have t20 : v 20 = _ := hd.out 20 (by kernel_rfl)
                        have t21 : v 21 = _ := hd.out 21 (by kernel_rfl)
                        have t22 : v 22 = _ := hd.out 22 (by kernel_rfl)
                        obtain ⟨R35, rc35, t35, q35⟩ : NumsSl rs (v 35) w' := hd.out 35 (by kernel_rfl)
                        have hk := hK.out
                        simp only [t20, t21, t22, t35, Act.put, List.setIfInBounds_toArray, List.set_cons_zero, List.set_cons_succ] at hk
                        have HK := Lib.hid hk
                        clear hd hs hk hK
                        go_simp
                        refine (HEV.out R35 rc35 _ hj.out q35.nums).mono ?_
                        rintro e w3 ⟨rfl, hb2⟩
                        exact HK.out _ _ (hj.out.trans (hb2.mono hj.out.size)) hb2 (show _ = _ from rfl)
                      refine ⟨?_, ?_⟩
                      · intro v w' hj hd hs K hK
                        have t20 : v 20 = _ := hd.out 20 (by kernel_rfl)
                        have t36 : v 36 = _ := hd.out 36 (by kernel_rfl)
                        have hk := hK.out
                        simp only [t20, t36, Act.put, List.setIfInBounds_toArray, List.set_cons_zero, List.set_cons_succ] at hk
                        have HK := Lib.hid hk
                        clear hd hs hk hK
                        go_simp
                        exact HK.out _ _ hj.out (Below.refl _ _) (show _ = _ from rfl)
                      trivial
                    case hend =>
                      intro vv w2 hj hd
                      have t37 : vv 37 = _ := hd.out 37 (of_decide_eq_true (by kernel_rfl))
                      simp only [t37]
                      have b1 := hj.out
                      clear hj hd t37
                      go_wp2_with fail
                      go_roundw
                      case rel => exact ⟨q + 1, by omega, by go_num, hbw.trans (b1.mono hbw.size), hb9.trans (b1.mono hb9.size), hbq.trans (b1.mono hbq.size)⟩
                      case measure => simp [intOf]; omega
                · have d4 : decide ((q : Int) < (s.length : Int)) = false := by simp; omega
                  go_wp2_with fail
                  go_roundw
                  case rel => exact ⟨k + 1, true, by omega, HE, rfl, by go_num, hbw, hb9⟩
                  case measure => simp [intOf]; omega
            | false =>
              have HE := Lib.hid (show Fm.sub s ts = (F.take (k + 1)).any fun s => Fm.sub s ts by rw [HE3.out]; rfl)
              have HSB := Lib.hid (subset_any C cc s B d ts wt (by omega) (by omega) x4 (hB.below hbt))
              clear HE3 HX
              go_wp2_with fail
              refine HSB.out.mono ?_
              rintro e wz ⟨rfl, rfl⟩
              go_wp2_with fail
              go_loopw [12] (fun j wr => ∃ q : Nat, q ≤ s.length ∧ j = .int .i64 q ∧ Below w.heap.size w wr ∧ Below w9.heap.size w9 wr ∧ Below wt.heap.size wt wr) (fun j _ => s.length - (intOf j).toNat)
              case atStart => exact ⟨0, by omega, rfl, hbt, hbt9, Below.refl _ _⟩
              case round =>
                obtain ⟨q, hq, rfl, hbw, hb9, hbq⟩ := hrel
                have hgq : g < wr.heap.size := Nat.lt_of_lt_of_le hgt hbq.size
                have c0q := (hbq.cell hgt).trans c0
                by_cases h4 : q < s.length
                · have d4 : decide ((q : Int) < (s.length : Int)) = true := by simp; omega
                  have ii0 : (0 : Int) ≤ (q : Int) := by omega
                  have ii1 : (q : Int) < (s.length : Int) := by omega
                  obtain ⟨y, hy⟩ : ∃ y, s[q]? = some y := ⟨_, List.getElem?_eq_getElem h4⟩
                  have HEF := Lib.hid (HSL.out y (List.mem_of_getElem? hy))
                  obtain ⟨gs, os, es, hgs, cs'⟩ := (x4.below hbq).at h4
                  have cs : wr.cell? ⟨gs, os + q, none⟩ = some (.int .i64 y) := by rw [cs']; congr 2; exact (List.getElem?_eq_some_iff.1 hy).2
                  subst es
                  obtain ⟨rs, hrs⟩ : ∃ rs, restL s [y] = rs := ⟨_, rfl⟩
                  have HRQ := Lib.hid hrs
                  have hrl : rs.length ≤ s.length := by rw [← hrs]; exact restL_len s [y]
                  have HRI := Lib.hid (show ∀ t ∈ rs, I64 t from fun t ht => by rw [← hrs] at ht; exact HSI.out t (mem_restL.1 ht).1)
                  rw [hrs] at HEF
                  have HRS := Lib.hid (show ∀ W, Below wr.heap.size wr W → Calls Try.prog 11 #[.slice (some ⟨gs, os, none⟩) s.length cc, .slice (some ⟨gs, os + q, none⟩) 1 (cc - q)] W (NumsOwn (restL s [y]) W) from
                    fun W hW => rest_any _ cc s _ (cc - q) [y] W (by omega) (by simp) ((x4.below hbq).below hW) (nums_sub (Nat.lt_of_lt_of_le hgs hW.size) ((hW.cell hgs).trans cs)))
                  have HEV := Lib.hid (show ∀ (R : Option Addr) (rc : Nat) W, Below wr.heap.size wr W → Nums W R rs → Calls Try.prog 10 #[.slice A l.length c, .int .i64 i, .slice R rs.length rc] W fun e w' => e = .returned (.bool false) ∧ Below W.heap.size W w' from
                    fun R rc W hW hR => by
                      have := eval_any A c l (i : Int) R rc rs W hg hF (by omega) (by omega) HRI.out ((hA.below hbw).below hW) hR
                      rw [HEF.out] at this
                      exact this)
                  have sl1 : (q : Int) ≤ (q : Int) + 1 := by omega
                  have sl2 : q + 1 ≤ cc := by omega
                  have sl3 : (q : Int) + 1 ≤ (cc : Int) := by omega
                  have sl4 : IntKind.i64.wrap ((q : Int) + 1) = (q : Int) + 1 := by rw [IntKind.wrap_i64]; omega
                  have sl5 : q + 1 - q = 1 := by omega
                  have sl7 : ¬ cc = q := by omega
                  have sl6 : ((q : Int) + 1).toNat = q + 1 := by omega
                  clear hrs cs'
                  rcases Nat.eq_zero_or_pos q with hq0 | hq0
                  · have z1 : decide ((0 : Int) < (q : Int)) = false := decide_eq_false (by omega)
                    have z1' : decide (0 < q) = false := decide_eq_false (by omega)
                    have HBD := Lib.hid (show ∀ W, Below wr.heap.size wr W → W.cell? ⟨g, o + k, none⟩ = some (.slice (some ⟨gs, os, none⟩) s.length cc) ∧ W.cell? ⟨gs, os + q, none⟩ = some (.int .i64 y) ∧ True from
                      fun W hW => ⟨(hW.cell hgq).trans c0q, (hW.cell hgs).trans cs, trivial⟩)
                    clear hy cs hq0
                    go_wp2_with fail
                    refine' wp_region_each _ (Below wr.heap.size wr) (Onward) (Vl :: Vl :: Vl :: Pin undef :: Pin undef :: Pin undef :: Pin undef :: Pin undef :: Pin undef :: Pin undef :: Pin undef :: Pin undef :: Pin undef :: Pin undef :: Pin undef :: Pin undef :: Pin undef :: Pin undef :: Pin undef :: Vl :: Vl :: Vl :: Vl :: Vl :: Vl :: Vl :: Vl :: Vl :: Vl :: Vl :: Vl :: Vl :: Vl :: Vl :: Vl :: NumsSl rs :: Vl :: Vl :: []) ?hF (by kernel_rfl) (by kernel_rfl) (by kernel_rfl) ((Below.refl _ _).drew) (lasting_cons (lasting_vl) (lasting_cons (lasting_vl) (lasting_cons (lasting_vl) (lasting_cons (lasting_pin _) (lasting_cons (lasting_pin _) (lasting_cons (lasting_pin _) (lasting_cons (lasting_pin _) (lasting_cons (lasting_pin _) (lasting_cons (lasting_pin _) (lasting_cons (lasting_pin _) (lasting_cons (lasting_pin _) (lasting_cons (lasting_pin _) (lasting_cons (lasting_pin _) (lasting_cons (lasting_pin _) (lasting_cons (lasting_pin _) (lasting_cons (lasting_pin _) (lasting_cons (lasting_pin _) (lasting_cons (lasting_pin _) (lasting_cons (lasting_pin _) (lasting_cons (lasting_vl) (lasting_cons (lasting_vl) (lasting_cons (lasting_vl) (lasting_cons (lasting_vl) (lasting_cons (lasting_vl) (lasting_cons (lasting_vl) (lasting_cons (lasting_vl) (lasting_cons (lasting_vl) (lasting_cons (lasting_vl) (lasting_cons (lasting_vl) (lasting_cons (lasting_vl) (lasting_cons (lasting_vl) (lasting_cons (lasting_vl) (lasting_cons (lasting_vl) (lasting_cons (lasting_vl) (lasting_cons (lasting_vl) (lasting_cons (lasting_numsSl _) (lasting_cons (lasting_vl) (lasting_cons (lasting_vl) (lasting_none))))))))))))))))))))))))))))))))))))))) ?hops ?hend
                    case hF => (intro v; simp only [over, Act.put, List.setIfInBounds_toArray, List.set_cons_zero, List.set_cons_succ, Nat.zero_add, Nat.reduceAdd]; exact rfl)
                    case hops =>
                      refine ⟨?_, ?_⟩
                      · intro v w' hj hd hs K hK
                        have hk := hK.out
                        simp only [Act.put, List.setIfInBounds_toArray, List.set_cons_zero, List.set_cons_succ] at hk
                        have HK := Lib.hid hk
                        clear hd hs hk hK
                        go_simp
                        exact HK.out _ _ hj.out (Below.refl _ _) (show _ = _ from rfl)
                      refine ⟨?_, ?_⟩
                      · intro v w' hj hd hs K hK
                        have t0 : v 0 = _ := hd.out 0 (by kernel_rfl)
                        have hk := hK.out
                        simp only [t0, Act.put, List.setIfInBounds_toArray, List.set_cons_zero, List.set_cons_succ] at hk
                        have HK := Lib.hid hk
                        clear hd hs hk hK
                        go_simp
                        exact HK.out _ _ hj.out (Below.refl _ _) (show _ = _ from rfl)
                      refine ⟨?_, ?_⟩
                      · intro v w' hj hd hs K hK
                        have t1 : v 1 = _ := hd.out 1 (by kernel_rfl)
                        have hk := hK.out
                        simp only [t1, Act.put, List.setIfInBounds_toArray, List.set_cons_zero, List.set_cons_succ] at hk
                        have HK := Lib.hid hk
                        clear hd hs hk hK
                        go_simp
                        exact HK.out _ _ hj.out (Below.refl _ _) (show _ = _ from rfl)
                      refine ⟨?_, ?_⟩
                      · intro v w' hj hd hs K hK
                        have t2 : v 2 = _ := hd.out 2 (by kernel_rfl)
                        have hk := hK.out
                        simp only [t2, Act.put, List.setIfInBounds_toArray, List.set_cons_zero, List.set_cons_succ] at hk
                        have HK := Lib.hid hk
                        clear hd hs hk hK
                        go_simp
                        exact HK.out _ _ hj.out (Below.refl _ _) (show _ = _ from rfl)
                      refine ⟨?_, ?_⟩
                      · intro v w' hj hd hs K hK
                        have t2 : v 2 = _ := hd.out 2 (by kernel_rfl)
                        have hk := hK.out
                        simp only [t2, Act.put, List.setIfInBounds_toArray, List.set_cons_zero, List.set_cons_succ] at hk
                        have HK := Lib.hid hk
                        clear hd hs hk hK
                        go_simp
                        exact HK.out _ _ hj.out (Below.refl _ _) (show _ = _ from rfl)
                      refine ⟨?_, ?_⟩
                      · intro v w' hj hd hs K hK
                        have t2 : v 2 = _ := hd.out 2 (by kernel_rfl)
                        have hk := hK.out
                        simp only [t2, Act.put, List.setIfInBounds_toArray, List.set_cons_zero, List.set_cons_succ] at hk
                        have HK := Lib.hid hk
                        clear hd hs hk hK
                        go_simp
                        exact HK.out _ _ hj.out (Below.refl _ _) (show _ = _ from rfl)
                      refine ⟨?_, ?_⟩
                      · intro v w' hj hd hs K hK
                        have t2 : v 2 = _ := hd.out 2 (by kernel_rfl)
                        have hk := hK.out
                        simp only [t2, Act.put, List.setIfInBounds_toArray, List.set_cons_zero, List.set_cons_succ] at hk
                        have HK := Lib.hid hk
                        clear hd hs hk hK
                        go_simp
                        exact HK.out _ _ hj.out (Below.refl _ _) (show _ = _ from rfl)
                      refine ⟨?_, ?_⟩
                      · intro v w' hj hd hs K hK
                        have t2 : v 2 = _ := hd.out 2 (by kernel_rfl)
                        have hk := hK.out
                        simp only [t2, Act.put, List.setIfInBounds_toArray, List.set_cons_zero, List.set_cons_succ] at hk
                        have HK := Lib.hid hk
                        clear hd hs hk hK
                        go_simp
                        exact HK.out _ _ hj.out (Below.refl _ _) (show _ = _ from rfl)
                      refine ⟨?_, ?_⟩
                      · intro v w' hj hd hs K hK
                        have t2 : v 2 = _ := hd.out 2 (by kernel_rfl)
                        have hk := hK.out
                        simp only [t2, Act.put, List.setIfInBounds_toArray, List.set_cons_zero, List.set_cons_succ] at hk
                        have HK := Lib.hid hk
                        clear hd hs hk hK
                        go_simp
                        exact HK.out _ _ hj.out (Below.refl _ _) (show _ = _ from rfl)
                      refine ⟨?_, ?_⟩
                      · intro v w' hj hd hs K hK
                        have t2 : v 2 = _ := hd.out 2 (by kernel_rfl)
                        have hk := hK.out
                        simp only [t2, Act.put, List.setIfInBounds_toArray, List.set_cons_zero, List.set_cons_succ] at hk
                        have HK := Lib.hid hk
                        clear hd hs hk hK
                        go_simp
                        exact HK.out _ _ hj.out (Below.refl _ _) (show _ = _ from rfl)
                      refine ⟨?_, ?_⟩
                      · intro v w' hj hd hs K hK
                        have t2 : v 2 = _ := hd.out 2 (by kernel_rfl)
                        have hk := hK.out
                        simp only [t2, Act.put, List.setIfInBounds_toArray, List.set_cons_zero, List.set_cons_succ] at hk
                        have HK := Lib.hid hk
                        clear hd hs hk hK
                        go_simp
                        exact HK.out _ _ hj.out (Below.refl _ _) (show _ = _ from rfl)
                      refine ⟨?_, ?_⟩
                      · intro v w' hj hd hs K hK
                        have t2 : v 2 = _ := hd.out 2 (by kernel_rfl)
                        have hk := hK.out
                        simp only [t2, Act.put, List.setIfInBounds_toArray, List.set_cons_zero, List.set_cons_succ] at hk
                        have HK := Lib.hid hk
                        clear hd hs hk hK
                        go_simp
                        exact HK.out _ _ hj.out (Below.refl _ _) (show _ = _ from rfl)
                      refine ⟨?_, ?_⟩
                      · intro v w' hj hd hs K hK
                        have t2 : v 2 = _ := hd.out 2 (by kernel_rfl)
                        have hk := hK.out
                        simp only [t2, Act.put, List.setIfInBounds_toArray, List.set_cons_zero, List.set_cons_succ] at hk
                        have HK := Lib.hid hk
                        clear hd hs hk hK
                        go_simp
                        exact HK.out _ _ hj.out (Below.refl _ _) (show _ = _ from rfl)
                      refine ⟨?_, ?_⟩
                      · intro v w' hj hd hs K hK
                        have t2 : v 2 = _ := hd.out 2 (by kernel_rfl)
                        have hk := hK.out
                        simp only [t2, Act.put, List.setIfInBounds_toArray, List.set_cons_zero, List.set_cons_succ] at hk
                        have HK := Lib.hid hk
                        clear hd hs hk hK
                        go_simp
                        exact HK.out _ _ hj.out (Below.refl _ _) (show _ = _ from rfl)
                      refine ⟨?_, ?_⟩
                      · intro v w' hj hd hs K hK
                        have t2 : v 2 = _ := hd.out 2 (by kernel_rfl)
                        have hk := hK.out
                        simp only [t2, Act.put, List.setIfInBounds_toArray, List.set_cons_zero, List.set_cons_succ] at hk
                        have HK := Lib.hid hk
                        clear hd hs hk hK
                        go_simp
                        exact HK.out _ _ hj.out (Below.refl _ _) (show _ = _ from rfl)
                      refine ⟨?_, ?_⟩
                      · intro v w' hj hd hs K hK
                        have t2 : v 2 = _ := hd.out 2 (by kernel_rfl)
                        have hk := hK.out
                        simp only [t2, Act.put, List.setIfInBounds_toArray, List.set_cons_zero, List.set_cons_succ] at hk
                        have HK := Lib.hid hk
                        clear hd hs hk hK
                        go_simp
                        exact HK.out _ _ hj.out (Below.refl _ _) (show _ = _ from rfl)
                      refine ⟨?_, ?_⟩
                      · intro v w' hj hd hs K hK
                        have t2 : v 2 = _ := hd.out 2 (by kernel_rfl)
                        have hk := hK.out
                        simp only [t2, Act.put, List.setIfInBounds_toArray, List.set_cons_zero, List.set_cons_succ] at hk
                        have HK := Lib.hid hk
                        clear hd hs hk hK
                        go_simp
                        exact HK.out _ _ hj.out (Below.refl _ _) (show _ = _ from rfl)
                      refine ⟨?_, ?_⟩
                      · intro v w' hj hd hs K hK
                        have t2 : v 2 = _ := hd.out 2 (by kernel_rfl)
                        have hk := hK.out
                        simp only [t2, Act.put, List.setIfInBounds_toArray, List.set_cons_zero, List.set_cons_succ] at hk
                        have HK := Lib.hid hk
                        clear hd hs hk hK
                        go_simp
                        exact HK.out _ _ hj.out (Below.refl _ _) (show _ = _ from rfl)
                      refine ⟨?_, ?_⟩
                      · intro v w' hj hd hs K hK
                        have t2 : v 2 = _ := hd.out 2 (by kernel_rfl)
                        have hk := hK.out
                        simp only [t2, Act.put, List.setIfInBounds_toArray, List.set_cons_zero, List.set_cons_succ] at hk
                        have HK := Lib.hid hk
                        clear hd hs hk hK
                        go_simp
                        exact HK.out _ _ hj.out (Below.refl _ _) (show _ = _ from rfl)
                      refine ⟨?_, ?_⟩
                      · intro v w' hj hd hs K hK
                        have t2 : v 2 = _ := hd.out 2 (by kernel_rfl)
                        have t18 : v 18 = _ := hd.out 18 (by kernel_rfl)
                        have hk := hK.out
                        simp only [t2, t18, Act.put, List.setIfInBounds_toArray, List.set_cons_zero, List.set_cons_succ] at hk
                        have HK := Lib.hid hk
                        clear hd hs hk hK
                        go_simp
                        exact HK.out _ _ hj.out (Below.refl _ _) (show _ = _ from rfl)
                      refine ⟨?_, ?_⟩
                      · intro v w' hj hd hs K hK
                        have t19 : v 19 = _ := hd.out 19 (by kernel_rfl)
                        have hk := hK.out
                        simp only [t19, Act.put, List.setIfInBounds_toArray, List.set_cons_zero, List.set_cons_succ] at hk
                        have HK := Lib.hid hk
                        clear hd hs hk hK
                        go_simp
                        exact HK.out _ _ hj.out (Below.refl _ _) (show _ = _ from rfl)
                      refine ⟨?_, ?_⟩
                      · intro v w' hj hd hs K hK
                        have t20 : v 20 = _ := hd.out 20 (by kernel_rfl)
                        have hk := hK.out
                        simp only [t20, Act.put, List.setIfInBounds_toArray, List.set_cons_zero, List.set_cons_succ] at hk
                        have HK := Lib.hid hk
                        clear hd hs hk hK
                        go_simp
                        exact HK.out _ _ hj.out (Below.refl _ _) (show _ = _ from rfl)
                      refine ⟨?_, ?_⟩
                      · intro v w' hj hd hs K hK
                        have t20 : v 20 = _ := hd.out 20 (by kernel_rfl)
                        have hk := hK.out
                        simp only [t20, Act.put, List.setIfInBounds_toArray, List.set_cons_zero, List.set_cons_succ] at hk
                        have HK := Lib.hid hk
                        clear hd hs hk hK
                        go_simp
                        exact HK.out _ _ hj.out (Below.refl _ _) (show _ = _ from rfl)
                      refine ⟨?_, ?_⟩
                      · intro v w' hj hd hs K hK
                        have t20 : v 20 = _ := hd.out 20 (by kernel_rfl)
                        have hk := hK.out
                        simp only [t20, Act.put, List.setIfInBounds_toArray, List.set_cons_zero, List.set_cons_succ] at hk
                        have HK := Lib.hid hk
                        clear hd hs hk hK
                        go_simp
                        exact HK.out _ _ hj.out (Below.refl _ _) (show _ = _ from rfl)
                      refine ⟨?_, ?_⟩
                      · intro v w' hj hd hs K hK
                        have t20 : v 20 = _ := hd.out 20 (by kernel_rfl)
                        have hk := hK.out
                        simp only [t20, Act.put, List.setIfInBounds_toArray, List.set_cons_zero, List.set_cons_succ] at hk
                        have HK := Lib.hid hk
                        clear hd hs hk hK
                        go_simp
                        exact HK.out _ _ hj.out (Below.refl _ _) (show _ = _ from rfl)
                      refine ⟨?_, ?_⟩
                      · intro v w' hj hd hs K hK
                        have t20 : v 20 = _ := hd.out 20 (by kernel_rfl)
                        have t23 : v 23 = _ := hd.out 23 (by kernel_rfl)
                        have t24 : v 24 = _ := hd.out 24 (by kernel_rfl)
                        have hk := hK.out
                        simp only [t20, t23, t24, Act.put, List.setIfInBounds_toArray, List.set_cons_zero, List.set_cons_succ] at hk
                        have HK := Lib.hid hk
                        clear hd hs hk hK
                        go_simp
                        exact HK.out _ _ hj.out (Below.refl _ _) (show _ = _ from rfl)
                      refine ⟨?_, ?_⟩
                      · intro v w' hj hd hs K hK
                        have t20 : v 20 = _ := hd.out 20 (by kernel_rfl)
                        have t25 : v 25 = _ := hd.out 25 (by kernel_rfl)
                        obtain ⟨x1, x2, x3⟩ := HBD.out _ hj.out
                        have hk := hK.out
                        simp only [t20, t25, Act.put, List.setIfInBounds_toArray, List.set_cons_zero, List.set_cons_succ] at hk
                        have HK := Lib.hid hk
                        clear hd hs hk hK
                        go_simp
                        exact HK.out _ _ hj.out (Below.refl _ _) (show _ = _ from rfl)
                      refine ⟨?_, ?_⟩
                      · intro v w' hj hd hs K hK
                        have t20 : v 20 = _ := hd.out 20 (by kernel_rfl)
                        have hk := hK.out
                        simp only [t20, Act.put, List.setIfInBounds_toArray, List.set_cons_zero, List.set_cons_succ] at hk
                        have HK := Lib.hid hk
                        clear hd hs hk hK
                        go_simp
                        exact HK.out _ _ hj.out (Below.refl _ _) (show _ = _ from rfl)
                      refine ⟨?_, ?_⟩
                      · intro v w' hj hd hs K hK
                        have t20 : v 20 = _ := hd.out 20 (by kernel_rfl)
                        have hk := hK.out
                        simp only [t20, Act.put, List.setIfInBounds_toArray, List.set_cons_zero, List.set_cons_succ] at hk
                        have HK := Lib.hid hk
                        clear hd hs hk hK
                        go_simp
                        exact HK.out _ _ hj.out (Below.refl _ _) (show _ = _ from rfl)
                      refine ⟨?_, ?_⟩
                      · intro v w' hj hd hs K hK
                        have t20 : v 20 = _ := hd.out 20 (by kernel_rfl)
                        have t27 : v 27 = _ := hd.out 27 (by kernel_rfl)
                        have t28 : v 28 = _ := hd.out 28 (by kernel_rfl)
                        have hk := hK.out
                        simp only [t20, t27, t28, Act.put, List.setIfInBounds_toArray, List.set_cons_zero, List.set_cons_succ] at hk
                        have HK := Lib.hid hk
                        clear hd hs hk hK
                        go_simp
                        exact HK.out _ _ hj.out (Below.refl _ _) (show _ = _ from rfl)
                      refine ⟨?_, ?_⟩
                      · intro v w' hj hd hs K hK
                        have t20 : v 20 = _ := hd.out 20 (by kernel_rfl)
                        have t29 : v 29 = _ := hd.out 29 (by kernel_rfl)
                        obtain ⟨x1, x2, x3⟩ := HBD.out _ hj.out
                        have hk := hK.out
                        simp only [t20, t29, Act.put, List.setIfInBounds_toArray, List.set_cons_zero, List.set_cons_succ] at hk
                        have HK := Lib.hid hk
                        clear hd hs hk hK
                        go_simp
                        exact HK.out _ _ hj.out (Below.refl _ _) (show _ = _ from rfl)
                      refine ⟨?_, ?_⟩
                      · intro v w' hj hd hs K hK
                        have t20 : v 20 = _ := hd.out 20 (by kernel_rfl)
                        have hk := hK.out
                        simp only [t20, Act.put, List.setIfInBounds_toArray, List.set_cons_zero, List.set_cons_succ] at hk
                        have HK := Lib.hid hk
                        clear hd hs hk hK
                        go_simp
                        exact HK.out _ _ hj.out (Below.refl _ _) (show _ = _ from rfl)
                      refine ⟨?_, ?_⟩
                      · intro v w' hj hd hs K hK
                        have t20 : v 20 = _ := hd.out 20 (by kernel_rfl)
                        have hk := hK.out
                        simp only [t20, Act.put, List.setIfInBounds_toArray, List.set_cons_zero, List.set_cons_succ] at hk
                        have HK := Lib.hid hk
                        clear hd hs hk hK
                        go_simp
                        exact HK.out _ _ hj.out (Below.refl _ _) (show _ = _ from rfl)
                      refine ⟨?_, ?_⟩
                      · intro v w' hj hd hs K hK
                        have t20 : v 20 = _ := hd.out 20 (by kernel_rfl)
                        have t32 : v 32 = _ := hd.out 32 (by kernel_rfl)
                        have hk := hK.out
                        simp only [t20, t32, Act.put, List.setIfInBounds_toArray, List.set_cons_zero, List.set_cons_succ] at hk
                        have HK := Lib.hid hk
                        clear hd hs hk hK
                        go_simp
                        exact HK.out _ _ hj.out (Below.refl _ _) (show _ = _ from rfl)
                      refine ⟨?_, ?_⟩
                      · intro v w' hj hd hs K hK
                        have t20 : v 20 = _ := hd.out 20 (by kernel_rfl)
                        have t30 : v 30 = _ := hd.out 30 (by kernel_rfl)
                        have t31 : v 31 = _ := hd.out 31 (by kernel_rfl)
                        have t33 : v 33 = _ := hd.out 33 (by kernel_rfl)
                        have hk := hK.out
                        simp only [t20, t30, t31, t33, Act.put, List.setIfInBounds_toArray, List.set_cons_zero, List.set_cons_succ] at hk
                        have HK := Lib.hid hk
                        clear hd hs hk hK
                        go_simp
                        exact HK.out _ _ hj.out (Below.refl _ _) (show _ = _ from rfl)
                      refine ⟨?_, ?_⟩
                      · intro v w' hj hd hs K hK
                        have t20 : v 20 = _ := hd.out 20 (by kernel_rfl)
                        have t26 : v 26 = _ := hd.out 26 (by kernel_rfl)
                        have t34 : v 34 = _ := hd.out 34 (by kernel_rfl)
                        obtain ⟨x1, x2, x3⟩ := HBD.out _ hj.out
                        have hk := hK.out
                        simp only [t20, t26, t34, Act.put, List.setIfInBounds_toArray, List.set_cons_zero, List.set_cons_succ] at hk
                        have HK := Lib.hid hk
                        clear hd hs hk hK
                        go_simp
                        have HRC := Lib.hid (HRS.out _ hj.out)
                        refine HRC.out.mono ?_
                        rintro e w3 ⟨vr, rfl, ov, hb2⟩
                        rw [HRQ.out] at ov
                        obtain ⟨R, rc, rfl, hrn⟩ := ns_of_own ov
                        exact HK.out _ _ (hj.out.trans (hb2.mono hj.out.size)) hb2 ⟨R, rc, rfl, hrn⟩
                      refine ⟨?_, ?_⟩
                      · intro v w' hj hd hs K hK
                        have t20 : v 20 = _ := hd.out 20 (by kernel_rfl)
                        have t21 : v 21 = _ := hd.out 21 (by kernel_rfl)
                        have t22 : v 22 = _ := hd.out 22 (by kernel_rfl)
                        obtain ⟨R35, rc35, t35, q35⟩ : NumsSl rs (v 35) w' := hd.out 35 (by kernel_rfl)
                        have hk := hK.out
                        simp only [t20, t21, t22, t35, Act.put, List.setIfInBounds_toArray, List.set_cons_zero, List.set_cons_succ] at hk
                        have HK := Lib.hid hk
                        clear hd hs hk hK
                        go_simp
                        refine (HEV.out R35 rc35 _ hj.out q35.nums).mono ?_
                        rintro e w3 ⟨rfl, hb2⟩
                        exact HK.out _ _ (hj.out.trans (hb2.mono hj.out.size)) hb2 (show _ = _ from rfl)
                      refine ⟨?_, ?_⟩
                      · intro v w' hj hd hs K hK
                        have t20 : v 20 = _ := hd.out 20 (by kernel_rfl)
                        have t36 : v 36 = _ := hd.out 36 (by kernel_rfl)
                        have hk := hK.out
                        simp only [t20, t36, Act.put, List.setIfInBounds_toArray, List.set_cons_zero, List.set_cons_succ] at hk
                        have HK := Lib.hid hk
                        clear hd hs hk hK
                        go_simp
                        exact HK.out _ _ hj.out (Below.refl _ _) (show _ = _ from rfl)
                      trivial
                    case hend =>
                      intro vv w2 hj hd
                      have t37 : vv 37 = _ := hd.out 37 (of_decide_eq_true (by kernel_rfl))
                      simp only [t37]
                      have b1 := hj.out
                      clear hj hd t37
                      go_wp2_with fail
                      go_roundw
                      case rel => exact ⟨q + 1, by omega, by go_num, hbw.trans (b1.mono hbw.size), hb9.trans (b1.mono hb9.size), hbq.trans (b1.mono hbq.size)⟩
                      case measure => simp [intOf]; omega
                  · obtain ⟨q', hq'⟩ : ∃ q', q = q' + 1 := ⟨q - 1, by omega⟩
                    have z1 : decide ((0 : Int) < (q : Int)) = true := decide_eq_true (by omega)
                    have z1' : decide (0 < q) = true := decide_eq_true (by omega)
                    obtain ⟨u, hu⟩ : ∃ u, s[q']? = some u := ⟨_, List.getElem?_eq_getElem (by omega)⟩
                    have hlt := inc_at HSC.out hu (by rw [← hq']; exact hy)
                    have z2 : decide (y ≤ u) = false := by simp; omega
                    obtain ⟨gu, ou, eu, hgu, cu'⟩ := (x4.below hbq).at (show q' < s.length by omega)
                    have cu : wr.cell? ⟨gs, os + q', none⟩ = some (.int .i64 u) := by
                      have eu' := Option.some.inj eu
                      injection eu' with e2 e3
                      subst e2; subst e3
                      rw [cu']; congr 2; exact (List.getElem?_eq_some_iff.1 hu).2
                    have n0 : (q : Int) - 1 = (q' : Int) := by omega
                    have n1 : IntKind.i64.wrap ((q : Int) - 1) = (q' : Int) := by rw [IntKind.wrap_i64]; omega
                    have n2 : IntKind.i64.wrap (q' : Int) = (q' : Int) := by rw [IntKind.wrap_i64]; omega
                    have jj0 : (0 : Int) ≤ (q' : Int) := by omega
                    have jj1 : (q' : Int) < (s.length : Int) := by omega
                    have HBD := Lib.hid (show ∀ W, Below wr.heap.size wr W → W.cell? ⟨g, o + k, none⟩ = some (.slice (some ⟨gs, os, none⟩) s.length cc) ∧ W.cell? ⟨gs, os + q, none⟩ = some (.int .i64 y) ∧ W.cell? ⟨gs, os + q', none⟩ = some (.int .i64 u) from
                      fun W hW => ⟨(hW.cell hgq).trans c0q, (hW.cell hgs).trans cs, (hW.cell hgs).trans cu⟩)
                    clear hy hu hlt eu cu' cs cu hq0 hq'
                    go_wp2_with fail
                    refine' wp_region_each _ (Below wr.heap.size wr) (Onward) (Vl :: Vl :: Vl :: Vl :: Vl :: Vl :: Vl :: Vl :: Vl :: Vl :: Vl :: Vl :: Vl :: Vl :: Vl :: Vl :: Vl :: Vl :: Vl :: Vl :: Vl :: Vl :: Vl :: Vl :: Vl :: Vl :: Vl :: Vl :: Vl :: Vl :: Vl :: Vl :: Vl :: Vl :: Vl :: NumsSl rs :: Vl :: Vl :: []) ?hF (by kernel_rfl) (by kernel_rfl) (by kernel_rfl) ((Below.refl _ _).drew) (lasting_cons (lasting_vl) (lasting_cons (lasting_vl) (lasting_cons (lasting_vl) (lasting_cons (lasting_vl) (lasting_cons (lasting_vl) (lasting_cons (lasting_vl) (lasting_cons (lasting_vl) (lasting_cons (lasting_vl) (lasting_cons (lasting_vl) (lasting_cons (lasting_vl) (lasting_cons (lasting_vl) (lasting_cons (lasting_vl) (lasting_cons (lasting_vl) (lasting_cons (lasting_vl) (lasting_cons (lasting_vl) (lasting_cons (lasting_vl) (lasting_cons (lasting_vl) (lasting_cons (lasting_vl) (lasting_cons (lasting_vl) (lasting_cons (lasting_vl) (lasting_cons (lasting_vl) (lasting_cons (lasting_vl) (lasting_cons (lasting_vl) (lasting_cons (lasting_vl) (lasting_cons (lasting_vl) (lasting_cons (lasting_vl) (lasting_cons (lasting_vl) (lasting_cons (lasting_vl) (lasting_cons (lasting_vl) (lasting_cons (lasting_vl) (lasting_cons (lasting_vl) (lasting_cons (lasting_vl) (lasting_cons (lasting_vl) (lasting_cons (lasting_vl) (lasting_cons (lasting_vl) (lasting_cons (lasting_numsSl _) (lasting_cons (lasting_vl) (lasting_cons (lasting_vl) (lasting_none))))))))))))))))))))))))))))))))))))))) ?hops ?hend
                    case hF => (intro v; simp only [over, Act.put, List.setIfInBounds_toArray, List.set_cons_zero, List.set_cons_succ, Nat.zero_add, Nat.reduceAdd]; exact rfl)
                    case hops =>
                      refine ⟨?_, ?_⟩
                      · intro v w' hj hd hs K hK
                        have hk := hK.out
                        simp only [Act.put, List.setIfInBounds_toArray, List.set_cons_zero, List.set_cons_succ] at hk
                        have HK := Lib.hid hk
                        clear hd hs hk hK
                        go_simp
                        exact HK.out _ _ hj.out (Below.refl _ _) (show _ = _ from rfl)
                      refine ⟨?_, ?_⟩
                      · intro v w' hj hd hs K hK
                        have t0 : v 0 = _ := hd.out 0 (by kernel_rfl)
                        have hk := hK.out
                        simp only [t0, Act.put, List.setIfInBounds_toArray, List.set_cons_zero, List.set_cons_succ] at hk
                        have HK := Lib.hid hk
                        clear hd hs hk hK
                        go_simp
                        exact HK.out _ _ hj.out (Below.refl _ _) (show _ = _ from rfl)
                      refine ⟨?_, ?_⟩
                      · intro v w' hj hd hs K hK
                        have t1 : v 1 = _ := hd.out 1 (by kernel_rfl)
                        have hk := hK.out
                        simp only [t1, Act.put, List.setIfInBounds_toArray, List.set_cons_zero, List.set_cons_succ] at hk
                        have HK := Lib.hid hk
                        clear hd hs hk hK
                        go_simp
                        exact HK.out _ _ hj.out (Below.refl _ _) (show _ = _ from rfl)
                      refine ⟨?_, ?_⟩
                      · intro v w' hj hd hs K hK
                        have t2 : v 2 = _ := hd.out 2 (by kernel_rfl)
                        have hk := hK.out
                        simp only [t2, Act.put, List.setIfInBounds_toArray, List.set_cons_zero, List.set_cons_succ] at hk
                        have HK := Lib.hid hk
                        clear hd hs hk hK
                        go_simp
                        exact HK.out _ _ hj.out (Below.refl _ _) (show _ = _ from rfl)
                      refine ⟨?_, ?_⟩
                      · intro v w' hj hd hs K hK
                        have t2 : v 2 = _ := hd.out 2 (by kernel_rfl)
                        have hk := hK.out
                        simp only [t2, Act.put, List.setIfInBounds_toArray, List.set_cons_zero, List.set_cons_succ] at hk
                        have HK := Lib.hid hk
                        clear hd hs hk hK
                        go_simp
                        exact HK.out _ _ hj.out (Below.refl _ _) (show _ = _ from rfl)
                      refine ⟨?_, ?_⟩
                      · intro v w' hj hd hs K hK
                        have t2 : v 2 = _ := hd.out 2 (by kernel_rfl)
                        have t3 : v 3 = _ := hd.out 3 (by kernel_rfl)
                        have t4 : v 4 = _ := hd.out 4 (by kernel_rfl)
                        have hk := hK.out
                        simp only [t2, t3, t4, Act.put, List.setIfInBounds_toArray, List.set_cons_zero, List.set_cons_succ] at hk
                        have HK := Lib.hid hk
                        clear hd hs hk hK
                        go_simp
                        exact HK.out _ _ hj.out (Below.refl _ _) (show _ = _ from rfl)
                      refine ⟨?_, ?_⟩
                      · intro v w' hj hd hs K hK
                        have t2 : v 2 = _ := hd.out 2 (by kernel_rfl)
                        have t5 : v 5 = _ := hd.out 5 (by kernel_rfl)
                        obtain ⟨x1, x2, x3⟩ := HBD.out _ hj.out
                        have hk := hK.out
                        simp only [t2, t5, Act.put, List.setIfInBounds_toArray, List.set_cons_zero, List.set_cons_succ] at hk
                        have HK := Lib.hid hk
                        clear hd hs hk hK
                        go_simp
                        exact HK.out _ _ hj.out (Below.refl _ _) (show _ = _ from rfl)
                      refine ⟨?_, ?_⟩
                      · intro v w' hj hd hs K hK
                        have t2 : v 2 = _ := hd.out 2 (by kernel_rfl)
                        have hk := hK.out
                        simp only [t2, Act.put, List.setIfInBounds_toArray, List.set_cons_zero, List.set_cons_succ] at hk
                        have HK := Lib.hid hk
                        clear hd hs hk hK
                        go_simp
                        exact HK.out _ _ hj.out (Below.refl _ _) (show _ = _ from rfl)
                      refine ⟨?_, ?_⟩
                      · intro v w' hj hd hs K hK
                        have t2 : v 2 = _ := hd.out 2 (by kernel_rfl)
                        have t6 : v 6 = _ := hd.out 6 (by kernel_rfl)
                        have t7 : v 7 = _ := hd.out 7 (by kernel_rfl)
                        have hk := hK.out
                        simp only [t2, t6, t7, Act.put, List.setIfInBounds_toArray, List.set_cons_zero, List.set_cons_succ] at hk
                        have HK := Lib.hid hk
                        clear hd hs hk hK
                        go_simp
                        exact HK.out _ _ hj.out (Below.refl _ _) (show _ = _ from rfl)
                      refine ⟨?_, ?_⟩
                      · intro v w' hj hd hs K hK
                        have t2 : v 2 = _ := hd.out 2 (by kernel_rfl)
                        have t8 : v 8 = _ := hd.out 8 (by kernel_rfl)
                        obtain ⟨x1, x2, x3⟩ := HBD.out _ hj.out
                        have hk := hK.out
                        simp only [t2, t8, Act.put, List.setIfInBounds_toArray, List.set_cons_zero, List.set_cons_succ] at hk
                        have HK := Lib.hid hk
                        clear hd hs hk hK
                        go_simp
                        exact HK.out _ _ hj.out (Below.refl _ _) (show _ = _ from rfl)
                      refine ⟨?_, ?_⟩
                      · intro v w' hj hd hs K hK
                        have t2 : v 2 = _ := hd.out 2 (by kernel_rfl)
                        have hk := hK.out
                        simp only [t2, Act.put, List.setIfInBounds_toArray, List.set_cons_zero, List.set_cons_succ] at hk
                        have HK := Lib.hid hk
                        clear hd hs hk hK
                        go_simp
                        exact HK.out _ _ hj.out (Below.refl _ _) (show _ = _ from rfl)
                      refine ⟨?_, ?_⟩
                      · intro v w' hj hd hs K hK
                        have t2 : v 2 = _ := hd.out 2 (by kernel_rfl)
                        have hk := hK.out
                        simp only [t2, Act.put, List.setIfInBounds_toArray, List.set_cons_zero, List.set_cons_succ] at hk
                        have HK := Lib.hid hk
                        clear hd hs hk hK
                        go_simp
                        exact HK.out _ _ hj.out (Below.refl _ _) (show _ = _ from rfl)
                      refine ⟨?_, ?_⟩
                      · intro v w' hj hd hs K hK
                        have t2 : v 2 = _ := hd.out 2 (by kernel_rfl)
                        have t10 : v 10 = _ := hd.out 10 (by kernel_rfl)
                        have t11 : v 11 = _ := hd.out 11 (by kernel_rfl)
                        have hk := hK.out
                        simp only [t2, t10, t11, Act.put, List.setIfInBounds_toArray, List.set_cons_zero, List.set_cons_succ] at hk
                        have HK := Lib.hid hk
                        clear hd hs hk hK
                        go_simp
                        exact HK.out _ _ hj.out (Below.refl _ _) (show _ = _ from rfl)
                      refine ⟨?_, ?_⟩
                      · intro v w' hj hd hs K hK
                        have t2 : v 2 = _ := hd.out 2 (by kernel_rfl)
                        have t12 : v 12 = _ := hd.out 12 (by kernel_rfl)
                        obtain ⟨x1, x2, x3⟩ := HBD.out _ hj.out
                        have hk := hK.out
                        simp only [t2, t12, Act.put, List.setIfInBounds_toArray, List.set_cons_zero, List.set_cons_succ] at hk
                        have HK := Lib.hid hk
                        clear hd hs hk hK
                        go_simp
                        exact HK.out _ _ hj.out (Below.refl _ _) (show _ = _ from rfl)
                      refine ⟨?_, ?_⟩
                      · intro v w' hj hd hs K hK
                        have t2 : v 2 = _ := hd.out 2 (by kernel_rfl)
                        have hk := hK.out
                        simp only [t2, Act.put, List.setIfInBounds_toArray, List.set_cons_zero, List.set_cons_succ] at hk
                        have HK := Lib.hid hk
                        clear hd hs hk hK
                        go_simp
                        exact HK.out _ _ hj.out (Below.refl _ _) (show _ = _ from rfl)
                      refine ⟨?_, ?_⟩
                      · intro v w' hj hd hs K hK
                        have t2 : v 2 = _ := hd.out 2 (by kernel_rfl)
                        have t14 : v 14 = _ := hd.out 14 (by kernel_rfl)
                        have hk := hK.out
                        simp only [t2, t14, Act.put, List.setIfInBounds_toArray, List.set_cons_zero, List.set_cons_succ] at hk
                        have HK := Lib.hid hk
                        clear hd hs hk hK
                        go_simp
                        exact HK.out _ _ hj.out (Below.refl _ _) (show _ = _ from rfl)
                      refine ⟨?_, ?_⟩
                      · intro v w' hj hd hs K hK
                        have t2 : v 2 = _ := hd.out 2 (by kernel_rfl)
                        have t13 : v 13 = _ := hd.out 13 (by kernel_rfl)
                        have t15 : v 15 = _ := hd.out 15 (by kernel_rfl)
                        have hk := hK.out
                        simp only [t2, t13, t15, Act.put, List.setIfInBounds_toArray, List.set_cons_zero, List.set_cons_succ] at hk
                        have HK := Lib.hid hk
                        clear hd hs hk hK
                        go_simp
                        exact HK.out _ _ hj.out (Below.refl _ _) (show _ = _ from rfl)
                      refine ⟨?_, ?_⟩
                      · intro v w' hj hd hs K hK
                        have t2 : v 2 = _ := hd.out 2 (by kernel_rfl)
                        have t16 : v 16 = _ := hd.out 16 (by kernel_rfl)
                        obtain ⟨x1, x2, x3⟩ := HBD.out _ hj.out
                        have hk := hK.out
                        simp only [t2, t16, Act.put, List.setIfInBounds_toArray, List.set_cons_zero, List.set_cons_succ] at hk
                        have HK := Lib.hid hk
                        clear hd hs hk hK
                        go_simp
                        exact HK.out _ _ hj.out (Below.refl _ _) (show _ = _ from rfl)
                      refine ⟨?_, ?_⟩
                      · intro v w' hj hd hs K hK
                        have t2 : v 2 = _ := hd.out 2 (by kernel_rfl)
                        have t9 : v 9 = _ := hd.out 9 (by kernel_rfl)
                        have t17 : v 17 = _ := hd.out 17 (by kernel_rfl)
                        have hk := hK.out
                        simp only [t2, t9, t17, Act.put, List.setIfInBounds_toArray, List.set_cons_zero, List.set_cons_succ] at hk
                        have HK := Lib.hid hk
                        clear hd hs hk hK
                        go_simp
                        exact HK.out _ _ hj.out (Below.refl _ _) (show _ = _ from rfl)
                      refine ⟨?_, ?_⟩
                      · intro v w' hj hd hs K hK
                        have t2 : v 2 = _ := hd.out 2 (by kernel_rfl)
                        have t18 : v 18 = _ := hd.out 18 (by kernel_rfl)
                        have hk := hK.out
                        simp only [t2, t18, Act.put, List.setIfInBounds_toArray, List.set_cons_zero, List.set_cons_succ] at hk
                        have HK := Lib.hid hk
                        clear hd hs hk hK
                        go_simp
                        exact HK.out _ _ hj.out (Below.refl _ _) (show _ = _ from rfl)
                      refine ⟨?_, ?_⟩
                      · intro v w' hj hd hs K hK
                        have t19 : v 19 = _ := hd.out 19 (by kernel_rfl)
                        have hk := hK.out
                        simp only [t19, Act.put, List.setIfInBounds_toArray, List.set_cons_zero, List.set_cons_succ] at hk
                        have HK := Lib.hid hk
                        clear hd hs hk hK
                        go_simp
                        exact HK.out _ _ hj.out (Below.refl _ _) (show _ = _ from rfl)
                      refine ⟨?_, ?_⟩
                      · intro v w' hj hd hs K hK
                        have t20 : v 20 = _ := hd.out 20 (by kernel_rfl)
                        have hk := hK.out
                        simp only [t20, Act.put, List.setIfInBounds_toArray, List.set_cons_zero, List.set_cons_succ] at hk
                        have HK := Lib.hid hk
                        clear hd hs hk hK
                        go_simp
                        exact HK.out _ _ hj.out (Below.refl _ _) (show _ = _ from rfl)
                      refine ⟨?_, ?_⟩
                      · intro v w' hj hd hs K hK
                        have t20 : v 20 = _ := hd.out 20 (by kernel_rfl)
                        have hk := hK.out
                        simp only [t20, Act.put, List.setIfInBounds_toArray, List.set_cons_zero, List.set_cons_succ] at hk
                        have HK := Lib.hid hk
                        clear hd hs hk hK
                        go_simp
                        exact HK.out _ _ hj.out (Below.refl _ _) (show _ = _ from rfl)
                      refine ⟨?_, ?_⟩
                      · intro v w' hj hd hs K hK
                        have t20 : v 20 = _ := hd.out 20 (by kernel_rfl)
                        have hk := hK.out
                        simp only [t20, Act.put, List.setIfInBounds_toArray, List.set_cons_zero, List.set_cons_succ] at hk
                        have HK := Lib.hid hk
                        clear hd hs hk hK
                        go_simp
                        exact HK.out _ _ hj.out (Below.refl _ _) (show _ = _ from rfl)
                      refine ⟨?_, ?_⟩
                      · intro v w' hj hd hs K hK
                        have t20 : v 20 = _ := hd.out 20 (by kernel_rfl)
                        have hk := hK.out
                        simp only [t20, Act.put, List.setIfInBounds_toArray, List.set_cons_zero, List.set_cons_succ] at hk
                        have HK := Lib.hid hk
                        clear hd hs hk hK
                        go_simp
                        exact HK.out _ _ hj.out (Below.refl _ _) (show _ = _ from rfl)
                      refine ⟨?_, ?_⟩
                      · intro v w' hj hd hs K hK
                        have t20 : v 20 = _ := hd.out 20 (by kernel_rfl)
                        have t23 : v 23 = _ := hd.out 23 (by kernel_rfl)
                        have t24 : v 24 = _ := hd.out 24 (by kernel_rfl)
                        have hk := hK.out
                        simp only [t20, t23, t24, Act.put, List.setIfInBounds_toArray, List.set_cons_zero, List.set_cons_succ] at hk
                        have HK := Lib.hid hk
                        clear hd hs hk hK
                        go_simp
                        exact HK.out _ _ hj.out (Below.refl _ _) (show _ = _ from rfl)
                      refine ⟨?_, ?_⟩
                      · intro v w' hj hd hs K hK
                        have t20 : v 20 = _ := hd.out 20 (by kernel_rfl)
                        have t25 : v 25 = _ := hd.out 25 (by kernel_rfl)
                        obtain ⟨x1, x2, x3⟩ := HBD.out _ hj.out
                        have hk := hK.out
                        simp only [t20, t25, Act.put, List.setIfInBounds_toArray, List.set_cons_zero, List.set_cons_succ] at hk
                        have HK := Lib.hid hk
                        clear hd hs hk hK
                        go_simp
                        exact HK.out _ _ hj.out (Below.refl _ _) (show _ = _ from rfl)
                      refine ⟨?_, ?_⟩
                      · intro v w' hj hd hs K hK
                        have t20 : v 20 = _ := hd.out 20 (by kernel_rfl)
                        have hk := hK.out
                        simp only [t20, Act.put, List.setIfInBounds_toArray, List.set_cons_zero, List.set_cons_succ] at hk
                        have HK := Lib.hid hk
                        clear hd hs hk hK
                        go_simp
                        exact HK.out _ _ hj.out (Below.refl _ _) (show _ = _ from rfl)
                      refine ⟨?_, ?_⟩
                      · intro v w' hj hd hs K hK
                        have t20 : v 20 = _ := hd.out 20 (by kernel_rfl)
                        have hk := hK.out
                        simp only [t20, Act.put, List.setIfInBounds_toArray, List.set_cons_zero, List.set_cons_succ] at hk
                        have HK := Lib.hid hk
                        clear hd hs hk hK
                        go_simp
                        exact HK.out _ _ hj.out (Below.refl _ _) (show _ = _ from rfl)
                      refine ⟨?_, ?_⟩
                      · intro v w' hj hd hs K hK
                        have t20 : v 20 = _ := hd.out 20 (by kernel_rfl)
                        have t27 : v 27 = _ := hd.out 27 (by kernel_rfl)
                        have t28 : v 28 = _ := hd.out 28 (by kernel_rfl)
                        have hk := hK.out
                        simp only [t20, t27, t28, Act.put, List.setIfInBounds_toArray, List.set_cons_zero, List.set_cons_succ] at hk
                        have HK := Lib.hid hk
                        clear hd hs hk hK
                        go_simp
                        exact HK.out _ _ hj.out (Below.refl _ _) (show _ = _ from rfl)
                      refine ⟨?_, ?_⟩
                      · intro v w' hj hd hs K hK
                        have t20 : v 20 = _ := hd.out 20 (by kernel_rfl)
                        have t29 : v 29 = _ := hd.out 29 (by kernel_rfl)
                        obtain ⟨x1, x2, x3⟩ := HBD.out _ hj.out
                        have hk := hK.out
                        simp only [t20, t29, Act.put, List.setIfInBounds_toArray, List.set_cons_zero, List.set_cons_succ] at hk
                        have HK := Lib.hid hk
                        clear hd hs hk hK
                        go_simp
                        exact HK.out _ _ hj.out (Below.refl _ _) (show _ = _ from rfl)
                      refine ⟨?_, ?_⟩
                      · intro v w' hj hd hs K hK
                        have t20 : v 20 = _ := hd.out 20 (by kernel_rfl)
                        have hk := hK.out
                        simp only [t20, Act.put, List.setIfInBounds_toArray, List.set_cons_zero, List.set_cons_succ] at hk
                        have HK := Lib.hid hk
                        clear hd hs hk hK
                        go_simp
                        exact HK.out _ _ hj.out (Below.refl _ _) (show _ = _ from rfl)
                      refine ⟨?_, ?_⟩
                      · intro v w' hj hd hs K hK
                        have t20 : v 20 = _ := hd.out 20 (by kernel_rfl)
                        have hk := hK.out
                        simp only [t20, Act.put, List.setIfInBounds_toArray, List.set_cons_zero, List.set_cons_succ] at hk
                        have HK := Lib.hid hk
                        clear hd hs hk hK
                        go_simp
                        exact HK.out _ _ hj.out (Below.refl _ _) (show _ = _ from rfl)
                      refine ⟨?_, ?_⟩
                      · intro v w' hj hd hs K hK
                        have t20 : v 20 = _ := hd.out 20 (by kernel_rfl)
                        have t32 : v 32 = _ := hd.out 32 (by kernel_rfl)
                        have hk := hK.out
                        simp only [t20, t32, Act.put, List.setIfInBounds_toArray, List.set_cons_zero, List.set_cons_succ] at hk
                        have HK := Lib.hid hk
                        clear hd hs hk hK
                        go_simp
                        exact HK.out _ _ hj.out (Below.refl _ _) (show _ = _ from rfl)
                      refine ⟨?_, ?_⟩
                      · intro v w' hj hd hs K hK
                        have t20 : v 20 = _ := hd.out 20 (by kernel_rfl)
                        have t30 : v 30 = _ := hd.out 30 (by kernel_rfl)
                        have t31 : v 31 = _ := hd.out 31 (by kernel_rfl)
                        have t33 : v 33 = _ := hd.out 33 (by kernel_rfl)
                        have hk := hK.out
                        simp only [t20, t30, t31, t33, Act.put, List.setIfInBounds_toArray, List.set_cons_zero, List.set_cons_succ] at hk
                        have HK := Lib.hid hk
                        clear hd hs hk hK
                        go_simp
                        exact HK.out _ _ hj.out (Below.refl _ _) (show _ = _ from rfl)
                      refine ⟨?_, ?_⟩
                      · intro v w' hj hd hs K hK
                        have t20 : v 20 = _ := hd.out 20 (by kernel_rfl)
                        have t26 : v 26 = _ := hd.out 26 (by kernel_rfl)
                        have t34 : v 34 = _ := hd.out 34 (by kernel_rfl)
                        obtain ⟨x1, x2, x3⟩ := HBD.out _ hj.out
                        have hk := hK.out
                        simp only [t20, t26, t34, Act.put, List.setIfInBounds_toArray, List.set_cons_zero, List.set_cons_succ] at hk
                        have HK := Lib.hid hk
                        clear hd hs hk hK
                        go_simp
                        have HRC := Lib.hid (HRS.out _ hj.out)
                        refine HRC.out.mono ?_
                        rintro e w3 ⟨vr, rfl, ov, hb2⟩
                        rw [HRQ.out] at ov
                        obtain ⟨R, rc, rfl, hrn⟩ := ns_of_own ov
                        exact HK.out _ _ (hj.out.trans (hb2.mono hj.out.size)) hb2 ⟨R, rc, rfl, hrn⟩
                      refine ⟨?_, ?_⟩
                      · intro v w' hj hd hs K hK
                        have t20 : v 20 = _ := hd.out 20 (by kernel_rfl)
                        have t21 : v 21 = _ := hd.out 21 (by kernel_rfl)
                        have t22 : v 22 = _ := hd.out 22 (by kernel_rfl)
                        obtain ⟨R35, rc35, t35, q35⟩ : NumsSl rs (v 35) w' := hd.out 35 (by kernel_rfl)
                        have hk := hK.out
                        simp only [t20, t21, t22, t35, Act.put, List.setIfInBounds_toArray, List.set_cons_zero, List.set_cons_succ] at hk
                        have HK := Lib.hid hk
                        clear hd hs hk hK
                        go_simp
                        refine (HEV.out R35 rc35 _ hj.out q35.nums).mono ?_
                        rintro e w3 ⟨rfl, hb2⟩
                        exact HK.out _ _ (hj.out.trans (hb2.mono hj.out.size)) hb2 (show _ = _ from rfl)
                      refine ⟨?_, ?_⟩
                      · intro v w' hj hd hs K hK
                        have t20 : v 20 = _ := hd.out 20 (by kernel_rfl)
                        have t36 : v 36 = _ := hd.out 36 (by kernel_rfl)
                        have hk := hK.out
                        simp only [t20, t36, Act.put, List.setIfInBounds_toArray, List.set_cons_zero, List.set_cons_succ] at hk
                        have HK := Lib.hid hk
                        clear hd hs hk hK
                        go_simp
                        exact HK.out _ _ hj.out (Below.refl _ _) (show _ = _ from rfl)
                      trivial
                    case hend =>
                      intro vv w2 hj hd
                      have t37 : vv 37 = _ := hd.out 37 (of_decide_eq_true (by kernel_rfl))
                      simp only [t37]
                      have b1 := hj.out
                      clear hj hd t37
                      go_wp2_with fail
                      go_roundw
                      case rel => exact ⟨q + 1, by omega, by go_num, hbw.trans (b1.mono hbw.size), hb9.trans (b1.mono hb9.size), hbq.trans (b1.mono hbq.size)⟩
                      case measure => simp [intOf]; omega
                · have d4 : decide ((q : Int) < (s.length : Int)) = false := by simp; omega
                  go_wp2_with fail
                  go_roundw
                  case rel => exact ⟨k + 1, Fm.sub s ts, by omega, HE, rfl, by go_num, hbw, hb9⟩
                  case measure => simp [intOf]; omega
          · obtain ⟨k', hk'⟩ : ∃ k', k = k' + 1 := ⟨k - 1, by omega⟩
            have z0 : decide ((0 : Int) < (k : Int)) = true := decide_eq_true (by omega)
            have z0' : decide (0 < k) = true := decide_eq_true (by omega)
            obtain ⟨y, hy⟩ : ∃ y, F[k']? = some y := ⟨_, List.getElem?_eq_getElem (by omega)⟩
            have hlt := HFA.out k' y s hy (by rw [← hk']; exact hs)
            have hyl := HFV.out y (List.mem_of_getElem? hy)
            obtain ⟨g', o', C', cc', e1, hgl', c1', y1, y2, y3, y4⟩ := (p4.below hb9).at hy
            have c1 : wr.cell? ⟨g, o + k', none⟩ = some (.slice C' y.length cc') := by
              have e1' := Option.some.inj e1
              injection e1' with e2 e3
              subst e2; subst e3
              exact c1'
            have m0 : (k : Int) - 1 = (k' : Int) := by omega
            have m1 : IntKind.i64.wrap ((k : Int) - 1) = (k' : Int) := by rw [IntKind.wrap_i64]; omega
            have j0 : (0 : Int) ≤ (k' : Int) := by omega
            have j1 : (k' : Int) < (F.length : Int) := by omega
            have f1 : ∀ z : Held wr.heap.size wr, z.w.cell? ⟨g, o + k', none⟩ = some (.slice C' y.length cc') := fun z => z.cell hgl c1
            have CL : ∀ z : Held wr.heap.size wr, Calls Try.prog 15 #[.slice C' y.length cc', .slice C s.length cc] z.w fun e w' => e = .returned (.bool true) ∧ Below z.w.heap.size z.w w' := fun z => by
              refine (less_any C' cc' y C cc s z.w (by omega) (by omega) (y4.below z.ok) (HX4.out.below z.ok)).mono ?_
              rintro e wz ⟨rfl, q, rfl⟩
              rw [hlt]
              exact ⟨rfl, below_drewN (Below.refl _ _) _⟩
            have HCL := Lib.hid CL
            clear hs hy hlt e1 c1' c1 hk0 hk' CL y4 y3 y2 y1
            go_wp2_with fail
            refine wp_region_held wr.heap.size wr (Below.refl _ _) (by kernel_rfl) (by kernel_rfl) ?_
            repeat (go_big_quiet_step (first
                | (go_at_call 10; exact held_call _ (Nat.le_refl _) (HCE.out _))
                | (go_at_call 15; exact held_call _ (Nat.le_refl _) (HCL.out _))))
            refine wpQuiet_nil ?_
            rintro wt ⟨⟨_, bt⟩, rfl⟩
            obtain ⟨hbt, hbt9, c0, hgt, x4⟩ := HSTEP.out _ bt
            clear f0 f1 HCL hbw hb9 bt HCE HSTEP HX4 HC0 hgl
            have AF : Hid (∃ x' : Bool, x' = (x || Fm.sub s ts)) := Lib.hid ⟨_, rfl⟩
            have TAIL : ∀ (x' : Bool) (wr : World), Hid (x' = (F.take (k + 1)).any fun s => Fm.sub s ts) → True := fun _ _ _ => trivial
            clear TAIL AF
            cases x with
            | true =>
              have HE := Lib.hid (show true = (F.take (k + 1)).any fun s => Fm.sub s ts by rw [HE3.out]; rfl)
              clear HE3 HX
              go_wp2_with fail
              go_loopw [12] (fun j wr => ∃ q : Nat, q ≤ s.length ∧ j = .int .i64 q ∧ Below w.heap.size w wr ∧ Below w9.heap.size w9 wr ∧ Below wt.heap.size wt wr) (fun j _ => s.length - (intOf j).toNat)
              case atStart => exact ⟨0, by omega, rfl, hbt, hbt9, Below.refl _ _⟩
              case round =>
                obtain ⟨q, hq, rfl, hbw, hb9, hbq⟩ := hrel
                have hgq : g < wr.heap.size := Nat.lt_of_lt_of_le hgt hbq.size
                have c0q := (hbq.cell hgt).trans c0
                by_cases h4 : q < s.length
                · have d4 : decide ((q : Int) < (s.length : Int)) = true := by simp; omega
                  have ii0 : (0 : Int) ≤ (q : Int) := by omega
                  have ii1 : (q : Int) < (s.length : Int) := by omega
                  obtain ⟨y, hy⟩ : ∃ y, s[q]? = some y := ⟨_, List.getElem?_eq_getElem h4⟩
                  have HEF := Lib.hid (HSL.out y (List.mem_of_getElem? hy))
                  obtain ⟨gs, os, es, hgs, cs'⟩ := (x4.below hbq).at h4
                  have cs : wr.cell? ⟨gs, os + q, none⟩ = some (.int .i64 y) := by rw [cs']; congr 2; exact (List.getElem?_eq_some_iff.1 hy).2
                  subst es
                  obtain ⟨rs, hrs⟩ : ∃ rs, restL s [y] = rs := ⟨_, rfl⟩
                  have HRQ := Lib.hid hrs
                  have hrl : rs.length ≤ s.length := by rw [← hrs]; exact restL_len s [y]
                  have HRI := Lib.hid (show ∀ t ∈ rs, I64 t from fun t ht => by rw [← hrs] at ht; exact HSI.out t (mem_restL.1 ht).1)
                  rw [hrs] at HEF
                  have HRS := Lib.hid (show ∀ W, Below wr.heap.size wr W → Calls Try.prog 11 #[.slice (some ⟨gs, os, none⟩) s.length cc, .slice (some ⟨gs, os + q, none⟩) 1 (cc - q)] W (NumsOwn (restL s [y]) W) from
                    fun W hW => rest_any _ cc s _ (cc - q) [y] W (by omega) (by simp) ((x4.below hbq).below hW) (nums_sub (Nat.lt_of_lt_of_le hgs hW.size) ((hW.cell hgs).trans cs)))
                  have HEV := Lib.hid (show ∀ (R : Option Addr) (rc : Nat) W, Below wr.heap.size wr W → Nums W R rs → Calls Try.prog 10 #[.slice A l.length c, .int .i64 i, .slice R rs.length rc] W fun e w' => e = .returned (.bool false) ∧ Below W.heap.size W w' from
                    fun R rc W hW hR => by
                      have := eval_any A c l (i : Int) R rc rs W hg hF (by omega) (by omega) HRI.out ((hA.below hbw).below hW) hR
                      rw [HEF.out] at this
                      exact this)
                  have sl1 : (q : Int) ≤ (q : Int) + 1 := by omega
                  have sl2 : q + 1 ≤ cc := by omega
                  have sl3 : (q : Int) + 1 ≤ (cc : Int) := by omega
                  have sl4 : IntKind.i64.wrap ((q : Int) + 1) = (q : Int) + 1 := by rw [IntKind.wrap_i64]; omega
                  have sl5 : q + 1 - q = 1 := by omega
                  have sl7 : ¬ cc = q := by omega
                  have sl6 : ((q : Int) + 1).toNat = q + 1 := by omega
                  clear hrs cs'
                  rcases Nat.eq_zero_or_pos q with hq0 | hq0
                  · have z1 : decide ((0 : Int) < (q : Int)) = false := decide_eq_false (by omega)
                    have z1' : decide (0 < q) = false := decide_eq_false (by omega)
                    have HBD := Lib.hid (show ∀ W, Below wr.heap.size wr W → W.cell? ⟨g, o + k, none⟩ = some (.slice (some ⟨gs, os, none⟩) s.length cc) ∧ W.cell? ⟨gs, os + q, none⟩ = some (.int .i64 y) ∧ True from
                      fun W hW => ⟨(hW.cell hgq).trans c0q, (hW.cell hgs).trans cs, trivial⟩)
                    clear hy cs hq0
                    go_wp2_with fail
                    refine' wp_region_each _ (Below wr.heap.size wr) (Onward) (Vl :: Vl :: Vl :: Pin undef :: Pin undef :: Pin undef :: Pin undef :: Pin undef :: Pin undef :: Pin undef :: Pin undef :: Pin undef :: Pin undef :: Pin undef :: Pin undef :: Pin undef :: Pin undef :: Pin undef :: Pin undef :: Vl :: Vl :: Vl :: Vl :: Vl :: Vl :: Vl :: Vl :: Vl :: Vl :: Vl :: Vl :: Vl :: Vl :: Vl :: Vl :: NumsSl rs :: Vl :: Vl :: []) ?hF (by kernel_rfl) (by kernel_rfl) (by kernel_rfl) ((Below.refl _ _).drew) (lasting_cons (lasting_vl) (lasting_cons (lasting_vl) (lasting_cons (lasting_vl) (lasting_cons (lasting_pin _) (lasting_cons (lasting_pin _) (lasting_cons (lasting_pin _) (lasting_cons (lasting_pin _) (lasting_cons (lasting_pin _) (lasting_cons (lasting_pin _) (lasting_cons (lasting_pin _) (lasting_cons (lasting_pin _) (lasting_cons (lasting_pin _) (lasting_cons (lasting_pin _) (lasting_cons (lasting_pin _) (lasting_cons (lasting_pin _) (lasting_cons (lasting_pin _) (lasting_cons (lasting_pin _) (lasting_cons (lasting_pin _) (lasting_cons (lasting_pin _) (lasting_cons (lasting_vl) (lasting_cons (lasting_vl) (lasting_cons (lasting_vl) (lasting_cons (lasting_vl) (lasting_cons (lasting_vl) (lasting_cons (lasting_vl) (lasting_cons (lasting_vl) (lasting_cons (lasting_vl) (lasting_cons (lasting_vl) (lasting_cons (lasting_vl) (lasting_cons (lasting_vl) (lasting_cons (lasting_vl) (lasting_cons (lasting_vl) (lasting_cons (lasting_vl) (lasting_cons (lasting_vl) (lasting_cons (lasting_vl) (lasting_cons (lasting_numsSl _) (lasting_cons (lasting_vl) (lasting_cons (lasting_vl) (lasting_none))))))))))))))))))))))))))))))))))))))) ?hops ?hend
                    case hF => (intro v; simp only [over, Act.put, List.setIfInBounds_toArray, List.set_cons_zero, List.set_cons_succ, Nat.zero_add, Nat.reduceAdd]; exact rfl)
                    case hops =>
                      refine ⟨?_, ?_⟩
                      · intro v w' hj hd hs K hK
                        have hk := hK.out
                        simp only [Act.put, List.setIfInBounds_toArray, List.set_cons_zero, List.set_cons_succ] at hk
                        have HK := Lib.hid hk
                        clear hd hs hk hK
                        go_simp
                        exact HK.out _ _ hj.out (Below.refl _ _) (show _ = _ from rfl)
                      refine ⟨?_, ?_⟩
                      · intro v w' hj hd hs K hK
                        have t0 : v 0 = _ := hd.out 0 (by kernel_rfl)
                        have hk := hK.out
                        simp only [t0, Act.put, List.setIfInBounds_toArray, List.set_cons_zero, List.set_cons_succ] at hk
                        have HK := Lib.hid hk
                        clear hd hs hk hK
                        go_simp
                        exact HK.out _ _ hj.out (Below.refl _ _) (show _ = _ from rfl)
                      refine ⟨?_, ?_⟩
                      · intro v w' hj hd hs K hK
                        have t1 : v 1 = _ := hd.out 1 (by kernel_rfl)
                        have hk := hK.out
                        simp only [t1, Act.put, List.setIfInBounds_toArray, List.set_cons_zero, List.set_cons_succ] at hk
                        have HK := Lib.hid hk
                        clear hd hs hk hK
                        go_simp
                        exact HK.out _ _ hj.out (Below.refl _ _) (show _ = _ from rfl)
                      refine ⟨?_, ?_⟩
                      · intro v w' hj hd hs K hK
                        have t2 : v 2 = _ := hd.out 2 (by kernel_rfl)
                        have hk := hK.out
                        simp only [t2, Act.put, List.setIfInBounds_toArray, List.set_cons_zero, List.set_cons_succ] at hk
                        have HK := Lib.hid hk
                        clear hd hs hk hK
                        go_simp
                        exact HK.out _ _ hj.out (Below.refl _ _) (show _ = _ from rfl)
                      refine ⟨?_, ?_⟩
                      · intro v w' hj hd hs K hK
                        have t2 : v 2 = _ := hd.out 2 (by kernel_rfl)
                        have hk := hK.out
                        simp only [t2, Act.put, List.setIfInBounds_toArray, List.set_cons_zero, List.set_cons_succ] at hk
                        have HK := Lib.hid hk
                        clear hd hs hk hK
                        go_simp
                        exact HK.out _ _ hj.out (Below.refl _ _) (show _ = _ from rfl)
                      refine ⟨?_, ?_⟩
                      · intro v w' hj hd hs K hK
                        have t2 : v 2 = _ := hd.out 2 (by kernel_rfl)
                        have hk := hK.out
                        simp only [t2, Act.put, List.setIfInBounds_toArray, List.set_cons_zero, List.set_cons_succ] at hk
                        have HK := Lib.hid hk
                        clear hd hs hk hK
                        go_simp
                        exact HK.out _ _ hj.out (Below.refl _ _) (show _ = _ from rfl)
                      refine ⟨?_, ?_⟩
                      · intro v w' hj hd hs K hK
                        have t2 : v 2 = _ := hd.out 2 (by kernel_rfl)
                        have hk := hK.out
                        simp only [t2, Act.put, List.setIfInBounds_toArray, List.set_cons_zero, List.set_cons_succ] at hk
                        have HK := Lib.hid hk
                        clear hd hs hk hK
                        go_simp
                        exact HK.out _ _ hj.out (Below.refl _ _) (show _ = _ from rfl)
                      refine ⟨?_, ?_⟩
                      · intro v w' hj hd hs K hK
                        have t2 : v 2 = _ := hd.out 2 (by kernel_rfl)
                        have hk := hK.out
                        simp only [t2, Act.put, List.setIfInBounds_toArray, List.set_cons_zero, List.set_cons_succ] at hk
                        have HK := Lib.hid hk
                        clear hd hs hk hK
                        go_simp
                        exact HK.out _ _ hj.out (Below.refl _ _) (show _ = _ from rfl)
                      refine ⟨?_, ?_⟩
                      · intro v w' hj hd hs K hK
                        have t2 : v 2 = _ := hd.out 2 (by kernel_rfl)
                        have hk := hK.out
                        simp only [t2, Act.put, List.setIfInBounds_toArray, List.set_cons_zero, List.set_cons_succ] at hk
                        have HK := Lib.hid hk
                        clear hd hs hk hK
                        go_simp
                        exact HK.out _ _ hj.out (Below.refl _ _) (show _ = _ from rfl)
                      refine ⟨?_, ?_⟩
                      · intro v w' hj hd hs K hK
                        have t2 : v 2 = _ := hd.out 2 (by kernel_rfl)
                        have hk := hK.out
                        simp only [t2, Act.put, List.setIfInBounds_toArray, List.set_cons_zero, List.set_cons_succ] at hk
                        have HK := Lib.hid hk
                        clear hd hs hk hK
                        go_simp
                        exact HK.out _ _ hj.out (Below.refl _ _) (show _ = _ from rfl)
                      refine ⟨?_, ?_⟩
                      · intro v w' hj hd hs K hK
                        have t2 : v 2 = _ := hd.out 2 (by kernel_rfl)
                        have hk := hK.out
                        simp only [t2, Act.put, List.setIfInBounds_toArray, List.set_cons_zero, List.set_cons_succ] at hk
                        have HK := Lib.hid hk
                        clear hd hs hk hK
                        go_simp
                        exact HK.out _ _ hj.out (Below.refl _ _) (show _ = _ from rfl)
                      refine ⟨?_, ?_⟩
                      · intro v w' hj hd hs K hK
                        have t2 : v 2 = _ := hd.out 2 (by kernel_rfl)
                        have hk := hK.out
                        simp only [t2, Act.put, List.setIfInBounds_toArray, List.set_cons_zero, List.set_cons_succ] at hk
                        have HK := Lib.hid hk
                        clear hd hs hk hK
                        go_simp
                        exact HK.out _ _ hj.out (Below.refl _ _) (show _ = _ from rfl)
                      refine ⟨?_, ?_⟩
                      · intro v w' hj hd hs K hK
                        have t2 : v 2 = _ := hd.out 2 (by kernel_rfl)
                        have hk := hK.out
                        simp only [t2, Act.put, List.setIfInBounds_toArray, List.set_cons_zero, List.set_cons_succ] at hk
                        have HK := Lib.hid hk
                        clear hd hs hk hK
                        go_simp
                        exact HK.out _ _ hj.out (Below.refl _ _) (show _ = _ from rfl)
                      refine ⟨?_, ?_⟩
                      · intro v w' hj hd hs K hK
                        have t2 : v 2 = _ := hd.out 2 (by kernel_rfl)
                        have hk := hK.out
                        simp only [t2, Act.put, List.setIfInBounds_toArray, List.set_cons_zero, List.set_cons_succ] at hk
                        have HK := Lib.hid hk
                        clear hd hs hk hK
                        go_simp
                        exact HK.out _ _ hj.out (Below.refl _ _) (show _ = _ from rfl)
                      refine ⟨?_, ?_⟩
                      · intro v w' hj hd hs K hK
                        have t2 : v 2 = _ := hd.out 2 (by kernel_rfl)
                        have hk := hK.out
                        simp only [t2, Act.put, List.setIfInBounds_toArray, List.set_cons_zero, List.set_cons_succ] at hk
                        have HK := Lib.hid hk
                        clear hd hs hk hK
                        go_simp
                        exact HK.out _ _ hj.out (Below.refl _ _) (show _ = _ from rfl)
                      refine ⟨?_, ?_⟩
                      · intro v w' hj hd hs K hK
                        have t2 : v 2 = _ := hd.out 2 (by kernel_rfl)
                        have hk := hK.out
                        simp only [t2, Act.put, List.setIfInBounds_toArray, List.set_cons_zero, List.set_cons_succ] at hk
                        have HK := Lib.hid hk
                        clear hd hs hk hK
                        go_simp
                        exact HK.out _ _ hj.out (Below.refl _ _) (show _ = _ from rfl)
                      refine ⟨?_, ?_⟩
                      · intro v w' hj hd hs K hK
                        have t2 : v 2 = _ := hd.out 2 (by kernel_rfl)
                        have hk := hK.out
                        simp only [t2, Act.put, List.setIfInBounds_toArray, List.set_cons_zero, List.set_cons_succ] at hk
                        have HK := Lib.hid hk
                        clear hd hs hk hK
                        go_simp
                        exact HK.out _ _ hj.out (Below.refl _ _) (show _ = _ from rfl)
                      refine ⟨?_, ?_⟩
                      · intro v w' hj hd hs K hK
                        have t2 : v 2 = _ := hd.out 2 (by kernel_rfl)
                        have hk := hK.out
                        simp only [t2, Act.put, List.setIfInBounds_toArray, List.set_cons_zero, List.set_cons_succ] at hk
                        have HK := Lib.hid hk
                        clear hd hs hk hK
                        go_simp
                        exact HK.out _ _ hj.out (Below.refl _ _) (show _ = _ from rfl)
                      refine ⟨?_, ?_⟩
                      · intro v w' hj hd hs K hK
                        have t2 : v 2 = _ := hd.out 2 (by kernel_rfl)
                        have hk := hK.out
                        simp only [t2, Act.put, List.setIfInBounds_toArray, List.set_cons_zero, List.set_cons_succ] at hk
                        have HK := Lib.hid hk
                        clear hd hs hk hK
                        go_simp
                        exact HK.out _ _ hj.out (Below.refl _ _) (show _ = _ from rfl)
                      refine ⟨?_, ?_⟩
                      · intro v w' hj hd hs K hK
                        have t2 : v 2 = _ := hd.out 2 (by kernel_rfl)
                        have t18 : v 18 = _ := hd.out 18 (by kernel_rfl)
                        have hk := hK.out
                        simp only [t2, t18, Act.put, List.setIfInBounds_toArray, List.set_cons_zero, List.set_cons_succ] at hk
                        have HK := Lib.hid hk
                        clear hd hs hk hK
                        go_simp
                        exact HK.out _ _ hj.out (Below.refl _ _) (show _ = _ from rfl)
                      refine ⟨?_, ?_⟩
                      · intro v w' hj hd hs K hK
                        have t19 : v 19 = _ := hd.out 19 (by kernel_rfl)
                        have hk := hK.out
                        simp only [t19, Act.put, List.setIfInBounds_toArray, List.set_cons_zero, List.set_cons_succ] at hk
                        have HK := Lib.hid hk
                        clear hd hs hk hK
                        go_simp
                        exact HK.out _ _ hj.out (Below.refl _ _) (show _ = _ from rfl)
                      refine ⟨?_, ?_⟩
                      · intro v w' hj hd hs K hK
                        have t20 : v 20 = _ := hd.out 20 (by kernel_rfl)
                        have hk := hK.out
                        simp only [t20, Act.put, List.setIfInBounds_toArray, List.set_cons_zero, List.set_cons_succ] at hk
                        have HK := Lib.hid hk
                        clear hd hs hk hK
                        go_simp
                        exact HK.out _ _ hj.out (Below.refl _ _) (show _ = _ from rfl)
                      refine ⟨?_, ?_⟩
                      · intro v w' hj hd hs K hK
                        have t20 : v 20 = _ := hd.out 20 (by kernel_rfl)
                        have hk := hK.out
                        simp only [t20, Act.put, List.setIfInBounds_toArray, List.set_cons_zero, List.set_cons_succ] at hk
                        have HK := Lib.hid hk
                        clear hd hs hk hK
                        go_simp
                        exact HK.out _ _ hj.out (Below.refl _ _) (show _ = _ from rfl)
                      refine ⟨?_, ?_⟩
                      · intro v w' hj hd hs K hK
                        have t20 : v 20 = _ := hd.out 20 (by kernel_rfl)
                        have hk := hK.out
                        simp only [t20, Act.put, List.setIfInBounds_toArray, List.set_cons_zero, List.set_cons_succ] at hk
                        have HK := Lib.hid hk
                        clear hd hs hk hK
                        go_simp
                        exact HK.out _ _ hj.out (Below.refl _ _) (show _ = _ from rfl)
                      refine ⟨?_, ?_⟩
                      · intro v w' hj hd hs K hK
                        have t20 : v 20 = _ := hd.out 20 (by kernel_rfl)
                        have hk := hK.out
                        simp only [t20, Act.put, List.setIfInBounds_toArray, List.set_cons_zero, List.set_cons_succ] at hk
                        have HK := Lib.hid hk
                        clear hd hs hk hK
                        go_simp
                        exact HK.out _ _ hj.out (Below.refl _ _) (show _ = _ from rfl)
                      refine ⟨?_, ?_⟩
                      · intro v w' hj hd hs K hK
                        have t20 : v 20 = _ := hd.out 20 (by kernel_rfl)
                        have t23 : v 23 = _ := hd.out 23 (by kernel_rfl)
                        have t24 : v 24 = _ := hd.out 24 (by kernel_rfl)
                        have hk := hK.out
                        simp only [t20, t23, t24, Act.put, List.setIfInBounds_toArray, List.set_cons_zero, List.set_cons_succ] at hk
                        have HK := Lib.hid hk
                        clear hd hs hk hK
                        go_simp
                        exact HK.out _ _ hj.out (Below.refl _ _) (show _ = _ from rfl)
                      refine ⟨?_, ?_⟩
                      · intro v w' hj hd hs K hK
                        have t20 : v 20 = _ := hd.out 20 (by kernel_rfl)
                        have t25 : v 25 = _ := hd.out 25 (by kernel_rfl)
                        obtain ⟨x1, x2, x3⟩ := HBD.out _ hj.out
                        have hk := hK.out
                        simp only [t20, t25, Act.put, List.setIfInBounds_toArray, List.set_cons_zero, List.set_cons_succ] at hk
                        have HK := Lib.hid hk
                        clear hd hs hk hK
                        go_simp
                        exact HK.out _ _ hj.out (Below.refl _ _) (show _ = _ from rfl)
                      refine ⟨?_, ?_⟩
                      · intro v w' hj hd hs K hK
                        have t20 : v 20 = _ := hd.out 20 (by kernel_rfl)
                        have hk := hK.out
                        simp only [t20, Act.put, List.setIfInBounds_toArray, List.set_cons_zero, List.set_cons_succ] at hk
                        have HK := Lib.hid hk
                        clear hd hs hk hK
                        go_simp
                        exact HK.out _ _ hj.out (Below.refl _ _) (show _ = _ from rfl)
                      refine ⟨?_, ?_⟩
                      · intro v w' hj hd hs K hK
                        have t20 : v 20 = _ := hd.out 20 (by kernel_rfl)
                        have hk := hK.out
                        simp only [t20, Act.put, List.setIfInBounds_toArray, List.set_cons_zero, List.set_cons_succ] at hk
                        have HK := Lib.hid hk
                        clear hd hs hk hK
                        go_simp
                        exact HK.out _ _ hj.out (Below.refl _ _) (show _ = _ from rfl)
                      refine ⟨?_, ?_⟩
                      · intro v w' hj hd hs K hK
                        have t20 : v 20 = _ := hd.out 20 (by kernel_rfl)
                        have t27 : v 27 = _ := hd.out 27 (by kernel_rfl)
                        have t28 : v 28 = _ := hd.out 28 (by kernel_rfl)
                        have hk := hK.out
                        simp only [t20, t27, t28, Act.put, List.setIfInBounds_toArray, List.set_cons_zero, List.set_cons_succ] at hk
                        have HK := Lib.hid hk
                        clear hd hs hk hK
                        go_simp
                        exact HK.out _ _ hj.out (Below.refl _ _) (show _ = _ from rfl)
                      refine ⟨?_, ?_⟩
                      · intro v w' hj hd hs K hK
                        have t20 : v 20 = _ := hd.out 20 (by kernel_rfl)
                        have t29 : v 29 = _ := hd.out 29 (by kernel_rfl)
                        obtain ⟨x1, x2, x3⟩ := HBD.out _ hj.out
                        have hk := hK.out
                        simp only [t20, t29, Act.put, List.setIfInBounds_toArray, List.set_cons_zero, List.set_cons_succ] at hk
                        have HK := Lib.hid hk
                        clear hd hs hk hK
                        go_simp
                        exact HK.out _ _ hj.out (Below.refl _ _) (show _ = _ from rfl)
                      refine ⟨?_, ?_⟩
                      · intro v w' hj hd hs K hK
                        have t20 : v 20 = _ := hd.out 20 (by kernel_rfl)
                        have hk := hK.out
                        simp only [t20, Act.put, List.setIfInBounds_toArray, List.set_cons_zero, List.set_cons_succ] at hk
                        have HK := Lib.hid hk
                        clear hd hs hk hK
                        go_simp
                        exact HK.out _ _ hj.out (Below.refl _ _) (show _ = _ from rfl)
                      refine ⟨?_, ?_⟩
                      · intro v w' hj hd hs K hK
                        have t20 : v 20 = _ := hd.out 20 (by kernel_rfl)
                        have hk := hK.out
                        simp only [t20, Act.put, List.setIfInBounds_toArray, List.set_cons_zero, List.set_cons_succ] at hk
                        have HK := Lib.hid hk
                        clear hd hs hk hK
                        go_simp
                        exact HK.out _ _ hj.out (Below.refl _ _) (show _ = _ from rfl)
                      refine ⟨?_, ?_⟩
                      · intro v w' hj hd hs K hK
                        have t20 : v 20 = _ := hd.out 20 (by kernel_rfl)
                        have t32 : v 32 = _ := hd.out 32 (by kernel_rfl)
                        have hk := hK.out
                        simp only [t20, t32, Act.put, List.setIfInBounds_toArray, List.set_cons_zero, List.set_cons_succ] at hk
                        have HK := Lib.hid hk
                        clear hd hs hk hK
                        go_simp
                        exact HK.out _ _ hj.out (Below.refl _ _) (show _ = _ from rfl)
                      refine ⟨?_, ?_⟩
                      · intro v w' hj hd hs K hK
                        have t20 : v 20 = _ := hd.out 20 (by kernel_rfl)
                        have t30 : v 30 = _ := hd.out 30 (by kernel_rfl)
                        have t31 : v 31 = _ := hd.out 31 (by kernel_rfl)
                        have t33 : v 33 = _ := hd.out 33 (by kernel_rfl)
                        have hk := hK.out
                        simp only [t20, t30, t31, t33, Act.put, List.setIfInBounds_toArray, List.set_cons_zero, List.set_cons_succ] at hk
                        have HK := Lib.hid hk
                        clear hd hs hk hK
                        go_simp
                        exact HK.out _ _ hj.out (Below.refl _ _) (show _ = _ from rfl)
                      refine ⟨?_, ?_⟩
                      · intro v w' hj hd hs K hK
                        have t20 : v 20 = _ := hd.out 20 (by kernel_rfl)
                        have t26 : v 26 = _ := hd.out 26 (by kernel_rfl)
                        have t34 : v 34 = _ := hd.out 34 (by kernel_rfl)
                        obtain ⟨x1, x2, x3⟩ := HBD.out _ hj.out
                        have hk := hK.out
                        simp only [t20, t26, t34, Act.put, List.setIfInBounds_toArray, List.set_cons_zero, List.set_cons_succ] at hk
                        have HK := Lib.hid hk
                        clear hd hs hk hK
                        go_simp
                        have HRC := Lib.hid (HRS.out _ hj.out)
                        refine HRC.out.mono ?_
                        rintro e w3 ⟨vr, rfl, ov, hb2⟩
                        rw [HRQ.out] at ov
                        obtain ⟨R, rc, rfl, hrn⟩ := ns_of_own ov
                        exact HK.out _ _ (hj.out.trans (hb2.mono hj.out.size)) hb2 ⟨R, rc, rfl, hrn⟩
                      refine ⟨?_, ?_⟩
                      · intro v w' hj hd hs K hK
                        have t20 : v 20 = _ := hd.out 20 (by kernel_rfl)
                        have t21 : v 21 = _ := hd.out 21 (by kernel_rfl)
                        have t22 : v 22 = _ := hd.out 22 (by kernel_rfl)
                        obtain ⟨R35, rc35, t35, q35⟩ : NumsSl rs (v 35) w' := hd.out 35 (by kernel_rfl)
                        have hk := hK.out
                        simp only [t20, t21, t22, t35, Act.put, List.setIfInBounds_toArray, List.set_cons_zero, List.set_cons_succ] at hk
                        have HK := Lib.hid hk
                        clear hd hs hk hK
                        go_simp
                        refine (HEV.out R35 rc35 _ hj.out q35.nums).mono ?_
                        rintro e w3 ⟨rfl, hb2⟩
                        exact HK.out _ _ (hj.out.trans (hb2.mono hj.out.size)) hb2 (show _ = _ from rfl)
                      refine ⟨?_, ?_⟩
                      · intro v w' hj hd hs K hK
                        have t20 : v 20 = _ := hd.out 20 (by kernel_rfl)
                        have t36 : v 36 = _ := hd.out 36 (by kernel_rfl)
                        have hk := hK.out
                        simp only [t20, t36, Act.put, List.setIfInBounds_toArray, List.set_cons_zero, List.set_cons_succ] at hk
                        have HK := Lib.hid hk
                        clear hd hs hk hK
                        go_simp
                        exact HK.out _ _ hj.out (Below.refl _ _) (show _ = _ from rfl)
                      trivial
                    case hend =>
                      intro vv w2 hj hd
                      have t37 : vv 37 = _ := hd.out 37 (of_decide_eq_true (by kernel_rfl))
                      simp only [t37]
                      have b1 := hj.out
                      clear hj hd t37
                      go_wp2_with fail
                      go_roundw
                      case rel => exact ⟨q + 1, by omega, by go_num, hbw.trans (b1.mono hbw.size), hb9.trans (b1.mono hb9.size), hbq.trans (b1.mono hbq.size)⟩
                      case measure => simp [intOf]; omega
                  · obtain ⟨q', hq'⟩ : ∃ q', q = q' + 1 := ⟨q - 1, by omega⟩
                    have z1 : decide ((0 : Int) < (q : Int)) = true := decide_eq_true (by omega)
                    have z1' : decide (0 < q) = true := decide_eq_true (by omega)
                    obtain ⟨u, hu⟩ : ∃ u, s[q']? = some u := ⟨_, List.getElem?_eq_getElem (by omega)⟩
                    have hlt := inc_at HSC.out hu (by rw [← hq']; exact hy)
                    have z2 : decide (y ≤ u) = false := by simp; omega
                    obtain ⟨gu, ou, eu, hgu, cu'⟩ := (x4.below hbq).at (show q' < s.length by omega)
                    have cu : wr.cell? ⟨gs, os + q', none⟩ = some (.int .i64 u) := by
                      have eu' := Option.some.inj eu
                      injection eu' with e2 e3
                      subst e2; subst e3
                      rw [cu']; congr 2; exact (List.getElem?_eq_some_iff.1 hu).2
                    have n0 : (q : Int) - 1 = (q' : Int) := by omega
                    have n1 : IntKind.i64.wrap ((q : Int) - 1) = (q' : Int) := by rw [IntKind.wrap_i64]; omega
                    have n2 : IntKind.i64.wrap (q' : Int) = (q' : Int) := by rw [IntKind.wrap_i64]; omega
                    have jj0 : (0 : Int) ≤ (q' : Int) := by omega
                    have jj1 : (q' : Int) < (s.length : Int) := by omega
                    have HBD := Lib.hid (show ∀ W, Below wr.heap.size wr W → W.cell? ⟨g, o + k, none⟩ = some (.slice (some ⟨gs, os, none⟩) s.length cc) ∧ W.cell? ⟨gs, os + q, none⟩ = some (.int .i64 y) ∧ W.cell? ⟨gs, os + q', none⟩ = some (.int .i64 u) from
                      fun W hW => ⟨(hW.cell hgq).trans c0q, (hW.cell hgs).trans cs, (hW.cell hgs).trans cu⟩)
                    clear hy hu hlt eu cu' cs cu hq0 hq'
                    go_wp2_with fail
                    refine' wp_region_each _ (Below wr.heap.size wr) (Onward) (Vl :: Vl :: Vl :: Vl :: Vl :: Vl :: Vl :: Vl :: Vl :: Vl :: Vl :: Vl :: Vl :: Vl :: Vl :: Vl :: Vl :: Vl :: Vl :: Vl :: Vl :: Vl :: Vl :: Vl :: Vl :: Vl :: Vl :: Vl :: Vl :: Vl :: Vl :: Vl :: Vl :: Vl :: Vl :: NumsSl rs :: Vl :: Vl :: []) ?hF (by kernel_rfl) (by kernel_rfl) (by kernel_rfl) ((Below.refl _ _).drew) (lasting_cons (lasting_vl) (lasting_cons (lasting_vl) (lasting_cons (lasting_vl) (lasting_cons (lasting_vl) (lasting_cons (lasting_vl) (lasting_cons (lasting_vl) (lasting_cons (lasting_vl) (lasting_cons (lasting_vl) (lasting_cons (lasting_vl) (lasting_cons (lasting_vl) (lasting_cons (lasting_vl) (lasting_cons (lasting_vl) (lasting_cons (lasting_vl) (lasting_cons (lasting_vl) (lasting_cons (lasting_vl) (lasting_cons (lasting_vl) (lasting_cons (lasting_vl) (lasting_cons (lasting_vl) (lasting_cons (lasting_vl) (lasting_cons (lasting_vl) (lasting_cons (lasting_vl) (lasting_cons (lasting_vl) (lasting_cons (lasting_vl) (lasting_cons (lasting_vl) (lasting_cons (lasting_vl) (lasting_cons (lasting_vl) (lasting_cons (lasting_vl) (lasting_cons (lasting_vl) (lasting_cons (lasting_vl) (lasting_cons (lasting_vl) (lasting_cons (lasting_vl) (lasting_cons (lasting_vl) (lasting_cons (lasting_vl) (lasting_cons (lasting_vl) (lasting_cons (lasting_vl) (lasting_cons (lasting_numsSl _) (lasting_cons (lasting_vl) (lasting_cons (lasting_vl) (lasting_none))))))))))))))))))))))))))))))))))))))) ?hops ?hend
                    case hF => (intro v; simp only [over, Act.put, List.setIfInBounds_toArray, List.set_cons_zero, List.set_cons_succ, Nat.zero_add, Nat.reduceAdd]; exact rfl)
                    case hops =>
                      refine ⟨?_, ?_⟩
                      · intro v w' hj hd hs K hK
                        have hk := hK.out
                        simp only [Act.put, List.setIfInBounds_toArray, List.set_cons_zero, List.set_cons_succ] at hk
                        have HK := Lib.hid hk
                        clear hd hs hk hK
                        go_simp
                        exact HK.out _ _ hj.out (Below.refl _ _) (show _ = _ from rfl)
                      refine ⟨?_, ?_⟩
                      · intro v w' hj hd hs K hK
                        have t0 : v 0 = _ := hd.out 0 (by kernel_rfl)
                        have hk := hK.out
                        simp only [t0, Act.put, List.setIfInBounds_toArray, List.set_cons_zero, List.set_cons_succ] at hk
                        have HK := Lib.hid hk
                        clear hd hs hk hK
                        go_simp
                        exact HK.out _ _ hj.out (Below.refl _ _) (show _ = _ from rfl)
                      refine ⟨?_, ?_⟩
                      · intro v w' hj hd hs K hK
                        have t1 : v 1 = _ := hd.out 1 (by kernel_rfl)
                        have hk := hK.out
                        simp only [t1, Act.put, List.setIfInBounds_toArray, List.set_cons_zero, List.set_cons_succ] at hk
                        have HK := Lib.hid hk
                        clear hd hs hk hK
                        go_simp
                        exact HK.out _ _ hj.out (Below.refl _ _) (show _ = _ from rfl)
                      refine ⟨?_, ?_⟩
                      · intro v w' hj hd hs K hK
                        have t2 : v 2 = _ := hd.out 2 (by kernel_rfl)
                        have hk := hK.out
                        simp only [t2, Act.put, List.setIfInBounds_toArray, List.set_cons_zero, List.set_cons_succ] at hk
                        have HK := Lib.hid hk
                        clear hd hs hk hK
                        go_simp
                        exact HK.out _ _ hj.out (Below.refl _ _) (show _ = _ from rfl)
                      refine ⟨?_, ?_⟩
                      · intro v w' hj hd hs K hK
                        have t2 : v 2 = _ := hd.out 2 (by kernel_rfl)
                        have hk := hK.out
                        simp only [t2, Act.put, List.setIfInBounds_toArray, List.set_cons_zero, List.set_cons_succ] at hk
                        have HK := Lib.hid hk
                        clear hd hs hk hK
                        go_simp
                        exact HK.out _ _ hj.out (Below.refl _ _) (show _ = _ from rfl)
                      refine ⟨?_, ?_⟩
                      · intro v w' hj hd hs K hK
                        have t2 : v 2 = _ := hd.out 2 (by kernel_rfl)
                        have t3 : v 3 = _ := hd.out 3 (by kernel_rfl)
                        have t4 : v 4 = _ := hd.out 4 (by kernel_rfl)
                        have hk := hK.out
                        simp only [t2, t3, t4, Act.put, List.setIfInBounds_toArray, List.set_cons_zero, List.set_cons_succ] at hk
                        have HK := Lib.hid hk
                        clear hd hs hk hK
                        go_simp
                        exact HK.out _ _ hj.out (Below.refl _ _) (show _ = _ from rfl)
                      refine ⟨?_, ?_⟩
                      · intro v w' hj hd hs K hK
                        have t2 : v 2 = _ := hd.out 2 (by kernel_rfl)
                        have t5 : v 5 = _ := hd.out 5 (by kernel_rfl)
                        obtain ⟨x1, x2, x3⟩ := HBD.out _ hj.out
                        have hk := hK.out
                        simp only [t2, t5, Act.put, List.setIfInBounds_toArray, List.set_cons_zero, List.set_cons_succ] at hk
                        have HK := Lib.hid hk
                        clear hd hs hk hK
                        go_simp
                        exact HK.out _ _ hj.out (Below.refl _ _) (show _ = _ from rfl)
                      refine ⟨?_, ?_⟩
                      · intro v w' hj hd hs K hK
                        have t2 : v 2 = _ := hd.out 2 (by kernel_rfl)
                        have hk := hK.out
                        simp only [t2, Act.put, List.setIfInBounds_toArray, List.set_cons_zero, List.set_cons_succ] at hk
                        have HK := Lib.hid hk
                        clear hd hs hk hK
                        go_simp
                        exact HK.out _ _ hj.out (Below.refl _ _) (show _ = _ from rfl)
                      refine ⟨?_, ?_⟩
                      · intro v w' hj hd hs K hK
                        have t2 : v 2 = _ := hd.out 2 (by kernel_rfl)
                        have t6 : v 6 = _ := hd.out 6 (by kernel_rfl)
                        have t7 : v 7 = _ := hd.out 7 (by kernel_rfl)
                        have hk := hK.out
                        simp only [t2, t6, t7, Act.put, List.setIfInBounds_toArray, List.set_cons_zero, List.set_cons_succ] at hk
                        have HK := Lib.hid hk
                        clear hd hs hk hK
                        go_simp
                        exact HK.out _ _ hj.out (Below.refl _ _) (show _ = _ from rfl)
                      refine ⟨?_, ?_⟩
                      · intro v w' hj hd hs K hK
                        have t2 : v 2 = _ := hd.out 2 (by kernel_rfl)
                        have t8 : v 8 = _ := hd.out 8 (by kernel_rfl)
                        obtain ⟨x1, x2, x3⟩ := HBD.out _ hj.out
                        have hk := hK.out
                        simp only [t2, t8, Act.put, List.setIfInBounds_toArray, List.set_cons_zero, List.set_cons_succ] at hk
                        have HK := Lib.hid hk
                        clear hd hs hk hK
                        go_simp
                        exact HK.out _ _ hj.out (Below.refl _ _) (show _ = _ from rfl)
                      refine ⟨?_, ?_⟩
                      · intro v w' hj hd hs K hK
                        have t2 : v 2 = _ := hd.out 2 (by kernel_rfl)
                        have hk := hK.out
                        simp only [t2, Act.put, List.setIfInBounds_toArray, List.set_cons_zero, List.set_cons_succ] at hk
                        have HK := Lib.hid hk
                        clear hd hs hk hK
                        go_simp
                        exact HK.out _ _ hj.out (Below.refl _ _) (show _ = _ from rfl)
                      refine ⟨?_, ?_⟩
                      · intro v w' hj hd hs K hK
                        have t2 : v 2 = _ := hd.out 2 (by kernel_rfl)
                        have hk := hK.out
                        simp only [t2, Act.put, List.setIfInBounds_toArray, List.set_cons_zero, List.set_cons_succ] at hk
                        have HK := Lib.hid hk
                        clear hd hs hk hK
                        go_simp
                        exact HK.out _ _ hj.out (Below.refl _ _) (show _ = _ from rfl)
                      refine ⟨?_, ?_⟩
                      · intro v w' hj hd hs K hK
                        have t2 : v 2 = _ := hd.out 2 (by kernel_rfl)
                        have t10 : v 10 = _ := hd.out 10 (by kernel_rfl)
                        have t11 : v 11 = _ := hd.out 11 (by kernel_rfl)
                        have hk := hK.out
                        simp only [t2, t10, t11, Act.put, List.setIfInBounds_toArray, List.set_cons_zero, List.set_cons_succ] at hk
                        have HK := Lib.hid hk
                        clear hd hs hk hK
                        go_simp
                        exact HK.out _ _ hj.out (Below.refl _ _) (show _ = _ from rfl)
                      refine ⟨?_, ?_⟩
                      · intro v w' hj hd hs K hK
                        have t2 : v 2 = _ := hd.out 2 (by kernel_rfl)
                        have t12 : v 12 = _ := hd.out 12 (by kernel_rfl)
                        obtain ⟨x1, x2, x3⟩ := HBD.out _ hj.out
                        have hk := hK.out
                        simp only [t2, t12, Act.put, List.setIfInBounds_toArray, List.set_cons_zero, List.set_cons_succ] at hk
                        have HK := Lib.hid hk
                        clear hd hs hk hK
                        go_simp
                        exact HK.out _ _ hj.out (Below.refl _ _) (show _ = _ from rfl)
                      refine ⟨?_, ?_⟩
                      · intro v w' hj hd hs K hK
                        have t2 : v 2 = _ := hd.out 2 (by kernel_rfl)
                        have hk := hK.out
                        simp only [t2, Act.put, List.setIfInBounds_toArray, List.set_cons_zero, List.set_cons_succ] at hk
                        have HK := Lib.hid hk
                        clear hd hs hk hK
                        go_simp
                        exact HK.out _ _ hj.out (Below.refl _ _) (show _ = _ from rfl)
                      refine ⟨?_, ?_⟩
                      · intro v w' hj hd hs K hK
                        have t2 : v 2 = _ := hd.out 2 (by kernel_rfl)
                        have t14 : v 14 = _ := hd.out 14 (by kernel_rfl)
                        have hk := hK.out
                        simp only [t2, t14, Act.put, List.setIfInBounds_toArray, List.set_cons_zero, List.set_cons_succ] at hk
                        have HK := Lib.hid hk
                        clear hd hs hk hK
                        go_simp
                        exact HK.out _ _ hj.out (Below.refl _ _) (show _ = _ from rfl)
                      refine ⟨?_, ?_⟩
                      · intro v w' hj hd hs K hK
                        have t2 : v 2 = _ := hd.out 2 (by kernel_rfl)
                        have t13 : v 13 = _ := hd.out 13 (by kernel_rfl)
                        have t15 : v 15 = _ := hd.out 15 (by kernel_rfl)
                        have hk := hK.out
                        simp only [t2, t13, t15, Act.put, List.setIfInBounds_toArray, List.set_cons_zero, List.set_cons_succ] at hk
                        have HK := Lib.hid hk
                        clear hd hs hk hK
                        go_simp
                        exact HK.out _ _ hj.out (Below.refl _ _) (show _ = _ from rfl)
                      refine ⟨?_, ?_⟩
                      · intro v w' hj hd hs K hK
                        have t2 : v 2 = _ := hd.out 2 (by kernel_rfl)
                        have t16 : v 16 = _ := hd.out 16 (by kernel_rfl)
                        obtain ⟨x1, x2, x3⟩ := HBD.out _ hj.out
                        have hk := hK.out
                        simp only [t2, t16, Act.put, List.setIfInBounds_toArray, List.set_cons_zero, List.set_cons_succ] at hk
                        have HK := Lib.hid hk
                        clear hd hs hk hK
                        go_simp
                        exact HK.out _ _ hj.out (Below.refl _ _) (show _ = _ from rfl)
                      refine ⟨?_, ?_⟩
                      · intro v w' hj hd hs K hK
                        have t2 : v 2 = _ := hd.out 2 (by kernel_rfl)
                        have t9 : v 9 = _ := hd.out 9 (by kernel_rfl)
                        have t17 : v 17 = _ := hd.out 17 (by kernel_rfl)
                        have hk := hK.out
                        simp only [t2, t9, t17, Act.put, List.setIfInBounds_toArray, List.set_cons_zero, List.set_cons_succ] at hk
                        have HK := Lib.hid hk
                        clear hd hs hk hK
                        go_simp
                        exact HK.out _ _ hj.out (Below.refl _ _) (show _ = _ from rfl)
                      refine ⟨?_, ?_⟩
                      · intro v w' hj hd hs K hK
                        have t2 : v 2 = _ := hd.out 2 (by kernel_rfl)
                        have t18 : v 18 = _ := hd.out 18 (by kernel_rfl)
                        have hk := hK.out
                        simp only [t2, t18, Act.put, List.setIfInBounds_toArray, List.set_cons_zero, List.set_cons_succ] at hk
                        have HK := Lib.hid hk
                        clear hd hs hk hK
                        go_simp
                        exact HK.out _ _ hj.out (Below.refl _ _) (show _ = _ from rfl)
                      refine ⟨?_, ?_⟩
                      · intro v w' hj hd hs K hK
                        have t19 : v 19 = _ := hd.out 19 (by kernel_rfl)
                        have hk := hK.out
                        simp only [t19, Act.put, List.setIfInBounds_toArray, List.set_cons_zero, List.set_cons_succ] at hk
                        have HK := Lib.hid hk
                        clear hd hs hk hK
                        go_simp
                        exact HK.out _ _ hj.out (Below.refl _ _) (show _ = _ from rfl)
                      refine ⟨?_, ?_⟩
                      · intro v w' hj hd hs K hK
                        have t20 : v 20 = _ := hd.out 20 (by kernel_rfl)
                        have hk := hK.out
                        simp only [t20, Act.put, List.setIfInBounds_toArray, List.set_cons_zero, List.set_cons_succ] at hk
                        have HK := Lib.hid hk
                        clear hd hs hk hK
                        go_simp
                        exact HK.out _ _ hj.out (Below.refl _ _) (show _ = _ from rfl)
                      refine ⟨?_, ?_⟩
                      · intro v w' hj hd hs K hK
                        have t20 : v 20 = _ := hd.out 20 (by kernel_rfl)
                        have hk := hK.out
                        simp only [t20, Act.put, List.setIfInBounds_toArray, List.set_cons_zero, List.set_cons_succ] at hk
                        have HK := Lib.hid hk
                        clear hd hs hk hK
                        go_simp
                        exact HK.out _ _ hj.out (Below.refl _ _) (show _ = _ from rfl)
                      refine ⟨?_, ?_⟩
                      · intro v w' hj hd hs K hK
                        have t20 : v 20 = _ := hd.out 20 (by kernel_rfl)
                        have hk := hK.out
                        simp only [t20, Act.put, List.setIfInBounds_toArray, List.set_cons_zero, List.set_cons_succ] at hk
                        have HK := Lib.hid hk
                        clear hd hs hk hK
                        go_simp
                        exact HK.out _ _ hj.out (Below.refl _ _) (show _ = _ from rfl)
                      refine ⟨?_, ?_⟩
                      · intro v w' hj hd hs K hK
                        have t20 : v 20 = _ := hd.out 20 (by kernel_rfl)
                        have hk := hK.out
                        simp only [t20, Act.put, List.setIfInBounds_toArray, List.set_cons_zero, List.set_cons_succ] at hk
                        have HK := Lib.hid hk
                        clear hd hs hk hK
                        go_simp
                        exact HK.out _ _ hj.out (Below.refl _ _) (show _ = _ from rfl)
                      refine ⟨?_, ?_⟩
                      · intro v w' hj hd hs K hK
                        have t20 : v 20 = _ := hd.out 20 (by kernel_rfl)
                        have t23 : v 23 = _ := hd.out 23 (by kernel_rfl)
                        have t24 : v 24 = _ := hd.out 24 (by kernel_rfl)
                        have hk := hK.out
                        simp only [t20, t23, t24, Act.put, List.setIfInBounds_toArray, List.set_cons_zero, List.set_cons_succ] at hk
                        have HK := Lib.hid hk
                        clear hd hs hk hK
                        go_simp
                        exact HK.out _ _ hj.out (Below.refl _ _) (show _ = _ from rfl)
                      refine ⟨?_, ?_⟩
                      · intro v w' hj hd hs K hK
                        have t20 : v 20 = _ := hd.out 20 (by kernel_rfl)
                        have t25 : v 25 = _ := hd.out 25 (by kernel_rfl)
                        obtain ⟨x1, x2, x3⟩ := HBD.out _ hj.out
                        have hk := hK.out
                        simp only [t20, t25, Act.put, List.setIfInBounds_toArray, List.set_cons_zero, List.set_cons_succ] at hk
                        have HK := Lib.hid hk
                        clear hd hs hk hK
                        go_simp
                        exact HK.out _ _ hj.out (Below.refl _ _) (show _ = _ from rfl)
                      refine ⟨?_, ?_⟩
                      · intro v w' hj hd hs K hK
                        have t20 : v 20 = _ := hd.out 20 (by kernel_rfl)
                        have hk := hK.out
                        simp only [t20, Act.put, List.setIfInBounds_toArray, List.set_cons_zero, List.set_cons_succ] at hk
                        have HK := Lib.hid hk
                        clear hd hs hk hK
                        go_simp
                        exact HK.out _ _ hj.out (Below.refl _ _) (show _ = _ from rfl)
                      refine ⟨?_, ?_⟩
                      · intro v w' hj hd hs K hK
                        have t20 : v 20 = _ := hd.out 20 (by kernel_rfl)
                        have hk := hK.out
                        simp only [t20, Act.put, List.setIfInBounds_toArray, List.set_cons_zero, List.set_cons_succ] at hk
                        have HK := Lib.hid hk
                        clear hd hs hk hK
                        go_simp
                        exact HK.out _ _ hj.out (Below.refl _ _) (show _ = _ from rfl)
                      refine ⟨?_, ?_⟩
                      · intro v w' hj hd hs K hK
                        have t20 : v 20 = _ := hd.out 20 (by kernel_rfl)
                        have t27 : v 27 = _ := hd.out 27 (by kernel_rfl)
                        have t28 : v 28 = _ := hd.out 28 (by kernel_rfl)
                        have hk := hK.out
                        simp only [t20, t27, t28, Act.put, List.setIfInBounds_toArray, List.set_cons_zero, List.set_cons_succ] at hk
                        have HK := Lib.hid hk
                        clear hd hs hk hK
                        go_simp
                        exact HK.out _ _ hj.out (Below.refl _ _) (show _ = _ from rfl)
                      refine ⟨?_, ?_⟩
                      · intro v w' hj hd hs K hK
                        have t20 : v 20 = _ := hd.out 20 (by kernel_rfl)
                        have t29 : v 29 = _ := hd.out 29 (by kernel_rfl)
                        obtain ⟨x1, x2, x3⟩ := HBD.out _ hj.out
                        have hk := hK.out
                        simp only [t20, t29, Act.put, List.setIfInBounds_toArray, List.set_cons_zero, List.set_cons_succ] at hk
                        have HK := Lib.hid hk
                        clear hd hs hk hK
                        go_simp
                        exact HK.out _ _ hj.out (Below.refl _ _) (show _ = _ from rfl)
                      refine ⟨?_, ?_⟩
                      · intro v w' hj hd hs K hK
                        have t20 : v 20 = _ := hd.out 20 (by kernel_rfl)
                        have hk := hK.out
                        simp only [t20, Act.put, List.setIfInBounds_toArray, List.set_cons_zero, List.set_cons_succ] at hk
                        have HK := Lib.hid hk
                        clear hd hs hk hK
                        go_simp
                        exact HK.out _ _ hj.out (Below.refl _ _) (show _ = _ from rfl)
                      refine ⟨?_, ?_⟩
                      · intro v w' hj hd hs K hK
                        have t20 : v 20 = _ := hd.out 20 (by kernel_rfl)
                        have hk := hK.out
                        simp only [t20, Act.put, List.setIfInBounds_toArray, List.set_cons_zero, List.set_cons_succ] at hk
                        have HK := Lib.hid hk
                        clear hd hs hk hK
                        go_simp
                        exact HK.out _ _ hj.out (Below.refl _ _) (show _ = _ from rfl)
                      refine ⟨?_, ?_⟩
                      · intro v w' hj hd hs K hK
                        have t20 : v 20 = _ := hd.out 20 (by kernel_rfl)
                        have t32 : v 32 = _ := hd.out 32 (by kernel_rfl)
                        have hk := hK.out
                        simp only [t20, t32, Act.put, List.setIfInBounds_toArray, List.set_cons_zero, List.set_cons_succ] at hk
                        have HK := Lib.hid hk
                        clear hd hs hk hK
                        go_simp
                        exact HK.out _ _ hj.out (Below.refl _ _) (show _ = _ from rfl)
                      refine ⟨?_, ?_⟩
                      · intro v w' hj hd hs K hK
                        have t20 : v 20 = _ := hd.out 20 (by kernel_rfl)
                        have t30 : v 30 = _ := hd.out 30 (by kernel_rfl)
                        have t31 : v 31 = _ := hd.out 31 (by kernel_rfl)
                        have t33 : v 33 = _ := hd.out 33 (by kernel_rfl)
                        have hk := hK.out
                        simp only [t20, t30, t31, t33, Act.put, List.setIfInBounds_toArray, List.set_cons_zero, List.set_cons_succ] at hk
                        have HK := Lib.hid hk
                        clear hd hs hk hK
                        go_simp
                        exact HK.out _ _ hj.out (Below.refl _ _) (show _ = _ from rfl)
                      refine ⟨?_, ?_⟩
                      · intro v w' hj hd hs K hK
                        have t20 : v 20 = _ := hd.out 20 (by kernel_rfl)
                        have t26 : v 26 = _ := hd.out 26 (by kernel_rfl)
                        have t34 : v 34 = _ := hd.out 34 (by kernel_rfl)
                        obtain ⟨x1, x2, x3⟩ := HBD.out _ hj.out
                        have hk := hK.out
                        simp only [t20, t26, t34, Act.put, List.setIfInBounds_toArray, List.set_cons_zero, List.set_cons_succ] at hk
                        have HK := Lib.hid hk
                        clear hd hs hk hK
                        go_simp
                        have HRC := Lib.hid (HRS.out _ hj.out)
                        refine HRC.out.mono ?_
                        rintro e w3 ⟨vr, rfl, ov, hb2⟩
                        rw [HRQ.out] at ov
                        obtain ⟨R, rc, rfl, hrn⟩ := ns_of_own ov
                        exact HK.out _ _ (hj.out.trans (hb2.mono hj.out.size)) hb2 ⟨R, rc, rfl, hrn⟩
                      refine ⟨?_, ?_⟩
                      · intro v w' hj hd hs K hK
                        have t20 : v 20 = _ := hd.out 20 (by kernel_rfl)
                        have t21 : v 21 = _ := hd.out 21 (by kernel_rfl)
                        have t22 : v 22 = _ := hd.out 22 (by kernel_rfl)
                        obtain ⟨R35, rc35, t35, q35⟩ : NumsSl rs (v 35) w' := hd.out 35 (by kernel_rfl)
                        have hk := hK.out
                        simp only [t20, t21, t22, t35, Act.put, List.setIfInBounds_toArray, List.set_cons_zero, List.set_cons_succ] at hk
                        have HK := Lib.hid hk
                        clear hd hs hk hK
                        go_simp
                        refine (HEV.out R35 rc35 _ hj.out q35.nums).mono ?_
                        rintro e w3 ⟨rfl, hb2⟩
                        exact HK.out _ _ (hj.out.trans (hb2.mono hj.out.size)) hb2 (show _ = _ from rfl)
                      refine ⟨?_, ?_⟩
                      · intro v w' hj hd hs K hK
                        have t20 : v 20 = _ := hd.out 20 (by kernel_rfl)
                        have t36 : v 36 = _ := hd.out 36 (by kernel_rfl)
                        have hk := hK.out
                        simp only [t20, t36, Act.put, List.setIfInBounds_toArray, List.set_cons_zero, List.set_cons_succ] at hk
                        have HK := Lib.hid hk
                        clear hd hs hk hK
                        go_simp
                        exact HK.out _ _ hj.out (Below.refl _ _) (show _ = _ from rfl)
                      trivial
                    case hend =>
                      intro vv w2 hj hd
                      have t37 : vv 37 = _ := hd.out 37 (of_decide_eq_true (by kernel_rfl))
                      simp only [t37]
                      have b1 := hj.out
                      clear hj hd t37
                      go_wp2_with fail
                      go_roundw
                      case rel => exact ⟨q + 1, by omega, by go_num, hbw.trans (b1.mono hbw.size), hb9.trans (b1.mono hb9.size), hbq.trans (b1.mono hbq.size)⟩
                      case measure => simp [intOf]; omega
                · have d4 : decide ((q : Int) < (s.length : Int)) = false := by simp; omega
                  go_wp2_with fail
                  go_roundw
                  case rel => exact ⟨k + 1, true, by omega, HE, rfl, by go_num, hbw, hb9⟩
                  case measure => simp [intOf]; omega
            | false =>
              have HE := Lib.hid (show Fm.sub s ts = (F.take (k + 1)).any fun s => Fm.sub s ts by rw [HE3.out]; rfl)
              have HSB := Lib.hid (subset_any C cc s B d ts wt (by omega) (by omega) x4 (hB.below hbt))
              clear HE3 HX
              go_wp2_with fail
              refine HSB.out.mono ?_
              rintro e wz ⟨rfl, rfl⟩
              go_wp2_with fail
              go_loopw [12] (fun j wr => ∃ q : Nat, q ≤ s.length ∧ j = .int .i64 q ∧ Below w.heap.size w wr ∧ Below w9.heap.size w9 wr ∧ Below wt.heap.size wt wr) (fun j _ => s.length - (intOf j).toNat)
              case atStart => exact ⟨0, by omega, rfl, hbt, hbt9, Below.refl _ _⟩
              case round =>
                obtain ⟨q, hq, rfl, hbw, hb9, hbq⟩ := hrel
                have hgq : g < wr.heap.size := Nat.lt_of_lt_of_le hgt hbq.size
                have c0q := (hbq.cell hgt).trans c0
                by_cases h4 : q < s.length
                · have d4 : decide ((q : Int) < (s.length : Int)) = true := by simp; omega
                  have ii0 : (0 : Int) ≤ (q : Int) := by omega
                  have ii1 : (q : Int) < (s.length : Int) := by omega
                  obtain ⟨y, hy⟩ : ∃ y, s[q]? = some y := ⟨_, List.getElem?_eq_getElem h4⟩
                  have HEF := Lib.hid (HSL.out y (List.mem_of_getElem? hy))
                  obtain ⟨gs, os, es, hgs, cs'⟩ := (x4.below hbq).at h4
                  have cs : wr.cell? ⟨gs, os + q, none⟩ = some (.int .i64 y) := by rw [cs']; congr 2; exact (List.getElem?_eq_some_iff.1 hy).2
                  subst es
                  obtain ⟨rs, hrs⟩ : ∃ rs, restL s [y] = rs := ⟨_, rfl⟩
                  have HRQ := Lib.hid hrs
                  have hrl : rs.length ≤ s.length := by rw [← hrs]; exact restL_len s [y]
                  have HRI := Lib.hid (show ∀ t ∈ rs, I64 t from fun t ht => by rw [← hrs] at ht; exact HSI.out t (mem_restL.1 ht).1)
                  rw [hrs] at HEF
                  have HRS := Lib.hid (show ∀ W, Below wr.heap.size wr W → Calls Try.prog 11 #[.slice (some ⟨gs, os, none⟩) s.length cc, .slice (some ⟨gs, os + q, none⟩) 1 (cc - q)] W (NumsOwn (restL s [y]) W) from
                    fun W hW => rest_any _ cc s _ (cc - q) [y] W (by omega) (by simp) ((x4.below hbq).below hW) (nums_sub (Nat.lt_of_lt_of_le hgs hW.size) ((hW.cell hgs).trans cs)))
                  have HEV := Lib.hid (show ∀ (R : Option Addr) (rc : Nat) W, Below wr.heap.size wr W → Nums W R rs → Calls Try.prog 10 #[.slice A l.length c, .int .i64 i, .slice R rs.length rc] W fun e w' => e = .returned (.bool false) ∧ Below W.heap.size W w' from
                    fun R rc W hW hR => by
                      have := eval_any A c l (i : Int) R rc rs W hg hF (by omega) (by omega) HRI.out ((hA.below hbw).below hW) hR
                      rw [HEF.out] at this
                      exact this)
                  have sl1 : (q : Int) ≤ (q : Int) + 1 := by omega
                  have sl2 : q + 1 ≤ cc := by omega
                  have sl3 : (q : Int) + 1 ≤ (cc : Int) := by omega
                  have sl4 : IntKind.i64.wrap ((q : Int) + 1) = (q : Int) + 1 := by rw [IntKind.wrap_i64]; omega
                  have sl5 : q + 1 - q = 1 := by omega
                  have sl7 : ¬ cc = q := by omega
                  have sl6 : ((q : Int) + 1).toNat = q + 1 := by omega
                  clear hrs cs'
                  rcases Nat.eq_zero_or_pos q with hq0 | hq0
                  · have z1 : decide ((0 : Int) < (q : Int)) = false := decide_eq_false (by omega)
                    have z1' : decide (0 < q) = false := decide_eq_false (by omega)
                    have HBD := Lib.hid (show ∀ W, Below wr.heap.size wr W → W.cell? ⟨g, o + k, none⟩ = some (.slice (some ⟨gs, os, none⟩) s.length cc) ∧ W.cell? ⟨gs, os + q, none⟩ = some (.int .i64 y) ∧ True from
                      fun W hW => ⟨(hW.cell hgq).trans c0q, (hW.cell hgs).trans cs, trivial⟩)
                    clear hy cs hq0
                    go_wp2_with fail
                    refine' wp_region_each _ (Below wr.heap.size wr) (Onward) (Vl :: Vl :: Vl :: Pin undef :: Pin undef :: Pin undef :: Pin undef :: Pin undef :: Pin undef :: Pin undef :: Pin undef :: Pin undef :: Pin undef :: Pin undef :: Pin undef :: Pin undef :: Pin undef :: Pin undef :: Pin undef :: Vl :: Vl :: Vl :: Vl :: Vl :: Vl :: Vl :: Vl :: Vl :: Vl :: Vl :: Vl :: Vl :: Vl :: Vl :: Vl :: NumsSl rs :: Vl :: Vl :: []) ?hF (by kernel_rfl) (by kernel_rfl) (by kernel_rfl) ((Below.refl _ _).drew) (lasting_cons (lasting_vl) (lasting_cons (lasting_vl) (lasting_cons (lasting_vl) (lasting_cons (lasting_pin _) (lasting_cons (lasting_pin _) (lasting_cons (lasting_pin _) (lasting_cons (lasting_pin _) (lasting_cons (lasting_pin _) (lasting_cons (lasting_pin _) (lasting_cons (lasting_pin _) (lasting_cons (lasting_pin _) (lasting_cons (lasting_pin _) (lasting_cons (lasting_pin _) (lasting_cons (lasting_pin _) (lasting_cons (lasting_pin _) (lasting_cons (lasting_pin _) (lasting_cons (lasting_pin _) (lasting_cons (lasting_pin _) (lasting_cons (lasting_pin _) (lasting_cons (lasting_vl) (lasting_cons (lasting_vl) (lasting_cons (lasting_vl) (lasting_cons (lasting_vl) (lasting_cons (lasting_vl) (lasting_cons (lasting_vl) (lasting_cons (lasting_vl) (lasting_cons (lasting_vl) (lasting_cons (lasting_vl) (lasting_cons (lasting_vl) (lasting_cons (lasting_vl) (lasting_cons (lasting_vl) (lasting_cons (lasting_vl) (lasting_cons (lasting_vl) (lasting_cons (lasting_vl) (lasting_cons (lasting_vl) (lasting_cons (lasting_numsSl _) (lasting_cons (lasting_vl) (lasting_cons (lasting_vl) (lasting_none))))))))))))))))))))))))))))))))))))))) ?hops ?hend
                    case hF => (intro v; simp only [over, Act.put, List.setIfInBounds_toArray, List.set_cons_zero, List.set_cons_succ, Nat.zero_add, Nat.reduceAdd]; exact rfl)
                    case hops =>
                      refine ⟨?_, ?_⟩
                      · intro v w' hj hd hs K hK
                        have hk := hK.out
                        simp only [Act.put, List.setIfInBounds_toArray, List.set_cons_zero, List.set_cons_succ] at hk
                        have HK := Lib.hid hk
                        clear hd hs hk hK
                        go_simp
                        exact HK.out _ _ hj.out (Below.refl _ _) (show _ = _ from rfl)
                      refine ⟨?_, ?_⟩
                      · intro v w' hj hd hs K hK
                        have t0 : v 0 = _ := hd.out 0 (by kernel_rfl)
                        have hk := hK.out
                        simp only [t0, Act.put, List.setIfInBounds_toArray, List.set_cons_zero, List.set_cons_succ] at hk
                        have HK := Lib.hid hk
                        clear hd hs hk hK
                        go_simp
                        exact HK.out _ _ hj.out (Below.refl _ _) (show _ = _ from rfl)
                      refine ⟨?_, ?_⟩
                      · intro v w' hj hd hs K hK
                        have t1 : v 1 = _ := hd.out 1 (by kernel_rfl)
                        have hk := hK.out
                        simp only [t1, Act.put, List.setIfInBounds_toArray, List.set_cons_zero, List.set_cons_succ] at hk
                        have HK := Lib.hid hk
                        clear hd hs hk hK
                        go_simp
                        exact HK.out _ _ hj.out (Below.refl _ _) (show _ = _ from rfl)
                      refine ⟨?_, ?_⟩
                      · intro v w' hj hd hs K hK
                        have t2 : v 2 = _ := hd.out 2 (by kernel_rfl)
                        have hk := hK.out
                        simp only [t2, Act.put, List.setIfInBounds_toArray, List.set_cons_zero, List.set_cons_succ] at hk
                        have HK := Lib.hid hk
                        clear hd hs hk hK
                        go_simp
                        exact HK.out _ _ hj.out (Below.refl _ _) (show _ = _ from rfl)
                      refine ⟨?_, ?_⟩
                      · intro v w' hj hd hs K hK
                        have t2 : v 2 = _ := hd.out 2 (by kernel_rfl)
                        have hk := hK.out
                        simp only [t2, Act.put, List.setIfInBounds_toArray, List.set_cons_zero, List.set_cons_succ] at hk
                        have HK := Lib.hid hk
                        clear hd hs hk hK
                        go_simp
                        exact HK.out _ _ hj.out (Below.refl _ _) (show _ = _ from rfl)
                      refine ⟨?_, ?_⟩
                      · intro v w' hj hd hs K hK
                        have t2 : v 2 = _ := hd.out 2 (by kernel_rfl)
                        have hk := hK.out
                        simp only [t2, Act.put, List.setIfInBounds_toArray, List.set_cons_zero, List.set_cons_succ] at hk
                        have HK := Lib.hid hk
                        clear hd hs hk hK
                        go_simp
                        exact HK.out _ _ hj.out (Below.refl _ _) (show _ = _ from rfl)
                      refine ⟨?_, ?_⟩
                      · intro v w' hj hd hs K hK
                        have t2 : v 2 = _ := hd.out 2 (by kernel_rfl)
                        have hk := hK.out
                        simp only [t2, Act.put, List.setIfInBounds_toArray, List.set_cons_zero, List.set_cons_succ] at hk
                        have HK := Lib.hid hk
                        clear hd hs hk hK
                        go_simp
                        exact HK.out _ _ hj.out (Below.refl _ _) (show _ = _ from rfl)
                      refine ⟨?_, ?_⟩
                      · intro v w' hj hd hs K hK
                        have t2 : v 2 = _ := hd.out 2 (by kernel_rfl)
                        have hk := hK.out
                        simp only [t2, Act.put, List.setIfInBounds_toArray, List.set_cons_zero, List.set_cons_succ] at hk
                        have HK := Lib.hid hk
                        clear hd hs hk hK
                        go_simp
                        exact HK.out _ _ hj.out (Below.refl _ _) (show _ = _ from rfl)
                      refine ⟨?_, ?_⟩
                      · intro v w' hj hd hs K hK
                        have t2 : v 2 = _ := hd.out 2 (by kernel_rfl)
                        have hk := hK.out
                        simp only [t2, Act.put, List.setIfInBounds_toArray, List.set_cons_zero, List.set_cons_succ] at hk
                        have HK := Lib.hid hk
                        clear hd hs hk hK
                        go_simp
                        exact HK.out _ _ hj.out (Below.refl _ _) (show _ = _ from rfl)
                      refine ⟨?_, ?_⟩
                      · intro v w' hj hd hs K hK
                        have t2 : v 2 = _ := hd.out 2 (by kernel_rfl)
                        have hk := hK.out
                        simp only [t2, Act.put, List.setIfInBounds_toArray, List.set_cons_zero, List.set_cons_succ] at hk
                        have HK := Lib.hid hk
                        clear hd hs hk hK
                        go_simp
                        exact HK.out _ _ hj.out (Below.refl _ _) (show _ = _ from rfl)
                      refine ⟨?_, ?_⟩
                      · intro v w' hj hd hs K hK
                        have t2 : v 2 = _ := hd.out 2 (by kernel_rfl)
                        have hk := hK.out
                        simp only [t2, Act.put, List.setIfInBounds_toArray, List.set_cons_zero, List.set_cons_succ] at hk
                        have HK := Lib.hid hk
                        clear hd hs hk hK
                        go_simp
                        exact HK.out _ _ hj.out (Below.refl _ _) (show _ = _ from rfl)
                      refine ⟨?_, ?_⟩
                      · intro v w' hj hd hs K hK
                        have t2 : v 2 = _ := hd.out 2 (by kernel_rfl)
                        have hk := hK.out
                        simp only [t2, Act.put, List.setIfInBounds_toArray, List.set_cons_zero, List.set_cons_succ] at hk
                        have HK := Lib.hid hk
                        clear hd hs hk hK
                        go_simp
                        exact HK.out _ _ hj.out (Below.refl _ _) (show _ = _ from rfl)
                      refine ⟨?_, ?_⟩
                      · intro v w' hj hd hs K hK
                        have t2 : v 2 = _ := hd.out 2 (by kernel_rfl)
                        have hk := hK.out
                        simp only [t2, Act.put, List.setIfInBounds_toArray, List.set_cons_zero, List.set_cons_succ] at hk
                        have HK := Lib.hid hk
                        clear hd hs hk hK
                        go_simp
                        exact HK.out _ _ hj.out (Below.refl _ _) (show _ = _ from rfl)
                      refine ⟨?_, ?_⟩
                      · intro v w' hj hd hs K hK
                        have t2 : v 2 = _ := hd.out 2 (by kernel_rfl)
                        have hk := hK.out
                        simp only [t2, Act.put, List.setIfInBounds_toArray, List.set_cons_zero, List.set_cons_succ] at hk
                        have HK := Lib.hid hk
                        clear hd hs hk hK
                        go_simp
                        exact HK.out _ _ hj.out (Below.refl _ _) (show _ = _ from rfl)
                      refine ⟨?_, ?_⟩
                      · intro v w' hj hd hs K hK
                        have t2 : v 2 = _ := hd.out 2 (by kernel_rfl)
                        have hk := hK.out
                        simp only [t2, Act.put, List.setIfInBounds_toArray, List.set_cons_zero, List.set_cons_succ] at hk
                        have HK := Lib.hid hk
                        clear hd hs hk hK
                        go_simp
                        exact HK.out _ _ hj.out (Below.refl _ _) (show _ = _ from rfl)
                      refine ⟨?_, ?_⟩
                      · intro v w' hj hd hs K hK
                        have t2 : v 2 = _ := hd.out 2 (by kernel_rfl)
                        have hk := hK.out
                        simp only [t2, Act.put, List.setIfInBounds_toArray, List.set_cons_zero, List.set_cons_succ] at hk
                        have HK := Lib.hid hk
                        clear hd hs hk hK
                        go_simp
                        exact HK.out _ _ hj.out (Below.refl _ _) (show _ = _ from rfl)
                      refine ⟨?_, ?_⟩
                      · intro v w' hj hd hs K hK
                        have t2 : v 2 = _ := hd.out 2 (by kernel_rfl)
                        have hk := hK.out
                        simp only [t2, Act.put, List.setIfInBounds_toArray, List.set_cons_zero, List.set_cons_succ] at hk
                        have HK := Lib.hid hk
                        clear hd hs hk hK
                        go_simp
                        exact HK.out _ _ hj.out (Below.refl _ _) (show _ = _ from rfl)
                      refine ⟨?_, ?_⟩
                      · intro v w' hj hd hs K hK
                        have t2 : v 2 = _ := hd.out 2 (by kernel_rfl)
                        have hk := hK.out
                        simp only [t2, Act.put, List.setIfInBounds_toArray, List.set_cons_zero, List.set_cons_succ] at hk
                        have HK := Lib.hid hk
                        clear hd hs hk hK
                        go_simp
                        exact HK.out _ _ hj.out (Below.refl _ _) (show _ = _ from rfl)
                      refine ⟨?_, ?_⟩
                      · intro v w' hj hd hs K hK
                        have t2 : v 2 = _ := hd.out 2 (by kernel_rfl)
                        have hk := hK.out
                        simp only [t2, Act.put, List.setIfInBounds_toArray, List.set_cons_zero, List.set_cons_succ] at hk
                        have HK := Lib.hid hk
                        clear hd hs hk hK
                        go_simp
                        exact HK.out _ _ hj.out (Below.refl _ _) (show _ = _ from rfl)
                      refine ⟨?_, ?_⟩
                      · intro v w' hj hd hs K hK
                        have t2 : v 2 = _ := hd.out 2 (by kernel_rfl)
                        have t18 : v 18 = _ := hd.out 18 (by kernel_rfl)
                        have hk := hK.out
                        simp only [t2, t18, Act.put, List.setIfInBounds_toArray, List.set_cons_zero, List.set_cons_succ] at hk
                        have HK := Lib.hid hk
                        clear hd hs hk hK
                        go_simp
                        exact HK.out _ _ hj.out (Below.refl _ _) (show _ = _ from rfl)
                      refine ⟨?_, ?_⟩
                      · intro v w' hj hd hs K hK
                        have t19 : v 19 = _ := hd.out 19 (by kernel_rfl)
                        have hk := hK.out
                        simp only [t19, Act.put, List.setIfInBounds_toArray, List.set_cons_zero, List.set_cons_succ] at hk
                        have HK := Lib.hid hk
                        clear hd hs hk hK
                        go_simp
                        exact HK.out _ _ hj.out (Below.refl _ _) (show _ = _ from rfl)
                      refine ⟨?_, ?_⟩
                      · intro v w' hj hd hs K hK
                        have t20 : v 20 = _ := hd.out 20 (by kernel_rfl)
                        have hk := hK.out
                        simp only [t20, Act.put, List.setIfInBounds_toArray, List.set_cons_zero, List.set_cons_succ] at hk
                        have HK := Lib.hid hk
                        clear hd hs hk hK
                        go_simp
                        exact HK.out _ _ hj.out (Below.refl _ _) (show _ = _ from rfl)
                      refine ⟨?_, ?_⟩
                      · intro v w' hj hd hs K hK
                        have t20 : v 20 = _ := hd.out 20 (by kernel_rfl)
                        have hk := hK.out
                        simp only [t20, Act.put, List.setIfInBounds_toArray, List.set_cons_zero, List.set_cons_succ] at hk
                        have HK := Lib.hid hk
                        clear hd hs hk hK
                        go_simp
                        exact HK.out _ _ hj.out (Below.refl _ _) (show _ = _ from rfl)
                      refine ⟨?_, ?_⟩
                      · intro v w' hj hd hs K hK
                        have t20 : v 20 = _ := hd.out 20 (by kernel_rfl)
                        have hk := hK.out
                        simp only [t20, Act.put, List.setIfInBounds_toArray, List.set_cons_zero, List.set_cons_succ] at hk
                        have HK := Lib.hid hk
                        clear hd hs hk hK
                        go_simp
                        exact HK.out _ _ hj.out (Below.refl _ _) (show _ = _ from rfl)
                      refine ⟨?_, ?_⟩
                      · intro v w' hj hd hs K hK
                        have t20 : v 20 = _ := hd.out 20 (by kernel_rfl)
                        have hk := hK.out
                        simp only [t20, Act.put, List.setIfInBounds_toArray, List.set_cons_zero, List.set_cons_succ] at hk
                        have HK := Lib.hid hk
                        clear hd hs hk hK
                        go_simp
                        exact HK.out _ _ hj.out (Below.refl _ _) (show _ = _ from rfl)
                      refine ⟨?_, ?_⟩
                      · intro v w' hj hd hs K hK
                        have t20 : v 20 = _ := hd.out 20 (by kernel_rfl)
                        have t23 : v 23 = _ := hd.out 23 (by kernel_rfl)
                        have t24 : v 24 = _ := hd.out 24 (by kernel_rfl)
                        have hk := hK.out
                        simp only [t20, t23, t24, Act.put, List.setIfInBounds_toArray, List.set_cons_zero, List.set_cons_succ] at hk
                        have HK := Lib.hid hk
                        clear hd hs hk hK
                        go_simp
                        exact HK.out _ _ hj.out (Below.refl _ _) (show _ = _ from rfl)
                      refine ⟨?_, ?_⟩
                      · intro v w' hj hd hs K hK
                        have t20 : v 20 = _ := hd.out 20 (by kernel_rfl)
                        have t25 : v 25 = _ := hd.out 25 (by kernel_rfl)
                        obtain ⟨x1, x2, x3⟩ := HBD.out _ hj.out
                        have hk := hK.out
                        simp only [t20, t25, Act.put, List.setIfInBounds_toArray, List.set_cons_zero, List.set_cons_succ] at hk
                        have HK := Lib.hid hk
                        clear hd hs hk hK
                        go_simp
                        exact HK.out _ _ hj.out (Below.refl _ _) (show _ = _ from rfl)
                      refine ⟨?_, ?_⟩
                      · intro v w' hj hd hs K hK
                        have t20 : v 20 = _ := hd.out 20 (by kernel_rfl)
                        have hk := hK.out
                        simp only [t20, Act.put, List.setIfInBounds_toArray, List.set_cons_zero, List.set_cons_succ] at hk
                        have HK := Lib.hid hk
                        clear hd hs hk hK
                        go_simp
                        exact HK.out _ _ hj.out (Below.refl _ _) (show _ = _ from rfl)
                      refine ⟨?_, ?_⟩
                      · intro v w' hj hd hs K hK
                        have t20 : v 20 = _ := hd.out 20 (by kernel_rfl)
                        have hk := hK.out
                        simp only [t20, Act.put, List.setIfInBounds_toArray, List.set_cons_zero, List.set_cons_succ] at hk
                        have HK := Lib.hid hk
                        clear hd hs hk hK
                        go_simp
                        exact HK.out _ _ hj.out (Below.refl _ _) (show _ = _ from rfl)
                      refine ⟨?_, ?_⟩
                      · intro v w' hj hd hs K hK
                        have t20 : v 20 = _ := hd.out 20 (by kernel_rfl)
                        have t27 : v 27 = _ := hd.out 27 (by kernel_rfl)
                        have t28 : v 28 = _ := hd.out 28 (by kernel_rfl)
                        have hk := hK.out
                        simp only [t20, t27, t28, Act.put, List.setIfInBounds_toArray, List.set_cons_zero, List.set_cons_succ] at hk
                        have HK := Lib.hid hk
                        clear hd hs hk hK
                        go_simp
                        exact HK.out _ _ hj.out (Below.refl _ _) (show _ = _ from rfl)
                      refine ⟨?_, ?_⟩
                      · intro v w' hj hd hs K hK
                        have t20 : v 20 = _ := hd.out 20 (by kernel_rfl)
                        have t29 : v 29 = _ := hd.out 29 (by kernel_rfl)
                        obtain ⟨x1, x2, x3⟩ := HBD.out _ hj.out
                        have hk := hK.out
                        simp only [t20, t29, Act.put, List.setIfInBounds_toArray, List.set_cons_zero, List.set_cons_succ] at hk
                        have HK := Lib.hid hk
                        clear hd hs hk hK
                        go_simp
                        exact HK.out _ _ hj.out (Below.refl _ _) (show _ = _ from rfl)
                      refine ⟨?_, ?_⟩
                      · intro v w' hj hd hs K hK
                        have t20 : v 20 = _ := hd.out 20 (by kernel_rfl)
                        have hk := hK.out
                        simp only [t20, Act.put, List.setIfInBounds_toArray, List.set_cons_zero, List.set_cons_succ] at hk
                        have HK := Lib.hid hk
                        clear hd hs hk hK
                        go_simp
                        exact HK.out _ _ hj.out (Below.refl _ _) (show _ = _ from rfl)
                      refine ⟨?_, ?_⟩
                      · intro v w' hj hd hs K hK
                        have t20 : v 20 = _ := hd.out 20 (by kernel_rfl)
                        have hk := hK.out
                        simp only [t20, Act.put, List.setIfInBounds_toArray, List.set_cons_zero, List.set_cons_succ] at hk
                        have HK := Lib.hid hk
                        clear hd hs hk hK
                        go_simp
                        exact HK.out _ _ hj.out (Below.refl _ _) (show _ = _ from rfl)
                      refine ⟨?_, ?_⟩
                      · intro v w' hj hd hs K hK
                        have t20 : v 20 = _ := hd.out 20 (by kernel_rfl)
                        have t32 : v 32 = _ := hd.out 32 (by kernel_rfl)
                        have hk := hK.out
                        simp only [t20, t32, Act.put, List.setIfInBounds_toArray, List.set_cons_zero, List.set_cons_succ] at hk
                        have HK := Lib.hid hk
                        clear hd hs hk hK
                        go_simp
                        exact HK.out _ _ hj.out (Below.refl _ _) (show _ = _ from rfl)
                      refine ⟨?_, ?_⟩
                      · intro v w' hj hd hs K hK
                        have t20 : v 20 = _ := hd.out 20 (by kernel_rfl)
                        have t30 : v 30 = _ := hd.out 30 (by kernel_rfl)
                        have t31 : v 31 = _ := hd.out 31 (by kernel_rfl)
                        have t33 : v 33 = _ := hd.out 33 (by kernel_rfl)
                        have hk := hK.out
                        simp only [t20, t30, t31, t33, Act.put, List.setIfInBounds_toArray, List.set_cons_zero, List.set_cons_succ] at hk
                        have HK := Lib.hid hk
                        clear hd hs hk hK
                        go_simp
                        exact HK.out _ _ hj.out (Below.refl _ _) (show _ = _ from rfl)
                      refine ⟨?_, ?_⟩
                      · intro v w' hj hd hs K hK
                        have t20 : v 20 = _ := hd.out 20 (by kernel_rfl)
                        have t26 : v 26 = _ := hd.out 26 (by kernel_rfl)
                        have t34 : v 34 = _ := hd.out 34 (by kernel_rfl)
                        obtain ⟨x1, x2, x3⟩ := HBD.out _ hj.out
                        have hk := hK.out
                        simp only [t20, t26, t34, Act.put, List.setIfInBounds_toArray, List.set_cons_zero, List.set_cons_succ] at hk
                        have HK := Lib.hid hk
                        clear hd hs hk hK
                        go_simp
                        have HRC := Lib.hid (HRS.out _ hj.out)
                        refine HRC.out.mono ?_
                        rintro e w3 ⟨vr, rfl, ov, hb2⟩
                        rw [HRQ.out] at ov
                        obtain ⟨R, rc, rfl, hrn⟩ := ns_of_own ov
                        exact HK.out _ _ (hj.out.trans (hb2.mono hj.out.size)) hb2 ⟨R, rc, rfl, hrn⟩
                      refine ⟨?_, ?_⟩
                      · intro v w' hj hd hs K hK
                        have t20 : v 20 = _ := hd.out 20 (by kernel_rfl)
                        have t21 : v 21 = _ := hd.out 21 (by kernel_rfl)
                        have t22 : v 22 = _ := hd.out 22 (by kernel_rfl)
                        obtain ⟨R35, rc35, t35, q35⟩ : NumsSl rs (v 35) w' := hd.out 35 (by kernel_rfl)
                        have hk := hK.out
                        simp only [t20, t21, t22, t35, Act.put, List.setIfInBounds_toArray, List.set_cons_zero, List.set_cons_succ] at hk
                        have HK := Lib.hid hk
                        clear hd hs hk hK
                        go_simp
                        refine (HEV.out R35 rc35 _ hj.out q35.nums).mono ?_
                        rintro e w3 ⟨rfl, hb2⟩
                        exact HK.out _ _ (hj.out.trans (hb2.mono hj.out.size)) hb2 (show _ = _ from rfl)
                      refine ⟨?_, ?_⟩
                      · intro v w' hj hd hs K hK
                        have t20 : v 20 = _ := hd.out 20 (by kernel_rfl)
                        have t36 : v 36 = _ := hd.out 36 (by kernel_rfl)
                        have hk := hK.out
                        simp only [t20, t36, Act.put, List.setIfInBounds_toArray, List.set_cons_zero, List.set_cons_succ] at hk
                        have HK := Lib.hid hk
                        clear hd hs hk hK
                        go_simp
                        exact HK.out _ _ hj.out (Below.refl _ _) (show _ = _ from rfl)
                      trivial
                    case hend =>
                      intro vv w2 hj hd
                      have t37 : vv 37 = _ := hd.out 37 (of_decide_eq_true (by kernel_rfl))
                      simp only [t37]
                      have b1 := hj.out
                      clear hj hd t37
                      go_wp2_with fail
                      go_roundw
                      case rel => exact ⟨q + 1, by omega, by go_num, hbw.trans (b1.mono hbw.size), hb9.trans (b1.mono hb9.size), hbq.trans (b1.mono hbq.size)⟩
                      case measure => simp [intOf]; omega
                  · obtain ⟨q', hq'⟩ : ∃ q', q = q' + 1 := ⟨q - 1, by omega⟩
                    have z1 : decide ((0 : Int) < (q : Int)) = true := decide_eq_true (by omega)
                    have z1' : decide (0 < q) = true := decide_eq_true (by omega)
                    obtain ⟨u, hu⟩ : ∃ u, s[q']? = some u := ⟨_, List.getElem?_eq_getElem (by omega)⟩
                    have hlt := inc_at HSC.out hu (by rw [← hq']; exact hy)
                    have z2 : decide (y ≤ u) = false := by simp; omega
                    obtain ⟨gu, ou, eu, hgu, cu'⟩ := (x4.below hbq).at (show q' < s.length by omega)
                    have cu : wr.cell? ⟨gs, os + q', none⟩ = some (.int .i64 u) := by
                      have eu' := Option.some.inj eu
                      injection eu' with e2 e3
                      subst e2; subst e3
                      rw [cu']; congr 2; exact (List.getElem?_eq_some_iff.1 hu).2
                    have n0 : (q : Int) - 1 = (q' : Int) := by omega
                    have n1 : IntKind.i64.wrap ((q : Int) - 1) = (q' : Int) := by rw [IntKind.wrap_i64]; omega
                    have n2 : IntKind.i64.wrap (q' : Int) = (q' : Int) := by rw [IntKind.wrap_i64]; omega
                    have jj0 : (0 : Int) ≤ (q' : Int) := by omega
                    have jj1 : (q' : Int) < (s.length : Int) := by omega
                    have HBD := Lib.hid (show ∀ W, Below wr.heap.size wr W → W.cell? ⟨g, o + k, none⟩ = some (.slice (some ⟨gs, os, none⟩) s.length cc) ∧ W.cell? ⟨gs, os + q, none⟩ = some (.int .i64 y) ∧ W.cell? ⟨gs, os + q', none⟩ = some (.int .i64 u) from
                      fun W hW => ⟨(hW.cell hgq).trans c0q, (hW.cell hgs).trans cs, (hW.cell hgs).trans cu⟩)
                    clear hy hu hlt eu cu' cs cu hq0 hq'
                    go_wp2_with fail
                    refine' wp_region_each _ (Below wr.heap.size wr) (Onward) (Vl :: Vl :: Vl :: Vl :: Vl :: Vl :: Vl :: Vl :: Vl :: Vl :: Vl :: Vl :: Vl :: Vl :: Vl :: Vl :: Vl :: Vl :: Vl :: Vl :: Vl :: Vl :: Vl :: Vl :: Vl :: Vl :: Vl :: Vl :: Vl :: Vl :: Vl :: Vl :: Vl :: Vl :: Vl :: NumsSl rs :: Vl :: Vl :: []) ?hF (by kernel_rfl) (by kernel_rfl) (by kernel_rfl) ((Below.refl _ _).drew) (lasting_cons (lasting_vl) (lasting_cons (lasting_vl) (lasting_cons (lasting_vl) (lasting_cons (lasting_vl) (lasting_cons (lasting_vl) (lasting_cons (lasting_vl) (lasting_cons (lasting_vl) (lasting_cons (lasting_vl) (lasting_cons (lasting_vl) (lasting_cons (lasting_vl) (lasting_cons (lasting_vl) (lasting_cons (lasting_vl) (lasting_cons (lasting_vl) (lasting_cons (lasting_vl) (lasting_cons (lasting_vl) (lasting_cons (lasting_vl) (lasting_cons (lasting_vl) (lasting_cons (lasting_vl) (lasting_cons (lasting_vl) (lasting_cons (lasting_vl) (lasting_cons (lasting_vl) (lasting_cons (lasting_vl) (lasting_cons (lasting_vl) (lasting_cons (lasting_vl) (lasting_cons (lasting_vl) (lasting_cons (lasting_vl) (lasting_cons (lasting_vl) (lasting_cons (lasting_vl) (lasting_cons (lasting_vl) (lasting_cons (lasting_vl) (lasting_cons (lasting_vl) (lasting_cons (lasting_vl) (lasting_cons (lasting_vl) (lasting_cons (lasting_vl) (lasting_cons (lasting_vl) (lasting_cons (lasting_numsSl _) (lasting_cons (lasting_vl) (lasting_cons (lasting_vl) (lasting_none))))))))))))))))))))))))))))))))))))))) ?hops ?hend
                    case hF => (intro v; simp only [over, Act.put, List.setIfInBounds_toArray, List.set_cons_zero, List.set_cons_succ, Nat.zero_add, Nat.reduceAdd]; exact rfl)
                    case hops =>
                      refine ⟨?_, ?_⟩
                      · intro v w' hj hd hs K hK
                        have hk := hK.out
                        simp only [Act.put, List.setIfInBounds_toArray, List.set_cons_zero, List.set_cons_succ] at hk
                        have HK := Lib.hid hk
                        clear hd hs hk hK
                        go_simp
                        exact HK.out _ _ hj.out (Below.refl _ _) (show _ = _ from rfl)
                      refine ⟨?_, ?_⟩
                      · intro v w' hj hd hs K hK
                        have t0 : v 0 = _ := hd.out 0 (by kernel_rfl)
                        have hk := hK.out
                        simp only [t0, Act.put, List.setIfInBounds_toArray, List.set_cons_zero, List.set_cons_succ] at hk
                        have HK := Lib.hid hk
                        clear hd hs hk hK
                        go_simp
                        exact HK.out _ _ hj.out (Below.refl _ _) (show _ = _ from rfl)
                      refine ⟨?_, ?_⟩
                      · intro v w' hj hd hs K hK
                        have t1 : v 1 = _ := hd.out 1 (by kernel_rfl)
                        have hk := hK.out
                        simp only [t1, Act.put, List.setIfInBounds_toArray, List.set_cons_zero, List.set_cons_succ] at hk
                        have HK := Lib.hid hk
                        clear hd hs hk hK
                        go_simp
                        exact HK.out _ _ hj.out (Below.refl _ _) (show _ = _ from rfl)
                      refine ⟨?_, ?_⟩
                      · intro v w' hj hd hs K hK
                        have t2 : v 2 = _ := hd.out 2 (by kernel_rfl)
                        have hk := hK.out
                        simp only [t2, Act.put, List.setIfInBounds_toArray, List.set_cons_zero, List.set_cons_succ] at hk
                        have HK := Lib.hid hk
                        clear hd hs hk hK
                        go_simp
                        exact HK.out _ _ hj.out (Below.refl _ _) (show _ = _ from rfl)
                      refine ⟨?_, ?_⟩
                      · intro v w' hj hd hs K hK
                        have t2 : v 2 = _ := hd.out 2 (by kernel_rfl)
                        have hk := hK.out
                        simp only [t2, Act.put, List.setIfInBounds_toArray, List.set_cons_zero, List.set_cons_succ] at hk
                        have HK := Lib.hid hk
                        clear hd hs hk hK
                        go_simp
                        exact HK.out _ _ hj.out (Below.refl _ _) (show _ = _ from rfl)
                      refine ⟨?_, ?_⟩
                      · intro v w' hj hd hs K hK
                        have t2 : v 2 = _ := hd.out 2 (by kernel_rfl)
                        have t3 : v 3 = _ := hd.out 3 (by kernel_rfl)
                        have t4 : v 4 = _ := hd.out 4 (by kernel_rfl)
                        have hk := hK.out
                        simp only [t2, t3, t4, Act.put, List.setIfInBounds_toArray, List.set_cons_zero, List.set_cons_succ] at hk
                        have HK := Lib.hid hk
                        clear hd hs hk hK
                        go_simp
                        exact HK.out _ _ hj.out (Below.refl _ _) (show _ = _ from rfl)
                      refine ⟨?_, ?_⟩
                      · intro v w' hj hd hs K hK
                        have t2 : v 2 = _ := hd.out 2 (by kernel_rfl)
                        have t5 : v 5 = _ := hd.out 5 (by kernel_rfl)
                        obtain ⟨x1, x2, x3⟩ := HBD.out _ hj.out
                        have hk := hK.out
                        simp only [t2, t5, Act.put, List.setIfInBounds_toArray, List.set_cons_zero, List.set_cons_succ] at hk
                        have HK := Lib.hid hk
                        clear hd hs hk hK
                        go_simp
                        exact HK.out _ _ hj.out (Below.refl _ _) (show _ = _ from rfl)
                      refine ⟨?_, ?_⟩
                      · intro v w' hj hd hs K hK
                        have t2 : v 2 = _ := hd.out 2 (by kernel_rfl)
                        have hk := hK.out
                        simp only [t2, Act.put, List.setIfInBounds_toArray, List.set_cons_zero, List.set_cons_succ] at hk
                        have HK := Lib.hid hk
                        clear hd hs hk hK
                        go_simp
                        exact HK.out _ _ hj.out (Below.refl _ _) (show _ = _ from rfl)
                      refine ⟨?_, ?_⟩
                      · intro v w' hj hd hs K hK
                        have t2 : v 2 = _ := hd.out 2 (by kernel_rfl)
                        have t6 : v 6 = _ := hd.out 6 (by kernel_rfl)
                        have t7 : v 7 = _ := hd.out 7 (by kernel_rfl)
                        have hk := hK.out
                        simp only [t2, t6, t7, Act.put, List.setIfInBounds_toArray, List.set_cons_zero, List.set_cons_succ] at hk
                        have HK := Lib.hid hk
                        clear hd hs hk hK
                        go_simp
                        exact HK.out _ _ hj.out (Below.refl _ _) (show _ = _ from rfl)
                      refine ⟨?_, ?_⟩
                      · intro v w' hj hd hs K hK
                        have t2 : v 2 = _ := hd.out 2 (by kernel_rfl)
                        have t8 : v 8 = _ := hd.out 8 (by kernel_rfl)
                        obtain ⟨x1, x2, x3⟩ := HBD.out _ hj.out
                        have hk := hK.out
                        simp only [t2, t8, Act.put, List.setIfInBounds_toArray, List.set_cons_zero, List.set_cons_succ] at hk
                        have HK := Lib.hid hk
                        clear hd hs hk hK
                        go_simp
                        exact HK.out _ _ hj.out (Below.refl _ _) (show _ = _ from rfl)
                      refine ⟨?_, ?_⟩
                      · intro v w' hj hd hs K hK
                        have t2 : v 2 = _ := hd.out 2 (by kernel_rfl)
                        have hk := hK.out
                        simp only [t2, Act.put, List.setIfInBounds_toArray, List.set_cons_zero, List.set_cons_succ] at hk
                        have HK := Lib.hid hk
                        clear hd hs hk hK
                        go_simp
                        exact HK.out _ _ hj.out (Below.refl _ _) (show _ = _ from rfl)
                      refine ⟨?_, ?_⟩
                      · intro v w' hj hd hs K hK
                        have t2 : v 2 = _ := hd.out 2 (by kernel_rfl)
                        have hk := hK.out
                        simp only [t2, Act.put, List.setIfInBounds_toArray, List.set_cons_zero, List.set_cons_succ] at hk
                        have HK := Lib.hid hk
                        clear hd hs hk hK
                        go_simp
                        exact HK.out _ _ hj.out (Below.refl _ _) (show _ = _ from rfl)
                      refine ⟨?_, ?_⟩
                      · intro v w' hj hd hs K hK
                        have t2 : v 2 = _ := hd.out 2 (by kernel_rfl)
                        have t10 : v 10 = _ := hd.out 10 (by kernel_rfl)
                        have t11 : v 11 = _ := hd.out 11 (by kernel_rfl)
                        have hk := hK.out
                        simp only [t2, t10, t11, Act.put, List.setIfInBounds_toArray, List.set_cons_zero, List.set_cons_succ] at hk
                        have HK := Lib.hid hk
                        clear hd hs hk hK
                        go_simp
                        exact HK.out _ _ hj.out (Below.refl _ _) (show _ = _ from rfl)
                      refine ⟨?_, ?_⟩
                      · intro v w' hj hd hs K hK
                        have t2 : v 2 = _ := hd.out 2 (by kernel_rfl)
                        have t12 : v 12 = _ := hd.out 12 (by kernel_rfl)
                        obtain ⟨x1, x2, x3⟩ := HBD.out _ hj.out
                        have hk := hK.out
                        simp only [t2, t12, Act.put, List.setIfInBounds_toArray, List.set_cons_zero, List.set_cons_succ] at hk
                        have HK := Lib.hid hk
                        clear hd hs hk hK
                        go_simp
                        exact HK.out _ _ hj.out (Below.refl _ _) (show _ = _ from rfl)
                      refine ⟨?_, ?_⟩
                      · intro v w' hj hd hs K hK
                        have t2 : v 2 = _ := hd.out 2 (by kernel_rfl)
                        have hk := hK.out
                        simp only [t2, Act.put, List.setIfInBounds_toArray, List.set_cons_zero, List.set_cons_succ] at hk
                        have HK := Lib.hid hk
                        clear hd hs hk hK
                        go_simp
                        exact HK.out _ _ hj.out (Below.refl _ _) (show _ = _ from rfl)
                      refine ⟨?_, ?_⟩
                      · intro v w' hj hd hs K hK
                        have t2 : v 2 = _ := hd.out 2 (by kernel_rfl)
                        have t14 : v 14 = _ := hd.out 14 (by kernel_rfl)
                        have hk := hK.out
                        simp only [t2, t14, Act.put, List.setIfInBounds_toArray, List.set_cons_zero, List.set_cons_succ] at hk
                        have HK := Lib.hid hk
                        clear hd hs hk hK
                        go_simp
                        exact HK.out _ _ hj.out (Below.refl _ _) (show _ = _ from rfl)
                      refine ⟨?_, ?_⟩
                      · intro v w' hj hd hs K hK
                        have t2 : v 2 = _ := hd.out 2 (by kernel_rfl)
                        have t13 : v 13 = _ := hd.out 13 (by kernel_rfl)
                        have t15 : v 15 = _ := hd.out 15 (by kernel_rfl)
                        have hk := hK.out
                        simp only [t2, t13, t15, Act.put, List.setIfInBounds_toArray, List.set_cons_zero, List.set_cons_succ] at hk
                        have HK := Lib.hid hk
                        clear hd hs hk hK
                        go_simp
                        exact HK.out _ _ hj.out (Below.refl _ _) (show _ = _ from rfl)
                      refine ⟨?_, ?_⟩
                      · intro v w' hj hd hs K hK
                        have t2 : v 2 = _ := hd.out 2 (by kernel_rfl)
                        have t16 : v 16 = _ := hd.out 16 (by kernel_rfl)
                        obtain ⟨x1, x2, x3⟩ := HBD.out _ hj.out
                        have hk := hK.out
                        simp only [t2, t16, Act.put, List.setIfInBounds_toArray, List.set_cons_zero, List.set_cons_succ] at hk
                        have HK := Lib.hid hk
                        clear hd hs hk hK
                        go_simp
                        exact HK.out _ _ hj.out (Below.refl _ _) (show _ = _ from rfl)
                      refine ⟨?_, ?_⟩
                      · intro v w' hj hd hs K hK
                        have t2 : v 2 = _ := hd.out 2 (by kernel_rfl)
                        have t9 : v 9 = _ := hd.out 9 (by kernel_rfl)
                        have t17 : v 17 = _ := hd.out 17 (by kernel_rfl)
                        have hk := hK.out
                        simp only [t2, t9, t17, Act.put, List.setIfInBounds_toArray, List.set_cons_zero, List.set_cons_succ] at hk
                        have HK := Lib.hid hk
                        clear hd hs hk hK
                        go_simp
                        exact HK.out _ _ hj.out (Below.refl _ _) (show _ = _ from rfl)
                      refine ⟨?_, ?_⟩
                      · intro v w' hj hd hs K hK
                        have t2 : v 2 = _ := hd.out 2 (by kernel_rfl)
                        have t18 : v 18 = _ := hd.out 18 (by kernel_rfl)
                        have hk := hK.out
                        simp only [t2, t18, Act.put, List.setIfInBounds_toArray, List.set_cons_zero, List.set_cons_succ] at hk
                        have HK := Lib.hid hk
                        clear hd hs hk hK
                        go_simp
                        exact HK.out _ _ hj.out (Below.refl _ _) (show _ = _ from rfl)
                      refine ⟨?_, ?_⟩
                      · intro v w' hj hd hs K hK
                        have t19 : v 19 = _ := hd.out 19 (by kernel_rfl)
                        have hk := hK.out
                        simp only [t19, Act.put, List.setIfInBounds_toArray, List.set_cons_zero, List.set_cons_succ] at hk
                        have HK := Lib.hid hk
                        clear hd hs hk hK
                        go_simp
                        exact HK.out _ _ hj.out (Below.refl _ _) (show _ = _ from rfl)
                      refine ⟨?_, ?_⟩
                      · intro v w' hj hd hs K hK
                        have t20 : v 20 = _ := hd.out 20 (by kernel_rfl)
                        have hk := hK.out
                        simp only [t20, Act.put, List.setIfInBounds_toArray, List.set_cons_zero, List.set_cons_succ] at hk
                        have HK := Lib.hid hk
                        clear hd hs hk hK
                        go_simp
                        exact HK.out _ _ hj.out (Below.refl _ _) (show _ = _ from rfl)
                      refine ⟨?_, ?_⟩
                      · intro v w' hj hd hs K hK
                        have t20 : v 20 = _ := hd.out 20 (by kernel_rfl)
                        have hk := hK.out
                        simp only [t20, Act.put, List.setIfInBounds_toArray, List.set_cons_zero, List.set_cons_succ] at hk
                        have HK := Lib.hid hk
                        clear hd hs hk hK
                        go_simp
                        exact HK.out _ _ hj.out (Below.refl _ _) (show _ = _ from rfl)
                      refine ⟨?_, ?_⟩
                      · intro v w' hj hd hs K hK
                        have t20 : v 20 = _ := hd.out 20 (by kernel_rfl)
                        have hk := hK.out
                        simp only [t20, Act.put, List.setIfInBounds_toArray, List.set_cons_zero, List.set_cons_succ] at hk
                        have HK := Lib.hid hk
                        clear hd hs hk hK
                        go_simp
                        exact HK.out _ _ hj.out (Below.refl _ _) (show _ = _ from rfl)
                      refine ⟨?_, ?_⟩
                      · intro v w' hj hd hs K hK
                        have t20 : v 20 = _ := hd.out 20 (by kernel_rfl)
                        have hk := hK.out
                        simp only [t20, Act.put, List.setIfInBounds_toArray, List.set_cons_zero, List.set_cons_succ] at hk
                        have HK := Lib.hid hk
                        clear hd hs hk hK
                        go_simp
                        exact HK.out _ _ hj.out (Below.refl _ _) (show _ = _ from rfl)
                      refine ⟨?_, ?_⟩
                      · intro v w' hj hd hs K hK
                        have t20 : v 20 = _ := hd.out 20 (by kernel_rfl)
                        have t23 : v 23 = _ := hd.out 23 (by kernel_rfl)
                        have t24 : v 24 = _ := hd.out 24 (by kernel_rfl)
                        have hk := hK.out
                        simp only [t20, t23, t24, Act.put, List.setIfInBounds_toArray, List.set_cons_zero, List.set_cons_succ] at hk
                        have HK := Lib.hid hk
                        clear hd hs hk hK
                        go_simp
                        exact HK.out _ _ hj.out (Below.refl _ _) (show _ = _ from rfl)
                      refine ⟨?_, ?_⟩
                      · intro v w' hj hd hs K hK
                        have t20 : v 20 = _ := hd.out 20 (by kernel_rfl)
                        have t25 : v 25 = _ := hd.out 25 (by kernel_rfl)
                        obtain ⟨x1, x2, x3⟩ := HBD.out _ hj.out
                        have hk := hK.out
                        simp only [t20, t25, Act.put, List.setIfInBounds_toArray, List.set_cons_zero, List.set_cons_succ] at hk
                        have HK := Lib.hid hk
                        clear hd hs hk hK
                        go_simp
                        exact HK.out _ _ hj.out (Below.refl _ _) (show _ = _ from rfl)
                      refine ⟨?_, ?_⟩
                      · intro v w' hj hd hs K hK
                        have t20 : v 20 = _ := hd.out 20 (by kernel_rfl)
                        have hk := hK.out
                        simp only [t20, Act.put, List.setIfInBounds_toArray, List.set_cons_zero, List.set_cons_succ] at hk
                        have HK := Lib.hid hk
                        clear hd hs hk hK
                        go_simp
                        exact HK.out _ _ hj.out (Below.refl _ _) (show _ = _ from rfl)
                      refine ⟨?_, ?_⟩
                      · intro v w' hj hd hs K hK
                        have t20 : v 20 = _ := hd.out 20 (by kernel_rfl)
                        have hk := hK.out
                        simp only [t20, Act.put, List.setIfInBounds_toArray, List.set_cons_zero, List.set_cons_succ] at hk
                        have HK := Lib.hid hk
                        clear hd hs hk hK
                        go_simp
                        exact HK.out _ _ hj.out (Below.refl _ _) (show _ = _ from rfl)
                      refine ⟨?_, ?_⟩
                      · intro v w' hj hd hs K hK
                        have t20 : v 20 = _ := hd.out 20 (by kernel_rfl)
                        have t27 : v 27 = _ := hd.out 27 (by kernel_rfl)
                        have t28 : v 28 = _ := hd.out 28 (by kernel_rfl)
                        have hk := hK.out
                        simp only [t20, t27, t28, Act.put, List.setIfInBounds_toArray, List.set_cons_zero, List.set_cons_succ] at hk
                        have HK := Lib.hid hk
                        clear hd hs hk hK
                        go_simp
                        exact HK.out _ _ hj.out (Below.refl _ _) (show _ = _ from rfl)
                      refine ⟨?_, ?_⟩
                      · intro v w' hj hd hs K hK
                        have t20 : v 20 = _ := hd.out 20 (by kernel_rfl)
                        have t29 : v 29 = _ := hd.out 29 (by kernel_rfl)
                        obtain ⟨x1, x2, x3⟩ := HBD.out _ hj.out
                        have hk := hK.out
                        simp only [t20, t29, Act.put, List.setIfInBounds_toArray, List.set_cons_zero, List.set_cons_succ] at hk
                        have HK := Lib.hid hk
                        clear hd hs hk hK
                        go_simp
                        exact HK.out _ _ hj.out (Below.refl _ _) (show _ = _ from rfl)
                      refine ⟨?_, ?_⟩
                      · intro v w' hj hd hs K hK
                        have t20 : v 20 = _ := hd.out 20 (by kernel_rfl)
                        have hk := hK.out
                        simp only [t20, Act.put, List.setIfInBounds_toArray, List.set_cons_zero, List.set_cons_succ] at hk
                        have HK := Lib.hid hk
                        clear hd hs hk hK
                        go_simp
                        exact HK.out _ _ hj.out (Below.refl _ _) (show _ = _ from rfl)
                      refine ⟨?_, ?_⟩
                      · intro v w' hj hd hs K hK
                        have t20 : v 20 = _ := hd.out 20 (by kernel_rfl)
                        have hk := hK.out
                        simp only [t20, Act.put, List.setIfInBounds_toArray, List.set_cons_zero, List.set_cons_succ] at hk
                        have HK := Lib.hid hk
                        clear hd hs hk hK
                        go_simp
                        exact HK.out _ _ hj.out (Below.refl _ _) (show _ = _ from rfl)
                      refine ⟨?_, ?_⟩
                      · intro v w' hj hd hs K hK
                        have t20 : v 20 = _ := hd.out 20 (by kernel_rfl)
                        have t32 : v 32 = _ := hd.out 32 (by kernel_rfl)
                        have hk := hK.out
                        simp only [t20, t32, Act.put, List.setIfInBounds_toArray, List.set_cons_zero, List.set_cons_succ] at hk
                        have HK := Lib.hid hk
                        clear hd hs hk hK
                        go_simp
                        exact HK.out _ _ hj.out (Below.refl _ _) (show _ = _ from rfl)
                      refine ⟨?_, ?_⟩
                      · intro v w' hj hd hs K hK
                        have t20 : v 20 = _ := hd.out 20 (by kernel_rfl)
                        have t30 : v 30 = _ := hd.out 30 (by kernel_rfl)
                        have t31 : v 31 = _ := hd.out 31 (by kernel_rfl)
                        have t33 : v 33 = _ := hd.out 33 (by kernel_rfl)
                        have hk := hK.out
                        simp only [t20, t30, t31, t33, Act.put, List.setIfInBounds_toArray, List.set_cons_zero, List.set_cons_succ] at hk
                        have HK := Lib.hid hk
                        clear hd hs hk hK
                        go_simp
                        exact HK.out _ _ hj.out (Below.refl _ _) (show _ = _ from rfl)
                      refine ⟨?_, ?_⟩
                      · intro v w' hj hd hs K hK
                        have t20 : v 20 = _ := hd.out 20 (by kernel_rfl)
                        have t26 : v 26 = _ := hd.out 26 (by kernel_rfl)
                        have t34 : v 34 = _ := hd.out 34 (by kernel_rfl)
                        obtain ⟨x1, x2, x3⟩ := HBD.out _ hj.out
                        have hk := hK.out
                        simp only [t20, t26, t34, Act.put, List.setIfInBounds_toArray, List.set_cons_zero, List.set_cons_succ] at hk
                        have HK := Lib.hid hk
                        clear hd hs hk hK
                        go_simp
                        have HRC := Lib.hid (HRS.out _ hj.out)
                        refine HRC.out.mono ?_
                        rintro e w3 ⟨vr, rfl, ov, hb2⟩
                        rw [HRQ.out] at ov
                        obtain ⟨R, rc, rfl, hrn⟩ := ns_of_own ov
                        exact HK.out _ _ (hj.out.trans (hb2.mono hj.out.size)) hb2 ⟨R, rc, rfl, hrn⟩
                      refine ⟨?_, ?_⟩
                      · intro v w' hj hd hs K hK
                        have t20 : v 20 = _ := hd.out 20 (by kernel_rfl)
                        have t21 : v 21 = _ := hd.out 21 (by kernel_rfl)
                        have t22 : v 22 = _ := hd.out 22 (by kernel_rfl)
                        obtain ⟨R35, rc35, t35, q35⟩ : NumsSl rs (v 35) w' := hd.out 35 (by kernel_rfl)
                        have hk := hK.out
                        simp only [t20, t21, t22, t35, Act.put, List.setIfInBounds_toArray, List.set_cons_zero, List.set_cons_succ] at hk
                        have HK := Lib.hid hk
                        clear hd hs hk hK
                        go_simp
                        refine (HEV.out R35 rc35 _ hj.out q35.nums).mono ?_
                        rintro e w3 ⟨rfl, hb2⟩
                        exact HK.out _ _ (hj.out.trans (hb2.mono hj.out.size)) hb2 (show _ = _ from rfl)
                      refine ⟨?_, ?_⟩
                      · intro v w' hj hd hs K hK
                        have t20 : v 20 = _ := hd.out 20 (by kernel_rfl)
                        have t36 : v 36 = _ := hd.out 36 (by kernel_rfl)
                        have hk := hK.out
                        simp only [t20, t36, Act.put, List.setIfInBounds_toArray, List.set_cons_zero, List.set_cons_succ] at hk
                        have HK := Lib.hid hk
                        clear hd hs hk hK
                        go_simp
                        exact HK.out _ _ hj.out (Below.refl _ _) (show _ = _ from rfl)
                      trivial
                    case hend =>
                      intro vv w2 hj hd
                      have t37 : vv 37 = _ := hd.out 37 (of_decide_eq_true (by kernel_rfl))
                      simp only [t37]
                      have b1 := hj.out
                      clear hj hd t37
                      go_wp2_with fail
                      go_roundw
                      case rel => exact ⟨q + 1, by omega, by go_num, hbw.trans (b1.mono hbw.size), hb9.trans (b1.mono hb9.size), hbq.trans (b1.mono hbq.size)⟩
                      case measure => simp [intOf]; omega
                · have d4 : decide ((q : Int) < (s.length : Int)) = false := by simp; omega
                  go_wp2_with fail
                  go_roundw
                  case rel => exact ⟨k + 1, Fm.sub s ts, by omega, HE, rfl, by go_num, hbw, hb9⟩
                  case measure => simp [intOf]; omega
        · have d3 : decide ((k : Int) < (F.length : Int)) = false := by simp; omega
          have hx : x = Cx.eval l (i : Int) ts := by rw [HES.out, HX.out, List.take_of_length_le (by omega)]
          obtain ⟨b, hb⟩ : ∃ b, Cx.eval l (i : Int) ts = b := ⟨_, rfl⟩
          rw [hb] at hx
          subst hx
          have HB := Lib.hid hb
          clear hb
          have HEV := Lib.hid (eval_any A c l (i : Int) B d ts wr hg hF (by omega) (by omega) hI (hA.below hbw) (hB.below hbw))
          have q1 : (x == x) = true := by simp
          go_wp2_with fail
          refine HEV.out.mono ?_
          rintro e wz ⟨rfl, bz⟩
          rw [HB.out]
          go_wp2_with fail
          go_ret
          exact ⟨by first | rfl | (cases x <;> rfl), hbw.trans (bz.mono hbw.size)⟩
    · rw [hc0]
      rw [hw0] at s9
      obtain ⟨⟨V1, k1, rfl, p1, p2, _, p4⟩, _, _⟩ := s9
      have d0 : ((([] : List (List Int)).length : Int) == 0) = true := rfl
      go_wp2_with fail
      go_ret
      exact ⟨rfl, bw⟩
end Go.Proofs.Ytphmicbpkljmfaa
