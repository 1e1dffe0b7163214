/- The walk of the reference's Fits. -/
import Derived.Test.YtoficnfpoeaccaaDoorKRefC
import Derived.Test.YtoficnfpoeaccaaDoorKRef7
namespace Go.Proofs.YtoficnfpoeaccaaDoor
set_option linter.unusedVariables false
set_option linter.unusedSimpArgs false
open Go.RowKit
theorem fitsL_not {ss : List Sta} {l : Lt} (h5 : l.kind ≠ 5) : Ko.fitsL ss l = match ss[l.pred.toNat]? with
  | none => false
  | some s => decide (0 ≤ l.pred) && Ko.formed s && decide (s.dist.length = l.args.length) := by
  unfold Ko.fitsL
  rw [decide_eq_false h5, Bool.false_or]
  rfl
theorem fits_neg {ss : List Sta} {l : Lt} (h5 : l.kind ≠ 5) (h : l.pred < 0) : Ko.fitsL ss l = false := by
  rw [fitsL_not h5]
  split
  · rfl
  · rw [decide_eq_false (by omega)]; rfl
theorem fits_out {ss : List Sta} {l : Lt} (h5 : l.kind ≠ 5) (h : (ss.length : Int) ≤ l.pred) : Ko.fitsL ss l = false := by
  rw [fitsL_not h5, List.getElem?_eq_none (by omega)]
theorem fits_in {ss : List Sta} {l : Lt} {p : Nat} {s : Sta} (h5 : l.kind ≠ 5) (hp : l.pred = (p : Int)) (hs : ss[p]? = some s) : Ko.fitsL ss l = (Ko.formed s && decide (s.dist.length = l.args.length)) := by
  rw [fitsL_not h5, hp, Int.toNat_natCast, hs]
  simp only [Int.natCast_nonneg, decide_true, Bool.true_and]
set_option maxHeartbeats 1000000 in
set_option maxRecDepth 100000 in
theorem fits16_any (SA : Option Addr) (sc : Nat) (ss : List Sta) (r : Rl) (w : World) (hr : RlOk w r) (hS : Str w SA 2 (ss.map Sta.fs)) (hSo : ∀ s ∈ ss, StaOk w s)
    (h8 : ∀ l ∈ r.body, l.args.length ≤ 8) (hb8 : r.body.length ≤ 8) (hs8 : ∀ s ∈ ss, s.dist.length ≤ 8) (hsl : ss.length ≤ 30) :
    Calls Tryd.prog 18 #[.slice SA ss.length sc, r.v] w fun e w' => e = .returned (.bool (Ko.fits ss r.body)) ∧ Below w.heap.size w w' := by
  obtain ⟨name, pred, ⟨ga, gn, gc⟩, ek, en, ev, ei, da, dc, body, pos⟩ := r
  have HR0 := Lib.hid (fun W (h : Below w.heap.size w W) => hr.below h)
  have HSS := Lib.hid (fun W (h : Below w.heap.size w W) i x (hi : ss[i]? = some x) => sta_cells (hS.below h) hi)
  have HSO := Lib.hid (fun W (h : Below w.heap.size w W) s (hs : s ∈ ss) => (hSo s hs).below h)
  have H8 := Lib.hid h8
  have H9 := Lib.hid hs8
  unfold Ko.fits Rl.v
  dsimp only at *
  clear hr hS hSo h8 hs8
  have HAT := Lib.hid (At.new w 38 #[.string name, .int .i64 pred, .slice ga gn gc, .int .i64 ek, .string en, .string ev, .int .i64 ei, .slice da body.length dc, .int .i64 pos])
  have hw0 : Below w.heap.size w (w.alloc (.cells #[.string name, .int .i64 pred, .slice ga gn gc, .int .i64 ek, .string en, .string ev, .int .i64 ei, .slice da body.length dc, .int .i64 pos] 38)) := below1 _ _
  go_enter Tryd.func18, Tryd.ntmps18
  go_wp2_with fail
  go_loopw [5, 6] (fun i _ wr => ∃ k : Nat, k ≤ body.length ∧ i = .int .i64 k ∧ Hid ((body.take k).all (Ko.fitsL ss) = true) ∧ Below (w.alloc (.cells #[.string name, .int .i64 pred, .slice ga gn gc, .int .i64 ek, .string en, .string ev, .int .i64 ei, .slice da body.length dc, .int .i64 pos] 38)).heap.size (w.alloc (.cells #[.string name, .int .i64 pred, .slice ga gn gc, .int .i64 ek, .string en, .string ev, .int .i64 ei, .slice da body.length dc, .int .i64 pos] 38)) wr) (fun i _ _ => body.length - (intOf i).toNat)
  case atStart => exact ⟨0, by omega, rfl, Lib.hid rfl, Below.refl _ _⟩
  case round =>
    obtain ⟨k, hk, rfl, HK, hb⟩ := hrel
    have hat := HAT.out.next hb
    have hwr : Below w.heap.size w wr := hw0.trans (hb.mono hw0.size)
    have c7 : wr.cell? ⟨w.heap.size, 7, none⟩ = some (.slice da body.length dc) := hat.cell 7
    by_cases h1 : k < body.length
    · have d1 : decide ((k : Int) < (body.length : Int)) = true := by simp; omega
      obtain ⟨x, hx⟩ : ∃ x, body[k]? = some x := ⟨_, List.getElem?_eq_getElem h1⟩
      obtain ⟨g, o, rfl, hg, x0, x1, x2, x3, x4, x5, x6, x7, x8⟩ := lt_cells (HR0.out wr hwr).body hx
      have i0 : (0 : Int) ≤ (k : Int) := by omega
      have i1 : (k : Int) < (body.length : Int) := by omega
      have HM := Lib.hid (all_moreG (f := Ko.fitsL ss) hx)
      have HBAD := Lib.hid (fun h => all_bad (f := Ko.fitsL ss) hx h)
      have hln := H8.out x (List.mem_of_getElem? hx)
      obtain ⟨kind, nm, pr, aa, ac, args, bi, el, le, op, at0⟩ := x
      dsimp only at *
      clear hx
      by_cases h5 : kind = 5
      · have t1 : (kind == 5) = true := by simpa using h5
        have HN := Lib.hid (show (body.take (k + 1)).all (Ko.fitsL ss) = true by
          rw [HM.out, HK.out]
          unfold Ko.fitsL
          rw [decide_eq_true h5]
          rfl)
        clear h5
        go_wp2_with fail
        go_roundw
        case rel => exact ⟨k + 1, by omega, by go_num, HN, hb.alloc hb.size _⟩
        case measure => simp [intOf]; omega
      · have t1 : (kind == 5) = false := by simpa using h5
        have hal := At.new wr 60 #[.int .i64 kind, .string nm, .int .i64 pr, .slice aa args.length ac, .string bi, .string el, .int .i64 le, .int .i64 op, .int .i64 at0]
        have f2 : ∀ z : Held (wr.alloc (.cells #[.int .i64 kind, .string nm, .int .i64 pr, .slice aa args.length ac, .string bi, .string el, .int .i64 le, .int .i64 op, .int .i64 at0] 60)).heap.size (wr.alloc (.cells #[.int .i64 kind, .string nm, .int .i64 pr, .slice aa args.length ac, .string bi, .string el, .int .i64 le, .int .i64 op, .int .i64 at0] 60)), z.w.cell? ⟨wr.heap.size, 2, none⟩ = some (.int .i64 pr) := fun z => z.cell hal.lt (hal.cell 2)
        have f3 : ∀ z : Held (wr.alloc (.cells #[.int .i64 kind, .string nm, .int .i64 pr, .slice aa args.length ac, .string bi, .string el, .int .i64 le, .int .i64 op, .int .i64 at0] 60)).heap.size (wr.alloc (.cells #[.int .i64 kind, .string nm, .int .i64 pr, .slice aa args.length ac, .string bi, .string el, .int .i64 le, .int .i64 op, .int .i64 at0] 60)), z.w.cell? ⟨wr.heap.size, 3, none⟩ = some (.slice aa args.length ac) := fun z => z.cell hal.lt (hal.cell 3)
        clear hal
        by_cases hp0 : pr < 0
        · have t2 : decide (pr < 0) = true := decide_eq_true hp0
          have HX := Lib.hid (HBAD.out (fits_neg h5 hp0))
          clear h5 hp0
          go_wp2_with fail
          refine wp_region_held (wr.alloc (.cells #[.int .i64 kind, .string nm, .int .i64 pr, .slice aa args.length ac, .string bi, .string el, .int .i64 le, .int .i64 op, .int .i64 at0] 60)).heap.size (wr.alloc (.cells #[.int .i64 kind, .string nm, .int .i64 pr, .slice aa args.length ac, .string bi, .string el, .int .i64 le, .int .i64 op, .int .i64 at0] 60)) (Below.refl _ _) (by kernel_rfl) (by kernel_rfl) ?_
          repeat (go_big_quiet_step (fail))
          refine wpQuiet_nil ?_
          rintro wt ⟨⟨_, bt⟩, rfl⟩
          go_wp2_with fail
          go_ret
          exact ⟨by rw [HX.out]; rfl, hwr.trans (((below1 _ _).trans (bt.mono (by simp))).mono hwr.size)⟩
        · have t2 : decide (pr < 0) = false := decide_eq_false hp0
          by_cases hpn : (ss.length : Int) ≤ pr
          · have t3 : decide ((ss.length : Int) ≤ pr) = true := decide_eq_true hpn
            have HX := Lib.hid (HBAD.out (fits_out h5 hpn))
            clear h5 hp0 hpn
            go_wp2_with fail
            refine wp_region_held (wr.alloc (.cells #[.int .i64 kind, .string nm, .int .i64 pr, .slice aa args.length ac, .string bi, .string el, .int .i64 le, .int .i64 op, .int .i64 at0] 60)).heap.size (wr.alloc (.cells #[.int .i64 kind, .string nm, .int .i64 pr, .slice aa args.length ac, .string bi, .string el, .int .i64 le, .int .i64 op, .int .i64 at0] 60)) (Below.refl _ _) (by kernel_rfl) (by kernel_rfl) ?_
            repeat (go_big_quiet_step (fail))
            refine wpQuiet_nil ?_
            rintro wt ⟨⟨_, bt⟩, rfl⟩
            go_wp2_with fail
            go_ret
            exact ⟨by rw [HX.out]; rfl, hwr.trans (((below1 _ _).trans (bt.mono (by simp))).mono hwr.size)⟩
          · obtain ⟨p, rfl⟩ : ∃ p : Nat, pr = (p : Int) := ⟨pr.toNat, by omega⟩
            have hpl : p < ss.length := by omega
            have t3 : decide ((ss.length : Int) ≤ (p : Int)) = false := decide_eq_false hpn
            have n3 : decide (ss.length ≤ p) = false := decide_eq_false (by omega)
            have i2 : (0 : Int) ≤ (p : Int) := by omega
            have i3 : (p : Int) < (ss.length : Int) := by omega
            obtain ⟨s, hs⟩ : ∃ s, ss[p]? = some s := ⟨_, List.getElem?_eq_getElem hpl⟩
            have hfi := fits_in (ss := ss) (l := ⟨kind, nm, (p : Int), aa, ac, args, bi, el, le, op, at0⟩) h5 rfl hs
            dsimp only at hfi
            have hwz : Below w.heap.size w (wr.alloc (.cells #[.int .i64 kind, .string nm, .int .i64 (p : Int), .slice aa args.length ac, .string bi, .string el, .int .i64 le, .int .i64 op, .int .i64 at0] 60)) := hwr.alloc hwr.size _
            obtain ⟨gs, os, rfl, hgs, s0, s1⟩ := HSS.out _ hwz p s hs
            have HFM := Lib.hid (fun (z : Held (wr.alloc (.cells #[.int .i64 kind, .string nm, .int .i64 (p : Int), .slice aa args.length ac, .string bi, .string el, .int .i64 le, .int .i64 op, .int .i64 at0] 60)).heap.size (wr.alloc (.cells #[.int .i64 kind, .string nm, .int .i64 (p : Int), .slice aa args.length ac, .string bi, .string el, .int .i64 le, .int .i64 op, .int .i64 at0] 60))) => formed_any s z.w ((HSO.out _ hwz s (List.mem_of_getElem? hs)).below z.ok) (by have := H9.out s (List.mem_of_getElem? hs); omega))
            have hdl := H9.out s (List.mem_of_getElem? hs)
            have f4 : ∀ z : Held (wr.alloc (.cells #[.int .i64 kind, .string nm, .int .i64 (p : Int), .slice aa args.length ac, .string bi, .string el, .int .i64 le, .int .i64 op, .int .i64 at0] 60)).heap.size (wr.alloc (.cells #[.int .i64 kind, .string nm, .int .i64 (p : Int), .slice aa args.length ac, .string bi, .string el, .int .i64 le, .int .i64 op, .int .i64 at0] 60)), z.w.cell? ⟨gs, os + p * 2, none⟩ = some (.int .i64 s.rows) := fun z => z.cell hgs s0
            have f5 : ∀ z : Held (wr.alloc (.cells #[.int .i64 kind, .string nm, .int .i64 (p : Int), .slice aa args.length ac, .string bi, .string el, .int .i64 le, .int .i64 op, .int .i64 at0] 60)).heap.size (wr.alloc (.cells #[.int .i64 kind, .string nm, .int .i64 (p : Int), .slice aa args.length ac, .string bi, .string el, .int .i64 le, .int .i64 op, .int .i64 at0] 60)), z.w.cell? ⟨gs, os + p * 2 + 1, none⟩ = some (.slice s.da s.dist.length s.dc) := fun z => z.cell hgs s1
            unfold Sta.v at HFM
            clear hp0 hpn hs s0 s1 h5
            cases hz : Ko.formed s
            · rw [hz] at HFM hfi
              have HX := Lib.hid (HBAD.out hfi)
              clear hz hfi
              go_wp2_with fail
              refine wp_region_held (wr.alloc (.cells #[.int .i64 kind, .string nm, .int .i64 (p : Int), .slice aa args.length ac, .string bi, .string el, .int .i64 le, .int .i64 op, .int .i64 at0] 60)).heap.size (wr.alloc (.cells #[.int .i64 kind, .string nm, .int .i64 (p : Int), .slice aa args.length ac, .string bi, .string el, .int .i64 le, .int .i64 op, .int .i64 at0] 60)) (Below.refl _ _) (by kernel_rfl) (by kernel_rfl) ?_
              repeat (go_big_quiet_step ((go_at_call 42; exact held_call _ (Nat.le_refl _) (HFM.out _))))
              refine wpQuiet_nil ?_
              rintro wt ⟨⟨_, bt⟩, rfl⟩
              go_wp2_with fail
              go_ret
              exact ⟨by rw [HX.out]; rfl, hwr.trans (((below1 _ _).trans (bt.mono (by simp))).mono hwr.size)⟩
            · rw [hz] at HFM hfi
              rw [Bool.true_and] at hfi
              by_cases hd : s.dist.length = args.length
              · have t4 : ((s.dist.length : Int) != (args.length : Int)) = false := by simp [hd]
                have HN := Lib.hid (show (body.take (k + 1)).all (Ko.fitsL ss) = true by rw [HM.out, HK.out, hfi]; exact decide_eq_true hd)
                clear hz hfi hd
                go_wp2_with fail
                refine wp_region_held (wr.alloc (.cells #[.int .i64 kind, .string nm, .int .i64 (p : Int), .slice aa args.length ac, .string bi, .string el, .int .i64 le, .int .i64 op, .int .i64 at0] 60)).heap.size (wr.alloc (.cells #[.int .i64 kind, .string nm, .int .i64 (p : Int), .slice aa args.length ac, .string bi, .string el, .int .i64 le, .int .i64 op, .int .i64 at0] 60)) (Below.refl _ _) (by kernel_rfl) (by kernel_rfl) ?_
                repeat (go_big_quiet_step ((go_at_call 42; exact held_call _ (Nat.le_refl _) (HFM.out _))))
                refine wpQuiet_nil ?_
                rintro wt ⟨⟨_, bt⟩, rfl⟩
                have hat := hat.next ((below1 _ _).trans (bt.mono (by simp)))
                have hbn := hb.trans (((below1 _ _).trans (bt.mono (by simp))).mono hb.size)
                have c7 : wt.cell? ⟨w.heap.size, 7, none⟩ = some (.slice (some ⟨g, o, none⟩) body.length dc) := hat.cell 7
                go_wp2_with fail
                go_roundw
                case rel => exact ⟨k + 1, by omega, by go_num, HN, hbn⟩
                case measure => simp [intOf]; omega
              · have t4 : ((s.dist.length : Int) != (args.length : Int)) = true := by simpa using fun h => hd (by omega)
                have HX := Lib.hid (HBAD.out (hfi.trans (decide_eq_false hd)))
                clear hz hfi hd
                go_wp2_with fail
                refine wp_region_held (wr.alloc (.cells #[.int .i64 kind, .string nm, .int .i64 (p : Int), .slice aa args.length ac, .string bi, .string el, .int .i64 le, .int .i64 op, .int .i64 at0] 60)).heap.size (wr.alloc (.cells #[.int .i64 kind, .string nm, .int .i64 (p : Int), .slice aa args.length ac, .string bi, .string el, .int .i64 le, .int .i64 op, .int .i64 at0] 60)) (Below.refl _ _) (by kernel_rfl) (by kernel_rfl) ?_
                repeat (go_big_quiet_step ((go_at_call 42; exact held_call _ (Nat.le_refl _) (HFM.out _))))
                refine wpQuiet_nil ?_
                rintro wt ⟨⟨_, bt⟩, rfl⟩
                go_wp2_with fail
                go_ret
                exact ⟨by rw [HX.out]; rfl, hwr.trans (((below1 _ _).trans (bt.mono (by simp))).mono hwr.size)⟩
    · have d1 : decide ((k : Int) < (body.length : Int)) = false := by simp; omega
      have HF := Lib.hid (show body.all (Ko.fitsL ss) = true by
        have h := HK.out
        rw [List.take_of_length_le (by omega)] at h
        exact h)
      go_wp2_with fail
      go_ret
      exact ⟨by rw [HF.out]; rfl, hwr⟩
end Go.Proofs.YtoficnfpoeaccaaDoor
