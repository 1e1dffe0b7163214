/- The walk of the program's fits. -/
import Derived.Test.YtoficnfpoeaccaaDoorKRefD
import Derived.Test.YtoficnfpoeaccaaDoorKCost0
import Derived.Test.YtoficnfpoeaccaaDoorShelf
import Derived.Laws.EntriesVeiled
namespace Go.Proofs.YtoficnfpoeaccaaDoor
set_option linter.unusedVariables false
set_option linter.unusedSimpArgs false
open Go.RowKit
def wBad (x : Int) : Bool := decide (x < 0) || decide (1000000 < x)
theorem okD_bad (x : Int) : okD x = !wBad x := by
  unfold okD wBad
  by_cases h1 : x < 0
  · rw [decide_eq_false (show ¬ (0 ≤ x ∧ x ≤ 1000000) by omega), decide_eq_true h1]; rfl
  · by_cases h2 : 1000000 < x
    · rw [decide_eq_false (show ¬ (0 ≤ x ∧ x ≤ 1000000) by omega), decide_eq_false h1, decide_eq_true h2]; rfl
    · rw [decide_eq_true (show (0 ≤ x ∧ x ≤ 1000000) by omega), decide_eq_false h1, decide_eq_false h2]; rfl
theorem formed_bad (s : Sta) : Ko.formed s = (!wBad s.rows && !s.dist.any wBad) := by
  unfold Ko.formed
  have h : (fun x : Int => decide (0 ≤ x ∧ x ≤ 1000000)) = fun x => !wBad x := by
    funext x; exact okD_bad x
  rw [h, show decide (0 ≤ s.rows ∧ s.rows ≤ 1000000) = !wBad s.rows from okD_bad s.rows, List.not_any_eq_all_not]
theorem bad_call (W : World) (x : Int) : Calls Tryd.prog 55 #[.int .i64 x] W fun e w' => e = .returned (.bool (wBad x)) ∧ w' = W := by
  unfold wBad
  by_cases h1 : x < 0
  · have d1 : decide (x < 0) = true := by simpa using h1
    go_enter Tryd.func55, Tryd.ntmps55
    go_wp2_with fail
    go_ret
    exact ⟨by rw [d1]; rfl, rfl⟩
  · have d1 : decide (x < 0) = false := by simpa using h1
    by_cases h2 : 1000000 < x
    · have d2 : decide (1000000 < x) = true := by simpa using h2
      go_enter Tryd.func55, Tryd.ntmps55
      go_wp2_with fail
      go_ret
      exact ⟨rfl, rfl⟩
    · have d2 : decide (1000000 < x) = false := by simpa using h2
      go_enter Tryd.func55, Tryd.ntmps55
      go_wp2_with fail
      go_ret
      exact ⟨rfl, rfl⟩
theorem bad_closure (w : World) : PredAt Tryd.prog 55 #[] (Value.int .i64) wBad w := fun W x hb =>
  (bad_call W x).mono fun e w' ⟨h1, h2⟩ => ⟨h1, 0, h2⟩
theorem bad_enters : ∀ args w, (callFunc 55 args).run Tryd.prog w = .ok (.enter 55 args) w := enters_of Tryd.func55 (by kernel_rfl) rfl
theorem getBang {α : Type} [Inhabited α] (l : List α) (j : Nat) (h : j < l.length) : l[j]! = l[j] := getElem!_pos l j h
theorem badfn_any (A : Option Addr) (d : Nat) (ws : List Int) (w : World) (hl : ws.length ≤ 1000000) (hB : Str w A 1 (ws.map fun x => [.int .i64 x])) :
    Calls Tryd.prog 56 #[.slice A ws.length d, .func (.func 55) #[] #[]] w fun e w' => e = .returned (.bool (ws.any wBad)) ∧ Below w.heap.size w w' := by
  cases ws with
  | nil => exact (Tryd.slices_ContainsFunc_empty (α := Int) A d _ w).mono fun e w' ⟨h1, h2⟩ => ⟨h1, h2 ▸ Below.refl _ _⟩
  | cons y r =>
    obtain ⟨g, o, rfl, hg, _⟩ := int_cells hB (i := 0) (x := y) rfl
    generalize y :: r = a at *
    have h := Tryd.slices_ContainsFunc (Value.int .i64) wBad 55 #[] bad_enters g o a.length d a w (bad_closure w) (Nat.le_refl _) (by omega) (fun j hj => by
      rw [getBang a j hj]
      obtain ⟨g', o', e, _, hc⟩ := int_cells hB (List.getElem?_eq_getElem hj)
      cases e
      exact hc)
    rw [List.take_length] at h
    exact h.mono fun e w' ⟨h1, q, h2⟩ => ⟨h1, h2 ▸ below_drewN (Below.refl _ _) q⟩
set_option maxHeartbeats 1000000 in
set_option maxRecDepth 100000 in
theorem fits_any (SA : Option Addr) (sc : Nat) (ss : List Sta) (r : Rl) (w : World) (hr : RlOk w r) (hS : Str w SA 2 (ss.map Sta.fs)) (hSo : ∀ s ∈ ss, StaOk w s)
    (h8 : ∀ l ∈ r.body, l.args.length ≤ 8) (hb8 : r.body.length ≤ 8) (hs8 : ∀ s ∈ ss, s.dist.length ≤ 8) (hsl : ss.length ≤ 30) :
    Calls Tryd.prog 31 #[.slice SA ss.length sc, r.v] w fun e w' => e = .returned (.bool (Ko.fits ss r.body)) ∧ Below w.heap.size w w' := by
  obtain ⟨name, pred, ⟨ga, gn, gc⟩, ek, en, ev, ei, da, dc, body, pos⟩ := r
  have HR0 := Lib.hid (fun W (h : Below w.heap.size w W) => hr.below h)
  have HSS := Lib.hid (fun W (h : Below w.heap.size w W) i x (hi : ss[i]? = some x) => sta_cells (hS.below h) hi)
  have HSO := Lib.hid (fun W (h : Below w.heap.size w W) s (hs : s ∈ ss) => (hSo s hs).below h)
  have H8 := Lib.hid h8
  have H9 := Lib.hid hs8
  have eg := bad_enters
  unfold Ko.fits Rl.v
  dsimp only at *
  clear hr hS hSo h8 hs8
  have HAT := Lib.hid (At.new w 38 #[.string name, .int .i64 pred, .slice ga gn gc, .int .i64 ek, .string en, .string ev, .int .i64 ei, .slice da body.length dc, .int .i64 pos])
  have hw0 : Below w.heap.size w (w.alloc (.cells #[.string name, .int .i64 pred, .slice ga gn gc, .int .i64 ek, .string en, .string ev, .int .i64 ei, .slice da body.length dc, .int .i64 pos] 38)) := below1 _ _
  go_enter Tryd.func31, Tryd.ntmps31
  go_wp2_with fail
  go_loopw [7, 8, 12] (fun _ _ i wr => ∃ k : Nat, k ≤ body.length ∧ i = .int .i64 k ∧ Hid ((body.take k).all (Ko.fitsL ss) = true) ∧ Below (w.alloc (.cells #[.string name, .int .i64 pred, .slice ga gn gc, .int .i64 ek, .string en, .string ev, .int .i64 ei, .slice da body.length dc, .int .i64 pos] 38)).heap.size (w.alloc (.cells #[.string name, .int .i64 pred, .slice ga gn gc, .int .i64 ek, .string en, .string ev, .int .i64 ei, .slice da body.length dc, .int .i64 pos] 38)) wr) (fun _ _ i _ => body.length - (intOf i).toNat)
  case atStart => exact ⟨0, by omega, rfl, Lib.hid rfl, Below.refl _ _⟩
  case round =>
    obtain ⟨k, hk, rfl, HK, hb⟩ := hrel
    have hwr : Below w.heap.size w wr := hw0.trans (hb.mono hw0.size)
    by_cases h1 : k < body.length
    · have d1 : decide ((k : Int) < (body.length : Int)) = true := by simp; omega
      obtain ⟨x, hx⟩ : ∃ x, body[k]? = some x := ⟨_, List.getElem?_eq_getElem h1⟩
      obtain ⟨g, o, rfl, hg, x0, x1, x2, x3, x4, x5, x6, x7, x8⟩ := lt_cells (HR0.out wr hwr).body hx
      have i0 : (0 : Int) ≤ (k : Int) := by omega
      have i1 : (k : Int) < (body.length : Int) := by omega
      have HM := Lib.hid (all_moreG (f := Ko.fitsL ss) hx)
      have HBAD := Lib.hid (fun h => all_bad (f := Ko.fitsL ss) hx h)
      have hln := H8.out x (List.mem_of_getElem? hx)
      obtain ⟨kind, nm, pr, aa, ac, args, bi, el, le, op, at0⟩ := x
      dsimp only at *
      clear hx
      by_cases h5 : kind = 5
      · have t1 : (kind == 5) = true := by simpa using h5
        have HN := Lib.hid (show (body.take (k + 1)).all (Ko.fitsL ss) = true by
          rw [HM.out, HK.out]
          unfold Ko.fitsL
          rw [decide_eq_true h5]
          rfl)
        clear h5
        go_wp2_with fail
        go_roundw
        case rel => exact ⟨k + 1, by omega, by go_num, HN, hb.alloc hb.size _⟩
        case measure => simp [intOf]; omega
      · have t1 : (kind == 5) = false := by simpa using h5
        by_cases hp0 : pr < 0
        · have t2 : decide (pr < 0) = true := decide_eq_true hp0
          have HX := Lib.hid (HBAD.out (fits_neg h5 hp0))
          clear h5 hp0
          go_wp2_with fail
          go_ret
          exact ⟨by rw [HX.out]; rfl, hwr.alloc hwr.size _⟩
        · have t2 : decide (pr < 0) = false := decide_eq_false hp0
          by_cases hpn : (ss.length : Int) ≤ pr
          · have t3 : decide ((ss.length : Int) ≤ pr) = true := decide_eq_true hpn
            have HX := Lib.hid (HBAD.out (fits_out h5 hpn))
            clear h5 hp0 hpn
            go_wp2_with fail
            go_ret
            exact ⟨by rw [HX.out]; rfl, hwr.alloc hwr.size _⟩
          · obtain ⟨p, rfl⟩ : ∃ p : Nat, pr = (p : Int) := ⟨pr.toNat, by omega⟩
            have hpl : p < ss.length := by omega
            have t3 : decide ((ss.length : Int) ≤ (p : Int)) = false := decide_eq_false hpn
            have n3 : decide (ss.length ≤ p) = false := decide_eq_false (by omega)
            have i2 : (0 : Int) ≤ (p : Int) := by omega
            have i3 : (p : Int) < (ss.length : Int) := by omega
            obtain ⟨s, hs⟩ : ∃ s, ss[p]? = some s := ⟨_, List.getElem?_eq_getElem hpl⟩
            have hfi := fits_in (ss := ss) (l := ⟨kind, nm, (p : Int), aa, ac, args, bi, el, le, op, at0⟩) h5 rfl hs
            dsimp only at hfi
            have hwz : Below w.heap.size w (wr.alloc (.cells #[.int .i64 kind, .string nm, .int .i64 (p : Int), .slice aa args.length ac, .string bi, .string el, .int .i64 le, .int .i64 op, .int .i64 at0] 60)) := hwr.alloc hwr.size _
            have hwy : Below w.heap.size w ((wr.alloc (.cells #[.int .i64 kind, .string nm, .int .i64 (p : Int), .slice aa args.length ac, .string bi, .string el, .int .i64 le, .int .i64 op, .int .i64 at0] 60)).alloc (.cells #[.int .i64 s.rows, .slice s.da s.dist.length s.dc] 46)) := hwz.alloc hwz.size _
            obtain ⟨gs, os, rfl, hgs, s0, s1⟩ := HSS.out wr hwr p s hs
            have hdl := H9.out s (List.mem_of_getElem? hs)
            have HCF := Lib.hid (badfn_any s.da s.dc s.dist _ (by omega) (HSO.out _ hwy s (List.mem_of_getElem? hs)).dist)
            have HCR := Lib.hid (bad_call ((wr.alloc (.cells #[.int .i64 kind, .string nm, .int .i64 (p : Int), .slice aa args.length ac, .string bi, .string el, .int .i64 le, .int .i64 op, .int .i64 at0] 60)).alloc (.cells #[.int .i64 s.rows, .slice s.da s.dist.length s.dc] 46)) s.rows)
            rw [formed_bad] at hfi
            clear hp0 hpn hs h5
            cases hz : wBad s.rows
            · rw [hz] at HCR hfi
              rw [show (!false : Bool) = true from rfl, Bool.true_and] at hfi
              by_cases hd : s.dist.length = args.length
              · have t4 : ((s.dist.length : Int) != (args.length : Int)) = false := by simp [hd]
                rw [decide_eq_true hd, Bool.and_true] at hfi
                cases hy : s.dist.any wBad
                · rw [hy] at HCF hfi
                  have HN := Lib.hid (show (body.take (k + 1)).all (Ko.fitsL ss) = true by rw [HM.out, HK.out, hfi]; rfl)
                  clear hz hfi hd hy
                  go_wp2_with first
                    | (go_at_call 56; refine HCF.out.mono ?_; rintro e w2 ⟨rfl, hb2⟩)
                    | (go_at_fn 55; refine HCR.out.mono ?_; rintro e w2 ⟨rfl, rfl⟩)
                  go_roundw
                  case rel => exact ⟨k + 1, by omega, by go_num, HN, ((hb.alloc hb.size _).alloc (by have := hb.size; simp at this ⊢; omega) _).trans (hb2.mono (by have := hb.size; simp at this ⊢; omega))⟩
                  case measure => simp [intOf]; omega
                · rw [hy] at HCF hfi
                  have HX := Lib.hid (HBAD.out hfi)
                  clear hz hfi hd hy
                  go_wp2_with first
                    | (go_at_call 56; refine HCF.out.mono ?_; rintro e w2 ⟨rfl, hb2⟩)
                    | (go_at_fn 55; refine HCR.out.mono ?_; rintro e w2 ⟨rfl, rfl⟩)
                  go_ret
                  exact ⟨by rw [HX.out]; rfl, hwy.trans (hb2.mono hwy.size)⟩
              · have t4 : ((s.dist.length : Int) != (args.length : Int)) = true := by simpa using fun h => hd (by omega)
                rw [decide_eq_false hd, Bool.and_false] at hfi
                have HX := Lib.hid (HBAD.out hfi)
                clear hz hfi hd
                go_wp2_with (go_at_fn 55; refine HCR.out.mono ?_; rintro e w2 ⟨rfl, rfl⟩)
                go_ret
                exact ⟨by rw [HX.out]; rfl, hwy⟩
            · rw [hz] at HCR hfi
              have HX := Lib.hid (HBAD.out hfi)
              clear hz hfi
              go_wp2_with (go_at_fn 55; refine HCR.out.mono ?_; rintro e w2 ⟨rfl, rfl⟩)
              go_ret
              exact ⟨by rw [HX.out]; rfl, hwy⟩
    · have d1 : decide ((k : Int) < (body.length : Int)) = false := by simp; omega
      have HF := Lib.hid (show body.all (Ko.fitsL ss) = true by
        have h := HK.out
        rw [List.take_of_length_le (by omega)] at h
        exact h)
      go_wp2_with fail
      go_ret
      exact ⟨by rw [HF.out]; rfl, hwr⟩
end Go.Proofs.YtoficnfpoeaccaaDoor
