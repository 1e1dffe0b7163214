/- The walk of CostGrowth. -/
import Derived.Test.YtoficnfpoeaccaaDoorKGrw
namespace Go.Proofs.YtoficnfpoeaccaaDoor
set_option linter.unusedVariables false
set_option linter.unusedSimpArgs false
open Go.RowKit
set_option maxHeartbeats 2000000 in
set_option maxRecDepth 100000 in
theorem growth_law (SA : Option Addr) (sc : Nat) (ss : List Sta) (r : Rl) (A : Option Addr) (c : Nat) (bd : List ByteArray) (O : Option Addr) (oc : Nat) (order : List Int) (M : Option Addr) (mc : Nat) (more : List Int) (w : World) (hT : Tabs w)
    (hX : Ar w SA ss r A c bd O order) (hZ : ∀ s ∈ ss, s.da = none → s.dc = 0) (hM : Str w M 1 (more.map fun x => [.int .u8 x])) (hMb : ∀ x ∈ more, 0 ≤ x ∧ x ≤ 255) :
    Calls Tryd.prog 5 #[.slice SA ss.length sc, r.v, .slice A bd.length c, .slice O order.length oc, .slice M more.length mc] w fun e w' => e = .returned (.bool true) ∧ Below w.heap.size w w' := by
  have HX := Lib.hid (fun W (h : Below w.heap.size w W) => hX.below h)
  have HH := Lib.hid (fun W (h : Below w.heap.size w W) => head_any W (hT.next h))
  have HM := Lib.hid (fun W (h : Below w.heap.size w W) => hM.below h)
  have HZ := Lib.hid hZ
  have HMB := Lib.hid hMb
  have hw0 : Below w.heap.size w (w.alloc (.cells #[.string r.name, .int .i64 r.pred, .slice r.args.a r.args.n r.args.c, .int .i64 r.ek, .string r.en, .string r.ev, .int .i64 r.ei, .slice r.ba r.body.length r.bc, .int .i64 r.pos] 38)) := below1 _ _
  have hat0 := At.new w 38 #[.string r.name, .int .i64 r.pred, .slice r.args.a r.args.n r.args.c, .int .i64 r.ek, .string r.en, .string r.ev, .int .i64 r.ei, .slice r.ba r.body.length r.bc, .int .i64 r.pos]
  have HCL := Lib.hid (cost_le ss r bd order)
  have HEO := Lib.hid (fun s b => @est_ok s r b order)
  have HGR := Lib.hid (fun x => @grow_rows ss x r bd order)
  have HGD := Lib.hid (fun x => @grow_dist ss x r bd order)
  clear hX hT hZ hM hMb
  have HFEW := Lib.hid (fun W (h : Below w.heap.size w W) => (HX.out W h).few (sc := sc) (oc := oc) A bd.length c)
  have HFIT := Lib.hid (fun W (h : Below w.heap.size w W) => @Ar.fits W SA sc ss r A c bd O order (HX.out W h) bd.length)
  have HEVA := Lib.hid (fun W (h : Below w.heap.size w W) => @Ar.eval W SA ss r A c bd O oc order (HX.out W h))
  have HES := Lib.hid (fun W (h : Below w.heap.size w W) => @Ar.est W SA sc ss r A c bd O oc order (HX.out W h))
  have HFXX := Lib.hid (fun W A' x cx (h : Ar W A' x r A c bd O order) => @Ar.fits W A' cx x r A c bd O order h bd.length)
  have HESX := Lib.hid (fun W A' x cx (h : Ar W A' x r A c bd O order) => @Ar.est W A' cx x r A c bd O oc order h)
  unfold Rl.v at HFEW HFIT HEVA HES HFXX HESX ⊢
  cases hf : fewB ss r bd.length order.length
  · rw [hf] at HFEW
    clear hf
    go_enter Tryd.func5, Tryd.ntmps5
    go_wp2_with first | (go_at_call 12; with_reducible refine (HFEW.out _ hw2).mono ?_; rintro e w5 ⟨rfl, hb5⟩; have hw5 : Below w.heap.size w w5 := hw2.trans (hb5.mono hw2.size); have hat5 := hat2.next hb5; clear e0 e1 e2 e3 e4 e5 e6 e7 e8; have e0 := (hat5).cell 0; have e1 := (hat5).cell 1; have e2 := (hat5).cell 2; have e3 := (hat5).cell 3; have e4 := (hat5).cell 4; have e5 := (hat5).cell 5; have e6 := (hat5).cell 6; have e7 := (hat5).cell 7; have e8 := (hat5).cell 8; simp only [List.getElem?_toArray, List.getElem?_cons_zero, List.getElem?_cons_succ] at e0 e1 e2 e3 e4 e5 e6 e7 e8) | (go_at_call 10; with_reducible refine (HH.out _ hw0).mono ?_; rintro e w2 ⟨rfl, hb2⟩; have hw2 : Below w.heap.size w w2 := hw0.trans (hb2.mono hw0.size); have hat2 := hat0.next hb2; skip; have e0 := (hat2).cell 0; have e1 := (hat2).cell 1; have e2 := (hat2).cell 2; have e3 := (hat2).cell 3; have e4 := (hat2).cell 4; have e5 := (hat2).cell 5; have e6 := (hat2).cell 6; have e7 := (hat2).cell 7; have e8 := (hat2).cell 8; simp only [List.getElem?_toArray, List.getElem?_cons_zero, List.getElem?_cons_succ] at e0 e1 e2 e3 e4 e5 e6 e7 e8)
    go_ret
    exact ⟨rfl, hw5⟩
  · have HF := Lib.hid hf
    rw [hf] at HFEW
    by_cases hml : 30 < more.length
    · have d1 : decide ((30 : Int) < (more.length : Int)) = true := by simp; omega
      have n1 : decide (30 < more.length) = true := decide_eq_true hml
      clear hf
      go_enter Tryd.func5, Tryd.ntmps5
      go_wp2_with first | (go_at_call 12; with_reducible refine (HFEW.out _ hw2).mono ?_; rintro e w5 ⟨rfl, hb5⟩; have hw5 : Below w.heap.size w w5 := hw2.trans (hb5.mono hw2.size); have hat5 := hat2.next hb5; clear e0 e1 e2 e3 e4 e5 e6 e7 e8; have e0 := (hat5).cell 0; have e1 := (hat5).cell 1; have e2 := (hat5).cell 2; have e3 := (hat5).cell 3; have e4 := (hat5).cell 4; have e5 := (hat5).cell 5; have e6 := (hat5).cell 6; have e7 := (hat5).cell 7; have e8 := (hat5).cell 8; simp only [List.getElem?_toArray, List.getElem?_cons_zero, List.getElem?_cons_succ] at e0 e1 e2 e3 e4 e5 e6 e7 e8) | (go_at_call 10; with_reducible refine (HH.out _ hw0).mono ?_; rintro e w2 ⟨rfl, hb2⟩; have hw2 : Below w.heap.size w w2 := hw0.trans (hb2.mono hw0.size); have hat2 := hat0.next hb2; skip; have e0 := (hat2).cell 0; have e1 := (hat2).cell 1; have e2 := (hat2).cell 2; have e3 := (hat2).cell 3; have e4 := (hat2).cell 4; have e5 := (hat2).cell 5; have e6 := (hat2).cell 6; have e7 := (hat2).cell 7; have e8 := (hat2).cell 8; simp only [List.getElem?_toArray, List.getElem?_cons_zero, List.getElem?_cons_succ] at e0 e1 e2 e3 e4 e5 e6 e7 e8)
      go_ret
      exact ⟨rfl, hw5⟩
    · have d1 : decide ((30 : Int) < (more.length : Int)) = false := by simp; omega
      have n1 : decide (30 < more.length) = false := decide_eq_false hml
      cases hg : Ko.fits ss r.body
      · have HFI := Lib.hid (fun W h => (HFIT.out W h hf))
        rw [hg] at HFI
        clear hf hg
        go_enter Tryd.func5, Tryd.ntmps5
        go_wp2_with first | (go_at_call 18; with_reducible refine (HFI.out _ hw5).mono ?_; rintro e w6 ⟨rfl, hb6⟩; have hw6 : Below w.heap.size w w6 := hw5.trans (hb6.mono hw5.size); have hat6 := hat5.next hb6; clear e0 e1 e2 e3 e4 e5 e6 e7 e8; have e0 := (hat6).cell 0; have e1 := (hat6).cell 1; have e2 := (hat6).cell 2; have e3 := (hat6).cell 3; have e4 := (hat6).cell 4; have e5 := (hat6).cell 5; have e6 := (hat6).cell 6; have e7 := (hat6).cell 7; have e8 := (hat6).cell 8; simp only [List.getElem?_toArray, List.getElem?_cons_zero, List.getElem?_cons_succ] at e0 e1 e2 e3 e4 e5 e6 e7 e8) | (go_at_call 12; with_reducible refine (HFEW.out _ hw2).mono ?_; rintro e w5 ⟨rfl, hb5⟩; have hw5 : Below w.heap.size w w5 := hw2.trans (hb5.mono hw2.size); have hat5 := hat2.next hb5; clear e0 e1 e2 e3 e4 e5 e6 e7 e8; have e0 := (hat5).cell 0; have e1 := (hat5).cell 1; have e2 := (hat5).cell 2; have e3 := (hat5).cell 3; have e4 := (hat5).cell 4; have e5 := (hat5).cell 5; have e6 := (hat5).cell 6; have e7 := (hat5).cell 7; have e8 := (hat5).cell 8; simp only [List.getElem?_toArray, List.getElem?_cons_zero, List.getElem?_cons_succ] at e0 e1 e2 e3 e4 e5 e6 e7 e8) | (go_at_call 10; with_reducible refine (HH.out _ hw0).mono ?_; rintro e w2 ⟨rfl, hb2⟩; have hw2 : Below w.heap.size w w2 := hw0.trans (hb2.mono hw0.size); have hat2 := hat0.next hb2; skip; have e0 := (hat2).cell 0; have e1 := (hat2).cell 1; have e2 := (hat2).cell 2; have e3 := (hat2).cell 3; have e4 := (hat2).cell 4; have e5 := (hat2).cell 5; have e6 := (hat2).cell 6; have e7 := (hat2).cell 7; have e8 := (hat2).cell 8; simp only [List.getElem?_toArray, List.getElem?_cons_zero, List.getElem?_cons_succ] at e0 e1 e2 e3 e4 e5 e6 e7 e8)
        go_ret
        exact ⟨rfl, hw6⟩
      · have HFI := Lib.hid (fun W h => (HFIT.out W h hf))
        rw [hg] at HFI
        have HG := Lib.hid hg
        have HEV := Lib.hid (fun W h => HEVA.out W h hf)
        cases he : Ko.evaluable r.body bd order
        · rw [he] at HEV
          clear hf hg he
          go_enter Tryd.func5, Tryd.ntmps5
          go_wp2_with first | (go_at_call 19; with_reducible refine (HEV.out _ hw6).mono ?_; rintro e w7 ⟨rfl, hb7⟩; have hw7 : Below w.heap.size w w7 := hw6.trans (hb7.mono hw6.size); have hat7 := hat6.next hb7; clear e0 e1 e2 e3 e4 e5 e6 e7 e8; have e0 := (hat7).cell 0; have e1 := (hat7).cell 1; have e2 := (hat7).cell 2; have e3 := (hat7).cell 3; have e4 := (hat7).cell 4; have e5 := (hat7).cell 5; have e6 := (hat7).cell 6; have e7 := (hat7).cell 7; have e8 := (hat7).cell 8; simp only [List.getElem?_toArray, List.getElem?_cons_zero, List.getElem?_cons_succ] at e0 e1 e2 e3 e4 e5 e6 e7 e8) | (go_at_call 18; with_reducible refine (HFI.out _ hw5).mono ?_; rintro e w6 ⟨rfl, hb6⟩; have hw6 : Below w.heap.size w w6 := hw5.trans (hb6.mono hw5.size); have hat6 := hat5.next hb6; clear e0 e1 e2 e3 e4 e5 e6 e7 e8; have e0 := (hat6).cell 0; have e1 := (hat6).cell 1; have e2 := (hat6).cell 2; have e3 := (hat6).cell 3; have e4 := (hat6).cell 4; have e5 := (hat6).cell 5; have e6 := (hat6).cell 6; have e7 := (hat6).cell 7; have e8 := (hat6).cell 8; simp only [List.getElem?_toArray, List.getElem?_cons_zero, List.getElem?_cons_succ] at e0 e1 e2 e3 e4 e5 e6 e7 e8) | (go_at_call 12; with_reducible refine (HFEW.out _ hw2).mono ?_; rintro e w5 ⟨rfl, hb5⟩; have hw5 : Below w.heap.size w w5 := hw2.trans (hb5.mono hw2.size); have hat5 := hat2.next hb5; clear e0 e1 e2 e3 e4 e5 e6 e7 e8; have e0 := (hat5).cell 0; have e1 := (hat5).cell 1; have e2 := (hat5).cell 2; have e3 := (hat5).cell 3; have e4 := (hat5).cell 4; have e5 := (hat5).cell 5; have e6 := (hat5).cell 6; have e7 := (hat5).cell 7; have e8 := (hat5).cell 8; simp only [List.getElem?_toArray, List.getElem?_cons_zero, List.getElem?_cons_succ] at e0 e1 e2 e3 e4 e5 e6 e7 e8) | (go_at_call 10; with_reducible refine (HH.out _ hw0).mono ?_; rintro e w2 ⟨rfl, hb2⟩; have hw2 : Below w.heap.size w w2 := hw0.trans (hb2.mono hw0.size); have hat2 := hat0.next hb2; skip; have e0 := (hat2).cell 0; have e1 := (hat2).cell 1; have e2 := (hat2).cell 2; have e3 := (hat2).cell 3; have e4 := (hat2).cell 4; have e5 := (hat2).cell 5; have e6 := (hat2).cell 6; have e7 := (hat2).cell 7; have e8 := (hat2).cell 8; simp only [List.getElem?_toArray, List.getElem?_cons_zero, List.getElem?_cons_succ] at e0 e1 e2 e3 e4 e5 e6 e7 e8)
          go_ret
          exact ⟨rfl, hw7⟩
        · rw [he] at HEV
          have HE1 := Lib.hid (fun W h => HES.out W h hf)
          rw [HEO.out ss bd hg he] at HE1
          have hs := sm_of hf (HX.out w (Below.refl _ _)).zb (HX.out w (Below.refl _ _)).zt
          have HCH := Lib.hid (fun W (h : Below w.heap.size w W) rows => changed_any SA sc ss M mc more rows W (HX.out W h).env HZ.out (HM.out W h) HMB.out hs.hsl hs.hs8 (by omega))
          have HEE := Lib.hid he
          obtain ⟨a, ha⟩ : ∃ a, costN ss r bd order = a := ⟨_, rfl⟩
          have HA := Lib.hid ha
          have hal : a ≤ 1000000000 := by rw [← ha]; exact HCL.out
          rw [ha] at HE1
          have d2 : decide ((a : Int) < 0) = false := decide_eq_false (by omega)
          clear hf hg he ha hs
          go_enter Tryd.func5, Tryd.ntmps5
          go_wp2_with first | (go_at_call 20; with_reducible refine (HCH.out _ hw9 false).mono ?_; rintro e w10 ⟨⟨A10, c10, y, rfl, hEy, hCy⟩, hb10⟩; have hw10 : Below w.heap.size w w10 := hw9.trans (hb10.mono hw9.size); have hat10 := hat9.next hb10; clear e0 e1 e2 e3 e4 e5 e6 e7 e8; have e0 := (hat10).cell 0; have e1 := (hat10).cell 1; have e2 := (hat10).cell 2; have e3 := (hat10).cell 3; have e4 := (hat10).cell 4; have e5 := (hat10).cell 5; have e6 := (hat10).cell 6; have e7 := (hat10).cell 7; have e8 := (hat10).cell 8; simp only [List.getElem?_toArray, List.getElem?_cons_zero, List.getElem?_cons_succ] at e0 e1 e2 e3 e4 e5 e6 e7 e8) | (go_at_call 20; with_reducible refine (HCH.out _ hw8 true).mono ?_; rintro e w9 ⟨⟨A9, c9, x, rfl, hEx, hCx⟩, hb9⟩; have hw9 : Below w.heap.size w w9 := hw8.trans (hb9.mono hw8.size); have hat9 := hat8.next hb9; clear e0 e1 e2 e3 e4 e5 e6 e7 e8; have e0 := (hat9).cell 0; have e1 := (hat9).cell 1; have e2 := (hat9).cell 2; have e3 := (hat9).cell 3; have e4 := (hat9).cell 4; have e5 := (hat9).cell 5; have e6 := (hat9).cell 6; have e7 := (hat9).cell 7; have e8 := (hat9).cell 8; simp only [List.getElem?_toArray, List.getElem?_cons_zero, List.getElem?_cons_succ] at e0 e1 e2 e3 e4 e5 e6 e7 e8) | (go_at_call 16; with_reducible refine (HE1.out _ hw7).mono ?_; rintro e w8 ⟨rfl, hb8⟩; have hw8 : Below w.heap.size w w8 := hw7.trans (hb8.mono hw7.size); have hat8 := hat7.next hb8; clear e0 e1 e2 e3 e4 e5 e6 e7 e8; have e0 := (hat8).cell 0; have e1 := (hat8).cell 1; have e2 := (hat8).cell 2; have e3 := (hat8).cell 3; have e4 := (hat8).cell 4; have e5 := (hat8).cell 5; have e6 := (hat8).cell 6; have e7 := (hat8).cell 7; have e8 := (hat8).cell 8; simp only [List.getElem?_toArray, List.getElem?_cons_zero, List.getElem?_cons_succ] at e0 e1 e2 e3 e4 e5 e6 e7 e8) | (go_at_call 19; with_reducible refine (HEV.out _ hw6).mono ?_; rintro e w7 ⟨rfl, hb7⟩; have hw7 : Below w.heap.size w w7 := hw6.trans (hb7.mono hw6.size); have hat7 := hat6.next hb7; clear e0 e1 e2 e3 e4 e5 e6 e7 e8; have e0 := (hat7).cell 0; have e1 := (hat7).cell 1; have e2 := (hat7).cell 2; have e3 := (hat7).cell 3; have e4 := (hat7).cell 4; have e5 := (hat7).cell 5; have e6 := (hat7).cell 6; have e7 := (hat7).cell 7; have e8 := (hat7).cell 8; simp only [List.getElem?_toArray, List.getElem?_cons_zero, List.getElem?_cons_succ] at e0 e1 e2 e3 e4 e5 e6 e7 e8) | (go_at_call 18; with_reducible refine (HFI.out _ hw5).mono ?_; rintro e w6 ⟨rfl, hb6⟩; have hw6 : Below w.heap.size w w6 := hw5.trans (hb6.mono hw5.size); have hat6 := hat5.next hb6; clear e0 e1 e2 e3 e4 e5 e6 e7 e8; have e0 := (hat6).cell 0; have e1 := (hat6).cell 1; have e2 := (hat6).cell 2; have e3 := (hat6).cell 3; have e4 := (hat6).cell 4; have e5 := (hat6).cell 5; have e6 := (hat6).cell 6; have e7 := (hat6).cell 7; have e8 := (hat6).cell 8; simp only [List.getElem?_toArray, List.getElem?_cons_zero, List.getElem?_cons_succ] at e0 e1 e2 e3 e4 e5 e6 e7 e8) | (go_at_call 12; with_reducible refine (HFEW.out _ hw2).mono ?_; rintro e w5 ⟨rfl, hb5⟩; have hw5 : Below w.heap.size w w5 := hw2.trans (hb5.mono hw2.size); have hat5 := hat2.next hb5; clear e0 e1 e2 e3 e4 e5 e6 e7 e8; have e0 := (hat5).cell 0; have e1 := (hat5).cell 1; have e2 := (hat5).cell 2; have e3 := (hat5).cell 3; have e4 := (hat5).cell 4; have e5 := (hat5).cell 5; have e6 := (hat5).cell 6; have e7 := (hat5).cell 7; have e8 := (hat5).cell 8; simp only [List.getElem?_toArray, List.getElem?_cons_zero, List.getElem?_cons_succ] at e0 e1 e2 e3 e4 e5 e6 e7 e8) | (go_at_call 10; with_reducible refine (HH.out _ hw0).mono ?_; rintro e w2 ⟨rfl, hb2⟩; have hw2 : Below w.heap.size w w2 := hw0.trans (hb2.mono hw0.size); have hat2 := hat0.next hb2; skip; have e0 := (hat2).cell 0; have e1 := (hat2).cell 1; have e2 := (hat2).cell 2; have e3 := (hat2).cell 3; have e4 := (hat2).cell 4; have e5 := (hat2).cell 5; have e6 := (hat2).cell 6; have e7 := (hat2).cell 7; have e8 := (hat2).cell 8; simp only [List.getElem?_toArray, List.getElem?_cons_zero, List.getElem?_cons_succ] at e0 e1 e2 e3 e4 e5 e6 e7 e8)
          have hfe := HF.out
          have HFX := Lib.hid (fun W (h : Below w10.heap.size w10 W) => HFXX.out W A9 x c9 ⟨(hEx.below hb10).below h, (HX.out _ (hw10.trans (h.mono hw10.size))).rl, (HX.out _ (hw10.trans (h.mono hw10.size))).nm, (HX.out w10 hw10).nil, (HX.out _ (hw10.trans (h.mono hw10.size))).od, (HX.out w10 hw10).zb, (HX.out w10 hw10).zt⟩ (hCx.few hfe))
          have HFY := Lib.hid (fun W (h : Below w10.heap.size w10 W) => HFXX.out W A10 y c10 ⟨hEy.below h, (HX.out _ (hw10.trans (h.mono hw10.size))).rl, (HX.out _ (hw10.trans (h.mono hw10.size))).nm, (HX.out w10 hw10).nil, (HX.out _ (hw10.trans (h.mono hw10.size))).od, (HX.out w10 hw10).zb, (HX.out w10 hw10).zt⟩ (hCy.few hfe))
          have HEX := Lib.hid (fun W (h : Below w10.heap.size w10 W) => HESX.out W A9 x c9 ⟨(hEx.below hb10).below h, (HX.out _ (hw10.trans (h.mono hw10.size))).rl, (HX.out _ (hw10.trans (h.mono hw10.size))).nm, (HX.out w10 hw10).nil, (HX.out _ (hw10.trans (h.mono hw10.size))).od, (HX.out w10 hw10).zb, (HX.out w10 hw10).zt⟩ (hCx.few hfe))
          have HEY := Lib.hid (fun W (h : Below w10.heap.size w10 W) => HESX.out W A10 y c10 ⟨hEy.below h, (HX.out _ (hw10.trans (h.mono hw10.size))).rl, (HX.out _ (hw10.trans (h.mono hw10.size))).nm, (HX.out w10 hw10).nil, (HX.out _ (hw10.trans (h.mono hw10.size))).od, (HX.out w10 hw10).zb, (HX.out w10 hw10).zt⟩ (hCy.few hfe))
          have HCX := Lib.hid hCx
          have HCY := Lib.hid hCy
          obtain ⟨b, hbE⟩ : ∃ b, Ko.estimate y r bd order = b := ⟨_, rfl⟩
          have HBV := Lib.hid (fun h => show ∃ n : Nat, b = (n : Int) ∧ n ≤ a by
            refine ⟨costN y r bd order, ?_, ?_⟩
            · rw [← hbE, HEO.out y bd h HEE.out]
            · rw [← HA.out]; exact HGD.out y HCY.out HG.out h)
          rw [hbE] at HEY
          clear hEx hEy hCx hCy hfe hbE hb2 hb5 hb6 hb7 hb8 hb9 hb10 hw2 hw5 hw6 hw7 hw8 hat2 hat5 hat6 hat7 hat8 hat9
          cases hfx : Ko.fits x r.body
          · rw [hfx] at HFX
            clear hfx
            cases hfy : Ko.fits y r.body
            · rw [hfy] at HFY
              clear hfy
              refine (HFX.out _ (Below.refl _ _)).mono ?_
              rintro e w11 ⟨rfl, hb11⟩
              have hw11 : Below w.heap.size w w11 := hw10.trans (hb11.mono hw10.size)
              have hat11 := hat10.next hb11
              clear e0 e1 e2 e3 e4 e5 e6 e7 e8
              have e0 := (hat11).cell 0
              have e1 := (hat11).cell 1
              have e2 := (hat11).cell 2
              have e3 := (hat11).cell 3
              have e4 := (hat11).cell 4
              have e5 := (hat11).cell 5
              have e6 := (hat11).cell 6
              have e7 := (hat11).cell 7
              have e8 := (hat11).cell 8
              simp only [List.getElem?_toArray, List.getElem?_cons_zero, List.getElem?_cons_succ] at e0 e1 e2 e3 e4 e5 e6 e7 e8
              have hz11 := hb11
              go_wp2_with first | (go_at_call 18; with_reducible refine (HFY.out _ hz13).mono ?_; rintro e w14 ⟨rfl, hb14⟩; have hw14 : Below w.heap.size w w14 := hw13.trans (hb14.mono hw13.size); have hat14 := hat13.next hb14; clear e0 e1 e2 e3 e4 e5 e6 e7 e8; have e0 := (hat14).cell 0; have e1 := (hat14).cell 1; have e2 := (hat14).cell 2; have e3 := (hat14).cell 3; have e4 := (hat14).cell 4; have e5 := (hat14).cell 5; have e6 := (hat14).cell 6; have e7 := (hat14).cell 7; have e8 := (hat14).cell 8; simp only [List.getElem?_toArray, List.getElem?_cons_zero, List.getElem?_cons_succ] at e0 e1 e2 e3 e4 e5 e6 e7 e8) | (go_at_call 16; with_reducible refine (HEY.out _ hz11).mono ?_; rintro e w13 ⟨rfl, hb13⟩; have hw13 : Below w.heap.size w w13 := hw11.trans (hb13.mono hw11.size); have hat13 := hat11.next hb13; clear e0 e1 e2 e3 e4 e5 e6 e7 e8; have e0 := (hat13).cell 0; have e1 := (hat13).cell 1; have e2 := (hat13).cell 2; have e3 := (hat13).cell 3; have e4 := (hat13).cell 4; have e5 := (hat13).cell 5; have e6 := (hat13).cell 6; have e7 := (hat13).cell 7; have e8 := (hat13).cell 8; simp only [List.getElem?_toArray, List.getElem?_cons_zero, List.getElem?_cons_succ] at e0 e1 e2 e3 e4 e5 e6 e7 e8; have hz13 := hz11.trans (hb13.mono hz11.size))
              go_ret
              exact ⟨rfl, hw14⟩
            · rw [hfy] at HFY
              obtain ⟨n, rfl, hn⟩ := HBV.out hfy
              have d5 : decide ((0 : Int) ≤ (n : Int)) = true := decide_eq_true (by omega)
              have d6 : decide ((n : Int) ≤ (a : Int)) = true := decide_eq_true (by omega)
              have n6 : decide (n ≤ a) = true := decide_eq_true hn
              clear hfy hn
              refine (HFX.out _ (Below.refl _ _)).mono ?_
              rintro e w11 ⟨rfl, hb11⟩
              have hw11 : Below w.heap.size w w11 := hw10.trans (hb11.mono hw10.size)
              have hat11 := hat10.next hb11
              clear e0 e1 e2 e3 e4 e5 e6 e7 e8
              have e0 := (hat11).cell 0
              have e1 := (hat11).cell 1
              have e2 := (hat11).cell 2
              have e3 := (hat11).cell 3
              have e4 := (hat11).cell 4
              have e5 := (hat11).cell 5
              have e6 := (hat11).cell 6
              have e7 := (hat11).cell 7
              have e8 := (hat11).cell 8
              simp only [List.getElem?_toArray, List.getElem?_cons_zero, List.getElem?_cons_succ] at e0 e1 e2 e3 e4 e5 e6 e7 e8
              have hz11 := hb11
              go_wp2_with first | (go_at_call 18; with_reducible refine (HFY.out _ hz13).mono ?_; rintro e w14 ⟨rfl, hb14⟩; have hw14 : Below w.heap.size w w14 := hw13.trans (hb14.mono hw13.size); have hat14 := hat13.next hb14; clear e0 e1 e2 e3 e4 e5 e6 e7 e8; have e0 := (hat14).cell 0; have e1 := (hat14).cell 1; have e2 := (hat14).cell 2; have e3 := (hat14).cell 3; have e4 := (hat14).cell 4; have e5 := (hat14).cell 5; have e6 := (hat14).cell 6; have e7 := (hat14).cell 7; have e8 := (hat14).cell 8; simp only [List.getElem?_toArray, List.getElem?_cons_zero, List.getElem?_cons_succ] at e0 e1 e2 e3 e4 e5 e6 e7 e8) | (go_at_call 16; with_reducible refine (HEY.out _ hz11).mono ?_; rintro e w13 ⟨rfl, hb13⟩; have hw13 : Below w.heap.size w w13 := hw11.trans (hb13.mono hw11.size); have hat13 := hat11.next hb13; clear e0 e1 e2 e3 e4 e5 e6 e7 e8; have e0 := (hat13).cell 0; have e1 := (hat13).cell 1; have e2 := (hat13).cell 2; have e3 := (hat13).cell 3; have e4 := (hat13).cell 4; have e5 := (hat13).cell 5; have e6 := (hat13).cell 6; have e7 := (hat13).cell 7; have e8 := (hat13).cell 8; simp only [List.getElem?_toArray, List.getElem?_cons_zero, List.getElem?_cons_succ] at e0 e1 e2 e3 e4 e5 e6 e7 e8; have hz13 := hz11.trans (hb13.mono hz11.size))
              go_ret
              exact ⟨rfl, hw14⟩
          · rw [hfx] at HFX
            have hxa := HGR.out x HCX.out HG.out hfx
            rw [HA.out] at hxa
            rw [HEO.out x bd hfx HEE.out] at HEX
            obtain ⟨ax, hax⟩ : ∃ ax, costN x r bd order = ax := ⟨_, rfl⟩
            rw [hax] at HEX hxa
            have d4 : decide ((ax : Int) < (a : Int)) = false := decide_eq_false (by omega)
            have n4 : decide (ax < a) = false := decide_eq_false (by omega)
            clear hfx hxa hax
            cases hfy : Ko.fits y r.body
            · rw [hfy] at HFY
              clear hfy
              refine (HFX.out _ (Below.refl _ _)).mono ?_
              rintro e w11 ⟨rfl, hb11⟩
              have hw11 : Below w.heap.size w w11 := hw10.trans (hb11.mono hw10.size)
              have hat11 := hat10.next hb11
              clear e0 e1 e2 e3 e4 e5 e6 e7 e8
              have e0 := (hat11).cell 0
              have e1 := (hat11).cell 1
              have e2 := (hat11).cell 2
              have e3 := (hat11).cell 3
              have e4 := (hat11).cell 4
              have e5 := (hat11).cell 5
              have e6 := (hat11).cell 6
              have e7 := (hat11).cell 7
              have e8 := (hat11).cell 8
              simp only [List.getElem?_toArray, List.getElem?_cons_zero, List.getElem?_cons_succ] at e0 e1 e2 e3 e4 e5 e6 e7 e8
              have hz11 := hb11
              go_wp2_with first | (go_at_call 18; with_reducible refine (HFY.out _ hz13).mono ?_; rintro e w14 ⟨rfl, hb14⟩; have hw14 : Below w.heap.size w w14 := hw13.trans (hb14.mono hw13.size); have hat14 := hat13.next hb14; clear e0 e1 e2 e3 e4 e5 e6 e7 e8; have e0 := (hat14).cell 0; have e1 := (hat14).cell 1; have e2 := (hat14).cell 2; have e3 := (hat14).cell 3; have e4 := (hat14).cell 4; have e5 := (hat14).cell 5; have e6 := (hat14).cell 6; have e7 := (hat14).cell 7; have e8 := (hat14).cell 8; simp only [List.getElem?_toArray, List.getElem?_cons_zero, List.getElem?_cons_succ] at e0 e1 e2 e3 e4 e5 e6 e7 e8) | (go_at_call 16; with_reducible refine (HEY.out _ hz12).mono ?_; rintro e w13 ⟨rfl, hb13⟩; have hw13 : Below w.heap.size w w13 := hw12.trans (hb13.mono hw12.size); have hat13 := hat12.next hb13; clear e0 e1 e2 e3 e4 e5 e6 e7 e8; have e0 := (hat13).cell 0; have e1 := (hat13).cell 1; have e2 := (hat13).cell 2; have e3 := (hat13).cell 3; have e4 := (hat13).cell 4; have e5 := (hat13).cell 5; have e6 := (hat13).cell 6; have e7 := (hat13).cell 7; have e8 := (hat13).cell 8; simp only [List.getElem?_toArray, List.getElem?_cons_zero, List.getElem?_cons_succ] at e0 e1 e2 e3 e4 e5 e6 e7 e8; have hz13 := hz12.trans (hb13.mono hz12.size)) | (go_at_call 16; with_reducible refine (HEX.out _ hz11).mono ?_; rintro e w12 ⟨rfl, hb12⟩; have hw12 : Below w.heap.size w w12 := hw11.trans (hb12.mono hw11.size); have hat12 := hat11.next hb12; clear e0 e1 e2 e3 e4 e5 e6 e7 e8; have e0 := (hat12).cell 0; have e1 := (hat12).cell 1; have e2 := (hat12).cell 2; have e3 := (hat12).cell 3; have e4 := (hat12).cell 4; have e5 := (hat12).cell 5; have e6 := (hat12).cell 6; have e7 := (hat12).cell 7; have e8 := (hat12).cell 8; simp only [List.getElem?_toArray, List.getElem?_cons_zero, List.getElem?_cons_succ] at e0 e1 e2 e3 e4 e5 e6 e7 e8; have hz12 := hz11.trans (hb12.mono hz11.size))
              go_ret
              exact ⟨rfl, hw14⟩
            · rw [hfy] at HFY
              obtain ⟨n, rfl, hn⟩ := HBV.out hfy
              have d5 : decide ((0 : Int) ≤ (n : Int)) = true := decide_eq_true (by omega)
              have d6 : decide ((n : Int) ≤ (a : Int)) = true := decide_eq_true (by omega)
              have n6 : decide (n ≤ a) = true := decide_eq_true hn
              clear hfy hn
              refine (HFX.out _ (Below.refl _ _)).mono ?_
              rintro e w11 ⟨rfl, hb11⟩
              have hw11 : Below w.heap.size w w11 := hw10.trans (hb11.mono hw10.size)
              have hat11 := hat10.next hb11
              clear e0 e1 e2 e3 e4 e5 e6 e7 e8
              have e0 := (hat11).cell 0
              have e1 := (hat11).cell 1
              have e2 := (hat11).cell 2
              have e3 := (hat11).cell 3
              have e4 := (hat11).cell 4
              have e5 := (hat11).cell 5
              have e6 := (hat11).cell 6
              have e7 := (hat11).cell 7
              have e8 := (hat11).cell 8
              simp only [List.getElem?_toArray, List.getElem?_cons_zero, List.getElem?_cons_succ] at e0 e1 e2 e3 e4 e5 e6 e7 e8
              have hz11 := hb11
              go_wp2_with first | (go_at_call 18; with_reducible refine (HFY.out _ hz13).mono ?_; rintro e w14 ⟨rfl, hb14⟩; have hw14 : Below w.heap.size w w14 := hw13.trans (hb14.mono hw13.size); have hat14 := hat13.next hb14; clear e0 e1 e2 e3 e4 e5 e6 e7 e8; have e0 := (hat14).cell 0; have e1 := (hat14).cell 1; have e2 := (hat14).cell 2; have e3 := (hat14).cell 3; have e4 := (hat14).cell 4; have e5 := (hat14).cell 5; have e6 := (hat14).cell 6; have e7 := (hat14).cell 7; have e8 := (hat14).cell 8; simp only [List.getElem?_toArray, List.getElem?_cons_zero, List.getElem?_cons_succ] at e0 e1 e2 e3 e4 e5 e6 e7 e8) | (go_at_call 16; with_reducible refine (HEY.out _ hz12).mono ?_; rintro e w13 ⟨rfl, hb13⟩; have hw13 : Below w.heap.size w w13 := hw12.trans (hb13.mono hw12.size); have hat13 := hat12.next hb13; clear e0 e1 e2 e3 e4 e5 e6 e7 e8; have e0 := (hat13).cell 0; have e1 := (hat13).cell 1; have e2 := (hat13).cell 2; have e3 := (hat13).cell 3; have e4 := (hat13).cell 4; have e5 := (hat13).cell 5; have e6 := (hat13).cell 6; have e7 := (hat13).cell 7; have e8 := (hat13).cell 8; simp only [List.getElem?_toArray, List.getElem?_cons_zero, List.getElem?_cons_succ] at e0 e1 e2 e3 e4 e5 e6 e7 e8; have hz13 := hz12.trans (hb13.mono hz12.size)) | (go_at_call 16; with_reducible refine (HEX.out _ hz11).mono ?_; rintro e w12 ⟨rfl, hb12⟩; have hw12 : Below w.heap.size w w12 := hw11.trans (hb12.mono hw11.size); have hat12 := hat11.next hb12; clear e0 e1 e2 e3 e4 e5 e6 e7 e8; have e0 := (hat12).cell 0; have e1 := (hat12).cell 1; have e2 := (hat12).cell 2; have e3 := (hat12).cell 3; have e4 := (hat12).cell 4; have e5 := (hat12).cell 5; have e6 := (hat12).cell 6; have e7 := (hat12).cell 7; have e8 := (hat12).cell 8; simp only [List.getElem?_toArray, List.getElem?_cons_zero, List.getElem?_cons_succ] at e0 e1 e2 e3 e4 e5 e6 e7 e8; have hz12 := hz11.trans (hb12.mono hz11.size))
              go_ret
              exact ⟨rfl, hw14⟩
end Go.Proofs.YtoficnfpoeaccaaDoor
