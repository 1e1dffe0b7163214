/- The walk of safety's Evaluable. -/
import Derived.Test.YtoficnfpoeaccaaDoorKSafe
namespace Go.Proofs.YtoficnfpoeaccaaDoor
set_option linter.unusedVariables false
set_option linter.unusedSimpArgs false
open Go.RowKit
set_option maxHeartbeats 1000000 in
set_option maxRecDepth 100000 in
theorem evaluable_any (r : Rl) (A : Option Addr) (c : Nat) (bd : List ByteArray) (O : Option Addr) (oc : Nat) (order : List Int) (w : World)
    (hr : RlOk w r) (hA : NmAt w A bd) (hO : Str w O 1 (order.map fun x => [.int .i64 x]))
    (h8 : ∀ l ∈ r.body, l.args.length ≤ 8) (hb8 : r.body.length ≤ 8) (hbd : bd.length ≤ 20) (hzb : ∀ s ∈ bd, FitS s) (hzt : ∀ l ∈ r.body, ∀ t ∈ l.args, FitS t.v) :
    Calls Tryd.prog 30 #[r.v, .slice A bd.length c, .slice O order.length oc] w fun e w' => e = .returned (.bool (Ko.evaluable r.body bd order)) ∧ Below w.heap.size w w' := by
  obtain ⟨name, pred, ⟨ga, gn, gc⟩, ek, en, ev, ei, da, dc, body, pos⟩ := r
  have HR0 := Lib.hid (fun W (h : Below w.heap.size w W) => hr.below h)
  have HO := Lib.hid (fun W (h : Below w.heap.size w W) i x (hi : order[i]? = some x) => int_cells (hO.below h) hi)
  have HCP := Lib.hid (fun W (h : Below w.heap.size w W) => of_any A c bd W (hA.below h) (by omega) hzb)
  have H8 := Lib.hid h8
  have HZT := Lib.hid hzt
  unfold Ko.evaluable Rl.v
  dsimp only at *
  clear hr hA hO h8 hzb hzt
  obtain ⟨i0, hi0, hz0, hz1, hz2⟩ := info_parts bool_info
  have HAT := Lib.hid (At.new w 38 #[.string name, .int .i64 pred, .slice ga gn gc, .int .i64 ek, .string en, .string ev, .int .i64 ei, .slice da body.length dc, .int .i64 pos])
  have hw0 : Below w.heap.size w (w.alloc (.cells #[.string name, .int .i64 pred, .slice ga gn gc, .int .i64 ek, .string en, .string ev, .int .i64 ei, .slice da body.length dc, .int .i64 pos] 38)) := below1 _ _
  by_cases hl : order.length = body.length
  · have t1 : ((order.length : Int) != (body.length : Int)) = false := by simp [hl]
    have HL := Lib.hid hl
    obtain ⟨R, hR⟩ : ∃ R, Ko.runs body order [] (fun x => bd.contains x) = R := ⟨_, rfl⟩
    rw [decide_eq_true hl, hR, Bool.true_and]
    replace hR : Ko.runs body (order.drop 0) [] (bdN bd) = R := by
      rw [← hR]
      congr 1
      funext x
      exact hasN_contains bd x
    have HRR := Lib.hid hR
    have hol : order.length ≤ 8 := by omega
    clear hl hR
    go_enter Tryd.func30, Tryd.ntmps30
    go_wp2_with (go_at_call 52; refine (HCP.out _ hw0).mono ?_; rintro e w2 ⟨⟨b, rfl, hbl, hset⟩, hb2⟩)
    have hat2 := HAT.out.next hb2
    have hw2 : Below w.heap.size w w2 := hw0.trans (hb2.mono hw0.size)
    have q0 := run_make_one w2 Tryd.underlying101 hi0 hz0 hz1 (by rw [hz2]; decide) rfl order.length (by omega)
    go_wp2_with fail
    rw [q0]
    go_wp2_with fail
    clear q0 hb2
    have hlt2 := hat2.lt
    have hne3 : w.heap.size ≠ w2.heap.size := by omega
    have hlt3 : w.heap.size ≤ w2.heap.size := by omega
    have hbw : w.heap.size ≤ b := by simp at hbl; omega
    have hnb : b ≠ w2.heap.size := by have := hset.lt; omega
    have HNB := Lib.hid hnb
    clear hnb hbl
    go_loopw [10, 24] (fun _ i wr => ∃ (k n : Nat) (B : Ko.Bd) (d : List Nat), k ≤ order.length ∧ i = .int .i64 k ∧ SetIs wr b n B ∧ n ≤ 20 + 8 * k ∧ Hid (Ko.runs body (order.drop k) d B = R) ∧ At wr w2.heap.size 4 (dcells order.length d) ∧ At wr w.heap.size 38 #[.string name, .int .i64 pred, .slice ga gn gc, .int .i64 ek, .string en, .string ev, .int .i64 ei, .slice da body.length dc, .int .i64 pos] ∧ Below w.heap.size w wr) (fun _ i _ => order.length - (intOf i).toNat)
    case atStart =>
      refine ⟨0, _, _, [], by omega, rfl, hset.alloc _, by omega, HRR, ?_, hat2.alloc _, hw2.alloc hw2.size _⟩
      rw [← dcells_nil]
      exact At.newAt (by simp) _ _
    case round =>
      clear hset hat2
      obtain ⟨k, n, B, d, hk, rfl, hset, hn, HK, hdn, hat, hw⟩ := hrel
      have c7 : wr.cell? ⟨w.heap.size, 7, none⟩ = some (.slice da body.length dc) := hat.cell 7
      have hsz := hw.size
      by_cases h1 : k < order.length
      · have d1 : decide ((k : Int) < (order.length : Int)) = true := by simp; omega
        obtain ⟨x, hx⟩ : ∃ x, order[k]? = some x := ⟨_, List.getElem?_eq_getElem h1⟩
        obtain ⟨go, oo, rfl, hgo, y0⟩ := HO.out wr hw k x hx
        have i0 : (0 : Int) ≤ (k : Int) := by omega
        have i1 : (k : Int) < (order.length : Int) := by omega
        by_cases hx0 : x < 0
        · have t2 : decide (x < 0) = true := decide_eq_true hx0
          have HF := Lib.hid (show false = R by rw [← HK.out, runs_neg hx hx0])
          clear hx
          go_wp2_with fail
          go_ret
          exact ⟨by rw [← HF.out]; rfl, hw⟩
        · by_cases hxn : (order.length : Int) ≤ x
          · have t2 : decide (x < 0) = false := decide_eq_false hx0
            have t3 : decide ((order.length : Int) ≤ x) = true := decide_eq_true hxn
            have HF := Lib.hid (show false = R by rw [← HK.out, runs_out hx (by have := HL.out; omega)])
            clear hx
            go_wp2_with fail
            go_ret
            exact ⟨by rw [← HF.out]; rfl, hw⟩
          · obtain ⟨j, rfl⟩ : ∃ j : Nat, x = (j : Int) := ⟨x.toNat, by omega⟩
            have hjo : j < order.length := by omega
            have hj : j < body.length := by have := HL.out; omega
            have t2 : decide ((j : Int) < 0) = false := decide_eq_false hx0
            have t3 : decide ((order.length : Int) ≤ (j : Int)) = false := decide_eq_false hxn
            have t5 : decide (order.length ≤ j) = false := decide_eq_false (by omega)
            have i2 : (0 : Int) ≤ (j : Int) := by omega
            have i3 : (j : Int) < (body.length : Int) := by omega
            have i4 : (j : Int) < (order.length : Int) := by omega
            obtain ⟨l, hjl⟩ : ∃ l, body[j]? = some l := ⟨_, List.getElem?_eq_getElem hj⟩
            have hrun := runs_in (d := d) (B := B) hx hjl
            rw [HK.out] at hrun
            have z0 : wr.cell? ⟨w2.heap.size, j, none⟩ = some (.bool (d.contains j)) := (hdn.cell j).trans (dcells_get d hjo)
            clear hx0 hxn
            cases hd : d.contains j
            · rw [hd] at hrun z0
              obtain ⟨gb, ob, rfl, hgb, b0, b1, b2, b3, b4, b5, b6, b7, b8⟩ := lt_cells (HR0.out wr hw).body hjl
              have hln := H8.out l (List.mem_of_getElem? hjl)
              have HLT := Lib.hid (fun W (h : Below w.heap.size w W) => (HR0.out W h).each l (List.mem_of_getElem? hjl))
              have HFZ := Lib.hid (HZT.out l (List.mem_of_getElem? hjl))
              have HRD := Lib.hid (ready_set b n B l wr hset (HLT.out wr hw) (by omega) HFZ.out)
              cases hz : Ko.ready B l
              · rw [hz] at HRD hrun
                have HF := Lib.hid (show R = false by rw [hrun]; rfl)
                clear hx hjl hrun hd hz
                go_wp2_with (go_at_call 53; refine HRD.out.mono ?_; rintro e w3 ⟨rfl, hb3⟩)
                go_ret
                exact ⟨by rw [HF.out]; rfl, hw.trans (hb3.mono hw.size)⟩
              · rw [hz] at HRD hrun
                have HF := Lib.hid (show Ko.runs body (order.drop (k + 1)) (d ++ [j]) (Ko.bindL B l.args) = R by rw [hrun]; rfl)
                have HJ := Lib.hid hjl
                clear hx hjl hrun hd hz
                go_wp2_with first
                  | (go_at_call 54; refine (addset_any b n B l _ hset3 (HLT.out _ hs).args (by omega) (by omega) HFZ.out).mono ?_; rintro e w4 ⟨rfl, hset4, hg4⟩)
                  | (go_at_call 53; refine HRD.out.mono ?_; rintro e w3 ⟨rfl, hb3⟩; have hw3 : Below w.heap.size w w3 := hw.trans (hb3.mono hw.size); have hat3 := hat.next hb3; have hdn3 := hdn.next hb3; have c7 := hat3.cell 7; replace c7 : w3.cell? ⟨w.heap.size, 7, none⟩ = some (.slice (some ⟨gb, ob, none⟩) body.length dc) := c7; have yf : w3.frozen? ⟨w2.heap.size, j, none⟩ = false := hdn3.frozen j; have z1 : w3.cell? ⟨w2.heap.size, j, none⟩ = some (.bool (d.contains j)) := (hdn3.cell j).trans (dcells_get d hjo); have hs := hw3.setCell (p := ⟨w2.heap.size, j, none⟩) hlt3 (.bool true); obtain ⟨gb2, ob2, hgg, hgb2, s0, s1, s2, s3, s4, s5, s6, s7, s8⟩ := lt_cells (HR0.out _ hs).body HJ.out; injection hgg with hgg; injection hgg with hg1 hg2; subst hg1; subst hg2; have hats := hat3.far (p := ⟨w2.heap.size, j, none⟩) hne3 (.bool true); have s9 := hats.cell 7; replace s9 : (w3.setCell ⟨w2.heap.size, j, none⟩ (.bool true)).cell? ⟨w.heap.size, 7, none⟩ = some (.slice (some ⟨gb, ob, none⟩) body.length dc) := s9; have hdns := hdn3.put j (.bool true); rw [dcells_put] at hdns; have hsz3 := hb3.size; have hset3 := (hset.next hb3).setCell (a := ⟨w2.heap.size, j, none⟩) HNB.out (.bool true))
                obtain ⟨es, ec, hob⟩ := hset3.obj
                go_roundw
                case rel => exact ⟨k + 1, _, _, _, by omega, by go_num, hset4, by omega, HF, hdns.grown hg4 (hdns.not_map hob), hats.grown hg4 (hats.not_map hob), hs.trans (below_of_grown hg4 hbw hs.size)⟩
                case measure => simp [intOf]; omega
            · rw [hd] at hrun z0
              have HF := Lib.hid (show R = false by rw [hrun]; rfl)
              clear hx hjl hrun hd
              go_wp2_with fail
              go_ret
              exact ⟨by rw [HF.out]; rfl, hw⟩
      · have d1 : decide ((k : Int) < (order.length : Int)) = false := by simp; omega
        have HF := Lib.hid (show true = R by rw [← HK.out, runs_end (by omega)])
        go_wp2_with fail
        go_ret
        exact ⟨by rw [← HF.out]; rfl, hw⟩
  · have t1 : ((order.length : Int) != (body.length : Int)) = true := by simpa using fun h => hl (by omega)
    rw [decide_eq_false hl, Bool.false_and]
    clear hl
    go_enter Tryd.func30, Tryd.ntmps30
    go_wp2_with fail
    go_ret
    exact ⟨rfl, hw0⟩
end Go.Proofs.YtoficnfpoeaccaaDoor
