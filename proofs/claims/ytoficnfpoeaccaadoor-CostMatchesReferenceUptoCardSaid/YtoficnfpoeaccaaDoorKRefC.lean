/- The walk of the reference's Evaluable. -/
import Derived.Test.YtoficnfpoeaccaaDoorKLit
namespace Go.Proofs.YtoficnfpoeaccaaDoor
set_option linter.unusedVariables false
set_option linter.unusedSimpArgs false
open Go.RowKit
theorem bool_info : (Tryd.prog.info? 4).map (fun i => (i.zero, i.size, i.bytes)) = some (some (.bool false), 1, 1) := by kernel_rfl
set_option maxHeartbeats 1000000 in
set_option maxRecDepth 100000 in
theorem evaluable08_any (r : Rl) (A : Option Addr) (c : Nat) (bd : List ByteArray) (O : Option Addr) (oc : Nat) (order : List Int) (w : World)
    (hr : RlOk w r) (hA : NmAt w A bd) (hn : A = none → c = 0) (hO : Str w O 1 (order.map fun x => [.int .i64 x]))
    (h8 : ∀ l ∈ r.body, l.args.length ≤ 8) (hb8 : r.body.length ≤ 8) (hbd : bd.length ≤ 20) :
    Calls Tryd.prog 19 #[r.v, .slice A bd.length c, .slice O order.length oc] w fun e w' => e = .returned (.bool (Ko.evaluable r.body bd order)) ∧ Below w.heap.size w w' := by
  obtain ⟨name, pred, ⟨ga, gn, gc⟩, ek, en, ev, ei, da, dc, body, pos⟩ := r
  have HR0 := Lib.hid (fun W (h : Below w.heap.size w W) => hr.below h)
  have HO := Lib.hid (fun W (h : Below w.heap.size w W) i x (hi : order[i]? = some x) => int_cells (hO.below h) hi)
  have HCP := Lib.hid (fun W (h : Below w.heap.size w W) => copied_any A c bd W (hA.below h) hn (by omega))
  have H8 := Lib.hid h8
  unfold Ko.evaluable Rl.v
  dsimp only at *
  clear hr hA hn hO h8
  obtain ⟨i0, hi0, hz0, hz1, hz2⟩ := info_parts bool_info
  have HAT := Lib.hid (At.new w 38 #[.string name, .int .i64 pred, .slice ga gn gc, .int .i64 ek, .string en, .string ev, .int .i64 ei, .slice da body.length dc, .int .i64 pos])
  have hw0 : Below w.heap.size w (w.alloc (.cells #[.string name, .int .i64 pred, .slice ga gn gc, .int .i64 ek, .string en, .string ev, .int .i64 ei, .slice da body.length dc, .int .i64 pos] 38)) := below1 _ _
  by_cases hl : order.length = body.length
  · have t1 : ((order.length : Int) != (body.length : Int)) = false := by simp [hl]
    have HL := Lib.hid hl
    obtain ⟨R, hR⟩ : ∃ R, Ko.runs body order [] (fun x => bd.contains x) = R := ⟨_, rfl⟩
    rw [decide_eq_true hl, hR, Bool.true_and]
    replace hR : Ko.runs body (order.drop 0) [] (bdN bd) = R := by
      rw [← hR]
      congr 1
      funext x
      exact hasN_contains bd x
    have HRR := Lib.hid hR
    clear hl hR
    go_enter Tryd.func19, Tryd.ntmps19
    go_wp2_with (go_at_call 43; refine (HCP.out _ hw0).mono ?_; rintro e w2 ⟨⟨v, rfl, ho⟩, hb2⟩; have hat2 := HAT.out.next hb2; have c7 : w2.cell? ⟨w.heap.size, 7, none⟩ = some (.slice da body.length dc) := hat2.cell 7)
    have hw2 : Below w.heap.size w w2 := hw0.trans (hb2.mono hw0.size)
    replace ho := own_mono ho hw0.size
    have q0 := run_make_one w2 Tryd.underlying101 hi0 hz0 hz1 (by rw [hz2]; decide) rfl body.length (by omega)
    go_wp2_with fail
    rw [q0]
    go_wp2_with fail
    clear q0 c7 hb2
    have hlt2 := hat2.lt
    have hol : order.length ≤ 8 := by have := HL.out; omega
    have hne3 : w.heap.size ≠ w2.heap.size := by omega
    have hlt3 : w.heap.size ≤ w2.heap.size := by omega
    go_loopw [7, 9, 10] (fun v i _ wr => ∃ (k : Nat) (A : Option Addr) (c : Nat) (nm : List ByteArray) (d : List Nat), k ≤ order.length ∧ i = .int .i64 k ∧ v = .slice A nm.length c ∧ wr.ownsRow w.heap.size 9 1 (.slice A nm.length c) nm.length (ncs nm) ∧ nm.length ≤ 20 + 8 * k ∧ Hid (Ko.runs body (order.drop k) d (bdN nm) = R) ∧ At wr w2.heap.size 4 (dcells body.length d) ∧ At wr w.heap.size 38 #[.string name, .int .i64 pred, .slice ga gn gc, .int .i64 ek, .string en, .string ev, .int .i64 ei, .slice da body.length dc, .int .i64 pos] ∧ Below w.heap.size w wr) (fun _ i _ _ => order.length - (intOf i).toNat)
    case atStart =>
      obtain ⟨A2, c2, rfl⟩ := own_len ho
      refine ⟨0, A2, c2, bd, [], by omega, rfl, rfl, ho.alloc _, by omega, HRR, ?_, hat2.alloc _, hw2.alloc hw2.size _⟩
      rw [← dcells_nil]
      exact At.newAt (by simp) _ _
    case round =>
      clear ho hat2
      obtain ⟨k, A2, c2, nm, d, hk, rfl, rfl, ho, hnm, HK, hdn, hat, hw⟩ := hrel
      have c7 : wr.cell? ⟨w.heap.size, 7, none⟩ = some (.slice da body.length dc) := hat.cell 7
      have hnm2 : nm.length ≤ 100 := by have := HL.out; omega
      have hsz := hw.size
      by_cases h1 : k < order.length
      · have d1 : decide ((k : Int) < (order.length : Int)) = true := by simp; omega
        obtain ⟨x, hx⟩ : ∃ x, order[k]? = some x := ⟨_, List.getElem?_eq_getElem h1⟩
        obtain ⟨go, oo, rfl, hgo, y0⟩ := HO.out wr hw k x hx
        have i0 : (0 : Int) ≤ (k : Int) := by omega
        have i1 : (k : Int) < (order.length : Int) := by omega
        by_cases hx0 : x < 0
        · have t2 : decide (x < 0) = true := decide_eq_true hx0
          have HF := Lib.hid (show false = R by rw [← HK.out, runs_neg hx hx0])
          clear hx
          go_wp2_with fail
          go_ret
          exact ⟨by rw [← HF.out]; rfl, hw⟩
        · by_cases hxn : (body.length : Int) ≤ x
          · have t2 : decide (x < 0) = false := decide_eq_false hx0
            have t3 : decide ((body.length : Int) ≤ x) = true := decide_eq_true hxn
            have HF := Lib.hid (show false = R by rw [← HK.out, runs_out hx hxn])
            clear hx
            go_wp2_with fail
            go_ret
            exact ⟨by rw [← HF.out]; rfl, hw⟩
          · obtain ⟨j, rfl⟩ : ∃ j : Nat, x = (j : Int) := ⟨x.toNat, by omega⟩
            have hj : j < body.length := by omega
            have t2 : decide ((j : Int) < 0) = false := decide_eq_false hx0
            have t3 : decide ((body.length : Int) ≤ (j : Int)) = false := decide_eq_false hxn
            have i2 : (0 : Int) ≤ (j : Int) := by omega
            have i3 : (j : Int) < (body.length : Int) := by omega
            obtain ⟨l, hjl⟩ : ∃ l, body[j]? = some l := ⟨_, List.getElem?_eq_getElem hj⟩
            have hrun := runs_in (d := d) (B := bdN nm) hx hjl
            rw [HK.out] at hrun
            have z0 : wr.cell? ⟨w2.heap.size, j, none⟩ = some (.bool (d.contains j)) := (hdn.cell j).trans (dcells_get d hj)
            clear hx0 hxn
            cases hd : d.contains j
            · rw [hd] at hrun z0
              obtain ⟨gb, ob, rfl, hgb, b0, b1, b2, b3, b4, b5, b6, b7, b8⟩ := lt_cells (HR0.out wr hw).body hjl
              have hln := H8.out l (List.mem_of_getElem? hjl)
              have HLT := Lib.hid (fun W (h : Below w.heap.size w W) => (HR0.out W h).each l (List.mem_of_getElem? hjl))
              have HRD := Lib.hid (ready_any A2 c2 nm l wr (own_names ho) (by omega) (HLT.out wr hw) (by omega))
              cases hz : Ko.ready (bdN nm) l
              · rw [hz] at HRD hrun
                have HF := Lib.hid (show R = false by rw [hrun]; rfl)
                clear hx hjl hrun hd hz
                go_wp2_with (go_at_call 44; refine HRD.out.mono ?_; rintro e w3 ⟨rfl, hb3⟩)
                go_ret
                exact ⟨by rw [HF.out]; rfl, hw.trans (hb3.mono hw.size)⟩
              · rw [hz] at HRD hrun
                have HF := Lib.hid (show Ko.runs body (order.drop (k + 1)) (d ++ [j]) (bdN (bindN nm l.args)) = R by rw [bdN_bindN, hrun]; rfl)
                have HJ := Lib.hid hjl
                clear hx hjl hrun hd hz
                go_wp2_with first
                  | (go_at_call 45; refine (bind_any A2 c2 nm l w.heap.size _ (by simp; omega) ho3 (fun W h => (HLT.out W (hs.trans h)).args) (by omega)).mono ?_; rintro e w4 ⟨⟨v, rfl, ho4⟩, hb4, hs4, hf4⟩)
                  | (go_at_call 44; refine HRD.out.mono ?_; rintro e w3 ⟨rfl, hb3⟩; have hw3 : Below w.heap.size w w3 := hw.trans (hb3.mono hw.size); have hat3 := hat.next hb3; have hdn3 := hdn.next hb3; have c7 := hat3.cell 7; replace c7 : w3.cell? ⟨w.heap.size, 7, none⟩ = some (.slice (some ⟨gb, ob, none⟩) body.length dc) := c7; have yf : w3.frozen? ⟨w2.heap.size, j, none⟩ = false := hdn3.frozen j; have z1 : w3.cell? ⟨w2.heap.size, j, none⟩ = some (.bool (d.contains j)) := (hdn3.cell j).trans (dcells_get d hj); have hs := hw3.setCell (p := ⟨w2.heap.size, j, none⟩) hlt3 (.bool true); obtain ⟨gb2, ob2, hgg, hgb2, s0, s1, s2, s3, s4, s5, s6, s7, s8⟩ := lt_cells (HR0.out _ hs).body HJ.out; injection hgg with hgg; injection hgg with hg1 hg2; subst hg1; subst hg2; have hats := hat3.far (p := ⟨w2.heap.size, j, none⟩) hne3 (.bool true); have s9 := hats.cell 7; replace s9 : (w3.setCell ⟨w2.heap.size, j, none⟩ (.bool true)).cell? ⟨w.heap.size, 7, none⟩ = some (.slice (some ⟨gb, ob, none⟩) body.length dc) := s9; have ho3 := own_putne (p := ⟨w2.heap.size, j, none⟩) (own_below ho hb3) (own_far (own_below ho hb3) hdn3 (by decide)) (.bool true); have hdns := hdn3.put j (.bool true); rw [dcells_put] at hdns; have hsz3 := hb3.size)
                obtain ⟨A4, c4, rfl⟩ := own_len ho4
                have hbl := bindN_len l.args nm
                go_roundw
                case rel => exact ⟨k + 1, A4, c4, _, _, by omega, by go_num, rfl, ho4, by omega, HF, hf4 _ _ _ (by decide) hdns, hf4 _ _ _ (by decide) hats, hs.trans hb4⟩
                case measure => simp [intOf]; omega
            · rw [hd] at hrun z0
              have HF := Lib.hid (show R = false by rw [hrun]; rfl)
              clear hx hjl hrun hd
              go_wp2_with fail
              go_ret
              exact ⟨by rw [HF.out]; rfl, hw⟩
      · have d1 : decide ((k : Int) < (order.length : Int)) = false := by simp; omega
        have HF := Lib.hid (show true = R by rw [← HK.out, runs_end (by omega)])
        go_wp2_with fail
        go_ret
        exact ⟨by rw [← HF.out]; rfl, hw⟩
  · have t1 : ((order.length : Int) != (body.length : Int)) = true := by simpa using fun h => hl (by omega)
    rw [decide_eq_false hl, Bool.false_and]
    clear hl
    go_enter Tryd.func19, Tryd.ntmps19
    go_wp2_with fail
    go_ret
    exact ⟨rfl, hw0⟩
end Go.Proofs.YtoficnfpoeaccaaDoor
