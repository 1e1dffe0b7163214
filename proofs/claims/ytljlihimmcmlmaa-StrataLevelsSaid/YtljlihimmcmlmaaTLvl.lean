/- The walk of StrataLevels. -/
import Derived.Test.YtljlihimmcmlmaaTBad
import Derived.Test.YtljlihimmcmlmaaTEsa
import Derived.Test.YtljlihimmcmlmaaTHd
namespace Go.Proofs.Ytljlihimmcmlmaa
set_option linter.unusedVariables false
set_option linter.unusedSimpArgs false
open Go.RowKit
namespace Tj
theorem lift_cap {s : List Nat × Bool} {e : Ed} {M : Nat} (h : ∀ v, s.1.getD v 0 ≤ M) (v : Nat) : (lift s e).1.getD v 0 ≤ M + 1 := by
  have hw : w1 e ≤ 1 := by unfold w1; split <;> omega
  have hb := h e.b
  have hv := h v
  unfold lift
  split
  · dsimp only
    rw [getD_set]
    split <;> omega
  · omega
end Tj
set_option maxHeartbeats 4000000 in
set_option maxRecDepth 100000 in
theorem levels_law (p : Pg) (w : World) (hp : PgOk w p) : Calls Try.prog 5 #[p.v] w fun e w' => e = .returned (.bool true) ∧ Below w.heap.size w w' := by
  have HH := Lib.hid (fun W => head_any W)
  have HS := Lib.hid (fun W (h : Below w.heap.size w W) => small_any p W (hp.below h))
  have HAT := Lib.hid (At.new w 27 p.vs)
  cases hsm : smallP p
  · rw [hsm] at HS
    unfold Pg.v at HS ⊢
    unfold Pg.vs at HAT
    clear hsm hp
    generalize p.ra = ra at *
    generalize p.pa = pa at *
    go_enter Try.func5, Try.ntmps5
    go_wp2_with (first
      | (go_at_call 10; refine (HH.out _).mono ?_; rintro e w2 ⟨rfl, hb2⟩; have hat2 := HAT.out.next hb2; have hbw2 : Below w.heap.size w w2 := (below1 _ _).trans (hb2.mono (by simp)); obtain ⟨p0, p1, p2, p3⟩ := pg_cells hat2)
      | (go_at_call 11; refine (HS.out _ hbw2).mono ?_; rintro e w3 ⟨rfl, hb3⟩; have hbw3 := hbw2.trans (hb3.mono hbw2.size)))
    go_ret
    exact ⟨rfl, hbw3⟩
  · rw [hsm] at HS
    obtain ⟨s1, s2, s3⟩ := smallP_iff.1 hsm
    obtain ⟨n, hn⟩ : ∃ n, p.prs.length = n := ⟨_, rfl⟩
    have hf := pgFine (p := p) (by omega) (by omega) (fun r hr => by have := s3 r hr; omega)
    rw [hn] at hf s1
    clear hsm s2 s3
    have HE := Lib.hid (fun W (h : Below w.heap.size w W) => edges_at p n W (hp.below h) hf)
    have HK := Lib.hid (fun W (h : Below w.heap.size w W) => check_any p n W (hp.below h) hf)
    have hes := hf.es
    have hel := hf.el
    have hbi := bads_iff hf
    have hri := Tj.rounds_iff hes
    obtain ⟨es, hes0⟩ : ∃ es, edges p = es := ⟨_, rfl⟩
    rw [hes0] at HE HK hes hel hbi hri
    generalize bads p (sameC (Tj.whole (Tj.next es) n).of) = D at *
    have HES := Lib.hid hes
    obtain ⟨RR, hRR⟩ : ∃ RR, (Tj.rounds es (n + 1) (List.replicate n 0, true)).2 = RR := ⟨_, rfl⟩
    rw [hRR] at hri
    have HRR := Lib.hid hRR
    have HD := Lib.hid (show RR = decide (0 < (D.length : Int)) by
      rw [Bool.eq_iff_iff, hri, ← hbi, decide_eq_true_eq, ← List.length_pos_iff]; omega)
    clear hes0 hf hp hes hbi hri hRR
    unfold Pg.v at HS HE HK ⊢
    unfold Pg.vs at HAT
    generalize p.ra = ra at *
    generalize p.pa = pa at *
    rw [hn] at HS HE HK HAT ⊢
    clear hn
    obtain ⟨i2, hi2, hx0, hx1, hx2⟩ := info_of int_info
    go_enter Try.func5, Try.ntmps5
    go_wp2_with (first
      | (go_at_call 10; refine (HH.out _).mono ?_; rintro e w2 ⟨rfl, hb2⟩; have hat2 := HAT.out.next hb2; have hbw2 : Below w.heap.size w w2 := (below1 _ _).trans (hb2.mono (by simp)); obtain ⟨p0, p1, p2, p3⟩ := pg_cells hat2)
      | (go_at_call 11; refine (HS.out _ hbw2).mono ?_; rintro e w3a ⟨rfl, hb3⟩; have hbw3 := hbw2.trans (hb3.mono hbw2.size); have hat3 := hat2.next hb3; clear p0 p1 p2 p3; obtain ⟨p0, p1, p2, p3⟩ := pg_cells hat3)
      | (go_at_call 12; refine (HE.out _ hbw3).mono ?_; rintro e w4 ⟨va, vc, ua, uc, rfl, hea, hb4⟩; have hbw4 := hbw3.trans (hb4.mono hbw3.size); have hat4 := hat3.next hb4; clear p0 p1 p2 p3; obtain ⟨p0, p1, p2, p3⟩ := pg_cells hat4))
    have q0 := run_make_one w4 Try.underlying42 hi2 hx0 hx1 (by rw [hx2]; decide) rfl n (by omega)
    clear hb2 hbw2 hat2 hb3 hbw3 hat3 hb4 HE HS HH HAT
    go_wp2_with fail
    rw [q0]
    go_wp2_with fail
    have hlt4 := hat4.lt
    have HATX := Lib.hid (fun W (h : Below w4.heap.size w4 W) => pg_cells (hat4.next h))
    have HEA := Lib.hid (fun W (h : Below w4.heap.size w4 W) => hea.below h)
    have HK4 := Lib.hid (fun W (h : Below w4.heap.size w4 W) => HK.out W (hbw4.trans (h.mono hbw4.size)))
    clear hat4 hea q0 HK p0 p1 p2 p3
    go_loopw [7, 8, 9, 10] (fun ch i _ _ wr => ∃ (k : Nat) (s : List Nat × Bool), k ≤ n + 1 ∧ i = .int .i64 k ∧ ch = .bool s.2 ∧ s.1.length = n ∧ Hid ((Tj.rounds es (n + 1 - k) s).2 = RR) ∧ Hid (∀ v, s.1.getD v 0 ≤ k * 1000000) ∧ At wr w4.heap.size 3 (ncells s.1).toArray ∧ Below w4.heap.size w4 wr) (fun _ i _ _ _ => n + 1 - (intOf i).toNat)
    case atStart =>
      refine ⟨0, (List.replicate n 0, true), by omega, rfl, rfl, by simp, Lib.hid HRR.out, Lib.hid (fun v => ?_), ?_, below1 _ _⟩
      · rw [List.getD_eq_getElem?_getD, List.getElem?_replicate]
        split <;> simp
      · have h := At.new w4 3 (Array.replicate n (.int .i64 0))
        unfold ncells; simpa using h
    case round =>
      obtain ⟨k, s, hk, rfl, rfl, hsl, HR, HM, hat, hb⟩ := hrel
      obtain ⟨l, c⟩ := s
      dsimp only at hsl HM hat ⊢
      obtain ⟨p0, p1, p2, p3⟩ := HATX.out _ hb
      by_cases h1 : k ≤ n
      · have d1 : decide ((k : Int) ≤ (n : Int)) = true := by simp; omega
        have d1' : decide (k ≤ n) = true := by simp; omega
        cases c
        · have HE := Lib.hid (show RR = false by
            rw [← HR.out, show n + 1 - k = (n - k) + 1 by omega]; rfl)
          go_wp2_with (go_at_call 20; refine (HK4.out _ hb).mono ?_; rintro e w6 ⟨A, cc, rfl, _, hb6⟩)
          have hd : decide ((0 : Int) < (D.length : Int)) = false := by rw [← HD.out, HE.out]
          have hd' : decide (0 < D.length) = false := by simpa using hd
          go_wp2_with fail
          go_ret
          exact ⟨by show Ending.returned (.bool (!decide (0 < D.length))) = _; rw [hd']; rfl, hbw4.trans ((hb.trans (hb6.mono hb.size)).mono hbw4.size)⟩
        · have HR2 := Lib.hid (show (Tj.rounds es (n + 1 - (k + 1)) (Tj.round es l)).2 = RR by
            rw [← HR.out, show n + 1 - k = (n + 1 - (k + 1)) + 1 by omega]; rfl)
          clear HR
          go_wp2_with fail
          clear p0 p1 p2 p3
          go_loopw [7, 9, 10] (fun ch i _ wr => ∃ (m : Nat) (s : List Nat × Bool), m ≤ es.length ∧ i = .int .i64 m ∧ ch = .bool s.2 ∧ s.1.length = n ∧ Hid ((es.take m).foldl Tj.lift (l, false) = s) ∧ Hid (∀ v, s.1.getD v 0 ≤ k * 1000000 + m) ∧ At wr w4.heap.size 3 (ncells s.1).toArray ∧ Below w4.heap.size w4 wr) (fun _ i _ _ => es.length - (intOf i).toNat)
          case atStart => exact ⟨0, (l, false), by omega, rfl, rfl, hsl, Lib.hid rfl, Lib.hid (fun v => by have := HM.out v; simpa using this), hat, hb⟩
          case round =>
            clear hsl HM hat hb d1
            obtain ⟨m, s, hm, rfl, rfl, hsl, HF, HM, hat, hb⟩ := hrel
            by_cases h2 : m < es.length
            · have d2 : decide ((m : Int) < (es.length : Int)) = true := by simp; omega
              obtain ⟨e, he⟩ : ∃ e, es[m]? = some e := ⟨_, List.getElem?_eq_getElem h2⟩
              obtain ⟨hea, heb⟩ := HES.out e (List.mem_of_getElem? he)
              obtain ⟨g, h, rfl, rfl, hg, hh, y0, y1, y2⟩ := HEA.out _ hb m e he
              have HF2 := Lib.hid (show (es.take (m + 1)).foldl Tj.lift (l, false) = Tj.lift s e by
                rw [List.take_add_one, he, List.foldl_append, HF.out]; rfl)
              have HM2 := Lib.hid (fun v => Tj.lift_cap (e := e) (HM.out) v)
              have HLF := Lib.hid (show Tj.lift s e = if s.1.getD e.a 0 < s.1.getD e.b 0 + Tj.w1 e then (s.1.set e.a (s.1.getD e.b 0 + Tj.w1 e), true) else s from rfl)
              have z0 := ncell hat (j := e.a) (by omega)
              have z1 := ncell hat (j := e.b) (by omega)
              have hma := HM.out e.a
              have hmb := HM.out e.b
              generalize s.1.getD e.a 0 = xa at *
              generalize s.1.getD e.b 0 = xb at *
              have hk2 : k * 1000000 + m ≤ 1000000000 := by omega
              have i0 : (0 : Int) ≤ (m : Int) := by omega
              have i1 : (m : Int) < (es.length : Int) := by omega
              have i2 : (0 : Int) ≤ (e.a : Int) := by omega
              have i3 : (e.a : Int) < (n : Int) := by omega
              have i4 : (0 : Int) ≤ (e.b : Int) := by omega
              have i5 : (e.b : Int) < (n : Int) := by omega
              have yf : wr.frozen? ⟨w4.heap.size, e.a, none⟩ = false := hat.frozen _
              have hlt := hat.lt
              cases hg2 : e.g
              · rw [hg2] at y2
                have hw0 : Tj.w1 e = 0 := by unfold Tj.w1; rw [hg2]; rfl
                rw [hw0, Nat.add_zero] at HLF
                by_cases h3 : xa < xb
                · have d3 : decide ((xa : Int) < (xb : Int)) = true := by simp; omega
                  have d3' : decide (xa < xb) = true := by simp; omega
                  have HL2 := Lib.hid (show Tj.lift s e = (s.1.set e.a xb, true) by rw [HLF.out, if_pos h3])
                  have hat2 := nput hat e.a xb
                  have hb2 := hb.setCell (p := ⟨w4.heap.size, e.a, none⟩) (Nat.le_refl _) (.int .i64 (xb : Int))
                  clear HLF h3 he hg2 hw0 hma hmb
                  go_wp2_with fail
                  go_roundw
                  case rel =>
                    have f2 := HF2.out
                    have m2 := HM2.out
                    rw [HL2.out] at f2 m2
                    exact ⟨m + 1, _, by omega, by go_num, rfl, by simp [hsl], Lib.hid f2, Lib.hid (fun v => Nat.le_trans (m2 v) (Nat.le_of_eq (Nat.add_assoc _ _ _))), hat2, hb2⟩
                  case measure => simp [intOf]; omega
                · have d3 : decide ((xa : Int) < (xb : Int)) = false := by simp; omega
                  have d3' : decide (xa < xb) = false := by simp; omega
                  have HL2 := Lib.hid (show Tj.lift s e = s by rw [HLF.out, if_neg h3])
                  clear HLF h3 he hg2 hw0 hma hmb
                  go_wp2_with fail
                  go_roundw
                  case rel =>
                    have f2 := HF2.out
                    have m2 := HM2.out
                    rw [HL2.out] at f2 m2
                    exact ⟨m + 1, s, by omega, by go_num, rfl, hsl, Lib.hid f2, Lib.hid (fun v => Nat.le_trans (m2 v) (Nat.le_of_eq (Nat.add_assoc _ _ _))), hat, hb⟩
                  case measure => simp [intOf]; omega
              · rw [hg2] at y2
                have hw0 : Tj.w1 e = 1 := by unfold Tj.w1; rw [hg2]; rfl
                rw [hw0] at HLF
                by_cases h3 : xa < xb + 1
                · have d3 : decide ((xa : Int) < (xb : Int) + 1) = true := by simp; omega
                  have d3' : decide (xa < xb + 1) = true := by simp; omega
                  have d3'' : decide (xa ≤ xb) = true := by simp; omega
                  have d3q : decide ((xa : Int) ≤ (xb : Int)) = true := by simp; omega
                  have HL2 := Lib.hid (show Tj.lift s e = (s.1.set e.a (xb + 1), true) by rw [HLF.out, if_pos h3])
                  have hat2 := nput hat e.a (xb + 1)
                  have hb2 := hb.setCell (p := ⟨w4.heap.size, e.a, none⟩) (Nat.le_refl _) (.int .i64 ((xb + 1 : Nat) : Int))
                  clear HLF h3 he hg2 hw0 hma
                  go_wp2_with fail
                  go_roundw
                  case rel =>
                    have f2 := HF2.out
                    have m2 := HM2.out
                    rw [HL2.out] at f2 m2
                    exact ⟨m + 1, _, by omega, by go_num, rfl, by simp [hsl], Lib.hid f2, Lib.hid (fun v => Nat.le_trans (m2 v) (Nat.le_of_eq (Nat.add_assoc _ _ _))), hat2, hb2⟩
                  case measure => simp [intOf]; omega
                · have d3 : decide ((xa : Int) < (xb : Int) + 1) = false := by simp; omega
                  have d3' : decide (xa < xb + 1) = false := by simp; omega
                  have d3'' : decide (xa ≤ xb) = false := by simp; omega
                  have d3q : decide ((xa : Int) ≤ (xb : Int)) = false := by simp; omega
                  have HL2 := Lib.hid (show Tj.lift s e = s by rw [HLF.out, if_neg h3])
                  clear HLF h3 he hg2 hw0 hma
                  go_wp2_with fail
                  go_roundw
                  case rel =>
                    have f2 := HF2.out
                    have m2 := HM2.out
                    rw [HL2.out] at f2 m2
                    exact ⟨m + 1, s, by omega, by go_num, rfl, hsl, Lib.hid f2, Lib.hid (fun v => Nat.le_trans (m2 v) (Nat.le_of_eq (Nat.add_assoc _ _ _))), hat, hb⟩
                  case measure => simp [intOf]; omega
            · have d2 : decide ((m : Int) < (es.length : Int)) = false := by simp; omega
              have HS2 := Lib.hid (show Tj.round es l = s by
                have := HF.out
                rw [List.take_of_length_le (by omega)] at this
                exact this)
              go_wp2_with fail
              go_roundw
              case rel => exact ⟨k + 1, s, by omega, by go_num, rfl, hsl, Lib.hid (by rw [← HS2.out]; exact HR2.out), Lib.hid (fun v => by have := HM.out v; omega), hat, hb⟩
              case measure => simp [intOf]; omega
      · have d1 : decide ((k : Int) ≤ (n : Int)) = false := by simp; omega
        have d1' : decide (k ≤ n) = false := by simp; omega
        have HE := Lib.hid (show c = RR by
          have := HR.out
          rw [show n + 1 - k = 0 by omega] at this
          exact this)
        go_wp2_with (go_at_call 20; refine (HK4.out _ hb).mono ?_; rintro e w6 ⟨A, cc, rfl, _, hb6⟩)
        have hd : decide ((0 : Int) < (D.length : Int)) = c := by rw [← HD.out, HE.out]
        have hd' : decide (0 < D.length) = c := by rw [← hd, decide_eq_decide]; omega
        cases c
        · go_wp2_with fail
          go_ret
          exact ⟨by show Ending.returned (.bool (false == decide (0 < D.length))) = _; rw [hd']; rfl, hbw4.trans ((hb.trans (hb6.mono hb.size)).mono hbw4.size)⟩
        · go_wp2_with fail
          go_ret
          exact ⟨by show Ending.returned (.bool (true == decide (0 < D.length))) = _; rw [hd']; rfl, hbw4.trans ((hb.trans (hb6.mono hb.size)).mono hbw4.size)⟩
end Go.Proofs.Ytljlihimmcmlmaa
