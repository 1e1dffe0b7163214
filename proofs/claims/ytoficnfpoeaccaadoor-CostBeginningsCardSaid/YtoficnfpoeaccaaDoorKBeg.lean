/- The walk of CostBeginnings. -/
import Derived.Test.YtoficnfpoeaccaaDoorKBeg1
namespace Go.Proofs.YtoficnfpoeaccaaDoor
set_option linter.unusedVariables false
set_option linter.unusedSimpArgs false
open Go.RowKit
theorem begin_at {body : List Lt} {bd : List ByteArray} {order : List Int} (h : Ko.evaluable body bd order = true) {i : Int} (hi : i ∈ order) : 0 ≤ i ∧ ∃ l, body[i.toNat]? = some l := by
  unfold Ko.evaluable at h
  rw [Bool.and_eq_true] at h
  exact Ko.runs_at order [] h.2 i hi
theorem few_order {ss : List Sta} {r : Rl} {m n : Nat} (h : fewB ss r m n = true) : n ≤ 10 := by
  unfold fewB at h
  simp only [Bool.and_eq_true, decide_eq_true_eq] at h
  omega
theorem eval_len {body : List Lt} {bd : List ByteArray} {order : List Int} (h : Ko.evaluable body bd order = true) : order.length = body.length := by
  unfold Ko.evaluable at h
  rw [Bool.and_eq_true] at h
  exact of_decide_eq_true h.1
/-- The estimate of a beginning. -/
theorem est_part {w W : World} {pb k cp co c : Nat} {r : Rl} {order : List Int} {Ap Ao SA A O : Option Addr} {ss : List Sta} {bd : List ByteArray}
    (hB : BInv w pb r (Ko.picked r.body (order.take k)) k (Ko.countUp k) k Ap cp Ao co W) (hk : (order.take k).length = k) (hX : Ar W SA ss r A c bd O order) (hf : fewB ss r bd.length order.length = true) (hg : Ko.fits ss r.body = true) (he : Ko.evaluable r.body bd order = true) (sc : Nat) :
    Calls Tryd.prog 16 #[.slice SA ss.length sc, .agg #[.string r.name, .int .i64 r.pred, .slice r.args.a r.args.n r.args.c, .int .i64 r.ek, .string r.en, .string r.ev, .int .i64 r.ei, .slice Ap k cp, .int .i64 r.pos], .slice A bd.length c, .slice Ao k co] W fun e w' => e = .returned (.int .i64 ((costN ss r bd (order.take k) : Nat) : Int)) ∧ Below W.heap.size W w' := by
  have hpl : (Ko.picked r.body (order.take k)).length = k := (Ko.picked_len (found_take (Ko.found_of he) k)).trans hk
  have hkl : k ≤ order.length := by rw [← hk, List.length_take]; omega
  have hAr : Ar W SA ss (r.part Ap cp (order.take k)) A c bd Ao (Ko.countUp k) := ⟨hX.env, hB.rule (fun l hl => hX.rl.each l (Ko.picked_mem hl)), hX.nm, hX.nil, hB.order, hX.zb, fun l hl => hX.zt l (Ko.picked_mem hl)⟩
  have hfw : fewB ss (r.part Ap cp (order.take k)) bd.length (Ko.countUp k).length = true := by
    have hel := eval_len he
    unfold fewB at hf ⊢
    simp only [Bool.and_eq_true, decide_eq_true_eq, List.all_eq_true] at hf ⊢
    refine ⟨⟨hf.1.1, ?_, hf.1.2.2.1, hf.1.2.2.2.1, ?_⟩, fun l hl => hf.2.1 l (Ko.picked_mem hl), hf.2.2⟩
    · show (Ko.picked r.body (order.take k)).length ≤ 8
      rw [hpl]; have := hf.1.2.1; omega
    · rw [countUp_len]; have := hf.1.2.2.2.2; omega
  have h := hAr.est (sc := sc) (oc := co) hfw
  have e1 := begin_est (ss := ss) hg he k Ap cp
  rw [hk] at e1
  rw [e1, countUp_len] at h
  unfold Rl.v Rl.part at h
  dsimp only at h
  rw [hpl] at h
  exact h
set_option maxHeartbeats 2000000 in
set_option maxRecDepth 100000 in
theorem beginnings_law (SA : Option Addr) (sc : Nat) (ss : List Sta) (r : Rl) (A : Option Addr) (c : Nat) (bd : List ByteArray) (O : Option Addr) (oc : Nat) (order : List Int) (w : World) (hT : Tabs w)
    (hX : Ar w SA ss r A c bd O order) :
    Calls Tryd.prog 7 #[.slice SA ss.length sc, r.v, .slice A bd.length c, .slice O order.length oc] w fun e w' => e = .returned (.bool true) ∧ Below w.heap.size w w' := by
  have HX := Lib.hid (fun W (h : Below w.heap.size w W) => hX.below h)
  have HH := Lib.hid (fun W (h : Below w.heap.size w W) => head_any W (hT.next h))
  have hw0 : Below w.heap.size w (w.alloc (.cells #[.string r.name, .int .i64 r.pred, .slice r.args.a r.args.n r.args.c, .int .i64 r.ek, .string r.en, .string r.ev, .int .i64 r.ei, .slice r.ba r.body.length r.bc, .int .i64 r.pos] 38)) := below1 _ _
  have hat0 := At.new w 38 #[.string r.name, .int .i64 r.pred, .slice r.args.a r.args.n r.args.c, .int .i64 r.ek, .string r.en, .string r.ev, .int .i64 r.ei, .slice r.ba r.body.length r.bc, .int .i64 r.pos]
  obtain ⟨iL, hl0, hl1, hl2, hl3⟩ := info_parts lit_info
  obtain ⟨iN, hn0, hn1, hn2, hn3⟩ := info_parts int_info
  clear hX hT
  have HFEW := Lib.hid (fun W (h : Below w.heap.size w W) => (HX.out W h).few (sc := sc) (oc := oc) A bd.length c)
  have HFIT := Lib.hid (fun W (h : Below w.heap.size w W) => @Ar.fits W SA sc ss r A c bd O order (HX.out W h) bd.length)
  have HEVA := Lib.hid (fun W (h : Below w.heap.size w W) => @Ar.eval W SA ss r A c bd O oc order (HX.out W h))
  have HES := Lib.hid (fun W (h : Below w.heap.size w W) => @Ar.est W SA sc ss r A c bd O oc order (HX.out W h))
  unfold Rl.v at HFEW HFIT HEVA HES ⊢
  cases hf : fewB ss r bd.length order.length
  · rw [hf] at HFEW
    clear hf
    go_enter Tryd.func7, Tryd.ntmps7
    go_wp2_with first | (go_at_call 12; with_reducible refine (HFEW.out _ hw2).mono ?_; rintro e w5 ⟨rfl, hb5⟩; have hw5 : Below w.heap.size w w5 := hw2.trans (hb5.mono hw2.size); have hat5 := hat2.next hb5; clear e0 e1 e2 e3 e4 e5 e6 e7 e8; have e0 := (hat5).cell 0; have e1 := (hat5).cell 1; have e2 := (hat5).cell 2; have e3 := (hat5).cell 3; have e4 := (hat5).cell 4; have e5 := (hat5).cell 5; have e6 := (hat5).cell 6; have e7 := (hat5).cell 7; have e8 := (hat5).cell 8; simp only [List.getElem?_toArray, List.getElem?_cons_zero, List.getElem?_cons_succ] at e0 e1 e2 e3 e4 e5 e6 e7 e8) | (go_at_call 10; with_reducible refine (HH.out _ hw0).mono ?_; rintro e w2 ⟨rfl, hb2⟩; have hw2 : Below w.heap.size w w2 := hw0.trans (hb2.mono hw0.size); have hat2 := hat0.next hb2; skip; have e0 := (hat2).cell 0; have e1 := (hat2).cell 1; have e2 := (hat2).cell 2; have e3 := (hat2).cell 3; have e4 := (hat2).cell 4; have e5 := (hat2).cell 5; have e6 := (hat2).cell 6; have e7 := (hat2).cell 7; have e8 := (hat2).cell 8; simp only [List.getElem?_toArray, List.getElem?_cons_zero, List.getElem?_cons_succ] at e0 e1 e2 e3 e4 e5 e6 e7 e8)
    go_ret
    exact ⟨rfl, hw5⟩
  · have HF := Lib.hid hf
    rw [hf] at HFEW
    cases hg : Ko.fits ss r.body
    · have HFI := Lib.hid (fun W h => (HFIT.out W h hf))
      rw [hg] at HFI
      clear hf hg
      go_enter Tryd.func7, Tryd.ntmps7
      go_wp2_with first | (go_at_call 18; with_reducible refine (HFI.out _ hw5).mono ?_; rintro e w6 ⟨rfl, hb6⟩; have hw6 : Below w.heap.size w w6 := hw5.trans (hb6.mono hw5.size); have hat6 := hat5.next hb6; clear e0 e1 e2 e3 e4 e5 e6 e7 e8; have e0 := (hat6).cell 0; have e1 := (hat6).cell 1; have e2 := (hat6).cell 2; have e3 := (hat6).cell 3; have e4 := (hat6).cell 4; have e5 := (hat6).cell 5; have e6 := (hat6).cell 6; have e7 := (hat6).cell 7; have e8 := (hat6).cell 8; simp only [List.getElem?_toArray, List.getElem?_cons_zero, List.getElem?_cons_succ] at e0 e1 e2 e3 e4 e5 e6 e7 e8) | (go_at_call 12; with_reducible refine (HFEW.out _ hw2).mono ?_; rintro e w5 ⟨rfl, hb5⟩; have hw5 : Below w.heap.size w w5 := hw2.trans (hb5.mono hw2.size); have hat5 := hat2.next hb5; clear e0 e1 e2 e3 e4 e5 e6 e7 e8; have e0 := (hat5).cell 0; have e1 := (hat5).cell 1; have e2 := (hat5).cell 2; have e3 := (hat5).cell 3; have e4 := (hat5).cell 4; have e5 := (hat5).cell 5; have e6 := (hat5).cell 6; have e7 := (hat5).cell 7; have e8 := (hat5).cell 8; simp only [List.getElem?_toArray, List.getElem?_cons_zero, List.getElem?_cons_succ] at e0 e1 e2 e3 e4 e5 e6 e7 e8) | (go_at_call 10; with_reducible refine (HH.out _ hw0).mono ?_; rintro e w2 ⟨rfl, hb2⟩; have hw2 : Below w.heap.size w w2 := hw0.trans (hb2.mono hw0.size); have hat2 := hat0.next hb2; skip; have e0 := (hat2).cell 0; have e1 := (hat2).cell 1; have e2 := (hat2).cell 2; have e3 := (hat2).cell 3; have e4 := (hat2).cell 4; have e5 := (hat2).cell 5; have e6 := (hat2).cell 6; have e7 := (hat2).cell 7; have e8 := (hat2).cell 8; simp only [List.getElem?_toArray, List.getElem?_cons_zero, List.getElem?_cons_succ] at e0 e1 e2 e3 e4 e5 e6 e7 e8)
      go_ret
      exact ⟨rfl, hw6⟩
    · have HFI := Lib.hid (fun W h => (HFIT.out W h hf))
      rw [hg] at HFI
      have HG := Lib.hid hg
      have HEV := Lib.hid (fun W h => HEVA.out W h hf)
      cases he : Ko.evaluable r.body bd order
      · rw [he] at HEV
        clear hf hg he
        go_enter Tryd.func7, Tryd.ntmps7
        go_wp2_with first | (go_at_call 19; with_reducible refine (HEV.out _ hw6).mono ?_; rintro e w7 ⟨rfl, hb7⟩; have hw7 : Below w.heap.size w w7 := hw6.trans (hb7.mono hw6.size); have hat7 := hat6.next hb7; clear e0 e1 e2 e3 e4 e5 e6 e7 e8; have e0 := (hat7).cell 0; have e1 := (hat7).cell 1; have e2 := (hat7).cell 2; have e3 := (hat7).cell 3; have e4 := (hat7).cell 4; have e5 := (hat7).cell 5; have e6 := (hat7).cell 6; have e7 := (hat7).cell 7; have e8 := (hat7).cell 8; simp only [List.getElem?_toArray, List.getElem?_cons_zero, List.getElem?_cons_succ] at e0 e1 e2 e3 e4 e5 e6 e7 e8) | (go_at_call 18; with_reducible refine (HFI.out _ hw5).mono ?_; rintro e w6 ⟨rfl, hb6⟩; have hw6 : Below w.heap.size w w6 := hw5.trans (hb6.mono hw5.size); have hat6 := hat5.next hb6; clear e0 e1 e2 e3 e4 e5 e6 e7 e8; have e0 := (hat6).cell 0; have e1 := (hat6).cell 1; have e2 := (hat6).cell 2; have e3 := (hat6).cell 3; have e4 := (hat6).cell 4; have e5 := (hat6).cell 5; have e6 := (hat6).cell 6; have e7 := (hat6).cell 7; have e8 := (hat6).cell 8; simp only [List.getElem?_toArray, List.getElem?_cons_zero, List.getElem?_cons_succ] at e0 e1 e2 e3 e4 e5 e6 e7 e8) | (go_at_call 12; with_reducible refine (HFEW.out _ hw2).mono ?_; rintro e w5 ⟨rfl, hb5⟩; have hw5 : Below w.heap.size w w5 := hw2.trans (hb5.mono hw2.size); have hat5 := hat2.next hb5; clear e0 e1 e2 e3 e4 e5 e6 e7 e8; have e0 := (hat5).cell 0; have e1 := (hat5).cell 1; have e2 := (hat5).cell 2; have e3 := (hat5).cell 3; have e4 := (hat5).cell 4; have e5 := (hat5).cell 5; have e6 := (hat5).cell 6; have e7 := (hat5).cell 7; have e8 := (hat5).cell 8; simp only [List.getElem?_toArray, List.getElem?_cons_zero, List.getElem?_cons_succ] at e0 e1 e2 e3 e4 e5 e6 e7 e8) | (go_at_call 10; with_reducible refine (HH.out _ hw0).mono ?_; rintro e w2 ⟨rfl, hb2⟩; have hw2 : Below w.heap.size w w2 := hw0.trans (hb2.mono hw0.size); have hat2 := hat0.next hb2; skip; have e0 := (hat2).cell 0; have e1 := (hat2).cell 1; have e2 := (hat2).cell 2; have e3 := (hat2).cell 3; have e4 := (hat2).cell 4; have e5 := (hat2).cell 5; have e6 := (hat2).cell 6; have e7 := (hat2).cell 7; have e8 := (hat2).cell 8; simp only [List.getElem?_toArray, List.getElem?_cons_zero, List.getElem?_cons_succ] at e0 e1 e2 e3 e4 e5 e6 e7 e8)
        go_ret
        exact ⟨rfl, hw7⟩
      · rw [he] at HEV
        have HE1 := Lib.hid (fun W h => HES.out W h hf)
        rw [est_ok hg he] at HE1
        have HEE := Lib.hid he
        clear hf hg he
        go_enter Tryd.func7, Tryd.ntmps7
        go_wp2_with first | (go_at_call 19; with_reducible refine (HEV.out _ hw6).mono ?_; rintro e w7 ⟨rfl, hb7⟩; have hw7 : Below w.heap.size w w7 := hw6.trans (hb7.mono hw6.size); have hat7 := hat6.next hb7; clear e0 e1 e2 e3 e4 e5 e6 e7 e8; have e0 := (hat7).cell 0; have e1 := (hat7).cell 1; have e2 := (hat7).cell 2; have e3 := (hat7).cell 3; have e4 := (hat7).cell 4; have e5 := (hat7).cell 5; have e6 := (hat7).cell 6; have e7 := (hat7).cell 7; have e8 := (hat7).cell 8; simp only [List.getElem?_toArray, List.getElem?_cons_zero, List.getElem?_cons_succ] at e0 e1 e2 e3 e4 e5 e6 e7 e8) | (go_at_call 18; with_reducible refine (HFI.out _ hw5).mono ?_; rintro e w6 ⟨rfl, hb6⟩; have hw6 : Below w.heap.size w w6 := hw5.trans (hb6.mono hw5.size); have hat6 := hat5.next hb6; clear e0 e1 e2 e3 e4 e5 e6 e7 e8; have e0 := (hat6).cell 0; have e1 := (hat6).cell 1; have e2 := (hat6).cell 2; have e3 := (hat6).cell 3; have e4 := (hat6).cell 4; have e5 := (hat6).cell 5; have e6 := (hat6).cell 6; have e7 := (hat6).cell 7; have e8 := (hat6).cell 8; simp only [List.getElem?_toArray, List.getElem?_cons_zero, List.getElem?_cons_succ] at e0 e1 e2 e3 e4 e5 e6 e7 e8) | (go_at_call 12; with_reducible refine (HFEW.out _ hw2).mono ?_; rintro e w5 ⟨rfl, hb5⟩; have hw5 : Below w.heap.size w w5 := hw2.trans (hb5.mono hw2.size); have hat5 := hat2.next hb5; clear e0 e1 e2 e3 e4 e5 e6 e7 e8; have e0 := (hat5).cell 0; have e1 := (hat5).cell 1; have e2 := (hat5).cell 2; have e3 := (hat5).cell 3; have e4 := (hat5).cell 4; have e5 := (hat5).cell 5; have e6 := (hat5).cell 6; have e7 := (hat5).cell 7; have e8 := (hat5).cell 8; simp only [List.getElem?_toArray, List.getElem?_cons_zero, List.getElem?_cons_succ] at e0 e1 e2 e3 e4 e5 e6 e7 e8) | (go_at_call 10; with_reducible refine (HH.out _ hw0).mono ?_; rintro e w2 ⟨rfl, hb2⟩; have hw2 : Below w.heap.size w w2 := hw0.trans (hb2.mono hw0.size); have hat2 := hat0.next hb2; skip; have e0 := (hat2).cell 0; have e1 := (hat2).cell 1; have e2 := (hat2).cell 2; have e3 := (hat2).cell 3; have e4 := (hat2).cell 4; have e5 := (hat2).cell 5; have e6 := (hat2).cell 6; have e7 := (hat2).cell 7; have e8 := (hat2).cell 8; simp only [List.getElem?_toArray, List.getElem?_cons_zero, List.getElem?_cons_succ] at e0 e1 e2 e3 e4 e5 e6 e7 e8)
        have HCL := Lib.hid (fun k => cost_le ss r bd (order.take k))
        have hsz7 := hw7.size
        go_loopw [10, 12, 13, 14] (fun last ov i _ wr => ∃ (k : Nat) (Ap : Option Addr) (cp : Nat) (Ao : Option Addr) (co : Nat), k ≤ order.length + 1 ∧ i = .int .i64 k ∧ last = .int .i64 ((costN ss r bd (order.take (k - 1)) : Nat) : Int) ∧ ov = .slice Ao (order.take k).length co ∧ BInv w w7.heap.size r (Ko.picked r.body (order.take k)) (order.take k).length (Ko.countUp (order.take k).length) (order.take k).length Ap cp Ao co wr) (fun _ _ i _ _ => order.length + 1 - (intOf i).toNat)
        case atStart =>
          exact ⟨0, none, 0, none, 0, by omega, rfl, rfl, rfl, At.new _ _ _, hat7.alloc _, hat7.lt, rfl, ⟨by simp [lcells, Ko.picked], Or.inl ⟨rfl, by simp⟩⟩, rfl, ⟨by simp [icells, Ko.countUp], Or.inl ⟨rfl, by simp⟩⟩, hw7.alloc hw7.size _⟩
        case round =>
          obtain ⟨k, Ap, cp, Ao, co, hk, rfl, rfl, rfl, hB⟩ := hrel
          have hpb := hB.pn
          clear e0 e1 e2 e3 e4 e5 e6 e7 e8 hat7 hat6 hat5 hat2 hb2 hb5 hb6 hb7 hw2 hw5 hw6
          obtain ⟨pb, hpbe⟩ : ∃ pb, w7.heap.size = pb := ⟨_, rfl⟩
          rw [hpbe] at hB hpb ⊢
          clear hpbe hw7 hsz7 hat0 hw0
          by_cases h1 : k ≤ order.length
          · have d1 : decide ((k : Int) ≤ (order.length : Int)) = true := by simp; omega
            have n1 : decide (k ≤ order.length) = true := decide_eq_true h1
            have hLk : (order.take k).length = k := by rw [List.length_take]; omega
            have HLK := Lib.hid hLk
            rw [hLk] at hB ⊢
            have hwr := hB.below
            have HPE := Lib.hid (est_part hB hLk (HX.out wr hwr) HF.out HG.out HEE.out sc)
            obtain ⟨n, hn⟩ : ∃ n, costN ss r bd (order.take k) = n := ⟨_, rfl⟩
            obtain ⟨m, hm⟩ : ∃ m, costN ss r bd (order.take (k - 1)) = m := ⟨_, rfl⟩
            have hmn : m ≤ n := by rw [← hm, ← hn]; exact begin_mono k
            have hn9 : n ≤ 1000000000 := by rw [← hn]; exact HCL.out k
            have HN0 : k = 0 → n = 0 := fun h => by rw [← hn, h]; rfl
            have HN1 : k = 1 → 1 ≤ n := fun h => by rw [← hn, h]; exact begin_one (Ko.found_of HEE.out) (by omega)
            have HN := Lib.hid hn
            rw [hn] at HPE
            rw [hm]
            have d2 : decide ((n : Int) < (m : Int)) = false := decide_eq_false (by omega)
            have n2 : decide (n < m) = false := decide_eq_false (by omega)
            have d3 : decide ((1000000000 : Int) < (n : Int)) = false := decide_eq_false (by omega)
            have n3 : decide (1000000000 < n) = false := decide_eq_false (by omega)
            obtain ⟨p0, p1, p2, p3, p4, p5, p6, p7, p8⟩ := rcells_at hB.part
            obtain ⟨q0, q1, q2, q3, q4, q5, q6, q7, q8⟩ := rcells_at hB.rb
            clear hLk hn hm hmn hn9
            by_cases hkl : k < order.length
            · have d4 : decide ((k : Int) < (order.length : Int)) = true := by simp; omega
              have n4 : decide (k < order.length) = true := decide_eq_true hkl
              obtain ⟨j, hj0⟩ : ∃ j, order[k]? = some j := ⟨_, List.getElem?_eq_getElem hkl⟩
              have hjm := List.mem_of_getElem? hj0
              obtain ⟨hj1, x, hx⟩ := begin_at HEE.out hjm
              obtain ⟨jn, rfl⟩ : ∃ jn : Nat, j = (jn : Int) := ⟨j.toNat, by omega⟩
              rw [Int.toNat_natCast] at hx
              have HPK := Lib.hid (Ko.picked_snoc (o := order.take k) (i := (jn : Int)) (by rw [Int.toNat_natCast]; exact hx))
              have HTK := Lib.hid (take_more hj0)
              obtain ⟨go, oo, rfl, hgo, yo⟩ := (HX.out wr hwr).od.at (i := k) (fs := [.int .i64 (jn : Int)]) (by rw [List.getElem?_map, hj0]; rfl)
              have yor : wr.cell? ⟨go, oo + k, none⟩ = some (.int .i64 (jn : Int)) := by have := yo 0 _ rfl; rwa [Nat.mul_one, Nat.add_zero] at this
              obtain ⟨gb, ob, hba, hgb, x0, x1, x2, x3, x4, x5, x6, x7, x8⟩ := lt_cells (HX.out wr hwr).rl.body hx
              have HBA := Lib.hid hba
              have hjl := (List.getElem?_eq_some_iff.1 hx).1
              have i0 : (0 : Int) ≤ (k : Int) := by omega
              have i1 : (k : Int) < (order.length : Int) := by omega
              have i2 : (0 : Int) ≤ (jn : Int) := by omega
              have i3 : (jn : Int) < (r.body.length : Int) := by omega
              have HL8 := Lib.hid (few_order HF.out)
              have hol := few_order HF.out
              clear hj0 hjm hx hba yo hj1
              by_cases h0 : k = 0
              · have f0 : ((k : Int) == 0) = true := by simpa using h0
                have f1 : ((k : Int) == 1) = false := by simp; omega
                have hn0 := HN0 h0
                have f2 : ((n : Int) != 0) = false := by simp [hn0]
                have f3 := True.intro
                clear HN0 HN1 hn0 h0
                go_wp2_with (go_at_call 16; with_reducible refine HPE.out.mono ?_; rintro e w8 ⟨rfl, hb8⟩; have hB8 := hB.next hb8)
                clear p0 p1 p2 p3 p4 p5 p6 p7 p8 q0 q1 q2 q3 q4 q5 q6 q7 q8
                have yor8 := next_cell yor hb8
                refine' wp_region_split 11 _ (Below w8.heap.size w8) (Onward) (Vl :: Vl :: Vl :: Vl :: Vl :: Vl :: Vl :: Vl :: Vl :: Vl :: NewL9 x.fs :: []) ?hF (by kernel_rfl) (by kernel_rfl) (by kernel_rfl) (of_decide_eq_true (by kernel_rfl)) (by kernel_rfl) ((Below.refl _ _).drew) (lasting_cons (lasting_vl) (lasting_cons (lasting_vl) (lasting_cons (lasting_vl) (lasting_cons (lasting_vl) (lasting_cons (lasting_vl) (lasting_cons (lasting_vl) (lasting_cons (lasting_vl) (lasting_cons (lasting_vl) (lasting_cons (lasting_vl) (lasting_cons (lasting_vl) (lasting_cons (newL9_on _) (lasting_none)))))))))))) ?hops ?htail
                case hF => (intro v; simp only [over, Act.put, List.setIfInBounds_toArray, List.set_cons_zero, List.set_cons_succ, Nat.zero_add, Nat.reduceAdd]; exact rfl)
                case hops =>
                  refine ⟨?_, ?_⟩
                  · intro v w' hj hd hs K hK
                    have hk := hK.out
                    simp only [Act.put, List.setIfInBounds_toArray, List.set_cons_zero, List.set_cons_succ] at hk
                    have HK := Lib.hid hk
                    clear hd hs hk hK
                    go_simp
                    exact HK.out _ _ hj.out (Below.refl _ _) (show _ = _ from rfl)
                  refine ⟨?_, ?_⟩
                  · intro v w' hj hd hs K hK
                    have t0 : v 0 = _ := hd.out 0 (by kernel_rfl)
                    have e7p := (rcells_at (hB8.part.next hj.out)).2.2.2.2.2.2.2.1
                    have hk := hK.out
                    simp only [t0, Act.put, List.setIfInBounds_toArray, List.set_cons_zero, List.set_cons_succ] at hk
                    have HK := Lib.hid hk
                    clear hd hs hk hK
                    go_simp
                    exact HK.out _ _ hj.out (Below.refl _ _) (show _ = _ from rfl)
                  refine ⟨?_, ?_⟩
                  · intro v w' hj hd hs K hK
                    have hk := hK.out
                    simp only [Act.put, List.setIfInBounds_toArray, List.set_cons_zero, List.set_cons_succ] at hk
                    have HK := Lib.hid hk
                    clear hd hs hk hK
                    go_simp
                    exact HK.out _ _ hj.out (Below.refl _ _) (show _ = _ from rfl)
                  refine ⟨?_, ?_⟩
                  · intro v w' hj hd hs K hK
                    have t2 : v 2 = _ := hd.out 2 (by kernel_rfl)
                    have e7r := (rcells_at (hB8.rb.next hj.out)).2.2.2.2.2.2.2.1
                    rw [HBA.out] at e7r
                    have hk := hK.out
                    simp only [t2, Act.put, List.setIfInBounds_toArray, List.set_cons_zero, List.set_cons_succ] at hk
                    have HK := Lib.hid hk
                    clear hd hs hk hK
                    go_simp
                    exact HK.out _ _ hj.out (Below.refl _ _) (show _ = _ from rfl)
                  refine ⟨?_, ?_⟩
                  · intro v w' hj hd hs K hK
                    have hk := hK.out
                    simp only [Act.put, List.setIfInBounds_toArray, List.set_cons_zero, List.set_cons_succ] at hk
                    have HK := Lib.hid hk
                    clear hd hs hk hK
                    go_simp
                    exact HK.out _ _ hj.out (Below.refl _ _) (show _ = _ from rfl)
                  refine ⟨?_, ?_⟩
                  · intro v w' hj hd hs K hK
                    have hk := hK.out
                    simp only [Act.put, List.setIfInBounds_toArray, List.set_cons_zero, List.set_cons_succ] at hk
                    have HK := Lib.hid hk
                    clear hd hs hk hK
                    go_simp
                    exact HK.out _ _ hj.out (Below.refl _ _) (show _ = _ from rfl)
                  refine ⟨?_, ?_⟩
                  · intro v w' hj hd hs K hK
                    have t4 : v 4 = _ := hd.out 4 (by kernel_rfl)
                    have t5 : v 5 = _ := hd.out 5 (by kernel_rfl)
                    have hk := hK.out
                    simp only [t4, t5, Act.put, List.setIfInBounds_toArray, List.set_cons_zero, List.set_cons_succ] at hk
                    have HK := Lib.hid hk
                    clear hd hs hk hK
                    go_simp
                    exact HK.out _ _ hj.out (Below.refl _ _) (show _ = _ from rfl)
                  refine ⟨?_, ?_⟩
                  · intro v w' hj hd hs K hK
                    have t6 : v 6 = _ := hd.out 6 (by kernel_rfl)
                    have yox := next_cell yor8 hj.out
                    have hk := hK.out
                    simp only [t6, Act.put, List.setIfInBounds_toArray, List.set_cons_zero, List.set_cons_succ] at hk
                    have HK := Lib.hid hk
                    clear hd hs hk hK
                    go_simp
                    exact HK.out _ _ hj.out (Below.refl _ _) (show _ = _ from rfl)
                  refine ⟨?_, ?_⟩
                  · intro v w' hj hd hs K hK
                    have t3 : v 3 = _ := hd.out 3 (by kernel_rfl)
                    have t7 : v 7 = _ := hd.out 7 (by kernel_rfl)
                    have hk := hK.out
                    simp only [t3, t7, Act.put, List.setIfInBounds_toArray, List.set_cons_zero, List.set_cons_succ] at hk
                    have HK := Lib.hid hk
                    clear hd hs hk hK
                    go_simp
                    exact HK.out _ _ hj.out (Below.refl _ _) (show _ = _ from rfl)
                  refine ⟨?_, ?_⟩
                  · intro v w' hj hd hs K hK
                    have t8 : v 8 = _ := hd.out 8 (by kernel_rfl)
                    have x0x := next_cell x0 (hb8.trans (hj.out.mono hb8.size))
                    have x1x := next_cell x1 (hb8.trans (hj.out.mono hb8.size))
                    have x2x := next_cell x2 (hb8.trans (hj.out.mono hb8.size))
                    have x3x := next_cell x3 (hb8.trans (hj.out.mono hb8.size))
                    have x4x := next_cell x4 (hb8.trans (hj.out.mono hb8.size))
                    have x5x := next_cell x5 (hb8.trans (hj.out.mono hb8.size))
                    have x6x := next_cell x6 (hb8.trans (hj.out.mono hb8.size))
                    have x7x := next_cell x7 (hb8.trans (hj.out.mono hb8.size))
                    have x8x := next_cell x8 (hb8.trans (hj.out.mono hb8.size))
                    have hk := hK.out
                    simp only [t8, Act.put, List.setIfInBounds_toArray, List.set_cons_zero, List.set_cons_succ] at hk
                    have HK := Lib.hid hk
                    clear hd hs hk hK
                    go_simp
                    exact HK.out _ _ hj.out (Below.refl _ _) (show _ = _ from rfl)
                  refine ⟨?_, ?_⟩
                  · intro v w' hj hd hs K hK
                    have t9 : v 9 = _ := hd.out 9 (by kernel_rfl)
                    have hk := hK.out
                    simp only [t9, Act.put, List.setIfInBounds_toArray, List.set_cons_zero, List.set_cons_succ] at hk
                    have HK := Lib.hid hk
                    clear hd hs hk hK
                    go_simp
                    exact HK.out _ _ (hj.out.alloc hj.out.size _) (below1 _ _) ⟨_, rfl, At.new _ _ _⟩
                  trivial
                case htail =>
                  intro v w9 hj hd
                  have t1 : v 1 = _ := hd.out 1 (of_decide_eq_true (by kernel_rfl))
                  obtain ⟨b10, t10, a10⟩ : NewL9 x.fs (v 10) w9 := hd.out 10 (of_decide_eq_true (by kernel_rfl))
                  have hB9 := hB8.next hj.out
                  have hs9 := hB9.below.size
                  simp only [t1, t10, List.drop_succ_cons, List.drop_zero]
                  clear hj hd t1 t10 x0 x1 x2 x3 x4 x5 x6 x7 x8 yor yor8 hB hB8 hb8
                  go_wp2_with (at_builtin; refine wpList_append_own _ rfl _ _ 36 rfl w.heap.size 60 iL (.agg #[.int .i64 0, .string ⟨#[]⟩, .int .i64 0, .slice none 0 0, .string ⟨#[]⟩, .string ⟨#[]⟩, .int .i64 0, .int .i64 0, .int .i64 0]) 9 112 Tryd.underlying36 hl0 hl1 hl2 hl3 rfl (by decide) _ _ _ rfl hB9.own ⟨b10, 0, none⟩ 1 1 x.fs rfl rfl ?c1 ?c2 ?c3 ?c4 ?c5 ?_)
                  case c1 => exact At.news (xs := x.fs) a10
                  case c2 => exact lfs_one x
                  case c3 => have := HL8.out; simp [maxLen]; omega
                  case c4 => have := HL8.out; omega
                  case c5 => omega
                  intro v5 w10 o5 g5 _
                  obtain ⟨A5, c5, rfl⟩ := own_len o5
                  obtain ⟨hp10, hB10⟩ := hB9.lit o5 g5
                  have yf := hp10.frozen 7
                  have yl := hp10.lt
                  have yc := (rcells_at hp10).2.2.2.2.2.2.2.1
                  have hB11 := hB10.next (below1 _ (.cells #[.int .i64 (k : Int)] 3))
                  have hs11 := hB11.below.size
                  clear hB9 o5 g5 a10 hB10 hp10
                  go_wp2_with (at_builtin; refine wpList_append_own _ rfl _ _ 40 rfl w.heap.size 3 iN (.int .i64 0) 1 8 Tryd.underlying40 hn0 hn1 hn2 hn3 rfl (by decide) _ _ _ rfl hB11.ints ⟨_, 0, none⟩ 1 1 [.int .i64 (k : Int)] rfl rfl ?c1 ?c2 ?c3 ?c4 ?c5 ?_)
                  case c1 => exact At.news (xs := [.int .i64 (k : Int)]) (At.newAt (by simp) _ _)
                  case c2 => exact one1 rfl
                  case c3 => have := HL8.out; simp [maxLen]; omega
                  case c4 => have := HL8.out; omega
                  case c5 => exact hs11
                  intro v6 w11 o6 g6 _
                  obtain ⟨A6, c6, rfl⟩ := own_len o6
                  have hB12 := hB11.int o6 g6
                  clear hB11 o6 g6 yf yl yc
                  go_wp2_with fail
                  go_roundw
                  case rel => exact ⟨k + 1, A5, c5, A6, c6, by omega, by go_num, by rw [Nat.add_sub_cancel, HN.out], by rw [HTK.out, List.length_append, HLK.out]; rfl, by rw [HTK.out, HPK.out, List.length_append, HLK.out, List.length_singleton, countUp_snoc]; exact hB12⟩
                  case measure => simp [intOf]; omega
              · have f0 : ((k : Int) == 0) = false := by simp; omega
                by_cases hk1 : k = 1
                · have f1 : ((k : Int) == 1) = true := by simp; omega
                  have hn1 := HN1 hk1
                  have f2 : decide ((n : Int) < 1) = false := decide_eq_false (by omega)
                  have f3 : decide (n < 1) = false := decide_eq_false (by omega)
                  clear HN0 HN1 hn1 h0 hk1
                  go_wp2_with (go_at_call 16; with_reducible refine HPE.out.mono ?_; rintro e w8 ⟨rfl, hb8⟩; have hB8 := hB.next hb8)
                  clear p0 p1 p2 p3 p4 p5 p6 p7 p8 q0 q1 q2 q3 q4 q5 q6 q7 q8
                  have yor8 := next_cell yor hb8
                  refine' wp_region_split 11 _ (Below w8.heap.size w8) (Onward) (Vl :: Vl :: Vl :: Vl :: Vl :: Vl :: Vl :: Vl :: Vl :: Vl :: NewL9 x.fs :: []) ?hF (by kernel_rfl) (by kernel_rfl) (by kernel_rfl) (of_decide_eq_true (by kernel_rfl)) (by kernel_rfl) ((Below.refl _ _).drew) (lasting_cons (lasting_vl) (lasting_cons (lasting_vl) (lasting_cons (lasting_vl) (lasting_cons (lasting_vl) (lasting_cons (lasting_vl) (lasting_cons (lasting_vl) (lasting_cons (lasting_vl) (lasting_cons (lasting_vl) (lasting_cons (lasting_vl) (lasting_cons (lasting_vl) (lasting_cons (newL9_on _) (lasting_none)))))))))))) ?hops ?htail
                  case hF => (intro v; simp only [over, Act.put, List.setIfInBounds_toArray, List.set_cons_zero, List.set_cons_succ, Nat.zero_add, Nat.reduceAdd]; exact rfl)
                  case hops =>
                    refine ⟨?_, ?_⟩
                    · intro v w' hj hd hs K hK
                      have hk := hK.out
                      simp only [Act.put, List.setIfInBounds_toArray, List.set_cons_zero, List.set_cons_succ] at hk
                      have HK := Lib.hid hk
                      clear hd hs hk hK
                      go_simp
                      exact HK.out _ _ hj.out (Below.refl _ _) (show _ = _ from rfl)
                    refine ⟨?_, ?_⟩
                    · intro v w' hj hd hs K hK
                      have t0 : v 0 = _ := hd.out 0 (by kernel_rfl)
                      have e7p := (rcells_at (hB8.part.next hj.out)).2.2.2.2.2.2.2.1
                      have hk := hK.out
                      simp only [t0, Act.put, List.setIfInBounds_toArray, List.set_cons_zero, List.set_cons_succ] at hk
                      have HK := Lib.hid hk
                      clear hd hs hk hK
                      go_simp
                      exact HK.out _ _ hj.out (Below.refl _ _) (show _ = _ from rfl)
                    refine ⟨?_, ?_⟩
                    · intro v w' hj hd hs K hK
                      have hk := hK.out
                      simp only [Act.put, List.setIfInBounds_toArray, List.set_cons_zero, List.set_cons_succ] at hk
                      have HK := Lib.hid hk
                      clear hd hs hk hK
                      go_simp
                      exact HK.out _ _ hj.out (Below.refl _ _) (show _ = _ from rfl)
                    refine ⟨?_, ?_⟩
                    · intro v w' hj hd hs K hK
                      have t2 : v 2 = _ := hd.out 2 (by kernel_rfl)
                      have e7r := (rcells_at (hB8.rb.next hj.out)).2.2.2.2.2.2.2.1
                      rw [HBA.out] at e7r
                      have hk := hK.out
                      simp only [t2, Act.put, List.setIfInBounds_toArray, List.set_cons_zero, List.set_cons_succ] at hk
                      have HK := Lib.hid hk
                      clear hd hs hk hK
                      go_simp
                      exact HK.out _ _ hj.out (Below.refl _ _) (show _ = _ from rfl)
                    refine ⟨?_, ?_⟩
                    · intro v w' hj hd hs K hK
                      have hk := hK.out
                      simp only [Act.put, List.setIfInBounds_toArray, List.set_cons_zero, List.set_cons_succ] at hk
                      have HK := Lib.hid hk
                      clear hd hs hk hK
                      go_simp
                      exact HK.out _ _ hj.out (Below.refl _ _) (show _ = _ from rfl)
                    refine ⟨?_, ?_⟩
                    · intro v w' hj hd hs K hK
                      have hk := hK.out
                      simp only [Act.put, List.setIfInBounds_toArray, List.set_cons_zero, List.set_cons_succ] at hk
                      have HK := Lib.hid hk
                      clear hd hs hk hK
                      go_simp
                      exact HK.out _ _ hj.out (Below.refl _ _) (show _ = _ from rfl)
                    refine ⟨?_, ?_⟩
                    · intro v w' hj hd hs K hK
                      have t4 : v 4 = _ := hd.out 4 (by kernel_rfl)
                      have t5 : v 5 = _ := hd.out 5 (by kernel_rfl)
                      have hk := hK.out
                      simp only [t4, t5, Act.put, List.setIfInBounds_toArray, List.set_cons_zero, List.set_cons_succ] at hk
                      have HK := Lib.hid hk
                      clear hd hs hk hK
                      go_simp
                      exact HK.out _ _ hj.out (Below.refl _ _) (show _ = _ from rfl)
                    refine ⟨?_, ?_⟩
                    · intro v w' hj hd hs K hK
                      have t6 : v 6 = _ := hd.out 6 (by kernel_rfl)
                      have yox := next_cell yor8 hj.out
                      have hk := hK.out
                      simp only [t6, Act.put, List.setIfInBounds_toArray, List.set_cons_zero, List.set_cons_succ] at hk
                      have HK := Lib.hid hk
                      clear hd hs hk hK
                      go_simp
                      exact HK.out _ _ hj.out (Below.refl _ _) (show _ = _ from rfl)
                    refine ⟨?_, ?_⟩
                    · intro v w' hj hd hs K hK
                      have t3 : v 3 = _ := hd.out 3 (by kernel_rfl)
                      have t7 : v 7 = _ := hd.out 7 (by kernel_rfl)
                      have hk := hK.out
                      simp only [t3, t7, Act.put, List.setIfInBounds_toArray, List.set_cons_zero, List.set_cons_succ] at hk
                      have HK := Lib.hid hk
                      clear hd hs hk hK
                      go_simp
                      exact HK.out _ _ hj.out (Below.refl _ _) (show _ = _ from rfl)
                    refine ⟨?_, ?_⟩
                    · intro v w' hj hd hs K hK
                      have t8 : v 8 = _ := hd.out 8 (by kernel_rfl)
                      have x0x := next_cell x0 (hb8.trans (hj.out.mono hb8.size))
                      have x1x := next_cell x1 (hb8.trans (hj.out.mono hb8.size))
                      have x2x := next_cell x2 (hb8.trans (hj.out.mono hb8.size))
                      have x3x := next_cell x3 (hb8.trans (hj.out.mono hb8.size))
                      have x4x := next_cell x4 (hb8.trans (hj.out.mono hb8.size))
                      have x5x := next_cell x5 (hb8.trans (hj.out.mono hb8.size))
                      have x6x := next_cell x6 (hb8.trans (hj.out.mono hb8.size))
                      have x7x := next_cell x7 (hb8.trans (hj.out.mono hb8.size))
                      have x8x := next_cell x8 (hb8.trans (hj.out.mono hb8.size))
                      have hk := hK.out
                      simp only [t8, Act.put, List.setIfInBounds_toArray, List.set_cons_zero, List.set_cons_succ] at hk
                      have HK := Lib.hid hk
                      clear hd hs hk hK
                      go_simp
                      exact HK.out _ _ hj.out (Below.refl _ _) (show _ = _ from rfl)
                    refine ⟨?_, ?_⟩
                    · intro v w' hj hd hs K hK
                      have t9 : v 9 = _ := hd.out 9 (by kernel_rfl)
                      have hk := hK.out
                      simp only [t9, Act.put, List.setIfInBounds_toArray, List.set_cons_zero, List.set_cons_succ] at hk
                      have HK := Lib.hid hk
                      clear hd hs hk hK
                      go_simp
                      exact HK.out _ _ (hj.out.alloc hj.out.size _) (below1 _ _) ⟨_, rfl, At.new _ _ _⟩
                    trivial
                  case htail =>
                    intro v w9 hj hd
                    have t1 : v 1 = _ := hd.out 1 (of_decide_eq_true (by kernel_rfl))
                    obtain ⟨b10, t10, a10⟩ : NewL9 x.fs (v 10) w9 := hd.out 10 (of_decide_eq_true (by kernel_rfl))
                    have hB9 := hB8.next hj.out
                    have hs9 := hB9.below.size
                    simp only [t1, t10, List.drop_succ_cons, List.drop_zero]
                    clear hj hd t1 t10 x0 x1 x2 x3 x4 x5 x6 x7 x8 yor yor8 hB hB8 hb8
                    go_wp2_with (at_builtin; refine wpList_append_own _ rfl _ _ 36 rfl w.heap.size 60 iL (.agg #[.int .i64 0, .string ⟨#[]⟩, .int .i64 0, .slice none 0 0, .string ⟨#[]⟩, .string ⟨#[]⟩, .int .i64 0, .int .i64 0, .int .i64 0]) 9 112 Tryd.underlying36 hl0 hl1 hl2 hl3 rfl (by decide) _ _ _ rfl hB9.own ⟨b10, 0, none⟩ 1 1 x.fs rfl rfl ?c1 ?c2 ?c3 ?c4 ?c5 ?_)
                    case c1 => exact At.news (xs := x.fs) a10
                    case c2 => exact lfs_one x
                    case c3 => have := HL8.out; simp [maxLen]; omega
                    case c4 => have := HL8.out; omega
                    case c5 => omega
                    intro v5 w10 o5 g5 _
                    obtain ⟨A5, c5, rfl⟩ := own_len o5
                    obtain ⟨hp10, hB10⟩ := hB9.lit o5 g5
                    have yf := hp10.frozen 7
                    have yl := hp10.lt
                    have yc := (rcells_at hp10).2.2.2.2.2.2.2.1
                    have hB11 := hB10.next (below1 _ (.cells #[.int .i64 (k : Int)] 3))
                    have hs11 := hB11.below.size
                    clear hB9 o5 g5 a10 hB10 hp10
                    go_wp2_with (at_builtin; refine wpList_append_own _ rfl _ _ 40 rfl w.heap.size 3 iN (.int .i64 0) 1 8 Tryd.underlying40 hn0 hn1 hn2 hn3 rfl (by decide) _ _ _ rfl hB11.ints ⟨_, 0, none⟩ 1 1 [.int .i64 (k : Int)] rfl rfl ?c1 ?c2 ?c3 ?c4 ?c5 ?_)
                    case c1 => exact At.news (xs := [.int .i64 (k : Int)]) (At.newAt (by simp) _ _)
                    case c2 => exact one1 rfl
                    case c3 => have := HL8.out; simp [maxLen]; omega
                    case c4 => have := HL8.out; omega
                    case c5 => exact hs11
                    intro v6 w11 o6 g6 _
                    obtain ⟨A6, c6, rfl⟩ := own_len o6
                    have hB12 := hB11.int o6 g6
                    clear hB11 o6 g6 yf yl yc
                    go_wp2_with fail
                    go_roundw
                    case rel => exact ⟨k + 1, A5, c5, A6, c6, by omega, by go_num, by rw [Nat.add_sub_cancel, HN.out], by rw [HTK.out, List.length_append, HLK.out]; rfl, by rw [HTK.out, HPK.out, List.length_append, HLK.out, List.length_singleton, countUp_snoc]; exact hB12⟩
                    case measure => simp [intOf]; omega
                · have f1 : ((k : Int) == 1) = false := by simp; omega
                  have f2 := True.intro
                  have f3 := True.intro
                  clear HN0 HN1 h0 hk1
                  go_wp2_with (go_at_call 16; with_reducible refine HPE.out.mono ?_; rintro e w8 ⟨rfl, hb8⟩; have hB8 := hB.next hb8)
                  clear p0 p1 p2 p3 p4 p5 p6 p7 p8 q0 q1 q2 q3 q4 q5 q6 q7 q8
                  have yor8 := next_cell yor hb8
                  refine' wp_region_split 11 _ (Below w8.heap.size w8) (Onward) (Vl :: Vl :: Vl :: Vl :: Vl :: Vl :: Vl :: Vl :: Vl :: Vl :: NewL9 x.fs :: []) ?hF (by kernel_rfl) (by kernel_rfl) (by kernel_rfl) (of_decide_eq_true (by kernel_rfl)) (by kernel_rfl) ((Below.refl _ _).drew) (lasting_cons (lasting_vl) (lasting_cons (lasting_vl) (lasting_cons (lasting_vl) (lasting_cons (lasting_vl) (lasting_cons (lasting_vl) (lasting_cons (lasting_vl) (lasting_cons (lasting_vl) (lasting_cons (lasting_vl) (lasting_cons (lasting_vl) (lasting_cons (lasting_vl) (lasting_cons (newL9_on _) (lasting_none)))))))))))) ?hops ?htail
                  case hF => (intro v; simp only [over, Act.put, List.setIfInBounds_toArray, List.set_cons_zero, List.set_cons_succ, Nat.zero_add, Nat.reduceAdd]; exact rfl)
                  case hops =>
                    refine ⟨?_, ?_⟩
                    · intro v w' hj hd hs K hK
                      have hk := hK.out
                      simp only [Act.put, List.setIfInBounds_toArray, List.set_cons_zero, List.set_cons_succ] at hk
                      have HK := Lib.hid hk
                      clear hd hs hk hK
                      go_simp
                      exact HK.out _ _ hj.out (Below.refl _ _) (show _ = _ from rfl)
                    refine ⟨?_, ?_⟩
                    · intro v w' hj hd hs K hK
                      have t0 : v 0 = _ := hd.out 0 (by kernel_rfl)
                      have e7p := (rcells_at (hB8.part.next hj.out)).2.2.2.2.2.2.2.1
                      have hk := hK.out
                      simp only [t0, Act.put, List.setIfInBounds_toArray, List.set_cons_zero, List.set_cons_succ] at hk
                      have HK := Lib.hid hk
                      clear hd hs hk hK
                      go_simp
                      exact HK.out _ _ hj.out (Below.refl _ _) (show _ = _ from rfl)
                    refine ⟨?_, ?_⟩
                    · intro v w' hj hd hs K hK
                      have hk := hK.out
                      simp only [Act.put, List.setIfInBounds_toArray, List.set_cons_zero, List.set_cons_succ] at hk
                      have HK := Lib.hid hk
                      clear hd hs hk hK
                      go_simp
                      exact HK.out _ _ hj.out (Below.refl _ _) (show _ = _ from rfl)
                    refine ⟨?_, ?_⟩
                    · intro v w' hj hd hs K hK
                      have t2 : v 2 = _ := hd.out 2 (by kernel_rfl)
                      have e7r := (rcells_at (hB8.rb.next hj.out)).2.2.2.2.2.2.2.1
                      rw [HBA.out] at e7r
                      have hk := hK.out
                      simp only [t2, Act.put, List.setIfInBounds_toArray, List.set_cons_zero, List.set_cons_succ] at hk
                      have HK := Lib.hid hk
                      clear hd hs hk hK
                      go_simp
                      exact HK.out _ _ hj.out (Below.refl _ _) (show _ = _ from rfl)
                    refine ⟨?_, ?_⟩
                    · intro v w' hj hd hs K hK
                      have hk := hK.out
                      simp only [Act.put, List.setIfInBounds_toArray, List.set_cons_zero, List.set_cons_succ] at hk
                      have HK := Lib.hid hk
                      clear hd hs hk hK
                      go_simp
                      exact HK.out _ _ hj.out (Below.refl _ _) (show _ = _ from rfl)
                    refine ⟨?_, ?_⟩
                    · intro v w' hj hd hs K hK
                      have hk := hK.out
                      simp only [Act.put, List.setIfInBounds_toArray, List.set_cons_zero, List.set_cons_succ] at hk
                      have HK := Lib.hid hk
                      clear hd hs hk hK
                      go_simp
                      exact HK.out _ _ hj.out (Below.refl _ _) (show _ = _ from rfl)
                    refine ⟨?_, ?_⟩
                    · intro v w' hj hd hs K hK
                      have t4 : v 4 = _ := hd.out 4 (by kernel_rfl)
                      have t5 : v 5 = _ := hd.out 5 (by kernel_rfl)
                      have hk := hK.out
                      simp only [t4, t5, Act.put, List.setIfInBounds_toArray, List.set_cons_zero, List.set_cons_succ] at hk
                      have HK := Lib.hid hk
                      clear hd hs hk hK
                      go_simp
                      exact HK.out _ _ hj.out (Below.refl _ _) (show _ = _ from rfl)
                    refine ⟨?_, ?_⟩
                    · intro v w' hj hd hs K hK
                      have t6 : v 6 = _ := hd.out 6 (by kernel_rfl)
                      have yox := next_cell yor8 hj.out
                      have hk := hK.out
                      simp only [t6, Act.put, List.setIfInBounds_toArray, List.set_cons_zero, List.set_cons_succ] at hk
                      have HK := Lib.hid hk
                      clear hd hs hk hK
                      go_simp
                      exact HK.out _ _ hj.out (Below.refl _ _) (show _ = _ from rfl)
                    refine ⟨?_, ?_⟩
                    · intro v w' hj hd hs K hK
                      have t3 : v 3 = _ := hd.out 3 (by kernel_rfl)
                      have t7 : v 7 = _ := hd.out 7 (by kernel_rfl)
                      have hk := hK.out
                      simp only [t3, t7, Act.put, List.setIfInBounds_toArray, List.set_cons_zero, List.set_cons_succ] at hk
                      have HK := Lib.hid hk
                      clear hd hs hk hK
                      go_simp
                      exact HK.out _ _ hj.out (Below.refl _ _) (show _ = _ from rfl)
                    refine ⟨?_, ?_⟩
                    · intro v w' hj hd hs K hK
                      have t8 : v 8 = _ := hd.out 8 (by kernel_rfl)
                      have x0x := next_cell x0 (hb8.trans (hj.out.mono hb8.size))
                      have x1x := next_cell x1 (hb8.trans (hj.out.mono hb8.size))
                      have x2x := next_cell x2 (hb8.trans (hj.out.mono hb8.size))
                      have x3x := next_cell x3 (hb8.trans (hj.out.mono hb8.size))
                      have x4x := next_cell x4 (hb8.trans (hj.out.mono hb8.size))
                      have x5x := next_cell x5 (hb8.trans (hj.out.mono hb8.size))
                      have x6x := next_cell x6 (hb8.trans (hj.out.mono hb8.size))
                      have x7x := next_cell x7 (hb8.trans (hj.out.mono hb8.size))
                      have x8x := next_cell x8 (hb8.trans (hj.out.mono hb8.size))
                      have hk := hK.out
                      simp only [t8, Act.put, List.setIfInBounds_toArray, List.set_cons_zero, List.set_cons_succ] at hk
                      have HK := Lib.hid hk
                      clear hd hs hk hK
                      go_simp
                      exact HK.out _ _ hj.out (Below.refl _ _) (show _ = _ from rfl)
                    refine ⟨?_, ?_⟩
                    · intro v w' hj hd hs K hK
                      have t9 : v 9 = _ := hd.out 9 (by kernel_rfl)
                      have hk := hK.out
                      simp only [t9, Act.put, List.setIfInBounds_toArray, List.set_cons_zero, List.set_cons_succ] at hk
                      have HK := Lib.hid hk
                      clear hd hs hk hK
                      go_simp
                      exact HK.out _ _ (hj.out.alloc hj.out.size _) (below1 _ _) ⟨_, rfl, At.new _ _ _⟩
                    trivial
                  case htail =>
                    intro v w9 hj hd
                    have t1 : v 1 = _ := hd.out 1 (of_decide_eq_true (by kernel_rfl))
                    obtain ⟨b10, t10, a10⟩ : NewL9 x.fs (v 10) w9 := hd.out 10 (of_decide_eq_true (by kernel_rfl))
                    have hB9 := hB8.next hj.out
                    have hs9 := hB9.below.size
                    simp only [t1, t10, List.drop_succ_cons, List.drop_zero]
                    clear hj hd t1 t10 x0 x1 x2 x3 x4 x5 x6 x7 x8 yor yor8 hB hB8 hb8
                    go_wp2_with (at_builtin; refine wpList_append_own _ rfl _ _ 36 rfl w.heap.size 60 iL (.agg #[.int .i64 0, .string ⟨#[]⟩, .int .i64 0, .slice none 0 0, .string ⟨#[]⟩, .string ⟨#[]⟩, .int .i64 0, .int .i64 0, .int .i64 0]) 9 112 Tryd.underlying36 hl0 hl1 hl2 hl3 rfl (by decide) _ _ _ rfl hB9.own ⟨b10, 0, none⟩ 1 1 x.fs rfl rfl ?c1 ?c2 ?c3 ?c4 ?c5 ?_)
                    case c1 => exact At.news (xs := x.fs) a10
                    case c2 => exact lfs_one x
                    case c3 => have := HL8.out; simp [maxLen]; omega
                    case c4 => have := HL8.out; omega
                    case c5 => omega
                    intro v5 w10 o5 g5 _
                    obtain ⟨A5, c5, rfl⟩ := own_len o5
                    obtain ⟨hp10, hB10⟩ := hB9.lit o5 g5
                    have yf := hp10.frozen 7
                    have yl := hp10.lt
                    have yc := (rcells_at hp10).2.2.2.2.2.2.2.1
                    have hB11 := hB10.next (below1 _ (.cells #[.int .i64 (k : Int)] 3))
                    have hs11 := hB11.below.size
                    clear hB9 o5 g5 a10 hB10 hp10
                    go_wp2_with (at_builtin; refine wpList_append_own _ rfl _ _ 40 rfl w.heap.size 3 iN (.int .i64 0) 1 8 Tryd.underlying40 hn0 hn1 hn2 hn3 rfl (by decide) _ _ _ rfl hB11.ints ⟨_, 0, none⟩ 1 1 [.int .i64 (k : Int)] rfl rfl ?c1 ?c2 ?c3 ?c4 ?c5 ?_)
                    case c1 => exact At.news (xs := [.int .i64 (k : Int)]) (At.newAt (by simp) _ _)
                    case c2 => exact one1 rfl
                    case c3 => have := HL8.out; simp [maxLen]; omega
                    case c4 => have := HL8.out; omega
                    case c5 => exact hs11
                    intro v6 w11 o6 g6 _
                    obtain ⟨A6, c6, rfl⟩ := own_len o6
                    have hB12 := hB11.int o6 g6
                    clear hB11 o6 g6 yf yl yc
                    go_wp2_with fail
                    go_roundw
                    case rel => exact ⟨k + 1, A5, c5, A6, c6, by omega, by go_num, by rw [Nat.add_sub_cancel, HN.out], by rw [HTK.out, List.length_append, HLK.out]; rfl, by rw [HTK.out, HPK.out, List.length_append, HLK.out, List.length_singleton, countUp_snoc]; exact hB12⟩
                    case measure => simp [intOf]; omega
            · have d4 : decide ((k : Int) < (order.length : Int)) = false := by simp; omega
              have n4 : decide (k < order.length) = false := decide_eq_false hkl
              have hol := few_order HF.out
              have hko : order.length = k := by omega
              have HTT := Lib.hid (show order.take (k + 1) = order.take k by rw [List.take_of_length_le (by omega), List.take_of_length_le (by omega)])
              by_cases h0 : k = 0
              · have f0 : ((k : Int) == 0) = true := by simpa using h0
                have f1 : ((k : Int) == 1) = false := by simp; omega
                have hn0 := HN0 h0
                have f2 : ((n : Int) != 0) = false := by simp [hn0]
                have f3 := True.intro
                clear HN0 HN1 hn0 h0 hko
                go_wp2_with (go_at_call 16; with_reducible refine HPE.out.mono ?_; rintro e w8 ⟨rfl, hb8⟩; have hB8 := hB.next hb8)
                go_roundw
                case rel => exact ⟨k + 1, Ap, cp, Ao, co, by omega, by go_num, by rw [Nat.add_sub_cancel, HN.out], by rw [HTT.out, HLK.out], by rw [HTT.out, HLK.out]; exact hB8⟩
                case measure => simp [intOf]; omega
              · have f0 : ((k : Int) == 0) = false := by simp; omega
                by_cases hk1 : k = 1
                · have f1 : ((k : Int) == 1) = true := by simp; omega
                  have hn1 := HN1 hk1
                  have f2 : decide ((n : Int) < 1) = false := decide_eq_false (by omega)
                  have f3 : decide (n < 1) = false := decide_eq_false (by omega)
                  clear HN0 HN1 hn1 h0 hk1 hko
                  go_wp2_with (go_at_call 16; with_reducible refine HPE.out.mono ?_; rintro e w8 ⟨rfl, hb8⟩; have hB8 := hB.next hb8)
                  go_roundw
                  case rel => exact ⟨k + 1, Ap, cp, Ao, co, by omega, by go_num, by rw [Nat.add_sub_cancel, HN.out], by rw [HTT.out, HLK.out], by rw [HTT.out, HLK.out]; exact hB8⟩
                  case measure => simp [intOf]; omega
                · have f1 : ((k : Int) == 1) = false := by simp; omega
                  have f2 := True.intro
                  have f3 := True.intro
                  clear HN0 HN1 h0 hk1 hko
                  go_wp2_with (go_at_call 16; with_reducible refine HPE.out.mono ?_; rintro e w8 ⟨rfl, hb8⟩; have hB8 := hB.next hb8)
                  go_roundw
                  case rel => exact ⟨k + 1, Ap, cp, Ao, co, by omega, by go_num, by rw [Nat.add_sub_cancel, HN.out], by rw [HTT.out, HLK.out], by rw [HTT.out, HLK.out]; exact hB8⟩
                  case measure => simp [intOf]; omega
          · have d1 : decide ((k : Int) ≤ (order.length : Int)) = false := by simp; omega
            have n1 : decide (k ≤ order.length) = false := decide_eq_false h1
            obtain ⟨q0, q1, q2, q3, q4, q5, q6, q7, q8⟩ := rcells_at hB.rb
            have hwr := hB.below
            have HM := Lib.hid (show costN ss r bd (order.take (k - 1)) = costN ss r bd order by rw [List.take_of_length_le (by omega)])
            rw [HM.out]
            obtain ⟨n, hn⟩ : ∃ n, costN ss r bd order = n := ⟨_, rfl⟩
            rw [hn] at HE1 ⊢
            have HHE := Lib.hid (HE1.out wr hwr)
            clear hn h1
            go_wp2_with (go_at_call 16; with_reducible refine HHE.out.mono ?_; rintro e w8 ⟨rfl, hb8⟩)
            go_ret
            exact ⟨rfl, hwr.trans (hb8.mono hwr.size)⟩
end Go.Proofs.YtoficnfpoeaccaaDoor
