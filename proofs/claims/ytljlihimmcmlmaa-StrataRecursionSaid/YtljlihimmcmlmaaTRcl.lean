/- The walk of StrataRecursion. -/
import Derived.Test.YtljlihimmcmlmaaTLev
import Derived.Test.YtljlihimmcmlmaaTBad
import Derived.Test.YtljlihimmcmlmaaTEsa
import Derived.Test.YtljlihimmcmlmaaTHd
namespace Go.Proofs.Ytljlihimmcmlmaa
set_option linter.unusedVariables false
set_option linter.unusedSimpArgs false
open Go.RowKit
def loops (es : List Tj.Ed) (a : Nat) : Bool := es.any fun e => decide (e.a = a ∧ e.b = a)
theorem srec_row {p : Pg} {n : Nat} (hf : PgFine p n) {L : List (List Nat)} (h : Tj.Lay (Tj.next (edges p)) n L) {i a : Nat} {c : List Nat} (hc : L[i]? = some c) (ha : a ∈ c) : srec (edges p) n a = (decide (1 < c.length) || loops (edges p) a) := by
  have hP := fine_parts hf
  obtain ⟨hn, hm⟩ := h.mem hc ha
  obtain ⟨d, hd, had⟩ := hP.mem a hn
  have h1 := hP.compOf hn hd
  have h2 : c = d := by
    rw [← h1]
    refine Tj.sorted_ext (h.sorted hc).2 (Tj.compOf_sorted _ _ _) fun x => ?_
    rw [hm, Tj.mem_compOf]
  unfold srec
  rw [show (Tj.whole (Tj.next (edges p)) n).out.getD ((Tj.whole (Tj.next (edges p)) n).of.getD a 0) [] = d from Tj.getD_at hd, h2]
  congr 1
  rw [Bool.eq_iff_iff, List.contains_iff_mem, Tj.mem_next]
  unfold loops
  rw [List.any_eq_true]
  simp
theorem loops_more {es : List Tj.Ed} {m a : Nat} {e : Tj.Ed} (he : es[m]? = some e) : loops (es.take (m + 1)) a = (loops (es.take m) a || decide (e.a = a ∧ e.b = a)) := by
  unfold loops
  rw [List.take_add_one, he, List.any_append]
  simp
set_option maxHeartbeats 4000000 in
set_option maxRecDepth 100000 in
theorem recur_law (p : Pg) (w : World) (hp : PgOk w p) : Calls Try.prog 6 #[p.v] w fun e w' => e = .returned (.bool true) ∧ Below w.heap.size w w' := by
  have HH := Lib.hid (fun W => head_any W)
  have HS := Lib.hid (fun W (h : Below w.heap.size w W) => small_any p W (hp.below h))
  have HAT := Lib.hid (At.new w 27 p.vs)
  cases hsm : smallP p
  · rw [hsm] at HS
    unfold Pg.v at HS ⊢
    unfold Pg.vs at HAT
    clear hsm hp
    generalize p.ra = ra at *
    generalize p.pa = pa at *
    go_enter Try.func6, Try.ntmps6
    go_wp2_with (first
      | (go_at_call 10; refine (HH.out _).mono ?_; rintro e w2 ⟨rfl, hb2⟩; have hat2 := HAT.out.next hb2; have hbw2 : Below w.heap.size w w2 := (below1 _ _).trans (hb2.mono (by simp)); obtain ⟨p0, p1, p2, p3⟩ := pg_cells hat2)
      | (go_at_call 11; refine (HS.out _ hbw2).mono ?_; rintro e w3 ⟨rfl, hb3⟩; have hbw3 := hbw2.trans (hb3.mono hbw2.size)))
    go_ret
    exact ⟨rfl, hbw3⟩
  · rw [hsm] at HS
    obtain ⟨s1, s2, s3⟩ := smallP_iff.1 hsm
    obtain ⟨n, hn⟩ : ∃ n, p.prs.length = n := ⟨_, rfl⟩
    have hf := pgFine (p := p) (by omega) (by omega) (fun r hr => by have := s3 r hr; omega)
    rw [hn] at hf s1
    clear hsm s2 s3
    have HE := Lib.hid (fun W (h : Below w.heap.size w W) => edges_at p n W (hp.below h) hf)
    have HC := Lib.hid (fun W (h : Below w.heap.size w W) => components_any p n W (hp.below h) hf)
    have HR0 := Lib.hid (fun W (h : Below w.heap.size w W) (a : Nat) (ha : a < n) => show Calls Try.prog 17 #[p.v, .int .i64 (a : Int)] W (fun e w' => e = .returned (.bool (srec (edges p) n a)) ∧ Below W.heap.size W w') from by
      have h2 := recursive_any p n (a : Int) W (hp.below h) hf
      rw [show ins p (a : Int) = true by unfold ins; rw [hn]; simp; omega, Bool.true_and, Int.toNat_natCast] at h2
      exact h2)
    have HR1 := Lib.hid (fun W (h : Below w.heap.size w W) => show Calls Try.prog 17 #[p.v, .int .i64 (-1)] W (fun e w' => e = .returned (.bool false) ∧ Below W.heap.size W w') from by
      have h2 := recursive_any p n (-1) W (hp.below h) hf
      rw [show ins p (-1) = false by unfold ins; simp, Bool.false_and] at h2
      exact h2)
    have HR2 := Lib.hid (fun W (h : Below w.heap.size w W) => show Calls Try.prog 17 #[p.v, .int .i64 (n : Int)] W (fun e w' => e = .returned (.bool false) ∧ Below W.heap.size W w') from by
      have h2 := recursive_any p n (n : Int) W (hp.below h) hf
      rw [show ins p (n : Int) = false by unfold ins; rw [hn]; simp, Bool.false_and] at h2
      exact h2)
    have hes := hf.es
    have hel := hf.el
    have hsr : ∀ (i a : Nat) (c : List Nat), (Tj.ord (Tj.next (edges p)) n n [])[i]? = some c → a ∈ c → srec (edges p) n a = (decide (1 < c.length) || loops (edges p) a) := fun i a c hc ha => srec_row hf Tj.ord_lay0 hc ha
    have hlay : Tj.Lay (Tj.next (edges p)) n (Tj.ord (Tj.next (edges p)) n n []) := Tj.ord_lay0
    obtain ⟨es, hes0⟩ : ∃ es, edges p = es := ⟨_, rfl⟩
    rw [hes0] at HE HC HR0 hes hel hsr hlay
    generalize Tj.ord (Tj.next es) n n [] = L at *
    generalize srec es n = rec at *
    have HES := Lib.hid hes
    have HY := Lib.hid hlay
    have HSR := Lib.hid hsr
    have hLn := hlay.len
    clear hes0 hf hp hes hlay hsr
    unfold Pg.v at HS HE HC HR0 HR1 HR2 ⊢
    unfold Pg.vs at HAT
    generalize p.ra = ra at *
    generalize p.pa = pa at *
    rw [hn] at HS HE HC HR0 HR1 HR2 HAT ⊢
    clear hn
    go_enter Try.func6, Try.ntmps6
    go_wp2_with (first
      | (go_at_call 10; refine (HH.out _).mono ?_; rintro e w2 ⟨rfl, hb2⟩; have hat2 := HAT.out.next hb2; have hbw2 : Below w.heap.size w w2 := (below1 _ _).trans (hb2.mono (by simp)); obtain ⟨p0, p1, p2, p3⟩ := pg_cells hat2)
      | (go_at_call 11; refine (HS.out _ hbw2).mono ?_; rintro e w3a ⟨rfl, hb3⟩; have hbw3 := hbw2.trans (hb3.mono hbw2.size); have hat3 := hat2.next hb3; clear p0 p1 p2 p3; obtain ⟨p0, p1, p2, p3⟩ := pg_cells hat3)
      | (go_at_call 15; refine (HC.out _ hbw3).mono ?_; rintro e w4 ⟨A, c, rfl, hls, hb4⟩; have hbw4 := hbw3.trans (hb4.mono hbw3.size); have hat4 := hat3.next hb4; clear p0 p1 p2 p3; obtain ⟨p0, p1, p2, p3⟩ := pg_cells hat4)
      | (go_at_call 12; refine (HE.out _ hbw4).mono ?_; rintro e w5 ⟨va, vc, ua, uc, rfl, hea, hb5⟩; have hbw5 := hbw4.trans (hb5.mono hbw4.size); have hat5 := hat4.next hb5; have hls5 := hls.below hb5))
    clear p0 p1 p2 p3 hb2 hbw2 hat2 hb3 hbw3 hat3 hb4 hbw4 hat4 hb5 hls HE HS HH HC HAT
    have hlt5 := hat5.lt
    have HATX := Lib.hid (fun W (h : Below w5.heap.size w5 W) => pg_cells (hat5.next h))
    have HEA := Lib.hid (fun W (h : Below w5.heap.size w5 W) => hea.below h)
    have HLS := Lib.hid (fun W (h : Below w5.heap.size w5 W) => hls5.below h)
    have HRC := Lib.hid (fun W (h : Below w5.heap.size w5 W) => HR0.out W (hbw5.trans (h.mono hbw5.size)))
    clear HR0 hea hls5 hat5
    go_loopw [7, 8, 9, 10] (fun i _ _ _ wr => ∃ k : Nat, k ≤ L.length ∧ i = .int .i64 k ∧ Below w5.heap.size w5 wr) (fun i _ _ _ _ => L.length - (intOf i).toNat)
    case atStart => exact ⟨0, by omega, rfl, Below.refl _ _⟩
    case round =>
      obtain ⟨k, hk, rfl, hb⟩ := hrel
      by_cases h1 : k < L.length
      · have d1 : decide ((k : Int) < (L.length : Int)) = true := by simp; omega
        obtain ⟨cr, hcr⟩ : ∃ x, L[k]? = some x := ⟨_, List.getElem?_eq_getElem h1⟩
        have hcl := HY.out.rlen hcr
        go_wp2_with fail
        go_loopw [8, 9, 10] (fun i _ _ wr => ∃ q : Nat, q ≤ cr.length ∧ i = .int .i64 q ∧ Below w5.heap.size w5 wr) (fun i _ _ _ => cr.length - (intOf i).toNat)
        case atStart => exact ⟨0, by omega, rfl, hb⟩
        case round =>
          clear hb d1
          obtain ⟨q, hq, rfl, hb⟩ := hrel
          obtain ⟨g, o, B1, c1, hA, hg, u0, u1⟩ := (HLS.out _ hb).at hcr
          subst hA
          have j0 : (0 : Int) ≤ (k : Int) := by omega
          have j1 : (k : Int) < (L.length : Int) := by omega
          by_cases h2 : q < cr.length
          · have d2 : decide ((q : Int) < (cr.length : Int)) = true := by simp; omega
            obtain ⟨a, ha⟩ : ∃ x, cr[q]? = some x := ⟨_, List.getElem?_eq_getElem h2⟩
            have han := (HY.out.mem hcr (List.mem_of_getElem? ha)).1
            have HSA := Lib.hid (HSR.out k a cr hcr (List.mem_of_getElem? ha))
            obtain ⟨b1, o1, rfl, hb1, z1⟩ := u1.at ha
            have HWX := Lib.hid (fun W (h : Below wr.heap.size wr W) => (⟨HATX.out W (hb.trans (h.mono hb.size)), (h.cell hg).trans u0, (h.cell hb1).trans z1⟩ : (_ ∧ _ ∧ _ ∧ _) ∧ W.cell? ⟨g, o + k, none⟩ = _ ∧ W.cell? ⟨b1, o1 + q, none⟩ = _))
            have HRA := Lib.hid (fun W (h : Below wr.heap.size wr W) => HRC.out W (hb.trans (h.mono hb.size)) a han)
            have j2 : (0 : Int) ≤ (q : Int) := by omega
            have j3 : (q : Int) < (cr.length : Int) := by omega
            obtain ⟨wa, hwa⟩ : ∃ wa, wa = wr := ⟨_, rfl⟩
            subst hwa
            obtain ⟨own, hown⟩ : ∃ own, decide ((1 : Int) < (cr.length : Int)) = own := ⟨_, rfl⟩
            have HOW := Lib.hid (show rec a = (own || loops es a) by rw [HSA.out, ← hown]; congr 1; rw [decide_eq_decide]; omega)
            clear u1 ha hcr HSA
            go_wp2_with fail
            go_loopw [9, 10] (fun ow j wr => ∃ m : Nat, m ≤ es.length ∧ j = .int .i64 m ∧ ow = .bool (own || loops (es.take m) a) ∧ Below wa.heap.size wa wr) (fun _ j _ => es.length - (intOf j).toNat)
            case atStart => exact ⟨0, by omega, rfl, by simp [loops], Below.refl _ _⟩
            case round =>
              clear d2 hown
              obtain ⟨m, hm, rfl, rfl, hbr⟩ := hrel
              obtain ⟨wv, hwv⟩ : ∃ wv, wv = wr := ⟨_, rfl⟩
              subst hwv
              obtain ⟨⟨p0, p1, p2, p3⟩, z0, z1⟩ := HWX.out _ hbr
              by_cases h3 : m < es.length
              · have d3 : decide ((m : Int) < (es.length : Int)) = true := by simp; omega
                obtain ⟨e, he⟩ : ∃ e, es[m]? = some e := ⟨_, List.getElem?_eq_getElem h3⟩
                have HL := Lib.hid (loops_more (a := a) he)
                obtain ⟨x, hx⟩ : ∃ x, (own || loops (es.take m) a) = x := ⟨_, rfl⟩
                have HX := Lib.hid (show (own || loops (es.take (m + 1)) a) = (x || decide (e.a = a ∧ e.b = a)) by rw [HL.out, ← Bool.or_assoc, hx])
                rw [hx]
                clear hx
                have f5 : ∀ z : Held wv.heap.size wv, z.w.cell? ⟨g, o + k, none⟩ = some (.slice (some ⟨b1, o1, none⟩) cr.length c1) := fun z => (HWX.out _ (hbr.trans (z.ok.mono hbr.size))).2.1
                have f6 : ∀ z : Held wv.heap.size wv, z.w.cell? ⟨b1, o1 + q, none⟩ = some (.int .i64 (a : Int)) := fun z => (HWX.out _ (hbr.trans (z.ok.mono hbr.size))).2.2
                cases x
                · obtain ⟨g2, h2', rfl, rfl, hg2, hh2, y0, y1, y2⟩ := HEA.out _ (hb.trans (hbr.mono hb.size)) m e he
                  have i0 : (0 : Int) ≤ (m : Int) := by omega
                  have i1 : (m : Int) < (es.length : Int) := by omega
                  obtain ⟨z, hz⟩ : ∃ z, decide (e.a = a ∧ e.b = a) = z := ⟨_, rfl⟩
                  have tq : ∀ W, (Op.equalIn 10000 34 (.agg #[.int .i64 (e.a : Int), .int .i64 (e.b : Int)]) (.agg #[.int .i64 (a : Int), .int .i64 (a : Int)])).run Try.prog W = .ok z W := fun W => by
                    rw [eq_pair, ← hz]
                    congr 1
                    rw [Bool.eq_iff_iff]
                    simp only [Bool.and_eq_true, beq_iff_eq, decide_eq_true_eq]
                    omega
                  rw [hz] at HX
                  have f7 : ∀ z : Held wv.heap.size wv, z.w.cell? ⟨g2, m * 2, none⟩ = some (.int .i64 (e.a : Int)) := fun z => z.cell hg2 y0
                  have f8 : ∀ z : Held wv.heap.size wv, z.w.cell? ⟨g2, m * 2 + 1, none⟩ = some (.int .i64 (e.b : Int)) := fun z => z.cell hg2 y1
                  clear he hz HL
                  go_wp2_with fail
                  refine wp_region_held wv.heap.size wv (Below.refl _ _) (by kernel_rfl) (by kernel_rfl) ?_
                  repeat (go_big_quiet_step (fail))
                  refine wpQuiet_nil ?_
                  rintro wt ⟨⟨_, bt⟩, rfl⟩
                  have hbr := hbr.trans (bt.mono hbr.size)
                  go_wp2_with fail
                  go_roundw
                  case rel => exact ⟨m + 1, by omega, by go_num, by rw [HX.out]; rfl, hbr⟩
                  case measure => simp [intOf]; omega
                · clear he HL
                  go_wp2_with fail
                  refine wp_region_held wv.heap.size wv (Below.refl _ _) (by kernel_rfl) (by kernel_rfl) ?_
                  repeat (go_big_quiet_step (fail))
                  refine wpQuiet_nil ?_
                  rintro wt ⟨⟨_, bt⟩, rfl⟩
                  have hbr := hbr.trans (bt.mono hbr.size)
                  go_wp2_with fail
                  go_roundw
                  case rel => exact ⟨m + 1, by omega, by go_num, by rw [HX.out]; rfl, hbr⟩
                  case measure => simp [intOf]; omega
              · have d3 : decide ((m : Int) < (es.length : Int)) = false := by simp; omega
                have hrr : rec a = (own || loops (es.take m) a) := by rw [HOW.out, List.take_of_length_le (by omega)]
                rw [← hrr]
                clear HOW
                generalize rec a = r at *
                have HRV := Lib.hid (fun W (h : Below wv.heap.size wv W) => HRA.out W (hbr.trans (h.mono hbr.size)))
                have HCX := Lib.hid (fun W (h : Below wv.heap.size wv W) => HWX.out W (hbr.trans (h.mono hbr.size)))
                have hbv := hb.trans (hbr.mono hb.size)
                clear hrr p0 p1 p2 p3 z0 z1
                go_wp2_with fail
                refine' wp_region_each _ (Below wv.heap.size wv) (Onward) (Vl :: Vl :: Vl :: Vl :: Vl :: Vl :: Vl :: Vl :: Vl :: Vl :: Vl :: []) ?hF (by kernel_rfl) (by kernel_rfl) (by kernel_rfl) ((Below.refl _ _).drew) (lasting_cons (lasting_vl) (lasting_cons (lasting_vl) (lasting_cons (lasting_vl) (lasting_cons (lasting_vl) (lasting_cons (lasting_vl) (lasting_cons (lasting_vl) (lasting_cons (lasting_vl) (lasting_cons (lasting_vl) (lasting_cons (lasting_vl) (lasting_cons (lasting_vl) (lasting_cons (lasting_vl) (lasting_none)))))))))))) ?hops ?hend
                case hF => (intro v; simp only [over, Act.put, List.setIfInBounds_toArray, List.set_cons_zero, List.set_cons_succ, Nat.zero_add, Nat.reduceAdd]; exact rfl)
                case hops =>
                  refine ⟨?_, ?_⟩
                  · intro v w' hj hd hs K hK
                    obtain ⟨⟨p0, p1, p2, p3⟩, z0, z1⟩ := HCX.out _ hj.out
                    have hk := hK.out
                    simp only [Act.put, List.setIfInBounds_toArray, List.set_cons_zero, List.set_cons_succ] at hk
                    have HK := Lib.hid hk
                    clear hd hs hk hK
                    go_simp
                    exact HK.out _ _ hj.out (Below.refl _ _) (show _ = _ from rfl)
                  refine ⟨?_, ?_⟩
                  · intro v w' hj hd hs K hK
                    have hk := hK.out
                    simp only [Act.put, List.setIfInBounds_toArray, List.set_cons_zero, List.set_cons_succ] at hk
                    have HK := Lib.hid hk
                    clear hd hs hk hK
                    go_simp
                    exact HK.out _ _ hj.out (Below.refl _ _) (show _ = _ from rfl)
                  refine ⟨?_, ?_⟩
                  · intro v w' hj hd hs K hK
                    have hk := hK.out
                    simp only [Act.put, List.setIfInBounds_toArray, List.set_cons_zero, List.set_cons_succ] at hk
                    have HK := Lib.hid hk
                    clear hd hs hk hK
                    go_simp
                    exact HK.out _ _ hj.out (Below.refl _ _) (show _ = _ from rfl)
                  refine ⟨?_, ?_⟩
                  · intro v w' hj hd hs K hK
                    have t1 : v 1 = _ := hd.out 1 (by kernel_rfl)
                    have t2 : v 2 = _ := hd.out 2 (by kernel_rfl)
                    have hk := hK.out
                    simp only [t1, t2, Act.put, List.setIfInBounds_toArray, List.set_cons_zero, List.set_cons_succ] at hk
                    have HK := Lib.hid hk
                    clear hd hs hk hK
                    go_simp
                    exact HK.out _ _ hj.out (Below.refl _ _) (show _ = _ from rfl)
                  refine ⟨?_, ?_⟩
                  · intro v w' hj hd hs K hK
                    have t3 : v 3 = _ := hd.out 3 (by kernel_rfl)
                    obtain ⟨⟨p0, p1, p2, p3⟩, z0, z1⟩ := HCX.out _ hj.out
                    have hk := hK.out
                    simp only [t3, Act.put, List.setIfInBounds_toArray, List.set_cons_zero, List.set_cons_succ] at hk
                    have HK := Lib.hid hk
                    clear hd hs hk hK
                    go_simp
                    exact HK.out _ _ hj.out (Below.refl _ _) (show _ = _ from rfl)
                  refine ⟨?_, ?_⟩
                  · intro v w' hj hd hs K hK
                    have hk := hK.out
                    simp only [Act.put, List.setIfInBounds_toArray, List.set_cons_zero, List.set_cons_succ] at hk
                    have HK := Lib.hid hk
                    clear hd hs hk hK
                    go_simp
                    exact HK.out _ _ hj.out (Below.refl _ _) (show _ = _ from rfl)
                  refine ⟨?_, ?_⟩
                  · intro v w' hj hd hs K hK
                    have t4 : v 4 = _ := hd.out 4 (by kernel_rfl)
                    have t5 : v 5 = _ := hd.out 5 (by kernel_rfl)
                    have hk := hK.out
                    simp only [t4, t5, Act.put, List.setIfInBounds_toArray, List.set_cons_zero, List.set_cons_succ] at hk
                    have HK := Lib.hid hk
                    clear hd hs hk hK
                    go_simp
                    exact HK.out _ _ hj.out (Below.refl _ _) (show _ = _ from rfl)
                  refine ⟨?_, ?_⟩
                  · intro v w' hj hd hs K hK
                    have t6 : v 6 = _ := hd.out 6 (by kernel_rfl)
                    obtain ⟨⟨p0, p1, p2, p3⟩, z0, z1⟩ := HCX.out _ hj.out
                    have hk := hK.out
                    simp only [t6, Act.put, List.setIfInBounds_toArray, List.set_cons_zero, List.set_cons_succ] at hk
                    have HK := Lib.hid hk
                    clear hd hs hk hK
                    go_simp
                    exact HK.out _ _ hj.out (Below.refl _ _) (show _ = _ from rfl)
                  refine ⟨?_, ?_⟩
                  · intro v w' hj hd hs K hK
                    have t0 : v 0 = _ := hd.out 0 (by kernel_rfl)
                    have t7 : v 7 = _ := hd.out 7 (by kernel_rfl)
                    have hk := hK.out
                    simp only [t0, t7, Act.put, List.setIfInBounds_toArray, List.set_cons_zero, List.set_cons_succ] at hk
                    have HK := Lib.hid hk
                    clear hd hs hk hK
                    go_simp
                    refine (HRV.out w' hj.out).mono ?_
                    rintro e w5 ⟨rfl, hb⟩
                    exact HK.out _ _ (hj.out.trans (hb.mono hj.out.size)) hb (show _ = _ from rfl)
                  refine ⟨?_, ?_⟩
                  · intro v w' hj hd hs K hK
                    have hk := hK.out
                    simp only [Act.put, List.setIfInBounds_toArray, List.set_cons_zero, List.set_cons_succ] at hk
                    have HK := Lib.hid hk
                    clear hd hs hk hK
                    go_simp
                    exact HK.out _ _ hj.out (Below.refl _ _) (show _ = _ from rfl)
                  refine ⟨?_, ?_⟩
                  · intro v w' hj hd hs K hK
                    have t8 : v 8 = _ := hd.out 8 (by kernel_rfl)
                    have t9 : v 9 = _ := hd.out 9 (by kernel_rfl)
                    have hk := hK.out
                    simp only [t8, t9, Act.put, List.setIfInBounds_toArray, List.set_cons_zero, List.set_cons_succ] at hk
                    have HK := Lib.hid hk
                    clear hd hs hk hK
                    go_simp
                    exact HK.out _ _ hj.out (Below.refl _ _) (show _ = _ from rfl)
                  trivial
                case hend =>
                  intro v w7 hj hd
                  have t10 : v 10 = _ := hd.out 10 (of_decide_eq_true (by kernel_rfl))
                  simp only [t10]
                  have hb7 := hbv.trans (hj.out.mono hbv.size)
                  clear hj hd t10
                  cases r
                  · go_wp2_with fail
                    go_roundw
                    case rel => exact ⟨q + 1, by omega, by go_num, hb7⟩
                    case measure => simp [intOf]; omega
                  · go_wp2_with fail
                    go_roundw
                    case rel => exact ⟨q + 1, by omega, by go_num, hb7⟩
                    case measure => simp [intOf]; omega
          · have d2 : decide ((q : Int) < (cr.length : Int)) = false := by simp; omega
            go_wp2_with fail
            go_roundw
            case rel => exact ⟨k + 1, by omega, by go_num, hb⟩
            case measure => simp [intOf]; omega
      · have d1 : decide ((k : Int) < (L.length : Int)) = false := by simp; omega
        obtain ⟨p0, p1, p2, p3⟩ := HATX.out _ hb
        have hbw6 := hbw5.trans (hb.mono hbw5.size)
        go_wp2_with fail
        refine (HR1.out _ hbw6).mono ?_
        rintro e w6 ⟨rfl, hb6⟩
        have hbw7 := hbw6.trans (hb6.mono hbw6.size)
        have hb7 := hb.trans (hb6.mono hb.size)
        clear p0 p1 p2 p3
        obtain ⟨p0, p1, p2, p3⟩ := HATX.out _ hb7
        go_wp2_with fail
        refine (HR2.out _ hbw7).mono ?_
        rintro e w8 ⟨rfl, hb8⟩
        have hbw9 := hbw7.trans (hb8.mono hbw7.size)
        go_wp2_with fail
        go_ret
        exact ⟨rfl, hbw9⟩
end Go.Proofs.Ytljlihimmcmlmaa
