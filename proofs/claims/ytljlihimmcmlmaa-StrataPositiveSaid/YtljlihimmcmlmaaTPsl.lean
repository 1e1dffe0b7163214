/- The walk of StrataPositive. -/
import Derived.Test.YtljlihimmcmlmaaTPs0
import Derived.Test.YtljlihimmcmlmaaTEsa
import Derived.Test.YtljlihimmcmlmaaTHd
namespace Go.Proofs.Ytljlihimmcmlmaa
set_option linter.unusedVariables false
set_option linter.unusedSimpArgs false
open Go.RowKit
set_option maxHeartbeats 4000000 in
set_option maxRecDepth 100000 in
theorem posit_law (p : Pg) (w : World) (hp : PgOk w p) : Calls Try.prog 7 #[p.v] w fun e w' => e = .returned (.bool true) ∧ Below w.heap.size w w' := by
  have HH := Lib.hid (fun W => head_any W)
  have HS := Lib.hid (fun W (h : Below w.heap.size w W) => small_any p W (hp.below h))
  have HAT := Lib.hid (At.new w 27 p.vs)
  cases hsm : smallP p
  · rw [hsm] at HS
    unfold Pg.v at HS ⊢
    unfold Pg.vs at HAT
    clear hsm hp
    generalize p.ra = ra at *
    generalize p.pa = pa at *
    go_enter Try.func7, Try.ntmps7
    go_wp2_with (first
      | (go_at_call 10; refine (HH.out _).mono ?_; rintro e w2 ⟨rfl, hb2⟩; have hat2 := HAT.out.next hb2; have hbw2 : Below w.heap.size w w2 := (below1 _ _).trans (hb2.mono (by simp)); obtain ⟨p0, p1, p2, p3⟩ := pg_cells hat2)
      | (go_at_call 11; refine (HS.out _ hbw2).mono ?_; rintro e w3 ⟨rfl, hb3⟩; have hbw3 := hbw2.trans (hb3.mono hbw2.size)))
    go_ret
    exact ⟨rfl, hbw3⟩
  · rw [hsm] at HS
    obtain ⟨s1, s2, s3⟩ := smallP_iff.1 hsm
    obtain ⟨n, hn⟩ : ∃ n, p.prs.length = n := ⟨_, rfl⟩
    have hf := pgFine (p := p) (by omega) (by omega) (fun r hr => by have := s3 r hr; omega)
    rw [hn] at hf s1
    have HE := Lib.hid (fun W (h : Below w.heap.size w W) => edges_at p n W (hp.below h) hf)
    have HP := Lib.hid (fun W (h : Below w.heap.size w W) (a : Nat) (ha : a < n) => show Calls Try.prog 22 #[p.v, .int .i64 (a : Int)] W (fun e w' => e = .returned (.bool (spos p a)) ∧ Below W.heap.size W w') from by
      have h2 := positive_any p n (a : Int) W (hp.below h) hf
      rw [show ins p (a : Int) = true by unfold ins; rw [hn]; simp; omega, Bool.true_and, Int.toNat_natCast] at h2
      exact h2)
    have HPQ := Lib.hid (fun W B A c (h : Below w.heap.size w W) (ho : W.ownsRow B 51 9 (.slice A (p.rus.filter (keepR p)).length c) (p.rus.filter (keepR p)).length (rcells (p.rus.filter (keepR p)))) (a : Nat) (ha : a < n) (hs : spos p a = true) => show Calls Try.prog 22 #[.agg #[.slice p.lat.a p.lat.n p.lat.c, .slice p.fns.a p.fns.n p.fns.c, .slice p.pa p.prs.length p.pc, .slice A (p.rus.filter (keepR p)).length c], .int .i64 (a : Int)] W (fun e w' => e = .returned (.bool true) ∧ Below W.heap.size W w') from by
      have hpW := hp.below h
      obtain ⟨h1, h2, h3⟩ := str_own (f := Ru.fs) (fun _ => rfl) ho rfl
      have hq : PgOk W (cutP p A c) := ⟨hpW.preds, hpW.pcap, h1, ⟨h2, h3⟩, fun r hr => hpW.each r (List.mem_filter.1 hr).1⟩
      have hfq := pgFine (p := cutP p A c) (by show p.prs.length ≤ 1000; omega) (Nat.le_trans (List.length_filter_le _ _) (by omega)) (fun r hr => hf.ls r (List.mem_filter.1 hr).1)
      rw [show (cutP p A c).prs.length = n from hn] at hfq
      have h4 := positive_any (cutP p A c) n (a : Int) W hq hfq
      rw [show ins (cutP p A c) (a : Int) = true by unfold ins; rw [show (cutP p A c).prs.length = n from hn]; simp; omega, Bool.true_and, Int.toNat_natCast, cut_pos hs] at h4
      exact h4)
    have HRU := Lib.hid (fun W (h : Below w.heap.size w W) (k : Nat) (r : Ru) (hk : p.rus[k]? = some r) => ruAt (hp.below h) hk)
    have HPR := Lib.hid (fun W (h : Below w.heap.size w W) (a : Nat) (ha : a < p.prs.length) => prAt (hp.below h) ha)
    have HRO := Lib.hid hp.each
    have hes := hf.es
    have hel := hf.el
    have HPE := Lib.hid (fun e (he : e ∈ edges p) => pos_edge he)
    have HPO := Lib.hid (fun a => pos_of (p := p) (a := a))
    have hord : ∀ x, ordin p x = (decide (0 ≤ x) && decide (x < p.prs.length) && decide ((p.prs.map Pr.of).getD x.toNat (-1) = -1)) := fun x => rfl
    rw [hn] at hord
    have hkr0 : ∀ r, keepR p r = (ordin p r.pred && r.lits.all fun l => !neg l) := fun r => rfl
    have HKR0 := Lib.hid hkr0
    clear hkr0
    have HKS0 := Lib.hid (fun k r (h : p.rus[k]? = some r) => keep_snoc h)
    have HFL := Lib.hid (show (p.rus.take p.rus.length).filter (keepR p) = p.rus.filter (keepR p) by rw [List.take_of_length_le (Nat.le_refl _)])
    obtain ⟨es, hes0⟩ : ∃ es, edges p = es := ⟨_, rfl⟩
    rw [hes0] at HE hes hel HPE
    have HES := Lib.hid hes
    have HORD := Lib.hid hord
    clear hes0 hf hp hes hsm s3 hord
    unfold Pg.v at HS HE HP ⊢
    unfold Pg.vs at HAT
    generalize p.ra = ra at *
    generalize p.pa = pa at *
    rw [hn] at HS HE HP HPQ HPR HAT ⊢
    generalize p.prs.map Pr.of = ofs at *
    clear hn
    obtain ⟨ir, hir, hzr0, hzr1, hzr2⟩ := info_of rule_info
    have HN := Lib.hid (fun (l : Lit9) W => rneg_any l W)
    unfold Lit9.v at HN
    go_enter Try.func7, Try.ntmps7
    go_wp2_with (first
      | (go_at_call 10; refine (HH.out _).mono ?_; rintro e w2 ⟨rfl, hb2⟩; have hat2 := HAT.out.next hb2; have hbw2 : Below w.heap.size w w2 := (below1 _ _).trans (hb2.mono (by simp)); obtain ⟨p0, p1, p2, p3⟩ := pg_cells hat2)
      | (go_at_call 11; refine (HS.out _ hbw2).mono ?_; rintro e w3a ⟨rfl, hb3⟩; have hbw3 := hbw2.trans (hb3.mono hbw2.size); have hat3 := hat2.next hb3; clear p0 p1 p2 p3; obtain ⟨p0, p1, p2, p3⟩ := pg_cells hat3)
      | (go_at_call 12; refine (HE.out _ hbw3).mono ?_; rintro e w4 ⟨va, vc, ua, uc, rfl, hea, hb4⟩; have hbw4 := hbw3.trans (hb4.mono hbw3.size); have hat4 := hat3.next hb4))
    clear p0 p1 p2 p3 hb2 hbw2 hat2 hb3 hbw3 hat3 hb4 HE HS HH HAT
    have hlt4 := hat4.lt
    have HATX := Lib.hid (fun W (h : Below w4.heap.size w4 W) => pg_cells (hat4.next h))
    have HEA := Lib.hid (fun W (h : Below w4.heap.size w4 W) => hea.below h)
    have HP4 := Lib.hid (fun W (h : Below w4.heap.size w4 W) => HP.out W (hbw4.trans (h.mono hbw4.size)))
    clear hat4 hea HP
    go_loopw [6] (fun i wr => ∃ k : Nat, k ≤ es.length ∧ i = .int .i64 k ∧ Below w4.heap.size w4 wr) (fun i _ => es.length - (intOf i).toNat)
    case atStart => exact ⟨0, by omega, rfl, Below.refl _ _⟩
    case round =>
      obtain ⟨k, hk, rfl, hb⟩ := hrel
      obtain ⟨wv, hwv⟩ : ∃ wv, wv = wr := ⟨_, rfl⟩
      subst hwv
      by_cases h1 : k < es.length
      · have d1 : decide ((k : Int) < (es.length : Int)) = true := by simp; omega
        obtain ⟨e, he⟩ : ∃ e, es[k]? = some e := ⟨_, List.getElem?_eq_getElem h1⟩
        have hmem := List.mem_of_getElem? he
        obtain ⟨hea, heb⟩ := HES.out e hmem
        have hpe := HPE.out e hmem
        obtain ⟨g1, g2, rfl, rfl, hg1, hg2, y0, y1, y2⟩ := HEA.out _ hb k e he
        have HPA := Lib.hid (fun W (h : Below wv.heap.size wv W) => HP4.out W (hb.trans (h.mono hb.size)) e.a hea)
        have HPB := Lib.hid (fun W (h : Below wv.heap.size wv W) => HP4.out W (hb.trans (h.mono hb.size)) e.b heb)
        have HEX := Lib.hid (fun W (h : Below wv.heap.size wv W) => (⟨HATX.out W (hb.trans (h.mono hb.size)), (h.cell hg1).trans y0, (h.cell hg1).trans y1, (h.cell hg2).trans y2⟩ : (_ ∧ _ ∧ _ ∧ _) ∧ W.cell? ⟨g1, k * 2, none⟩ = _ ∧ W.cell? ⟨g1, k * 2 + 1, none⟩ = _ ∧ W.cell? ⟨g2, k, none⟩ = _))
        have i0 : (0 : Int) ≤ (k : Int) := by omega
        have i1 : (k : Int) < (es.length : Int) := by omega
        generalize spos p e.a = x at *
        generalize spos p e.b = y at *
        generalize e.g = z at *
        clear he hmem y0 y1 y2 hea heb
        cases x
        · clear hpe
          go_wp2_with fail
          refine' wp_region_each _ (Below wv.heap.size wv) (Onward) (Vl :: Vl :: Vl :: Vl :: Vl :: Vl :: Vl :: Vl :: Pin undef :: Pin undef :: Pin undef :: Pin undef :: Pin undef :: Pin undef :: Pin undef :: Pin undef :: Pin undef :: Pin undef :: Pin undef :: Pin undef :: Pin undef :: Pin undef :: Vl :: []) ?hF (by kernel_rfl) (by kernel_rfl) (by kernel_rfl) ((Below.refl _ _).drew) (lasting_cons (lasting_vl) (lasting_cons (lasting_vl) (lasting_cons (lasting_vl) (lasting_cons (lasting_vl) (lasting_cons (lasting_vl) (lasting_cons (lasting_vl) (lasting_cons (lasting_vl) (lasting_cons (lasting_vl) (lasting_cons (lasting_pin _) (lasting_cons (lasting_pin _) (lasting_cons (lasting_pin _) (lasting_cons (lasting_pin _) (lasting_cons (lasting_pin _) (lasting_cons (lasting_pin _) (lasting_cons (lasting_pin _) (lasting_cons (lasting_pin _) (lasting_cons (lasting_pin _) (lasting_cons (lasting_pin _) (lasting_cons (lasting_pin _) (lasting_cons (lasting_pin _) (lasting_cons (lasting_pin _) (lasting_cons (lasting_pin _) (lasting_cons (lasting_vl) (lasting_none)))))))))))))))))))))))) ?hops ?hend
          case hF => (intro v; simp only [over, Act.put, List.setIfInBounds_toArray, List.set_cons_zero, List.set_cons_succ, Nat.zero_add, Nat.reduceAdd]; exact rfl)
          case hops =>
            refine ⟨?_, ?_⟩
            · intro v w' hj hd hs K hK
              obtain ⟨⟨p0, p1, p2, p3⟩, z0, z1, z2⟩ := HEX.out _ hj.out
              have hk := hK.out
              simp only [Act.put, List.setIfInBounds_toArray, List.set_cons_zero, List.set_cons_succ] at hk
              have HK := Lib.hid hk
              clear hd hs hk hK
              go_simp
              exact HK.out _ _ hj.out (Below.refl _ _) (show _ = _ from rfl)
            refine ⟨?_, ?_⟩
            · intro v w' hj hd hs K hK
              have hk := hK.out
              simp only [Act.put, List.setIfInBounds_toArray, List.set_cons_zero, List.set_cons_succ] at hk
              have HK := Lib.hid hk
              clear hd hs hk hK
              go_simp
              exact HK.out _ _ hj.out (Below.refl _ _) (show _ = _ from rfl)
            refine ⟨?_, ?_⟩
            · intro v w' hj hd hs K hK
              have hk := hK.out
              simp only [Act.put, List.setIfInBounds_toArray, List.set_cons_zero, List.set_cons_succ] at hk
              have HK := Lib.hid hk
              clear hd hs hk hK
              go_simp
              exact HK.out _ _ hj.out (Below.refl _ _) (show _ = _ from rfl)
            refine ⟨?_, ?_⟩
            · intro v w' hj hd hs K hK
              have t1 : v 1 = _ := hd.out 1 (by kernel_rfl)
              have t2 : v 2 = _ := hd.out 2 (by kernel_rfl)
              have hk := hK.out
              simp only [t1, t2, Act.put, List.setIfInBounds_toArray, List.set_cons_zero, List.set_cons_succ] at hk
              have HK := Lib.hid hk
              clear hd hs hk hK
              go_simp
              exact HK.out _ _ hj.out (Below.refl _ _) (show _ = _ from rfl)
            refine ⟨?_, ?_⟩
            · intro v w' hj hd hs K hK
              have t3 : v 3 = _ := hd.out 3 (by kernel_rfl)
              have hk := hK.out
              simp only [t3, Act.put, List.setIfInBounds_toArray, List.set_cons_zero, List.set_cons_succ] at hk
              have HK := Lib.hid hk
              clear hd hs hk hK
              go_simp
              exact HK.out _ _ hj.out (Below.refl _ _) (show _ = _ from rfl)
            refine ⟨?_, ?_⟩
            · intro v w' hj hd hs K hK
              have t4 : v 4 = _ := hd.out 4 (by kernel_rfl)
              obtain ⟨⟨p0, p1, p2, p3⟩, z0, z1, z2⟩ := HEX.out _ hj.out
              have hk := hK.out
              simp only [t4, Act.put, List.setIfInBounds_toArray, List.set_cons_zero, List.set_cons_succ] at hk
              have HK := Lib.hid hk
              clear hd hs hk hK
              go_simp
              exact HK.out _ _ hj.out (Below.refl _ _) (show _ = _ from rfl)
            refine ⟨?_, ?_⟩
            · intro v w' hj hd hs K hK
              have t0 : v 0 = _ := hd.out 0 (by kernel_rfl)
              have t5 : v 5 = _ := hd.out 5 (by kernel_rfl)
              have hk := hK.out
              simp only [t0, t5, Act.put, List.setIfInBounds_toArray, List.set_cons_zero, List.set_cons_succ] at hk
              have HK := Lib.hid hk
              clear hd hs hk hK
              go_simp
              refine (HPA.out w' hj.out).mono ?_
              rintro e w5 ⟨rfl, hb⟩
              exact HK.out _ _ (hj.out.trans (hb.mono hj.out.size)) hb (show _ = _ from rfl)
            refine ⟨?_, ?_⟩
            · intro v w' hj hd hs K hK
              have t6 : v 6 = _ := hd.out 6 (by kernel_rfl)
              have hk := hK.out
              simp only [t6, Act.put, List.setIfInBounds_toArray, List.set_cons_zero, List.set_cons_succ] at hk
              have HK := Lib.hid hk
              clear hd hs hk hK
              go_simp
              exact HK.out _ _ hj.out (Below.refl _ _) (show _ = _ from rfl)
            refine ⟨?_, ?_⟩
            · intro v w' hj hd hs K hK
              have t7 : v 7 = _ := hd.out 7 (by kernel_rfl)
              have hk := hK.out
              simp only [t7, Act.put, List.setIfInBounds_toArray, List.set_cons_zero, List.set_cons_succ] at hk
              have HK := Lib.hid hk
              clear hd hs hk hK
              go_simp
              exact HK.out _ _ hj.out (Below.refl _ _) (show _ = _ from rfl)
            refine ⟨?_, ?_⟩
            · intro v w' hj hd hs K hK
              have t7 : v 7 = _ := hd.out 7 (by kernel_rfl)
              have hk := hK.out
              simp only [t7, Act.put, List.setIfInBounds_toArray, List.set_cons_zero, List.set_cons_succ] at hk
              have HK := Lib.hid hk
              clear hd hs hk hK
              go_simp
              exact HK.out _ _ hj.out (Below.refl _ _) (show _ = _ from rfl)
            refine ⟨?_, ?_⟩
            · intro v w' hj hd hs K hK
              have t7 : v 7 = _ := hd.out 7 (by kernel_rfl)
              have hk := hK.out
              simp only [t7, Act.put, List.setIfInBounds_toArray, List.set_cons_zero, List.set_cons_succ] at hk
              have HK := Lib.hid hk
              clear hd hs hk hK
              go_simp
              exact HK.out _ _ hj.out (Below.refl _ _) (show _ = _ from rfl)
            refine ⟨?_, ?_⟩
            · intro v w' hj hd hs K hK
              have t7 : v 7 = _ := hd.out 7 (by kernel_rfl)
              have hk := hK.out
              simp only [t7, Act.put, List.setIfInBounds_toArray, List.set_cons_zero, List.set_cons_succ] at hk
              have HK := Lib.hid hk
              clear hd hs hk hK
              go_simp
              exact HK.out _ _ hj.out (Below.refl _ _) (show _ = _ from rfl)
            refine ⟨?_, ?_⟩
            · intro v w' hj hd hs K hK
              have t7 : v 7 = _ := hd.out 7 (by kernel_rfl)
              have hk := hK.out
              simp only [t7, Act.put, List.setIfInBounds_toArray, List.set_cons_zero, List.set_cons_succ] at hk
              have HK := Lib.hid hk
              clear hd hs hk hK
              go_simp
              exact HK.out _ _ hj.out (Below.refl _ _) (show _ = _ from rfl)
            refine ⟨?_, ?_⟩
            · intro v w' hj hd hs K hK
              have t12 : v 12 = _ := hd.out 12 (by kernel_rfl)
              have hk := hK.out
              simp only [t12, Act.put, List.setIfInBounds_toArray, List.set_cons_zero, List.set_cons_succ] at hk
              have HK := Lib.hid hk
              clear hd hs hk hK
              go_simp
              exact HK.out _ _ hj.out (Below.refl _ _) (show _ = _ from rfl)
            refine ⟨?_, ?_⟩
            · intro v w' hj hd hs K hK
              have t12 : v 12 = _ := hd.out 12 (by kernel_rfl)
              have hk := hK.out
              simp only [t12, Act.put, List.setIfInBounds_toArray, List.set_cons_zero, List.set_cons_succ] at hk
              have HK := Lib.hid hk
              clear hd hs hk hK
              go_simp
              exact HK.out _ _ hj.out (Below.refl _ _) (show _ = _ from rfl)
            refine ⟨?_, ?_⟩
            · intro v w' hj hd hs K hK
              have t12 : v 12 = _ := hd.out 12 (by kernel_rfl)
              have hk := hK.out
              simp only [t12, Act.put, List.setIfInBounds_toArray, List.set_cons_zero, List.set_cons_succ] at hk
              have HK := Lib.hid hk
              clear hd hs hk hK
              go_simp
              exact HK.out _ _ hj.out (Below.refl _ _) (show _ = _ from rfl)
            refine ⟨?_, ?_⟩
            · intro v w' hj hd hs K hK
              have t12 : v 12 = _ := hd.out 12 (by kernel_rfl)
              have hk := hK.out
              simp only [t12, Act.put, List.setIfInBounds_toArray, List.set_cons_zero, List.set_cons_succ] at hk
              have HK := Lib.hid hk
              clear hd hs hk hK
              go_simp
              exact HK.out _ _ hj.out (Below.refl _ _) (show _ = _ from rfl)
            refine ⟨?_, ?_⟩
            · intro v w' hj hd hs K hK
              have t12 : v 12 = _ := hd.out 12 (by kernel_rfl)
              have hk := hK.out
              simp only [t12, Act.put, List.setIfInBounds_toArray, List.set_cons_zero, List.set_cons_succ] at hk
              have HK := Lib.hid hk
              clear hd hs hk hK
              go_simp
              exact HK.out _ _ hj.out (Below.refl _ _) (show _ = _ from rfl)
            refine ⟨?_, ?_⟩
            · intro v w' hj hd hs K hK
              have t12 : v 12 = _ := hd.out 12 (by kernel_rfl)
              have hk := hK.out
              simp only [t12, Act.put, List.setIfInBounds_toArray, List.set_cons_zero, List.set_cons_succ] at hk
              have HK := Lib.hid hk
              clear hd hs hk hK
              go_simp
              exact HK.out _ _ hj.out (Below.refl _ _) (show _ = _ from rfl)
            refine ⟨?_, ?_⟩
            · intro v w' hj hd hs K hK
              have t12 : v 12 = _ := hd.out 12 (by kernel_rfl)
              have hk := hK.out
              simp only [t12, Act.put, List.setIfInBounds_toArray, List.set_cons_zero, List.set_cons_succ] at hk
              have HK := Lib.hid hk
              clear hd hs hk hK
              go_simp
              exact HK.out _ _ hj.out (Below.refl _ _) (show _ = _ from rfl)
            refine ⟨?_, ?_⟩
            · intro v w' hj hd hs K hK
              have t12 : v 12 = _ := hd.out 12 (by kernel_rfl)
              have hk := hK.out
              simp only [t12, Act.put, List.setIfInBounds_toArray, List.set_cons_zero, List.set_cons_succ] at hk
              have HK := Lib.hid hk
              clear hd hs hk hK
              go_simp
              exact HK.out _ _ hj.out (Below.refl _ _) (show _ = _ from rfl)
            refine ⟨?_, ?_⟩
            · intro v w' hj hd hs K hK
              have t7 : v 7 = _ := hd.out 7 (by kernel_rfl)
              have hk := hK.out
              simp only [t7, Act.put, List.setIfInBounds_toArray, List.set_cons_zero, List.set_cons_succ] at hk
              have HK := Lib.hid hk
              clear hd hs hk hK
              go_simp
              exact HK.out _ _ hj.out (Below.refl _ _) (show _ = _ from rfl)
            refine ⟨?_, ?_⟩
            · intro v w' hj hd hs K hK
              have t7 : v 7 = _ := hd.out 7 (by kernel_rfl)
              have t21 : v 21 = _ := hd.out 21 (by kernel_rfl)
              have hk := hK.out
              simp only [t7, t21, Act.put, List.setIfInBounds_toArray, List.set_cons_zero, List.set_cons_succ] at hk
              have HK := Lib.hid hk
              clear hd hs hk hK
              go_simp
              exact HK.out _ _ hj.out (Below.refl _ _) (show _ = _ from rfl)
            trivial
          case hend =>
            intro v w7 hj hd
            have t22 : v 22 = _ := hd.out 22 (of_decide_eq_true (by kernel_rfl))
            simp only [t22]
            have hb7 := hb.trans (hj.out.mono hb.size)
            clear hj hd t22
            go_wp2_with fail
            go_roundw
            case rel => exact ⟨k + 1, by omega, by go_num, hb7⟩
            case measure => simp [intOf]; omega
        · obtain ⟨rfl, rfl⟩ := hpe rfl
          go_wp2_with fail
          refine' wp_region_each _ (Below wv.heap.size wv) (Onward) (Vl :: Vl :: Vl :: Vl :: Vl :: Vl :: Vl :: Vl :: Vl :: Vl :: Vl :: Vl :: Vl :: Vl :: Vl :: Vl :: Vl :: Vl :: Vl :: Vl :: Vl :: Vl :: Vl :: []) ?hF (by kernel_rfl) (by kernel_rfl) (by kernel_rfl) ((Below.refl _ _).drew) (lasting_cons (lasting_vl) (lasting_cons (lasting_vl) (lasting_cons (lasting_vl) (lasting_cons (lasting_vl) (lasting_cons (lasting_vl) (lasting_cons (lasting_vl) (lasting_cons (lasting_vl) (lasting_cons (lasting_vl) (lasting_cons (lasting_vl) (lasting_cons (lasting_vl) (lasting_cons (lasting_vl) (lasting_cons (lasting_vl) (lasting_cons (lasting_vl) (lasting_cons (lasting_vl) (lasting_cons (lasting_vl) (lasting_cons (lasting_vl) (lasting_cons (lasting_vl) (lasting_cons (lasting_vl) (lasting_cons (lasting_vl) (lasting_cons (lasting_vl) (lasting_cons (lasting_vl) (lasting_cons (lasting_vl) (lasting_cons (lasting_vl) (lasting_none)))))))))))))))))))))))) ?hops ?hend
          case hF => (intro v; simp only [over, Act.put, List.setIfInBounds_toArray, List.set_cons_zero, List.set_cons_succ, Nat.zero_add, Nat.reduceAdd]; exact rfl)
          case hops =>
            refine ⟨?_, ?_⟩
            · intro v w' hj hd hs K hK
              obtain ⟨⟨p0, p1, p2, p3⟩, z0, z1, z2⟩ := HEX.out _ hj.out
              have hk := hK.out
              simp only [Act.put, List.setIfInBounds_toArray, List.set_cons_zero, List.set_cons_succ] at hk
              have HK := Lib.hid hk
              clear hd hs hk hK
              go_simp
              exact HK.out _ _ hj.out (Below.refl _ _) (show _ = _ from rfl)
            refine ⟨?_, ?_⟩
            · intro v w' hj hd hs K hK
              have hk := hK.out
              simp only [Act.put, List.setIfInBounds_toArray, List.set_cons_zero, List.set_cons_succ] at hk
              have HK := Lib.hid hk
              clear hd hs hk hK
              go_simp
              exact HK.out _ _ hj.out (Below.refl _ _) (show _ = _ from rfl)
            refine ⟨?_, ?_⟩
            · intro v w' hj hd hs K hK
              have hk := hK.out
              simp only [Act.put, List.setIfInBounds_toArray, List.set_cons_zero, List.set_cons_succ] at hk
              have HK := Lib.hid hk
              clear hd hs hk hK
              go_simp
              exact HK.out _ _ hj.out (Below.refl _ _) (show _ = _ from rfl)
            refine ⟨?_, ?_⟩
            · intro v w' hj hd hs K hK
              have t1 : v 1 = _ := hd.out 1 (by kernel_rfl)
              have t2 : v 2 = _ := hd.out 2 (by kernel_rfl)
              have hk := hK.out
              simp only [t1, t2, Act.put, List.setIfInBounds_toArray, List.set_cons_zero, List.set_cons_succ] at hk
              have HK := Lib.hid hk
              clear hd hs hk hK
              go_simp
              exact HK.out _ _ hj.out (Below.refl _ _) (show _ = _ from rfl)
            refine ⟨?_, ?_⟩
            · intro v w' hj hd hs K hK
              have t3 : v 3 = _ := hd.out 3 (by kernel_rfl)
              have hk := hK.out
              simp only [t3, Act.put, List.setIfInBounds_toArray, List.set_cons_zero, List.set_cons_succ] at hk
              have HK := Lib.hid hk
              clear hd hs hk hK
              go_simp
              exact HK.out _ _ hj.out (Below.refl _ _) (show _ = _ from rfl)
            refine ⟨?_, ?_⟩
            · intro v w' hj hd hs K hK
              have t4 : v 4 = _ := hd.out 4 (by kernel_rfl)
              obtain ⟨⟨p0, p1, p2, p3⟩, z0, z1, z2⟩ := HEX.out _ hj.out
              have hk := hK.out
              simp only [t4, Act.put, List.setIfInBounds_toArray, List.set_cons_zero, List.set_cons_succ] at hk
              have HK := Lib.hid hk
              clear hd hs hk hK
              go_simp
              exact HK.out _ _ hj.out (Below.refl _ _) (show _ = _ from rfl)
            refine ⟨?_, ?_⟩
            · intro v w' hj hd hs K hK
              have t0 : v 0 = _ := hd.out 0 (by kernel_rfl)
              have t5 : v 5 = _ := hd.out 5 (by kernel_rfl)
              have hk := hK.out
              simp only [t0, t5, Act.put, List.setIfInBounds_toArray, List.set_cons_zero, List.set_cons_succ] at hk
              have HK := Lib.hid hk
              clear hd hs hk hK
              go_simp
              refine (HPA.out w' hj.out).mono ?_
              rintro e w5 ⟨rfl, hb⟩
              exact HK.out _ _ (hj.out.trans (hb.mono hj.out.size)) hb (show _ = _ from rfl)
            refine ⟨?_, ?_⟩
            · intro v w' hj hd hs K hK
              have t6 : v 6 = _ := hd.out 6 (by kernel_rfl)
              have hk := hK.out
              simp only [t6, Act.put, List.setIfInBounds_toArray, List.set_cons_zero, List.set_cons_succ] at hk
              have HK := Lib.hid hk
              clear hd hs hk hK
              go_simp
              exact HK.out _ _ hj.out (Below.refl _ _) (show _ = _ from rfl)
            refine ⟨?_, ?_⟩
            · intro v w' hj hd hs K hK
              have t7 : v 7 = _ := hd.out 7 (by kernel_rfl)
              have hk := hK.out
              simp only [t7, Act.put, List.setIfInBounds_toArray, List.set_cons_zero, List.set_cons_succ] at hk
              have HK := Lib.hid hk
              clear hd hs hk hK
              go_simp
              exact HK.out _ _ hj.out (Below.refl _ _) (show _ = _ from rfl)
            refine ⟨?_, ?_⟩
            · intro v w' hj hd hs K hK
              have t7 : v 7 = _ := hd.out 7 (by kernel_rfl)
              have hk := hK.out
              simp only [t7, Act.put, List.setIfInBounds_toArray, List.set_cons_zero, List.set_cons_succ] at hk
              have HK := Lib.hid hk
              clear hd hs hk hK
              go_simp
              exact HK.out _ _ hj.out (Below.refl _ _) (show _ = _ from rfl)
            refine ⟨?_, ?_⟩
            · intro v w' hj hd hs K hK
              have t7 : v 7 = _ := hd.out 7 (by kernel_rfl)
              have t8 : v 8 = _ := hd.out 8 (by kernel_rfl)
              have t9 : v 9 = _ := hd.out 9 (by kernel_rfl)
              have hk := hK.out
              simp only [t7, t8, t9, Act.put, List.setIfInBounds_toArray, List.set_cons_zero, List.set_cons_succ] at hk
              have HK := Lib.hid hk
              clear hd hs hk hK
              go_simp
              exact HK.out _ _ hj.out (Below.refl _ _) (show _ = _ from rfl)
            refine ⟨?_, ?_⟩
            · intro v w' hj hd hs K hK
              have t7 : v 7 = _ := hd.out 7 (by kernel_rfl)
              have t10 : v 10 = _ := hd.out 10 (by kernel_rfl)
              obtain ⟨⟨p0, p1, p2, p3⟩, z0, z1, z2⟩ := HEX.out _ hj.out
              have hk := hK.out
              simp only [t7, t10, Act.put, List.setIfInBounds_toArray, List.set_cons_zero, List.set_cons_succ] at hk
              have HK := Lib.hid hk
              clear hd hs hk hK
              go_simp
              exact HK.out _ _ hj.out (Below.refl _ _) (show _ = _ from rfl)
            refine ⟨?_, ?_⟩
            · intro v w' hj hd hs K hK
              have t7 : v 7 = _ := hd.out 7 (by kernel_rfl)
              have t11 : v 11 = _ := hd.out 11 (by kernel_rfl)
              have hk := hK.out
              simp only [t7, t11, Act.put, List.setIfInBounds_toArray, List.set_cons_zero, List.set_cons_succ] at hk
              have HK := Lib.hid hk
              clear hd hs hk hK
              go_simp
              exact HK.out _ _ hj.out (Below.refl _ _) (show _ = _ from rfl)
            refine ⟨?_, ?_⟩
            · intro v w' hj hd hs K hK
              have t12 : v 12 = _ := hd.out 12 (by kernel_rfl)
              obtain ⟨⟨p0, p1, p2, p3⟩, z0, z1, z2⟩ := HEX.out _ hj.out
              have hk := hK.out
              simp only [t12, Act.put, List.setIfInBounds_toArray, List.set_cons_zero, List.set_cons_succ] at hk
              have HK := Lib.hid hk
              clear hd hs hk hK
              go_simp
              exact HK.out _ _ hj.out (Below.refl _ _) (show _ = _ from rfl)
            refine ⟨?_, ?_⟩
            · intro v w' hj hd hs K hK
              have t12 : v 12 = _ := hd.out 12 (by kernel_rfl)
              have hk := hK.out
              simp only [t12, Act.put, List.setIfInBounds_toArray, List.set_cons_zero, List.set_cons_succ] at hk
              have HK := Lib.hid hk
              clear hd hs hk hK
              go_simp
              exact HK.out _ _ hj.out (Below.refl _ _) (show _ = _ from rfl)
            refine ⟨?_, ?_⟩
            · intro v w' hj hd hs K hK
              have t12 : v 12 = _ := hd.out 12 (by kernel_rfl)
              have hk := hK.out
              simp only [t12, Act.put, List.setIfInBounds_toArray, List.set_cons_zero, List.set_cons_succ] at hk
              have HK := Lib.hid hk
              clear hd hs hk hK
              go_simp
              exact HK.out _ _ hj.out (Below.refl _ _) (show _ = _ from rfl)
            refine ⟨?_, ?_⟩
            · intro v w' hj hd hs K hK
              have t12 : v 12 = _ := hd.out 12 (by kernel_rfl)
              have t14 : v 14 = _ := hd.out 14 (by kernel_rfl)
              have t15 : v 15 = _ := hd.out 15 (by kernel_rfl)
              have hk := hK.out
              simp only [t12, t14, t15, Act.put, List.setIfInBounds_toArray, List.set_cons_zero, List.set_cons_succ] at hk
              have HK := Lib.hid hk
              clear hd hs hk hK
              go_simp
              exact HK.out _ _ hj.out (Below.refl _ _) (show _ = _ from rfl)
            refine ⟨?_, ?_⟩
            · intro v w' hj hd hs K hK
              have t12 : v 12 = _ := hd.out 12 (by kernel_rfl)
              have t16 : v 16 = _ := hd.out 16 (by kernel_rfl)
              have hk := hK.out
              simp only [t12, t16, Act.put, List.setIfInBounds_toArray, List.set_cons_zero, List.set_cons_succ] at hk
              have HK := Lib.hid hk
              clear hd hs hk hK
              go_simp
              exact HK.out _ _ hj.out (Below.refl _ _) (show _ = _ from rfl)
            refine ⟨?_, ?_⟩
            · intro v w' hj hd hs K hK
              have t12 : v 12 = _ := hd.out 12 (by kernel_rfl)
              have t17 : v 17 = _ := hd.out 17 (by kernel_rfl)
              obtain ⟨⟨p0, p1, p2, p3⟩, z0, z1, z2⟩ := HEX.out _ hj.out
              have hk := hK.out
              simp only [t12, t17, Act.put, List.setIfInBounds_toArray, List.set_cons_zero, List.set_cons_succ] at hk
              have HK := Lib.hid hk
              clear hd hs hk hK
              go_simp
              exact HK.out _ _ hj.out (Below.refl _ _) (show _ = _ from rfl)
            refine ⟨?_, ?_⟩
            · intro v w' hj hd hs K hK
              have t12 : v 12 = _ := hd.out 12 (by kernel_rfl)
              have t13 : v 13 = _ := hd.out 13 (by kernel_rfl)
              have t18 : v 18 = _ := hd.out 18 (by kernel_rfl)
              have hk := hK.out
              simp only [t12, t13, t18, Act.put, List.setIfInBounds_toArray, List.set_cons_zero, List.set_cons_succ] at hk
              have HK := Lib.hid hk
              clear hd hs hk hK
              go_simp
              refine (HPB.out w' hj.out).mono ?_
              rintro e w5 ⟨rfl, hb⟩
              exact HK.out _ _ (hj.out.trans (hb.mono hj.out.size)) hb (show _ = _ from rfl)
            refine ⟨?_, ?_⟩
            · intro v w' hj hd hs K hK
              have t12 : v 12 = _ := hd.out 12 (by kernel_rfl)
              have t19 : v 19 = _ := hd.out 19 (by kernel_rfl)
              have hk := hK.out
              simp only [t12, t19, Act.put, List.setIfInBounds_toArray, List.set_cons_zero, List.set_cons_succ] at hk
              have HK := Lib.hid hk
              clear hd hs hk hK
              go_simp
              exact HK.out _ _ hj.out (Below.refl _ _) (show _ = _ from rfl)
            refine ⟨?_, ?_⟩
            · intro v w' hj hd hs K hK
              have t7 : v 7 = _ := hd.out 7 (by kernel_rfl)
              have t12 : v 12 = _ := hd.out 12 (by kernel_rfl)
              have t20 : v 20 = _ := hd.out 20 (by kernel_rfl)
              have hk := hK.out
              simp only [t7, t12, t20, Act.put, List.setIfInBounds_toArray, List.set_cons_zero, List.set_cons_succ] at hk
              have HK := Lib.hid hk
              clear hd hs hk hK
              go_simp
              exact HK.out _ _ hj.out (Below.refl _ _) (show _ = _ from rfl)
            refine ⟨?_, ?_⟩
            · intro v w' hj hd hs K hK
              have t7 : v 7 = _ := hd.out 7 (by kernel_rfl)
              have t21 : v 21 = _ := hd.out 21 (by kernel_rfl)
              have hk := hK.out
              simp only [t7, t21, Act.put, List.setIfInBounds_toArray, List.set_cons_zero, List.set_cons_succ] at hk
              have HK := Lib.hid hk
              clear hd hs hk hK
              go_simp
              exact HK.out _ _ hj.out (Below.refl _ _) (show _ = _ from rfl)
            trivial
          case hend =>
            intro v w7 hj hd
            have t22 : v 22 = _ := hd.out 22 (of_decide_eq_true (by kernel_rfl))
            simp only [t22]
            have hb7 := hb.trans (hj.out.mono hb.size)
            clear hj hd t22
            go_wp2_with fail
            go_roundw
            case rel => exact ⟨k + 1, by omega, by go_num, hb7⟩
            case measure => simp [intOf]; omega
      · have d1 : decide ((k : Int) < (es.length : Int)) = false := by simp; omega
        have d1' : decide (k < es.length) = false := by simp; omega
        obtain ⟨wz, hwz⟩ : ∃ wz, wz = wv := ⟨_, rfl⟩
        subst hwz
        obtain ⟨p0, p1, p2, p3⟩ := HATX.out _ hb
        have hbz := hbw4.trans (hb.mono hbw4.size)
        have HPZ := Lib.hid (fun W (h : Below wz.heap.size wz W) => HP4.out W (hb.trans (h.mono hb.size)))
        have HATZ := Lib.hid (fun W (h : Below wz.heap.size wz W) => HATX.out W (hb.trans (h.mono hb.size)))
        have HBW := Lib.hid hbz
        have hltz : w.heap.size < wz.heap.size := Nat.lt_of_lt_of_le hlt4 hb.size
        clear HP4 HATX HEA hb hbw4 HPE HES hbz hlt4
        go_wp2_with fail
        clear p0 p1 p2 p3 d1 d1' h1
        go_loopw [8, 9, 10, 11] (fun i _ _ _ wr => ∃ (k : Nat) (K : List Ru) (v : Value), k ≤ p.rus.length ∧ i = .int .i64 k ∧ Hid (K = (p.rus.take k).filter (keepR p)) ∧ K.length ≤ k ∧ At wr wz.heap.size 27 #[.slice p.lat.a p.lat.n p.lat.c, .slice p.fns.a p.fns.n p.fns.c, .slice pa n p.pc, v] ∧ wr.ownsRow (wz.heap.size + 1) 51 9 v K.length (rcells K) ∧ Below wz.heap.size wz wr) (fun i _ _ _ _ => p.rus.length - (intOf i).toNat)
        case atStart =>
          refine ⟨0, [], .slice none 0 0, by omega, rfl, Lib.hid rfl, by simp, ?_, World.ownsRow_nil _ _ _ _, ?_⟩
          · exact At.new wz 27 _
          · exact below1 wz _
        case round =>
          obtain ⟨k, K, v, hk, rfl, HKK, hKl, hat, hown, hb⟩ := hrel
          obtain ⟨va', vc', rfl⟩ := own_len hown
          obtain ⟨p0, p1, p2, p3⟩ := HATZ.out _ hb
          by_cases h1 : k < p.rus.length
          · have d1 : decide ((k : Int) < (p.rus.length : Int)) = true := by simp; omega
            obtain ⟨r, hr⟩ : ∃ r, p.rus[k]? = some r := ⟨_, List.getElem?_eq_getElem h1⟩
            have hok := HRO.out r (List.mem_of_getElem? hr)
            have HLT := Lib.hid (fun W (h : Below w.heap.size w W) (m : Nat) (l : Lit9) (hm : r.lits[m]? = some l) => litAt (hok.below h) hm)
            have HWR := Lib.hid (HBW.out.trans (hb.mono HBW.out.size))
            obtain ⟨g, o, rfl, hg, r0, r1, r2, r3, r4, r5, r6, r7, r8⟩ := HRU.out _ HWR.out k r hr
            have j0 : (0 : Int) ≤ (k : Int) := by omega
            have j1 : (k : Int) < (p.rus.length : Int) := by omega
            have HKS := Lib.hid (HKS0.out k r hr)
            have hkr := HKR0.out r
            have hcap := hok.cap
            obtain ⟨ba, hba⟩ : ∃ ba, r.ba = ba := ⟨_, rfl⟩
            obtain ⟨rp, hrp⟩ : ∃ rp, r.pred = rp := ⟨_, rfl⟩
            have HFS := Lib.hid (show r.fs = [.string r.name, .int .i64 rp, .slice r.args.a r.args.n r.args.c, .int .i64 r.ek, .string r.en, .string r.ev, .int .i64 r.ei, .slice ba r.lits.length r.bc, .int .i64 r.pos] by unfold Ru.fs; rw [hba, hrp])
            rw [hba] at HLT r7
            rw [hrp] at r1 hkr
            have HKR := Lib.hid hkr
            have hor := HORD.out rp
            have HBR := Lib.hid (At.new wr 51 #[.string r.name, .int .i64 rp, .slice r.args.a r.args.n r.args.c, .int .i64 r.ek, .string r.en, .string r.ev, .int .i64 r.ei, .slice ba r.lits.length r.bc, .int .i64 r.pos])
            have hal := below1 wr (.cells #[.string r.name, .int .i64 rp, .slice r.args.a r.args.n r.args.c, .int .i64 r.ek, .string r.en, .string r.ev, .int .i64 r.ei, .slice ba r.lits.length r.bc, .int .i64 r.pos] 51)
            have HWB := Lib.hid (HWR.out.trans (hal.mono HWR.out.size))
            have HBZ := Lib.hid (hb.trans (hal.mono hb.size))
            have HQB := Lib.hid (hat.next hal)
            have HOW := Lib.hid (own_below hown hal)
            have hlen : r.lits.length ≤ 9223372036854775807 := by unfold maxLen at hcap; omega
            have hsz := hat.lt
            have hlw : w.heap.size < wr.heap.size := Nat.lt_of_lt_of_le hltz hb.size
            clear hba hrp hr hkr hat hown hal hok
            by_cases h2 : 0 ≤ rp
            · obtain ⟨a, rfl⟩ : ∃ a : Nat, rp = (a : Int) := ⟨rp.toNat, by omega⟩
              have d2 : decide ((0 : Int) ≤ (a : Int)) = true := by simp
              rw [Int.toNat_natCast] at hor
              by_cases h3 : a < n
              · have d3 : decide ((a : Int) < (n : Int)) = true := by simp; omega
                have d3' : decide (a < n) = true := by simp; omega
                obtain ⟨ga, oa, rfl, hga, c9⟩ := HPR.out _ HWR.out a h3
                have i2 : (0 : Int) ≤ (a : Int) := by omega
                have i3 : (a : Int) < (n : Int) := by omega
                by_cases h4 : ofs.getD a (-1) = -1
                · rw [h4] at c9
                  have HB0 := Lib.hid (show ordin p (a : Int) = true by rw [hor, h4]; simp; omega)
                  clear hor h4
                  go_wp2_with fail
                  generalize wr.alloc (.cells #[.string r.name, .int .i64 (a : Int), .slice r.args.a r.args.n r.args.c, .int .i64 r.ek, .string r.en, .string r.ev, .int .i64 r.ei, .slice ba r.lits.length r.bc, .int .i64 r.pos] 51) = wb at *
                  go_loopw [10, 11] (fun kp j ws => ∃ m : Nat, m ≤ r.lits.length ∧ j = .int .i64 m ∧ kp = .bool (true && ((r.lits.take m).all fun l => !neg l)) ∧ Below wb.heap.size wb ws) (fun _ j _ => r.lits.length - (intOf j).toNat)
                  case atStart => exact ⟨0, by omega, rfl, by simp, Below.refl _ _⟩
                  case round =>
                    obtain ⟨m, hm, rfl, rfl, hbs⟩ := hrel
                    obtain ⟨ws, hws⟩ : ∃ ws, ws = wr := ⟨_, rfl⟩
                    obtain ⟨r0, r1, r2, r3, r4, r5, r6, r7, r8⟩ := ru_cells' (HBR.out.next hbs)
                    obtain ⟨x, hx⟩ : ∃ x, (true && ((r.lits.take m).all fun l => !neg l)) = x := ⟨_, rfl⟩
                    by_cases h5 : m < r.lits.length
                    · have d5 : decide ((m : Int) < (r.lits.length : Int)) = true := by simp; omega
                      obtain ⟨l, hlm⟩ : ∃ l, r.lits[m]? = some l := ⟨_, List.getElem?_eq_getElem h5⟩
                      have HAS := Lib.hid (show (true && ((r.lits.take (m + 1)).all fun l => !neg l)) = (x && !neg l) by rw [all_snoc hlm, ← hx, Bool.and_assoc])
                      obtain ⟨g', o', rfl, hg', c0, c1, c2, c3, c4, c5, c6, c7, c8⟩ := HLT.out _ (HWB.out.trans (hbs.mono HWB.out.size)) m l hlm
                      have HN2 := Lib.hid (fun W => HN.out l W)
                      have j2 : (0 : Int) ≤ (m : Int) := by omega
                      have j3 : (m : Int) < (r.lits.length : Int) := by omega
                      rw [hx]
                      generalize neg l = y at *
                      clear hx hlm
                      cases x
                      · go_wp2_with fail
                        go_roundw
                        case rel => exact ⟨m + 1, by omega, by go_num, by rw [HAS.out]; rfl, hbs⟩
                        case measure => simp [intOf]; omega
                      · go_wp2_with (go_at_call 26; refine (HN2.out _).mono ?_; rintro e w6 ⟨rfl, hb6⟩)
                        go_roundw
                        case rel => exact ⟨m + 1, by omega, by go_num, by rw [HAS.out]; rfl, hbs.trans (hb6.mono hbs.size)⟩
                        case measure => simp [intOf]; omega
                    · have d5 : decide ((m : Int) < (r.lits.length : Int)) = false := by simp; omega
                      have HKX := Lib.hid (show keepR p r = x by rw [HKR.out, HB0.out, ← hx, List.take_of_length_le (by omega)])
                      rw [hx]
                      have hbW := HBZ.out.trans (hbs.mono HBZ.out.size)
                      have hat := HQB.out.next hbs
                      have hown := own_below HOW.out hbs
                      clear hx
                      cases x
                      · have HE2 := Lib.hid (show K = (p.rus.take (k + 1)).filter (keepR p) by rw [HKS.out, HKX.out, ← HKK.out]; simp)
                        go_wp2_with fail
                        go_roundw
                        case rel => exact ⟨k + 1, K, _, by omega, by go_num, HE2, by omega, hat, hown, hbW⟩
                        case measure => simp [intOf]; omega
                      · have HE2 := Lib.hid (show K ++ [r] = (p.rus.take (k + 1)).filter (keepR p) by rw [HKS.out, HKX.out, ← HKK.out]; simp)
                        have q3 := hat.cell 3
                        have hlt := hat.lt
                        have hlr := (HBR.out.next hbs).lt
                        have hz := hbW.size
                        go_wp2_with (at_builtin; refine wpList_append_own _ rfl _ _ 25 rfl (wz.heap.size + 1) 51 ir _ 9 128 Try.underlying25 hir hzr0 hzr1 hzr2 rfl (by decide) _ _ _ rfl (hown.alloc _) ⟨wr.heap.size, 0, none⟩ 1 1 [.string r.name, .int .i64 (a : Int), .slice r.args.a r.args.n r.args.c, .int .i64 r.ek, .string r.en, .string r.ev, .int .i64 r.ei, .slice ba r.lits.length r.bc, .int .i64 r.pos] rfl rfl (At.news (xs := [.string r.name, .int .i64 (a : Int), .slice r.args.a r.args.n r.args.c, .int .i64 r.ek, .string r.en, .string r.ev, .int .i64 r.ei, .slice ba r.lits.length r.bc, .int .i64 r.pos]) (At.newAt rfl 51 _)) (fun u hu => by simp at hu; rcases hu with rfl | rfl | rfl | rfl | rfl | rfl | rfl | rfl | rfl <;> rfl) (by unfold maxLen; omega) (by omega) (by simp; omega) ?_; intro v9 w9 o9 g9 _; obtain ⟨va9, vc9, rfl⟩ := own_len o9; have hp9 := (hat.alloc (.cells #[.string r.name, .int .i64 (a : Int), .slice r.args.a r.args.n r.args.c, .int .i64 r.ek, .string r.en, .string r.ev, .int .i64 r.ei, .slice ba r.lits.length r.bc, .int .i64 r.pos] 51)).grown g9 (own_far hown hat (by decide)); have s3 := hp9.cell 3; have sf := hp9.frozen 3; have hb9 := (hbW.alloc hbW.size (.cells #[.string r.name, .int .i64 (a : Int), .slice r.args.a r.args.n r.args.c, .int .i64 r.ek, .string r.en, .string r.ev, .int .i64 r.ei, .slice ba r.lits.length r.bc, .int .i64 r.pos] 51)).grown g9 (by simp; omega) (fun q hq => by have := (own_lt hown hq).1; omega))
                        go_roundw
                        case rel => exact ⟨k + 1, K ++ [r], _, by omega, by go_num, HE2, by simp; omega, hp9.put 3 _, own_putne (by rw [List.length_append, rcells_snoc, HFS.out]; exact o9) (own_far o9 hp9 (by decide)) _, hb9.setCell (by simp) _⟩
                        case measure => simp [intOf]; omega
                · have HB0 := Lib.hid (show ordin p (a : Int) = false by rw [hor, decide_eq_false h4]; simp)
                  generalize ofs.getD a (-1) = q9 at *
                  have d4 : (q9 == -1) = false := by rw [beq_eq_false_iff_ne]; exact h4
                  clear hor h4
                  go_wp2_with fail
                  generalize wr.alloc (.cells #[.string r.name, .int .i64 (a : Int), .slice r.args.a r.args.n r.args.c, .int .i64 r.ek, .string r.en, .string r.ev, .int .i64 r.ei, .slice ba r.lits.length r.bc, .int .i64 r.pos] 51) = wb at *
                  go_loopw [10, 11] (fun kp j ws => ∃ m : Nat, m ≤ r.lits.length ∧ j = .int .i64 m ∧ kp = .bool (false && ((r.lits.take m).all fun l => !neg l)) ∧ Below wb.heap.size wb ws) (fun _ j _ => r.lits.length - (intOf j).toNat)
                  case atStart => exact ⟨0, by omega, rfl, by simp, Below.refl _ _⟩
                  case round =>
                    obtain ⟨m, hm, rfl, rfl, hbs⟩ := hrel
                    obtain ⟨ws, hws⟩ : ∃ ws, ws = wr := ⟨_, rfl⟩
                    obtain ⟨r0, r1, r2, r3, r4, r5, r6, r7, r8⟩ := ru_cells' (HBR.out.next hbs)
                    obtain ⟨x, hx⟩ : ∃ x, (false && ((r.lits.take m).all fun l => !neg l)) = x := ⟨_, rfl⟩
                    by_cases h5 : m < r.lits.length
                    · have d5 : decide ((m : Int) < (r.lits.length : Int)) = true := by simp; omega
                      obtain ⟨l, hlm⟩ : ∃ l, r.lits[m]? = some l := ⟨_, List.getElem?_eq_getElem h5⟩
                      have HAS := Lib.hid (show (false && ((r.lits.take (m + 1)).all fun l => !neg l)) = (x && !neg l) by rw [all_snoc hlm, ← hx, Bool.and_assoc])
                      obtain ⟨g', o', rfl, hg', c0, c1, c2, c3, c4, c5, c6, c7, c8⟩ := HLT.out _ (HWB.out.trans (hbs.mono HWB.out.size)) m l hlm
                      have HN2 := Lib.hid (fun W => HN.out l W)
                      have j2 : (0 : Int) ≤ (m : Int) := by omega
                      have j3 : (m : Int) < (r.lits.length : Int) := by omega
                      rw [hx]
                      generalize neg l = y at *
                      clear hx hlm
                      cases x
                      · go_wp2_with fail
                        go_roundw
                        case rel => exact ⟨m + 1, by omega, by go_num, by rw [HAS.out]; rfl, hbs⟩
                        case measure => simp [intOf]; omega
                      · go_wp2_with (go_at_call 26; refine (HN2.out _).mono ?_; rintro e w6 ⟨rfl, hb6⟩)
                        go_roundw
                        case rel => exact ⟨m + 1, by omega, by go_num, by rw [HAS.out]; rfl, hbs.trans (hb6.mono hbs.size)⟩
                        case measure => simp [intOf]; omega
                    · have d5 : decide ((m : Int) < (r.lits.length : Int)) = false := by simp; omega
                      have HKX := Lib.hid (show keepR p r = x by rw [HKR.out, HB0.out, ← hx, List.take_of_length_le (by omega)])
                      rw [hx]
                      have hbW := HBZ.out.trans (hbs.mono HBZ.out.size)
                      have hat := HQB.out.next hbs
                      have hown := own_below HOW.out hbs
                      clear hx
                      cases x
                      · have HE2 := Lib.hid (show K = (p.rus.take (k + 1)).filter (keepR p) by rw [HKS.out, HKX.out, ← HKK.out]; simp)
                        go_wp2_with fail
                        go_roundw
                        case rel => exact ⟨k + 1, K, _, by omega, by go_num, HE2, by omega, hat, hown, hbW⟩
                        case measure => simp [intOf]; omega
                      · have HE2 := Lib.hid (show K ++ [r] = (p.rus.take (k + 1)).filter (keepR p) by rw [HKS.out, HKX.out, ← HKK.out]; simp)
                        have q3 := hat.cell 3
                        have hlt := hat.lt
                        have hlr := (HBR.out.next hbs).lt
                        have hz := hbW.size
                        go_wp2_with (at_builtin; refine wpList_append_own _ rfl _ _ 25 rfl (wz.heap.size + 1) 51 ir _ 9 128 Try.underlying25 hir hzr0 hzr1 hzr2 rfl (by decide) _ _ _ rfl (hown.alloc _) ⟨wr.heap.size, 0, none⟩ 1 1 [.string r.name, .int .i64 (a : Int), .slice r.args.a r.args.n r.args.c, .int .i64 r.ek, .string r.en, .string r.ev, .int .i64 r.ei, .slice ba r.lits.length r.bc, .int .i64 r.pos] rfl rfl (At.news (xs := [.string r.name, .int .i64 (a : Int), .slice r.args.a r.args.n r.args.c, .int .i64 r.ek, .string r.en, .string r.ev, .int .i64 r.ei, .slice ba r.lits.length r.bc, .int .i64 r.pos]) (At.newAt rfl 51 _)) (fun u hu => by simp at hu; rcases hu with rfl | rfl | rfl | rfl | rfl | rfl | rfl | rfl | rfl <;> rfl) (by unfold maxLen; omega) (by omega) (by simp; omega) ?_; intro v9 w9 o9 g9 _; obtain ⟨va9, vc9, rfl⟩ := own_len o9; have hp9 := (hat.alloc (.cells #[.string r.name, .int .i64 (a : Int), .slice r.args.a r.args.n r.args.c, .int .i64 r.ek, .string r.en, .string r.ev, .int .i64 r.ei, .slice ba r.lits.length r.bc, .int .i64 r.pos] 51)).grown g9 (own_far hown hat (by decide)); have s3 := hp9.cell 3; have sf := hp9.frozen 3; have hb9 := (hbW.alloc hbW.size (.cells #[.string r.name, .int .i64 (a : Int), .slice r.args.a r.args.n r.args.c, .int .i64 r.ek, .string r.en, .string r.ev, .int .i64 r.ei, .slice ba r.lits.length r.bc, .int .i64 r.pos] 51)).grown g9 (by simp; omega) (fun q hq => by have := (own_lt hown hq).1; omega))
                        go_roundw
                        case rel => exact ⟨k + 1, K ++ [r], _, by omega, by go_num, HE2, by simp; omega, hp9.put 3 _, own_putne (by rw [List.length_append, rcells_snoc, HFS.out]; exact o9) (own_far o9 hp9 (by decide)) _, hb9.setCell (by simp) _⟩
                        case measure => simp [intOf]; omega
              · have d3 : decide ((a : Int) < (n : Int)) = false := by simp; omega
                have d3' : decide (a < n) = false := by simp; omega
                have HB0 := Lib.hid (show ordin p (a : Int) = false by rw [hor, d3]; simp)
                clear hor
                go_wp2_with fail
                generalize wr.alloc (.cells #[.string r.name, .int .i64 (a : Int), .slice r.args.a r.args.n r.args.c, .int .i64 r.ek, .string r.en, .string r.ev, .int .i64 r.ei, .slice ba r.lits.length r.bc, .int .i64 r.pos] 51) = wb at *
                go_loopw [10, 11] (fun kp j ws => ∃ m : Nat, m ≤ r.lits.length ∧ j = .int .i64 m ∧ kp = .bool (false && ((r.lits.take m).all fun l => !neg l)) ∧ Below wb.heap.size wb ws) (fun _ j _ => r.lits.length - (intOf j).toNat)
                case atStart => exact ⟨0, by omega, rfl, by simp, Below.refl _ _⟩
                case round =>
                  obtain ⟨m, hm, rfl, rfl, hbs⟩ := hrel
                  obtain ⟨ws, hws⟩ : ∃ ws, ws = wr := ⟨_, rfl⟩
                  obtain ⟨r0, r1, r2, r3, r4, r5, r6, r7, r8⟩ := ru_cells' (HBR.out.next hbs)
                  obtain ⟨x, hx⟩ : ∃ x, (false && ((r.lits.take m).all fun l => !neg l)) = x := ⟨_, rfl⟩
                  by_cases h5 : m < r.lits.length
                  · have d5 : decide ((m : Int) < (r.lits.length : Int)) = true := by simp; omega
                    obtain ⟨l, hlm⟩ : ∃ l, r.lits[m]? = some l := ⟨_, List.getElem?_eq_getElem h5⟩
                    have HAS := Lib.hid (show (false && ((r.lits.take (m + 1)).all fun l => !neg l)) = (x && !neg l) by rw [all_snoc hlm, ← hx, Bool.and_assoc])
                    obtain ⟨g', o', rfl, hg', c0, c1, c2, c3, c4, c5, c6, c7, c8⟩ := HLT.out _ (HWB.out.trans (hbs.mono HWB.out.size)) m l hlm
                    have HN2 := Lib.hid (fun W => HN.out l W)
                    have j2 : (0 : Int) ≤ (m : Int) := by omega
                    have j3 : (m : Int) < (r.lits.length : Int) := by omega
                    rw [hx]
                    generalize neg l = y at *
                    clear hx hlm
                    cases x
                    · go_wp2_with fail
                      go_roundw
                      case rel => exact ⟨m + 1, by omega, by go_num, by rw [HAS.out]; rfl, hbs⟩
                      case measure => simp [intOf]; omega
                    · go_wp2_with (go_at_call 26; refine (HN2.out _).mono ?_; rintro e w6 ⟨rfl, hb6⟩)
                      go_roundw
                      case rel => exact ⟨m + 1, by omega, by go_num, by rw [HAS.out]; rfl, hbs.trans (hb6.mono hbs.size)⟩
                      case measure => simp [intOf]; omega
                  · have d5 : decide ((m : Int) < (r.lits.length : Int)) = false := by simp; omega
                    have HKX := Lib.hid (show keepR p r = x by rw [HKR.out, HB0.out, ← hx, List.take_of_length_le (by omega)])
                    rw [hx]
                    have hbW := HBZ.out.trans (hbs.mono HBZ.out.size)
                    have hat := HQB.out.next hbs
                    have hown := own_below HOW.out hbs
                    clear hx
                    cases x
                    · have HE2 := Lib.hid (show K = (p.rus.take (k + 1)).filter (keepR p) by rw [HKS.out, HKX.out, ← HKK.out]; simp)
                      go_wp2_with fail
                      go_roundw
                      case rel => exact ⟨k + 1, K, _, by omega, by go_num, HE2, by omega, hat, hown, hbW⟩
                      case measure => simp [intOf]; omega
                    · have HE2 := Lib.hid (show K ++ [r] = (p.rus.take (k + 1)).filter (keepR p) by rw [HKS.out, HKX.out, ← HKK.out]; simp)
                      have q3 := hat.cell 3
                      have hlt := hat.lt
                      have hlr := (HBR.out.next hbs).lt
                      have hz := hbW.size
                      go_wp2_with (at_builtin; refine wpList_append_own _ rfl _ _ 25 rfl (wz.heap.size + 1) 51 ir _ 9 128 Try.underlying25 hir hzr0 hzr1 hzr2 rfl (by decide) _ _ _ rfl (hown.alloc _) ⟨wr.heap.size, 0, none⟩ 1 1 [.string r.name, .int .i64 (a : Int), .slice r.args.a r.args.n r.args.c, .int .i64 r.ek, .string r.en, .string r.ev, .int .i64 r.ei, .slice ba r.lits.length r.bc, .int .i64 r.pos] rfl rfl (At.news (xs := [.string r.name, .int .i64 (a : Int), .slice r.args.a r.args.n r.args.c, .int .i64 r.ek, .string r.en, .string r.ev, .int .i64 r.ei, .slice ba r.lits.length r.bc, .int .i64 r.pos]) (At.newAt rfl 51 _)) (fun u hu => by simp at hu; rcases hu with rfl | rfl | rfl | rfl | rfl | rfl | rfl | rfl | rfl <;> rfl) (by unfold maxLen; omega) (by omega) (by simp; omega) ?_; intro v9 w9 o9 g9 _; obtain ⟨va9, vc9, rfl⟩ := own_len o9; have hp9 := (hat.alloc (.cells #[.string r.name, .int .i64 (a : Int), .slice r.args.a r.args.n r.args.c, .int .i64 r.ek, .string r.en, .string r.ev, .int .i64 r.ei, .slice ba r.lits.length r.bc, .int .i64 r.pos] 51)).grown g9 (own_far hown hat (by decide)); have s3 := hp9.cell 3; have sf := hp9.frozen 3; have hb9 := (hbW.alloc hbW.size (.cells #[.string r.name, .int .i64 (a : Int), .slice r.args.a r.args.n r.args.c, .int .i64 r.ek, .string r.en, .string r.ev, .int .i64 r.ei, .slice ba r.lits.length r.bc, .int .i64 r.pos] 51)).grown g9 (by simp; omega) (fun q hq => by have := (own_lt hown hq).1; omega))
                      go_roundw
                      case rel => exact ⟨k + 1, K ++ [r], _, by omega, by go_num, HE2, by simp; omega, hp9.put 3 _, own_putne (by rw [List.length_append, rcells_snoc, HFS.out]; exact o9) (own_far o9 hp9 (by decide)) _, hb9.setCell (by simp) _⟩
                      case measure => simp [intOf]; omega
            · have d2 : decide ((0 : Int) ≤ rp) = false := by simp; omega
              have HB0 := Lib.hid (show ordin p rp = false by rw [hor, d2]; rfl)
              clear hor h2
              go_wp2_with fail
              generalize wr.alloc (.cells #[.string r.name, .int .i64 rp, .slice r.args.a r.args.n r.args.c, .int .i64 r.ek, .string r.en, .string r.ev, .int .i64 r.ei, .slice ba r.lits.length r.bc, .int .i64 r.pos] 51) = wb at *
              go_loopw [10, 11] (fun kp j ws => ∃ m : Nat, m ≤ r.lits.length ∧ j = .int .i64 m ∧ kp = .bool (false && ((r.lits.take m).all fun l => !neg l)) ∧ Below wb.heap.size wb ws) (fun _ j _ => r.lits.length - (intOf j).toNat)
              case atStart => exact ⟨0, by omega, rfl, by simp, Below.refl _ _⟩
              case round =>
                obtain ⟨m, hm, rfl, rfl, hbs⟩ := hrel
                obtain ⟨ws, hws⟩ : ∃ ws, ws = wr := ⟨_, rfl⟩
                obtain ⟨r0, r1, r2, r3, r4, r5, r6, r7, r8⟩ := ru_cells' (HBR.out.next hbs)
                obtain ⟨x, hx⟩ : ∃ x, (false && ((r.lits.take m).all fun l => !neg l)) = x := ⟨_, rfl⟩
                by_cases h5 : m < r.lits.length
                · have d5 : decide ((m : Int) < (r.lits.length : Int)) = true := by simp; omega
                  obtain ⟨l, hlm⟩ : ∃ l, r.lits[m]? = some l := ⟨_, List.getElem?_eq_getElem h5⟩
                  have HAS := Lib.hid (show (false && ((r.lits.take (m + 1)).all fun l => !neg l)) = (x && !neg l) by rw [all_snoc hlm, ← hx, Bool.and_assoc])
                  obtain ⟨g', o', rfl, hg', c0, c1, c2, c3, c4, c5, c6, c7, c8⟩ := HLT.out _ (HWB.out.trans (hbs.mono HWB.out.size)) m l hlm
                  have HN2 := Lib.hid (fun W => HN.out l W)
                  have j2 : (0 : Int) ≤ (m : Int) := by omega
                  have j3 : (m : Int) < (r.lits.length : Int) := by omega
                  rw [hx]
                  generalize neg l = y at *
                  clear hx hlm
                  cases x
                  · go_wp2_with fail
                    go_roundw
                    case rel => exact ⟨m + 1, by omega, by go_num, by rw [HAS.out]; rfl, hbs⟩
                    case measure => simp [intOf]; omega
                  · go_wp2_with (go_at_call 26; refine (HN2.out _).mono ?_; rintro e w6 ⟨rfl, hb6⟩)
                    go_roundw
                    case rel => exact ⟨m + 1, by omega, by go_num, by rw [HAS.out]; rfl, hbs.trans (hb6.mono hbs.size)⟩
                    case measure => simp [intOf]; omega
                · have d5 : decide ((m : Int) < (r.lits.length : Int)) = false := by simp; omega
                  have HKX := Lib.hid (show keepR p r = x by rw [HKR.out, HB0.out, ← hx, List.take_of_length_le (by omega)])
                  rw [hx]
                  have hbW := HBZ.out.trans (hbs.mono HBZ.out.size)
                  have hat := HQB.out.next hbs
                  have hown := own_below HOW.out hbs
                  clear hx
                  cases x
                  · have HE2 := Lib.hid (show K = (p.rus.take (k + 1)).filter (keepR p) by rw [HKS.out, HKX.out, ← HKK.out]; simp)
                    go_wp2_with fail
                    go_roundw
                    case rel => exact ⟨k + 1, K, _, by omega, by go_num, HE2, by omega, hat, hown, hbW⟩
                    case measure => simp [intOf]; omega
                  · have HE2 := Lib.hid (show K ++ [r] = (p.rus.take (k + 1)).filter (keepR p) by rw [HKS.out, HKX.out, ← HKK.out]; simp)
                    have q3 := hat.cell 3
                    have hlt := hat.lt
                    have hlr := (HBR.out.next hbs).lt
                    have hz := hbW.size
                    go_wp2_with (at_builtin; refine wpList_append_own _ rfl _ _ 25 rfl (wz.heap.size + 1) 51 ir _ 9 128 Try.underlying25 hir hzr0 hzr1 hzr2 rfl (by decide) _ _ _ rfl (hown.alloc _) ⟨wr.heap.size, 0, none⟩ 1 1 [.string r.name, .int .i64 rp, .slice r.args.a r.args.n r.args.c, .int .i64 r.ek, .string r.en, .string r.ev, .int .i64 r.ei, .slice ba r.lits.length r.bc, .int .i64 r.pos] rfl rfl (At.news (xs := [.string r.name, .int .i64 rp, .slice r.args.a r.args.n r.args.c, .int .i64 r.ek, .string r.en, .string r.ev, .int .i64 r.ei, .slice ba r.lits.length r.bc, .int .i64 r.pos]) (At.newAt rfl 51 _)) (fun u hu => by simp at hu; rcases hu with rfl | rfl | rfl | rfl | rfl | rfl | rfl | rfl | rfl <;> rfl) (by unfold maxLen; omega) (by omega) (by simp; omega) ?_; intro v9 w9 o9 g9 _; obtain ⟨va9, vc9, rfl⟩ := own_len o9; have hp9 := (hat.alloc (.cells #[.string r.name, .int .i64 rp, .slice r.args.a r.args.n r.args.c, .int .i64 r.ek, .string r.en, .string r.ev, .int .i64 r.ei, .slice ba r.lits.length r.bc, .int .i64 r.pos] 51)).grown g9 (own_far hown hat (by decide)); have s3 := hp9.cell 3; have sf := hp9.frozen 3; have hb9 := (hbW.alloc hbW.size (.cells #[.string r.name, .int .i64 rp, .slice r.args.a r.args.n r.args.c, .int .i64 r.ek, .string r.en, .string r.ev, .int .i64 r.ei, .slice ba r.lits.length r.bc, .int .i64 r.pos] 51)).grown g9 (by simp; omega) (fun q hq => by have := (own_lt hown hq).1; omega))
                    go_roundw
                    case rel => exact ⟨k + 1, K ++ [r], _, by omega, by go_num, HE2, by simp; omega, hp9.put 3 _, own_putne (by rw [List.length_append, rcells_snoc, HFS.out]; exact o9) (own_far o9 hp9 (by decide)) _, hb9.setCell (by simp) _⟩
                    case measure => simp [intOf]; omega
          · have d1 : decide ((k : Int) < (p.rus.length : Int)) = false := by simp; omega
            have hKX : K = p.rus.filter (keepR p) := by rw [HKK.out, show k = p.rus.length by omega]; exact HFL.out
            rw [hKX] at hown hat
            have HPQ2 := Lib.hid (fun W (h : Below wr.heap.size wr W) => HPQ.out W _ _ _ (HBW.out.trans ((hb.trans (h.mono hb.size)).mono HBW.out.size)) (own_below hown h))
            have hl1 : (p.rus.filter (keepR p)).length ≤ k := by rw [← hKX]; exact hKl
            generalize (p.rus.filter (keepR p)).length = kl at *
            have HQB := Lib.hid (fun W (h : Below wr.heap.size wr W) => pg_cells (hat.next h))
            have hsz := hat.lt
            obtain ⟨wy, hwy⟩ : ∃ wy, wy = wr := ⟨_, rfl⟩
            subst hwy
            have HATY := Lib.hid (fun W (h : Below wy.heap.size wy W) => HATZ.out W (hb.trans (h.mono hb.size)))
            have HPY := Lib.hid (fun W (h : Below wy.heap.size wy W) => HPZ.out W (hb.trans (h.mono hb.size)))
            have HWY := Lib.hid (HBW.out.trans (hb.mono HBW.out.size))
            clear hown hat hKX HPZ HATZ HPQ HKK hKl hb
            go_wp2_with fail
            clear p0 p1 p2 p3
            go_loopw [12] (fun i wr => ∃ a : Nat, a ≤ n ∧ i = .int .i64 a ∧ Below wy.heap.size wy wr) (fun i _ => n - (intOf i).toNat)
            case atStart => exact ⟨0, by omega, rfl, Below.refl _ _⟩
            case round =>
              obtain ⟨a, ha, rfl, hb⟩ := hrel
              obtain ⟨p0, p1, p2, p3⟩ := HATY.out _ hb
              by_cases h2 : a < n
              · have d2 : decide ((a : Int) < (n : Int)) = true := by simp; omega
                have HPA := Lib.hid (HPY.out _ hb a h2)
                have HPB := Lib.hid (fun W (h : Below wy.heap.size wy W) hs => HPQ2.out W h a h2 hs)
                have hof := HPO.out a
                generalize spos p a = x at *
                cases x
                · go_wp2_with (go_at_call 22; refine HPA.out.mono ?_; rintro e w6 ⟨rfl, hb6⟩)
                  go_roundw
                  case rel => exact ⟨a + 1, by omega, by go_num, hb.trans (hb6.mono hb.size)⟩
                  case measure => simp [intOf]; omega
                · obtain ⟨ga, oa, rfl, hga, c9⟩ := HPR.out _ (HWY.out.trans (hb.mono HWY.out.size)) a h2
                  rw [hof rfl] at c9
                  have i2 : (0 : Int) ≤ (a : Int) := by omega
                  have i3 : (a : Int) < (n : Int) := by omega
                  go_wp2_with fail
                  refine HPA.out.mono ?_
                  rintro e w6 ⟨rfl, hb6⟩
                  have hb66 := hb.trans (hb6.mono hb.size)
                  clear p0 p1 p2 p3
                  obtain ⟨p0, p1, p2, p3⟩ := HQB.out _ hb66
                  go_wp2_with fail
                  refine (HPB.out _ hb66 trivial).mono ?_
                  rintro e w8 ⟨rfl, hb8⟩
                  have hb88 := hb66.trans (hb8.mono hb66.size)
                  clear p0 p1 p2 p3
                  obtain ⟨p0, p1, p2, p3⟩ := HATY.out _ hb88
                  have c99 := ((hb6.trans (hb8.mono hb6.size)).cell hga).trans c9
                  clear c9
                  go_wp2_with fail
                  go_roundw
                  case rel => exact ⟨a + 1, by omega, by go_num, hb88⟩
                  case measure => simp [intOf]; omega
              · have d2 : decide ((a : Int) < (n : Int)) = false := by simp; omega
                go_wp2_with fail
                go_ret
                exact ⟨rfl, HWY.out.trans (hb.mono HWY.out.size)⟩
end Go.Proofs.Ytljlihimmcmlmaa
