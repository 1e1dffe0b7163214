/- The walk of StrataComponents. -/
import Derived.Test.YtljlihimmcmlmaaTRea
import Derived.Test.YtljlihimmcmlmaaTNum
import Derived.Test.YtljlihimmcmlmaaTHd
namespace Go.Proofs.Ytljlihimmcmlmaa
set_option linter.unusedVariables false
set_option linter.unusedSimpArgs false
open Go.RowKit
def ReaV (n x : Nat) (es : List Tj.Ed) : Value → World → Prop := fun v W => ∃ (g : Nat) (m : List Bool), v = .slice (some ⟨g, 0, none⟩) n n ∧ m.length = n ∧ At W g 4 (bcells m) ∧ ∀ b, m.getD b false = true ↔ Tj.Dep (Tj.next es) x b
def ReaP (n x y : Nat) (es : List Tj.Ed) : Value → World → Prop := fun v W => ∃ (g : Nat) (m : List Bool), v = .pointer (some ⟨g, y, none⟩) ∧ m.length = n ∧ At W g 4 (bcells m) ∧ ∀ b, m.getD b false = true ↔ Tj.Dep (Tj.next es) x b
theorem reaV_on {J : World → Prop} {n x : Nat} {es : List Tj.Ed} : Lasting J Onward (ReaV n x es) := fun v w w' _ hb ⟨g, m, e, h1, h2, h3⟩ => ⟨g, m, e, h1, h2.next hb, h3⟩
theorem reaP_on {J : World → Prop} {n x y : Nat} {es : List Tj.Ed} : Lasting J Onward (ReaP n x y es) := fun v w w' _ hb ⟨g, m, e, h1, h2, h3⟩ => ⟨g, m, e, h1, h2.next hb, h3⟩
set_option maxHeartbeats 4000000 in
set_option maxRecDepth 100000 in
theorem comps_law (p : Pg) (w : World) (hp : PgOk w p) : Calls Try.prog 4 #[p.v] w fun e w' => e = .returned (.bool true) ∧ Below w.heap.size w w' := by
  have HH := Lib.hid (fun W => head_any W)
  have HS := Lib.hid (fun W (h : Below w.heap.size w W) => small_any p W (hp.below h))
  have HAT := Lib.hid (At.new w 27 p.vs)
  cases hsm : smallP p
  · rw [hsm] at HS
    unfold Pg.v at HS ⊢
    unfold Pg.vs at HAT
    clear hsm hp
    generalize p.ra = ra at *
    generalize p.pa = pa at *
    go_enter Try.func4, Try.ntmps4
    go_wp2_with (first
      | (go_at_call 10; refine (HH.out _).mono ?_; rintro e w2 ⟨rfl, hb2⟩; have hat2 := HAT.out.next hb2; have hbw2 : Below w.heap.size w w2 := (below1 _ _).trans (hb2.mono (by simp)); obtain ⟨p0, p1, p2, p3⟩ := pg_cells hat2)
      | (go_at_call 11; refine (HS.out _ hbw2).mono ?_; rintro e w3 ⟨rfl, hb3⟩; have hbw3 := hbw2.trans (hb3.mono hbw2.size)))
    go_ret
    exact ⟨rfl, hbw3⟩
  · rw [hsm] at HS
    obtain ⟨s1, s2, s3⟩ := smallP_iff.1 hsm
    obtain ⟨n, hn⟩ : ∃ n, p.prs.length = n := ⟨_, rfl⟩
    have hf := pgFine (p := p) (by omega) (by omega) (fun r hr => by have := s3 r hr; omega)
    rw [hn] at hf s1
    clear hsm s2 s3
    have HC := Lib.hid (fun W (h : Below w.heap.size w W) => components_any p n W (hp.below h) hf)
    have HRE0 := Lib.hid (fun W (h : Below w.heap.size w W) (x : Nat) => reach_any p n x W (hp.below h) hf)
    have hes := hf.es
    obtain ⟨es, hes0⟩ : ∃ es, edges p = es := ⟨_, rfl⟩
    rw [hes0] at HC HRE0 hes
    have hlay : Tj.Lay (Tj.next es) n (Tj.ord (Tj.next es) n n []) := Tj.ord_lay0
    have HN := Lib.hid (fun W A c (hA : LsAt W A (Tj.ord (Tj.next es) n n [])) => number_any p n A c _ W hn (by omega) hA hlay)
    generalize Tj.ord (Tj.next es) n n [] = L at *
    have HY := Lib.hid hlay
    have HES := Lib.hid hes
    have hLn := hlay.len
    clear hes0 hf hp hlay hes
    unfold Pg.v at HS HC HRE0 HN ⊢
    unfold Pg.vs at HAT
    generalize p.ra = ra at *
    generalize p.pa = pa at *
    rw [hn] at HS HC HRE0 HN HAT ⊢
    clear hn
    go_enter Try.func4, Try.ntmps4
    go_wp2_with (first
      | (go_at_call 10; refine (HH.out _).mono ?_; rintro e w2 ⟨rfl, hb2⟩; have hat2 := HAT.out.next hb2; have hbw2 : Below w.heap.size w w2 := (below1 _ _).trans (hb2.mono (by simp)); obtain ⟨p0, p1, p2, p3⟩ := pg_cells hat2)
      | (go_at_call 11; refine (HS.out _ hbw2).mono ?_; rintro e w3a ⟨rfl, hb3⟩; have hbw3 := hbw2.trans (hb3.mono hbw2.size); have hat3 := hat2.next hb3; clear p0 p1 p2 p3; obtain ⟨p0, p1, p2, p3⟩ := pg_cells hat3)
      | (go_at_call 15; refine (HC.out _ hbw3).mono ?_; rintro e w4 ⟨A, c, rfl, hls, hb4⟩; have hbw4 := hbw3.trans (hb4.mono hbw3.size); have hat4 := hat3.next hb4; clear p0 p1 p2 p3; obtain ⟨p0, p1, p2, p3⟩ := pg_cells hat4)
      | (go_at_call 24; refine (HN.out _ _ _ hls).mono ?_; rintro e w5 ⟨gn, rfl, hnum, hb5⟩; have hbw5 := hbw4.trans (hb5.mono hbw4.size); have hat5 := hat4.next hb5; have hls5 := hls.below hb5))
    clear p0 p1 p2 p3 hb2 hbw2 hat2 hb3 hbw3 hat3 hb4 hbw4 hat4 hb5 hls HC HS HH HN HAT
    have HATX := Lib.hid (fun W (h : Below w5.heap.size w5 W) => pg_cells (hat5.next h))
    have HRE := Lib.hid (fun W (h : Below w5.heap.size w5 W) => HRE0.out W (hbw5.trans (h.mono hbw5.size)))
    have HLS := Lib.hid (fun W (h : Below w5.heap.size w5 W) => hls5.below h)
    have HNM := Lib.hid (fun W (h : Below w5.heap.size w5 W) => hnum.next h)
    have hat5l := hat5.lt
    clear HRE0 hls5 hnum hat5
    go_loopw [7, 8, 9, 10] (fun i _ _ _ wr => ∃ a : Nat, a ≤ n ∧ i = .int .i64 a ∧ Below w5.heap.size w5 wr) (fun i _ _ _ _ => n - (intOf i).toNat)
    case atStart => exact ⟨0, by omega, rfl, Below.refl _ _⟩
    case round =>
      obtain ⟨a, ha, rfl, hb⟩ := hrel
      by_cases h1 : a < n
      · have d1 : decide ((a : Int) < (n : Int)) = true := by simp; omega
        obtain ⟨p0, p1, p2, p3⟩ := HATX.out _ hb
        obtain ⟨wa, hwa⟩ : ∃ wa, wa = wr := ⟨_, rfl⟩
        subst hwa
        go_wp2_with (go_at_call 25; refine (HRE.out _ hb a).mono ?_; rintro e wq ⟨gr, m1, rfl, hm1, hr1, hr2, hbq⟩)
        have hbwq := hb.trans (hbq.mono hb.size)
        have HR1 := Lib.hid (fun W (h : Below wq.heap.size wq W) => hr1.next h)
        have HR2 := Lib.hid hr2
        clear p0 p1 p2 p3 hr1 hr2 hb hbq d1
        go_loopw [9, 10] (fun i _ wr => ∃ b : Nat, b ≤ n ∧ i = .int .i64 b ∧ Below wq.heap.size wq wr) (fun i _ _ => n - (intOf i).toNat)
        case atStart => exact ⟨0, by omega, rfl, Below.refl _ _⟩
        case round =>
          obtain ⟨b, hbn, rfl, hbr⟩ := hrel
          have hbwr := hbwq.trans (hbr.mono hbwq.size)
          by_cases h2 : b < n
          · have d2 : decide ((b : Int) < (n : Int)) = true := by simp; omega
            obtain ⟨p0, p1, p2, p3⟩ := HATX.out _ hbwr
            go_wp2_with (go_at_call 25; refine (HRE.out _ hbwr b).mono ?_; rintro e ws ⟨gb, m2, rfl, hm2, hs1, hs2, hbs⟩)
            have hbrs := hbr.trans (hbs.mono hbr.size)
            have hbws := hbwq.trans (hbrs.mono hbwq.size)
            have y0 := ncell (HNM.out _ hbws) (j := a) (by simp; omega)
            have y1 := ncell (HNM.out _ hbws) (j := b) (by simp; omega)
            rw [Tj.getD_at (show ((List.range n).map (Tj.rowOf L))[a]? = some (Tj.rowOf L a) by simp [h1])] at y0
            rw [Tj.getD_at (show ((List.range n).map (Tj.rowOf L))[b]? = some (Tj.rowOf L b) by simp [h2])] at y1
            have y2 := bcell (HR1.out _ hbrs) (j := b) (by omega)
            have y3 := bcell hs1 (j := a) (by omega)
            have hsame : Tj.rowOf L a = Tj.rowOf L b ↔ a = b ∨ m1.getD b false = true ∧ m2.getD a false = true := by
              rw [HY.out.same h1 h2, Tj.eqv_iff, HR2.out, hs2]
            have hdown : m1.getD b false = true → Tj.rowOf L b ≤ Tj.rowOf L a := fun h => HY.out.down h1 h2 ((HR2.out b).1 h)
            obtain ⟨x, hx⟩ : ∃ x, m1.getD b false = x := ⟨_, rfl⟩
            obtain ⟨y, hy⟩ : ∃ y, m2.getD a false = y := ⟨_, rfl⟩
            rw [hx] at y2 hsame hdown
            rw [hy] at y3 hsame
            generalize Tj.rowOf L a = ra' at *
            generalize Tj.rowOf L b = rb' at *
            have i0 : (0 : Int) ≤ (a : Int) := by omega
            have i1 : (a : Int) < (n : Int) := by omega
            have i2 : (0 : Int) ≤ (b : Int) := by omega
            have i3 : (b : Int) < (n : Int) := by omega
            have f0 : ∀ z : Held ws.heap.size ws, z.w.cell? ⟨gn, a, none⟩ = some (.int .i64 (ra' : Int)) := fun z => z.cell (HNM.out _ hbws).lt y0
            have f1 : ∀ z : Held ws.heap.size ws, z.w.cell? ⟨gn, b, none⟩ = some (.int .i64 (rb' : Int)) := fun z => z.cell (HNM.out _ hbws).lt y1
            have f2 : ∀ z : Held ws.heap.size ws, z.w.cell? ⟨gr, b, none⟩ = some (.bool x) := fun z => z.cell (HR1.out _ hbrs).lt y2
            have f3 : ∀ z : Held ws.heap.size ws, z.w.cell? ⟨gb, a, none⟩ = some (.bool y) := fun z => z.cell hs1.lt y3
            clear hx hy hs1 hs2 p0 p1 p2 p3 hbs hbr hbwr y0 y1 y2 y3
            cases x
            · by_cases he : a = b
              · have t1 : ((a : Int) == (b : Int)) = true := by rw [beq_iff_eq]; omega
                have t2 : ((ra' : Int) == (rb' : Int)) = true := by rw [beq_iff_eq]; have := hsame.2 (Or.inl he); omega
                clear hsame hdown he
                go_wp2_with fail
                refine wp_region_held ws.heap.size ws (Below.refl _ _) (by kernel_rfl) (by kernel_rfl) ?_
                repeat (go_big_quiet_step (fail))
                refine wpQuiet_nil ?_
                rintro wt ⟨⟨_, bt⟩, rfl⟩
                have hbrt := hbrs.trans (bt.mono hbrs.size)
                go_wp2_with fail
                go_roundw
                case rel => exact ⟨b + 1, by omega, by go_num, hbrt⟩
                case measure => simp [intOf]; omega
              · have t1 : ((a : Int) == (b : Int)) = false := by rw [beq_eq_false_iff_ne]; omega
                have t2 : ((ra' : Int) == (rb' : Int)) = false := by rw [beq_eq_false_iff_ne]; intro h; rcases hsame.1 (by omega) with h | h; exact he h; cases h.1
                clear hsame hdown he
                go_wp2_with fail
                refine wp_region_held ws.heap.size ws (Below.refl _ _) (by kernel_rfl) (by kernel_rfl) ?_
                repeat (go_big_quiet_step (fail))
                refine wpQuiet_nil ?_
                rintro wt ⟨⟨_, bt⟩, rfl⟩
                have hbrt := hbrs.trans (bt.mono hbrs.size)
                go_wp2_with fail
                go_roundw
                case rel => exact ⟨b + 1, by omega, by go_num, hbrt⟩
                case measure => simp [intOf]; omega
            · have t3 : decide ((ra' : Int) < (rb' : Int)) = false := by have := hdown rfl; simp; omega
              have t3' : decide (ra' < rb') = false := by have := hdown rfl; simp; omega
              by_cases he : a = b
              · have t1 : ((a : Int) == (b : Int)) = true := by rw [beq_iff_eq]; omega
                have t2 : ((ra' : Int) == (rb' : Int)) = true := by rw [beq_iff_eq]; have := hsame.2 (Or.inl he); omega
                clear hsame hdown he
                go_wp2_with fail
                refine wp_region_held ws.heap.size ws (Below.refl _ _) (by kernel_rfl) (by kernel_rfl) ?_
                repeat (go_big_quiet_step (fail))
                refine wpQuiet_nil ?_
                rintro wt ⟨⟨_, bt⟩, rfl⟩
                have hbrt := hbrs.trans (bt.mono hbrs.size)
                go_wp2_with fail
                go_roundw
                case rel => exact ⟨b + 1, by omega, by go_num, hbrt⟩
                case measure => simp [intOf]; omega
              · have t1 : ((a : Int) == (b : Int)) = false := by rw [beq_eq_false_iff_ne]; omega
                cases y
                · have t2 : ((ra' : Int) == (rb' : Int)) = false := by rw [beq_eq_false_iff_ne]; intro h; rcases hsame.1 (by omega) with h | h; exact he h; cases h.2
                  clear hsame hdown he
                  go_wp2_with fail
                  refine wp_region_held ws.heap.size ws (Below.refl _ _) (by kernel_rfl) (by kernel_rfl) ?_
                  repeat (go_big_quiet_step (fail))
                  refine wpQuiet_nil ?_
                  rintro wt ⟨⟨_, bt⟩, rfl⟩
                  have hbrt := hbrs.trans (bt.mono hbrs.size)
                  go_wp2_with fail
                  go_roundw
                  case rel => exact ⟨b + 1, by omega, by go_num, hbrt⟩
                  case measure => simp [intOf]; omega
                · have t2 : ((ra' : Int) == (rb' : Int)) = true := by rw [beq_iff_eq]; have := hsame.2 (Or.inr ⟨rfl, rfl⟩); omega
                  clear hsame hdown he
                  go_wp2_with fail
                  refine wp_region_held ws.heap.size ws (Below.refl _ _) (by kernel_rfl) (by kernel_rfl) ?_
                  repeat (go_big_quiet_step (fail))
                  refine wpQuiet_nil ?_
                  rintro wt ⟨⟨_, bt⟩, rfl⟩
                  have hbrt := hbrs.trans (bt.mono hbrs.size)
                  go_wp2_with fail
                  go_roundw
                  case rel => exact ⟨b + 1, by omega, by go_num, hbrt⟩
                  case measure => simp [intOf]; omega
          · have d2 : decide ((b : Int) < (n : Int)) = false := by simp; omega
            go_wp2_with fail
            go_roundw
            case rel => exact ⟨a + 1, by omega, by go_num, hbwr⟩
            case measure => simp [intOf]; omega
      · have d1 : decide ((a : Int) < (n : Int)) = false := by simp; omega
        obtain ⟨w3, hw3⟩ : ∃ w3, w3 = wr := ⟨_, rfl⟩
        subst hw3
        have HB3 := Lib.hid (hbw5.trans (hb.mono hbw5.size))
        have HRE1 := Lib.hid (fun W (h : Below w3.heap.size w3 W) => HRE.out W (hb.trans (h.mono hb.size)))
        have HLS1 := Lib.hid (fun W (h : Below w3.heap.size w3 W) => HLS.out W (hb.trans (h.mono hb.size)))
        have HATX1 := Lib.hid (fun W (h : Below w3.heap.size w3 W) => HATX.out W (hb.trans (h.mono hb.size)))
        have hw3l : w.heap.size < w3.heap.size := Nat.lt_of_lt_of_le hat5l hb.size
        clear HRE HLS HATX HNM hb hbw5 hat5l
        go_wp2_with fail
        go_loopw [11] (fun i wr => ∃ k : Nat, k ≤ L.length ∧ i = .int .i64 k ∧ Below w3.heap.size w3 wr) (fun i _ => L.length - (intOf i).toNat)
        case atStart => exact ⟨0, by omega, rfl, Below.refl _ _⟩
        case round =>
          obtain ⟨k, hk, rfl, hbr⟩ := hrel
          by_cases h2 : k + 1 < L.length
          · have d2 : decide ((k : Int) + 1 < (L.length : Int)) = true := by simp; omega
            obtain ⟨cr, hcr⟩ : ∃ x, L[k]? = some x := ⟨_, List.getElem?_eq_getElem (by omega)⟩
            obtain ⟨dr, hdr⟩ : ∃ x, L[k + 1]? = some x := ⟨_, List.getElem?_eq_getElem (by omega)⟩
            obtain ⟨k1, k2, -⟩ := HY.out.head hcr
            obtain ⟨k3, k4, -⟩ := HY.out.head hdr
            have hearly := fun h => HY.out.early hcr hdr h
            obtain ⟨g, o, B1, c1, rfl, hg, u0, u1⟩ := (HLS1.out _ hbr).at hcr
            obtain ⟨g', o', B2, c2, eg, -, u2, u3⟩ := (HLS1.out _ hbr).at hdr
            obtain ⟨rfl, rfl⟩ := addr_inj eg
            obtain ⟨b1, o1, rfl, hb1, z1⟩ := u1.at k1
            obtain ⟨b2, o2, rfl, hb2, z3⟩ := u3.at k3
            rw [Nat.add_zero] at z1 z3
            have hcl : 0 < cr.length := (List.getElem?_eq_some_iff.1 k1).1
            have hdl : 0 < dr.length := (List.getElem?_eq_some_iff.1 k3).1
            generalize Tj.key cr = x1 at *
            generalize Tj.key dr = x2 at *
            have e1 : ((cr.length : Int) == 0) = false := by rw [beq_eq_false_iff_ne]; omega
            have e2 : ((dr.length : Int) == 0) = false := by rw [beq_eq_false_iff_ne]; omega
            have j0 : (0 : Int) ≤ (k : Int) := by omega
            have j1 : (k : Int) < (L.length : Int) := by omega
            have j2 : (0 : Int) ≤ (k : Int) + 1 := by omega
            have j3 : (0 : Int) < (cr.length : Int) := by omega
            have j4 : (0 : Int) < (dr.length : Int) := by omega
            have j5 : (k : Int) + 1 < (L.length : Int) := by omega
            clear eg u1 u3 k1 k3 hcr hdr
            by_cases h3 : x2 < x1
            · have HDP := Lib.hid (hearly h3)
              have d3 : decide ((x2 : Int) < (x1 : Int)) = true := by simp; omega
              have d3' : decide (x2 < x1) = true := by simp; omega
              have jw : IntKind.i64.wrap ((k : Int) + 1) = (k : Int) + 1 := by rw [IntKind.wrap_i64]; omega
              have jt : ((k : Int) + 1).toNat = k + 1 := by omega
              clear hearly h3
              have HCX := Lib.hid (fun W (h : Below wr.heap.size wr W) => (⟨HATX1.out W (hbr.trans (h.mono hbr.size)), ⟨(h.cell hg).trans u0, (h.cell hb1).trans z1⟩, ⟨(h.cell hg).trans u2, (h.cell hb2).trans z3⟩⟩ : (_ ∧ _ ∧ _ ∧ _) ∧ (W.cell? ⟨g, o + k, none⟩ = _ ∧ W.cell? ⟨b1, o1, none⟩ = _) ∧ (W.cell? ⟨g, o + (k + 1), none⟩ = _ ∧ W.cell? ⟨b2, o2, none⟩ = _)))
              have HRE := Lib.hid (fun W (h : Below wr.heap.size wr W) => HRE1.out W (hbr.trans (h.mono hbr.size)) x2)
              obtain ⟨w3b, hw3b⟩ : ∃ w3b, w3b = wr := ⟨_, rfl⟩
              subst hw3b
              go_wp2_with fail
              refine' wp_region_each _ (Below w3b.heap.size w3b) (Onward) (Vl :: Vl :: Vl :: Vl :: Vl :: Vl :: Vl :: Vl :: Vl :: Vl :: Vl :: Vl :: Vl :: Vl :: Vl :: Vl :: Vl :: Vl :: Vl :: Vl :: Vl :: Vl :: Vl :: ReaV n x2 es :: Vl :: Vl :: Vl :: Vl :: Vl :: Vl :: ReaP n x2 x1 es :: Vl :: Vl :: Vl :: []) ?hF (by kernel_rfl) (by kernel_rfl) (by kernel_rfl) ((Below.refl _ _).drew) (lasting_cons (lasting_vl) (lasting_cons (lasting_vl) (lasting_cons (lasting_vl) (lasting_cons (lasting_vl) (lasting_cons (lasting_vl) (lasting_cons (lasting_vl) (lasting_cons (lasting_vl) (lasting_cons (lasting_vl) (lasting_cons (lasting_vl) (lasting_cons (lasting_vl) (lasting_cons (lasting_vl) (lasting_cons (lasting_vl) (lasting_cons (lasting_vl) (lasting_cons (lasting_vl) (lasting_cons (lasting_vl) (lasting_cons (lasting_vl) (lasting_cons (lasting_vl) (lasting_cons (lasting_vl) (lasting_cons (lasting_vl) (lasting_cons (lasting_vl) (lasting_cons (lasting_vl) (lasting_cons (lasting_vl) (lasting_cons (lasting_vl) (lasting_cons (reaV_on) (lasting_cons (lasting_vl) (lasting_cons (lasting_vl) (lasting_cons (lasting_vl) (lasting_cons (lasting_vl) (lasting_cons (lasting_vl) (lasting_cons (lasting_vl) (lasting_cons (reaP_on) (lasting_cons (lasting_vl) (lasting_cons (lasting_vl) (lasting_cons (lasting_vl) (lasting_none))))))))))))))))))))))))))))))))))) ?hops ?hend
              case hF => (intro v; simp only [over, Act.put, List.setIfInBounds_toArray, List.set_cons_zero, List.set_cons_succ, Nat.zero_add, Nat.reduceAdd]; exact rfl)
              case hops =>
                refine ⟨?_, ?_⟩
                · intro v w' hj hd hs K hK
                  have hk := hK.out
                  simp only [Act.put, List.setIfInBounds_toArray, List.set_cons_zero, List.set_cons_succ] at hk
                  have HK := Lib.hid hk
                  clear hd hs hk hK
                  go_simp
                  exact HK.out _ _ hj.out (Below.refl _ _) (show _ = _ from rfl)
                refine ⟨?_, ?_⟩
                · intro v w' hj hd hs K hK
                  have hk := hK.out
                  simp only [Act.put, List.setIfInBounds_toArray, List.set_cons_zero, List.set_cons_succ] at hk
                  have HK := Lib.hid hk
                  clear hd hs hk hK
                  go_simp
                  exact HK.out _ _ hj.out (Below.refl _ _) (show _ = _ from rfl)
                refine ⟨?_, ?_⟩
                · intro v w' hj hd hs K hK
                  have t1 : v 1 = _ := hd.out 1 (by kernel_rfl)
                  have hk := hK.out
                  simp only [t1, Act.put, List.setIfInBounds_toArray, List.set_cons_zero, List.set_cons_succ] at hk
                  have HK := Lib.hid hk
                  clear hd hs hk hK
                  go_simp
                  exact HK.out _ _ hj.out (Below.refl _ _) (show _ = _ from rfl)
                refine ⟨?_, ?_⟩
                · intro v w' hj hd hs K hK
                  have t0 : v 0 = _ := hd.out 0 (by kernel_rfl)
                  have t2 : v 2 = _ := hd.out 2 (by kernel_rfl)
                  have hk := hK.out
                  simp only [t0, t2, Act.put, List.setIfInBounds_toArray, List.set_cons_zero, List.set_cons_succ] at hk
                  have HK := Lib.hid hk
                  clear hd hs hk hK
                  go_simp
                  exact HK.out _ _ hj.out (Below.refl _ _) (show _ = _ from rfl)
                refine ⟨?_, ?_⟩
                · intro v w' hj hd hs K hK
                  have t3 : v 3 = _ := hd.out 3 (by kernel_rfl)
                  obtain ⟨⟨p0, p1, p2, p3⟩, ⟨z0, z1⟩, ⟨z2, z3⟩⟩ := HCX.out _ hj.out
                  have hk := hK.out
                  simp only [t3, Act.put, List.setIfInBounds_toArray, List.set_cons_zero, List.set_cons_succ] at hk
                  have HK := Lib.hid hk
                  clear hd hs hk hK
                  go_simp
                  exact HK.out _ _ hj.out (Below.refl _ _) (show _ = _ from rfl)
                refine ⟨?_, ?_⟩
                · intro v w' hj hd hs K hK
                  have t4 : v 4 = _ := hd.out 4 (by kernel_rfl)
                  have hk := hK.out
                  simp only [t4, Act.put, List.setIfInBounds_toArray, List.set_cons_zero, List.set_cons_succ] at hk
                  have HK := Lib.hid hk
                  clear hd hs hk hK
                  go_simp
                  exact HK.out _ _ hj.out (Below.refl _ _) (show _ = _ from rfl)
                refine ⟨?_, ?_⟩
                · intro v w' hj hd hs K hK
                  have t5 : v 5 = _ := hd.out 5 (by kernel_rfl)
                  obtain ⟨⟨p0, p1, p2, p3⟩, ⟨z0, z1⟩, ⟨z2, z3⟩⟩ := HCX.out _ hj.out
                  have hk := hK.out
                  simp only [t5, Act.put, List.setIfInBounds_toArray, List.set_cons_zero, List.set_cons_succ] at hk
                  have HK := Lib.hid hk
                  clear hd hs hk hK
                  go_simp
                  exact HK.out _ _ hj.out (Below.refl _ _) (show _ = _ from rfl)
                refine ⟨?_, ?_⟩
                · intro v w' hj hd hs K hK
                  have hk := hK.out
                  simp only [Act.put, List.setIfInBounds_toArray, List.set_cons_zero, List.set_cons_succ] at hk
                  have HK := Lib.hid hk
                  clear hd hs hk hK
                  go_simp
                  exact HK.out _ _ hj.out (Below.refl _ _) (show _ = _ from rfl)
                refine ⟨?_, ?_⟩
                · intro v w' hj hd hs K hK
                  have hk := hK.out
                  simp only [Act.put, List.setIfInBounds_toArray, List.set_cons_zero, List.set_cons_succ] at hk
                  have HK := Lib.hid hk
                  clear hd hs hk hK
                  go_simp
                  exact HK.out _ _ hj.out (Below.refl _ _) (show _ = _ from rfl)
                refine ⟨?_, ?_⟩
                · intro v w' hj hd hs K hK
                  have t7 : v 7 = _ := hd.out 7 (by kernel_rfl)
                  have t8 : v 8 = _ := hd.out 8 (by kernel_rfl)
                  have hk := hK.out
                  simp only [t7, t8, Act.put, List.setIfInBounds_toArray, List.set_cons_zero, List.set_cons_succ] at hk
                  have HK := Lib.hid hk
                  clear hd hs hk hK
                  go_simp
                  exact HK.out _ _ hj.out (Below.refl _ _) (show _ = _ from rfl)
                refine ⟨?_, ?_⟩
                · intro v w' hj hd hs K hK
                  have t9 : v 9 = _ := hd.out 9 (by kernel_rfl)
                  obtain ⟨⟨p0, p1, p2, p3⟩, ⟨z0, z1⟩, ⟨z2, z3⟩⟩ := HCX.out _ hj.out
                  have hk := hK.out
                  simp only [t9, Act.put, List.setIfInBounds_toArray, List.set_cons_zero, List.set_cons_succ] at hk
                  have HK := Lib.hid hk
                  clear hd hs hk hK
                  go_simp
                  exact HK.out _ _ hj.out (Below.refl _ _) (show _ = _ from rfl)
                refine ⟨?_, ?_⟩
                · intro v w' hj hd hs K hK
                  have t10 : v 10 = _ := hd.out 10 (by kernel_rfl)
                  have hk := hK.out
                  simp only [t10, Act.put, List.setIfInBounds_toArray, List.set_cons_zero, List.set_cons_succ] at hk
                  have HK := Lib.hid hk
                  clear hd hs hk hK
                  go_simp
                  exact HK.out _ _ hj.out (Below.refl _ _) (show _ = _ from rfl)
                refine ⟨?_, ?_⟩
                · intro v w' hj hd hs K hK
                  have t11 : v 11 = _ := hd.out 11 (by kernel_rfl)
                  obtain ⟨⟨p0, p1, p2, p3⟩, ⟨z0, z1⟩, ⟨z2, z3⟩⟩ := HCX.out _ hj.out
                  have hk := hK.out
                  simp only [t11, Act.put, List.setIfInBounds_toArray, List.set_cons_zero, List.set_cons_succ] at hk
                  have HK := Lib.hid hk
                  clear hd hs hk hK
                  go_simp
                  exact HK.out _ _ hj.out (Below.refl _ _) (show _ = _ from rfl)
                refine ⟨?_, ?_⟩
                · intro v w' hj hd hs K hK
                  have t6 : v 6 = _ := hd.out 6 (by kernel_rfl)
                  have t12 : v 12 = _ := hd.out 12 (by kernel_rfl)
                  have hk := hK.out
                  simp only [t6, t12, Act.put, List.setIfInBounds_toArray, List.set_cons_zero, List.set_cons_succ] at hk
                  have HK := Lib.hid hk
                  clear hd hs hk hK
                  go_simp
                  exact HK.out _ _ hj.out (Below.refl _ _) (show _ = _ from rfl)
                refine ⟨?_, ?_⟩
                · intro v w' hj hd hs K hK
                  have t13 : v 13 = _ := hd.out 13 (by kernel_rfl)
                  have hk := hK.out
                  simp only [t13, Act.put, List.setIfInBounds_toArray, List.set_cons_zero, List.set_cons_succ] at hk
                  have HK := Lib.hid hk
                  clear hd hs hk hK
                  go_simp
                  exact HK.out _ _ hj.out (Below.refl _ _) (show _ = _ from rfl)
                refine ⟨?_, ?_⟩
                · intro v w' hj hd hs K hK
                  have t14 : v 14 = _ := hd.out 14 (by kernel_rfl)
                  obtain ⟨⟨p0, p1, p2, p3⟩, ⟨z0, z1⟩, ⟨z2, z3⟩⟩ := HCX.out _ hj.out
                  have hk := hK.out
                  simp only [t14, Act.put, List.setIfInBounds_toArray, List.set_cons_zero, List.set_cons_succ] at hk
                  have HK := Lib.hid hk
                  clear hd hs hk hK
                  go_simp
                  exact HK.out _ _ hj.out (Below.refl _ _) (show _ = _ from rfl)
                refine ⟨?_, ?_⟩
                · intro v w' hj hd hs K hK
                  have t14 : v 14 = _ := hd.out 14 (by kernel_rfl)
                  have hk := hK.out
                  simp only [t14, Act.put, List.setIfInBounds_toArray, List.set_cons_zero, List.set_cons_succ] at hk
                  have HK := Lib.hid hk
                  clear hd hs hk hK
                  go_simp
                  exact HK.out _ _ hj.out (Below.refl _ _) (show _ = _ from rfl)
                refine ⟨?_, ?_⟩
                · intro v w' hj hd hs K hK
                  have t14 : v 14 = _ := hd.out 14 (by kernel_rfl)
                  have hk := hK.out
                  simp only [t14, Act.put, List.setIfInBounds_toArray, List.set_cons_zero, List.set_cons_succ] at hk
                  have HK := Lib.hid hk
                  clear hd hs hk hK
                  go_simp
                  exact HK.out _ _ hj.out (Below.refl _ _) (show _ = _ from rfl)
                refine ⟨?_, ?_⟩
                · intro v w' hj hd hs K hK
                  have t14 : v 14 = _ := hd.out 14 (by kernel_rfl)
                  have t17 : v 17 = _ := hd.out 17 (by kernel_rfl)
                  have hk := hK.out
                  simp only [t14, t17, Act.put, List.setIfInBounds_toArray, List.set_cons_zero, List.set_cons_succ] at hk
                  have HK := Lib.hid hk
                  clear hd hs hk hK
                  go_simp
                  exact HK.out _ _ hj.out (Below.refl _ _) (show _ = _ from rfl)
                refine ⟨?_, ?_⟩
                · intro v w' hj hd hs K hK
                  have t14 : v 14 = _ := hd.out 14 (by kernel_rfl)
                  have t16 : v 16 = _ := hd.out 16 (by kernel_rfl)
                  have t18 : v 18 = _ := hd.out 18 (by kernel_rfl)
                  have hk := hK.out
                  simp only [t14, t16, t18, Act.put, List.setIfInBounds_toArray, List.set_cons_zero, List.set_cons_succ] at hk
                  have HK := Lib.hid hk
                  clear hd hs hk hK
                  go_simp
                  exact HK.out _ _ hj.out (Below.refl _ _) (show _ = _ from rfl)
                refine ⟨?_, ?_⟩
                · intro v w' hj hd hs K hK
                  have t14 : v 14 = _ := hd.out 14 (by kernel_rfl)
                  have t19 : v 19 = _ := hd.out 19 (by kernel_rfl)
                  obtain ⟨⟨p0, p1, p2, p3⟩, ⟨z0, z1⟩, ⟨z2, z3⟩⟩ := HCX.out _ hj.out
                  have hk := hK.out
                  simp only [t14, t19, Act.put, List.setIfInBounds_toArray, List.set_cons_zero, List.set_cons_succ] at hk
                  have HK := Lib.hid hk
                  clear hd hs hk hK
                  go_simp
                  exact HK.out _ _ hj.out (Below.refl _ _) (show _ = _ from rfl)
                refine ⟨?_, ?_⟩
                · intro v w' hj hd hs K hK
                  have t14 : v 14 = _ := hd.out 14 (by kernel_rfl)
                  have t20 : v 20 = _ := hd.out 20 (by kernel_rfl)
                  have hk := hK.out
                  simp only [t14, t20, Act.put, List.setIfInBounds_toArray, List.set_cons_zero, List.set_cons_succ] at hk
                  have HK := Lib.hid hk
                  clear hd hs hk hK
                  go_simp
                  exact HK.out _ _ hj.out (Below.refl _ _) (show _ = _ from rfl)
                refine ⟨?_, ?_⟩
                · intro v w' hj hd hs K hK
                  have t14 : v 14 = _ := hd.out 14 (by kernel_rfl)
                  have t21 : v 21 = _ := hd.out 21 (by kernel_rfl)
                  obtain ⟨⟨p0, p1, p2, p3⟩, ⟨z0, z1⟩, ⟨z2, z3⟩⟩ := HCX.out _ hj.out
                  have hk := hK.out
                  simp only [t14, t21, Act.put, List.setIfInBounds_toArray, List.set_cons_zero, List.set_cons_succ] at hk
                  have HK := Lib.hid hk
                  clear hd hs hk hK
                  go_simp
                  exact HK.out _ _ hj.out (Below.refl _ _) (show _ = _ from rfl)
                refine ⟨?_, ?_⟩
                · intro v w' hj hd hs K hK
                  have t14 : v 14 = _ := hd.out 14 (by kernel_rfl)
                  have t15 : v 15 = _ := hd.out 15 (by kernel_rfl)
                  have t22 : v 22 = _ := hd.out 22 (by kernel_rfl)
                  have hk := hK.out
                  simp only [t14, t15, t22, Act.put, List.setIfInBounds_toArray, List.set_cons_zero, List.set_cons_succ] at hk
                  have HK := Lib.hid hk
                  clear hd hs hk hK
                  go_simp
                  refine (HRE.out w' hj.out).mono ?_
                  rintro e w5 ⟨g, m, rfl, h1, h2, h3, hb⟩
                  exact HK.out _ _ (hj.out.trans (hb.mono hj.out.size)) hb ⟨g, m, rfl, h1, h2, h3⟩
                refine ⟨?_, ?_⟩
                · intro v w' hj hd hs K hK
                  have t14 : v 14 = _ := hd.out 14 (by kernel_rfl)
                  have hk := hK.out
                  simp only [t14, Act.put, List.setIfInBounds_toArray, List.set_cons_zero, List.set_cons_succ] at hk
                  have HK := Lib.hid hk
                  clear hd hs hk hK
                  go_simp
                  exact HK.out _ _ hj.out (Below.refl _ _) (show _ = _ from rfl)
                refine ⟨?_, ?_⟩
                · intro v w' hj hd hs K hK
                  have t14 : v 14 = _ := hd.out 14 (by kernel_rfl)
                  have hk := hK.out
                  simp only [t14, Act.put, List.setIfInBounds_toArray, List.set_cons_zero, List.set_cons_succ] at hk
                  have HK := Lib.hid hk
                  clear hd hs hk hK
                  go_simp
                  exact HK.out _ _ hj.out (Below.refl _ _) (show _ = _ from rfl)
                refine ⟨?_, ?_⟩
                · intro v w' hj hd hs K hK
                  have t14 : v 14 = _ := hd.out 14 (by kernel_rfl)
                  have t24 : v 24 = _ := hd.out 24 (by kernel_rfl)
                  have t25 : v 25 = _ := hd.out 25 (by kernel_rfl)
                  have hk := hK.out
                  simp only [t14, t24, t25, Act.put, List.setIfInBounds_toArray, List.set_cons_zero, List.set_cons_succ] at hk
                  have HK := Lib.hid hk
                  clear hd hs hk hK
                  go_simp
                  exact HK.out _ _ hj.out (Below.refl _ _) (show _ = _ from rfl)
                refine ⟨?_, ?_⟩
                · intro v w' hj hd hs K hK
                  have t14 : v 14 = _ := hd.out 14 (by kernel_rfl)
                  have t26 : v 26 = _ := hd.out 26 (by kernel_rfl)
                  obtain ⟨⟨p0, p1, p2, p3⟩, ⟨z0, z1⟩, ⟨z2, z3⟩⟩ := HCX.out _ hj.out
                  have hk := hK.out
                  simp only [t14, t26, Act.put, List.setIfInBounds_toArray, List.set_cons_zero, List.set_cons_succ] at hk
                  have HK := Lib.hid hk
                  clear hd hs hk hK
                  go_simp
                  exact HK.out _ _ hj.out (Below.refl _ _) (show _ = _ from rfl)
                refine ⟨?_, ?_⟩
                · intro v w' hj hd hs K hK
                  have t14 : v 14 = _ := hd.out 14 (by kernel_rfl)
                  have t27 : v 27 = _ := hd.out 27 (by kernel_rfl)
                  have hk := hK.out
                  simp only [t14, t27, Act.put, List.setIfInBounds_toArray, List.set_cons_zero, List.set_cons_succ] at hk
                  have HK := Lib.hid hk
                  clear hd hs hk hK
                  go_simp
                  exact HK.out _ _ hj.out (Below.refl _ _) (show _ = _ from rfl)
                refine ⟨?_, ?_⟩
                · intro v w' hj hd hs K hK
                  have t14 : v 14 = _ := hd.out 14 (by kernel_rfl)
                  have t28 : v 28 = _ := hd.out 28 (by kernel_rfl)
                  obtain ⟨⟨p0, p1, p2, p3⟩, ⟨z0, z1⟩, ⟨z2, z3⟩⟩ := HCX.out _ hj.out
                  have hk := hK.out
                  simp only [t14, t28, Act.put, List.setIfInBounds_toArray, List.set_cons_zero, List.set_cons_succ] at hk
                  have HK := Lib.hid hk
                  clear hd hs hk hK
                  go_simp
                  exact HK.out _ _ hj.out (Below.refl _ _) (show _ = _ from rfl)
                refine ⟨?_, ?_⟩
                · intro v w' hj hd hs K hK
                  have t14 : v 14 = _ := hd.out 14 (by kernel_rfl)
                  obtain ⟨gr, mr, t23, hr1, hr2, hr3⟩ := hd.out 23 (by kernel_rfl)
                  have t29 : v 29 = _ := hd.out 29 (by kernel_rfl)
                  have i0 : (0 : Int) ≤ (x1 : Int) := by omega
                  have i1 : (x1 : Int) < (n : Int) := by omega
                  have hk := hK.out
                  simp only [t14, t23, t29, Act.put, List.setIfInBounds_toArray, List.set_cons_zero, List.set_cons_succ] at hk
                  have HK := Lib.hid hk
                  clear hd hs hk hK
                  go_simp
                  exact HK.out _ _ hj.out (Below.refl _ _) ⟨gr, mr, rfl, hr1, hr2, hr3⟩
                refine ⟨?_, ?_⟩
                · intro v w' hj hd hs K hK
                  have t14 : v 14 = _ := hd.out 14 (by kernel_rfl)
                  obtain ⟨gr, mr, t30, hr1, hr2, hr3⟩ := hd.out 30 (by kernel_rfl)
                  have y0 := bcell hr2 (j := x1) (by omega)
                  rw [(hr3 x1).2 HDP.out] at y0
                  have hk := hK.out
                  simp only [t14, t30, Act.put, List.setIfInBounds_toArray, List.set_cons_zero, List.set_cons_succ] at hk
                  have HK := Lib.hid hk
                  clear hd hs hk hK
                  go_simp
                  exact HK.out _ _ hj.out (Below.refl _ _) (show _ = _ from rfl)
                refine ⟨?_, ?_⟩
                · intro v w' hj hd hs K hK
                  have t14 : v 14 = _ := hd.out 14 (by kernel_rfl)
                  have t31 : v 31 = _ := hd.out 31 (by kernel_rfl)
                  have hk := hK.out
                  simp only [t14, t31, Act.put, List.setIfInBounds_toArray, List.set_cons_zero, List.set_cons_succ] at hk
                  have HK := Lib.hid hk
                  clear hd hs hk hK
                  go_simp
                  exact HK.out _ _ hj.out (Below.refl _ _) (show _ = _ from rfl)
                refine ⟨?_, ?_⟩
                · intro v w' hj hd hs K hK
                  have t14 : v 14 = _ := hd.out 14 (by kernel_rfl)
                  have t32 : v 32 = _ := hd.out 32 (by kernel_rfl)
                  have hk := hK.out
                  simp only [t14, t32, Act.put, List.setIfInBounds_toArray, List.set_cons_zero, List.set_cons_succ] at hk
                  have HK := Lib.hid hk
                  clear hd hs hk hK
                  go_simp
                  exact HK.out _ _ hj.out (Below.refl _ _) (show _ = _ from rfl)
                trivial
              case hend =>
                intro v w7 hj hd
                have t33 : v 33 = _ := hd.out 33 (of_decide_eq_true (by kernel_rfl))
                simp only [t33]
                have hb7 := hbr.trans (hj.out.mono hbr.size)
                clear hj hd t33
                go_wp2_with fail
                go_roundw
                case rel => exact ⟨k + 1, by omega, by go_num, hb7⟩
                case measure => simp [intOf]; omega
            · have d3 : decide ((x2 : Int) < (x1 : Int)) = false := by simp; omega
              have d3' : decide (x2 < x1) = false := by simp; omega
              have f0 : ∀ z : Held wr.heap.size wr, z.w.cell? ⟨g, o + k, none⟩ = some (.slice (some ⟨b1, o1, none⟩) cr.length c1) := fun z => z.cell hg u0
              have f1 : ∀ z : Held wr.heap.size wr, z.w.cell? ⟨b1, o1, none⟩ = some (.int .i64 (x1 : Int)) := fun z => z.cell hb1 z1
              have f2 : ∀ z : Held wr.heap.size wr, z.w.cell? ⟨g, o + (k + 1), none⟩ = some (.slice (some ⟨b2, o2, none⟩) dr.length c2) := fun z => z.cell hg u2
              have f3 : ∀ z : Held wr.heap.size wr, z.w.cell? ⟨b2, o2, none⟩ = some (.int .i64 (x2 : Int)) := fun z => z.cell hb2 z3
              clear hearly h3
              go_wp2_with fail
              refine wp_region_held wr.heap.size wr (Below.refl _ _) (by kernel_rfl) (by kernel_rfl) ?_
              repeat (go_big_quiet_step (fail))
              refine wpQuiet_nil ?_
              rintro wt ⟨⟨_, bt⟩, rfl⟩
              have hbt := hbr.trans (bt.mono hbr.size)
              go_wp2_with fail
              go_roundw
              case rel => exact ⟨k + 1, by omega, by go_num, hbt⟩
              case measure => simp [intOf]; omega
          · have d2 : decide ((k : Int) + 1 < (L.length : Int)) = false := by simp; omega
            go_wp2_with fail
            go_ret
            exact ⟨rfl, HB3.out.trans (hbr.mono HB3.out.size)⟩
end Go.Proofs.Ytljlihimmcmlmaa
