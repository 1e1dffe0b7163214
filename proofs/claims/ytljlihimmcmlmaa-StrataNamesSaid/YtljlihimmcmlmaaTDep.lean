/- The walk of Depends. -/
import Derived.Test.YtljlihimmcmlmaaTMxo
import Derived.Test.YtljlihimmcmlmaaTREdges
import Derived.Test.YtljlihimmcmlmaaMake
import Derived.Test.YtljlihimmcmlmaaInv5
import Derived.StillTailTactics
import Derived.Outline
namespace Go.Proofs.Ytljlihimmcmlmaa
set_option linter.unusedVariables false
set_option linter.unusedSimpArgs false
open Go.RowKit
theorem rows_info : (Try.prog.info? 72).map (fun i => (i.zero, i.size, i.bytes)) = some (some (.slice none 0 0), 1, 24) := by kernel_rfl
theorem row_info : (Try.prog.info? 31).map (fun i => (i.zero, i.size, i.bytes)) = some (some (.slice none 0 0), 1, 24) := by kernel_rfl
theorem ecells_get : ∀ (es : List Tj.Ed) (m : Nat) (e : Tj.Ed), es[m]? = some e → (ecells es)[m * 2]? = some (.int .i64 (e.a : Int)) ∧ (ecells es)[m * 2 + 1]? = some (.int .i64 (e.b : Int))
  | [], m, e, h => by simp at h
  | x :: es, 0, e, h => by simp at h; subst h; simp [ecells]
  | x :: es, m + 1, e, h => by
    have := ecells_get es m e (by simpa using h)
    unfold ecells at this ⊢
    rw [List.flatMap_cons, show (m + 1) * 2 = m * 2 + 1 + 1 by omega]
    simpa using this
set_option maxHeartbeats 1000000 in
set_option maxRecDepth 100000 in
theorem depends_any (p : Pg) (n : Nat) (w : World) (hp : PgOk w p) (hn : p.prs.length = n) (hn1 : n ≤ 1000) (hr : p.rus.length ≤ 1000) (hb : ∀ r ∈ p.rus, r.lits.length ≤ 1000) (hel : (edges p).length ≤ 1000000) (hes : ∀ e ∈ edges p, e.a < n ∧ e.b < n) :
    Calls Try.prog 36 #[p.v] w fun e w' => ∃ A c, e = .returned (.slice A n c) ∧ MxAt w' A (Tj.depends n (edges p)) ∧ Below w.heap.size w w' := by
  have HE := Lib.hid (fun W (h : Below w.heap.size w W) => redges_any p W (hp.below h) hr hb)
  have HES := Lib.hid hes
  unfold Pg.v at HE ⊢
  clear hes hr hb hp
  generalize p.ra = ra at *
  generalize p.pa = pa at *
  rw [hn] at HE ⊢
  go_enter Try.func36, Try.ntmps36
  go_wp2_with fail
  go_loopw [4, 5] (fun v i wr => ∃ (k : Nat) (bs : List Nat), k ≤ n ∧ i = .int .i64 k ∧ MxOwn wr (w.heap.size + 1) v n bs (List.replicate k (List.replicate n false)) ∧ Below w.heap.size w wr ∧ At wr w.heap.size 27 #[.slice p.lat.a p.lat.n p.lat.c, .slice p.fns.a p.fns.n p.fns.c, .slice pa n p.pc, .slice ra p.rus.length p.rc]) (fun _ i _ => n - (intOf i).toNat)
  case atStart =>
    refine ⟨0, [], by omega, rfl, ⟨?_, rfl, by simp, by simp, by simp⟩, (below1 _ _).alloc (by simp) _, (At.new _ _ _).alloc _⟩
    have h := own_empty (w.alloc (.cells #[.slice p.lat.a p.lat.n p.lat.c, .slice p.fns.a p.fns.n p.fns.c, .slice pa n p.pc, .slice ra p.rus.length p.rc] 27)) 31 1 (w.heap.size + 1) (by simp)
    simpa using h
  case round =>
    obtain ⟨k, bs, hk, rfl, hm, hbw, ha⟩ := hrel
    obtain ⟨p0, p1, p2, p3⟩ := pg_cells ha
    by_cases h1 : k < n
    · have d1 : decide ((k : Int) < (n : Int)) = true := by simp; omega
      obtain ⟨va, vc, rfl⟩ := own_len hm.own
      obtain ⟨i0, hi0, hz0, hz1, hz2⟩ := info_of bool_info
      obtain ⟨i1, hi1, hy0, hy1, hy2⟩ := info_of row_info
      have q0 := run_make_one wr Try.underlying31 hi0 hz0 hz1 (by rw [hz2]; decide) rfl n (by omega)
      have hsz := ha.lt
      go_wp2_with (at_builtin; refine wpList_append_own _ rfl _ _ 72 rfl (w.heap.size + 1) 31 i1 (.slice none 0 0) 1 24 Try.underlying72 hi1 hy0 hy1 hy2 rfl (by decide) _ _ _ rfl ((hm.own.alloc _).alloc _) ⟨wr.heap.size + 1, 0, none⟩ 1 1 [hdr n wr.heap.size] rfl rfl ?c1 ?c2 ?c3 ?c4 ?c5 ?_)
      case c1 => exact At.news (xs := [hdr n wr.heap.size]) (At.newAt (by simp) _ _)
      case c2 => exact one1 rfl
      case c3 => simp [maxLen]; omega
      case c4 => simp; omega
      case c5 => simp; omega
      intro v2 w2 o2 g2 _
      have hm2 := (hm.below (below1 _ (.cells (Array.replicate n (.bool false)) 4))).below (below1 _ (.cells #[.slice (some ⟨wr.heap.size, 0, none⟩) n n] 31))
      have hat : At ((wr.alloc (.cells (Array.replicate n (.bool false)) 4)).alloc (.cells #[.slice (some ⟨wr.heap.size, 0, none⟩) n n] 31)) wr.heap.size 4 ((List.replicate n false).map Value.bool).toArray := by
        have h := (At.new wr 4 (Array.replicate n (.bool false))).alloc (.cells #[.slice (some ⟨wr.heap.size, 0, none⟩) n n] 31)
        simpa using h
      have hnew : wr.heap.size ∉ bs := fun hbm => by
        obtain ⟨a, ha2⟩ := List.getElem?_of_mem hbm
        have := (hm.row ha2).1; omega
      have hlk : (List.replicate k (List.replicate n false)).length = k := by simp
      have g3 := g2
      rw [← hlk] at g3
      clear hlk
      have hm3 := hm2.snoc (row := List.replicate n false) (by simp) hat (by omega) hnew (by simpa using o2) g3
      rw [← List.replicate_succ'] at hm3
      have hb3 : Below w.heap.size w w2 := ((hbw.alloc hbw.size _).alloc (by simp; omega) _).grown g3 (by simp; omega) (fun q hq => by have := (own_lt hm.own hq).1; omega)
      have ha3 := ((ha.alloc _).alloc _).grown g3 (own_far hm2.own ((ha.alloc _).alloc _) (by decide))
      have HM3 := Lib.hid hm3
      clear hm hm2 hm3 hat o2 g2 g3 q0 p0 p1 p2 p3 ha hbw hsz
      go_wp2_with fail
      go_roundw
      case rel => exact ⟨k + 1, bs ++ [wr.heap.size], by omega, by go_num, HM3.out, hb3, ha3⟩
      case measure => simp [intOf]; omega
    · have d1 : decide ((k : Int) < (n : Int)) = false := by simp; omega
      obtain rfl : k = n := by omega
      go_wp2_with (go_at_call 13; refine (HE.out _ hbw).mono ?_; rintro e w2 ⟨ev, eu, rfl, o1, o2, hb2⟩)
      have hm2 := hm.below hb2
      have hbw2 := hbw.trans (hb2.mono hbw.size)
      have hsz := ha.lt
      clear hm hb2 hbw ha p0 p1 p2 p3 HE h1 hk d1
      generalize hEE : edges p = es at *
      have HEE := Lib.hid hEE
      clear hEE
      obtain ⟨ea, ec, rfl⟩ := own_len o1
      obtain ⟨ga, gc, rfl⟩ := own_len hm2.own
      rw [List.length_replicate] at *
      go_loopw [8] (fun i wr => ∃ (m : Nat) (M : Tj.Mx), m ≤ es.length ∧ i = .int .i64 m ∧ Hid (M = (es.take m).foldl (fun M e => Tj.mset M e.a e.b true) (Tj.mzero k)) ∧ Tj.Sq k M ∧ MxOwn wr (w.heap.size + 1) (.slice ga k gc) k bs M ∧ wr.ownsRow (w.heap.size + 1) 34 2 (.slice ea es.length ec) es.length (ecells es) ∧ Below w.heap.size w wr) (fun i _ => es.length - (intOf i).toNat)
      case atStart => exact ⟨0, _, by omega, rfl, Lib.hid (by rw [List.take_zero]; rfl), Tj.sq_zero k, hm2, own_mono o1 (by omega), hbw2⟩
      case round =>
        clear hm2 o1 hbw2 o2
        obtain ⟨m, M, hm, rfl, HM, hsq, hmo, hes, hbw⟩ := hrel
        by_cases h2 : m < es.length
        · have d2 : decide ((m : Int) < (es.length : Int)) = true := by simp; omega
          obtain ⟨e, he⟩ : ∃ e, es[m]? = some e := ⟨_, List.getElem?_eq_getElem h2⟩
          obtain ⟨hea, heb⟩ := HES.out e (List.mem_of_getElem? he)
          obtain ⟨x0, x1⟩ := ecells_get es m e he
          obtain ⟨A2, c2, ev2, _, _, hcs⟩ := own_cells hes
          rcases hcs with hcs | ⟨ge, rfl, _, hge, hcs⟩
          · exact absurd hcs (by omega)
          injection ev2 with ev3 _ ev4
          subst ev3
          clear ev4
          obtain ⟨g, c3, ev5, _, hg, hrow⟩ := hmo.at (by intro h; have := hsq.rows; rw [h] at this; simp at this; omega)
          injection ev5 with ev6 ev7 ev8
          subst ev6
          clear ev7 ev8
          have hbl : e.a < bs.length := by rw [hmo.len, hsq.rows]; exact hea
          obtain ⟨b, hb⟩ : ∃ b, bs[e.a]? = some b := ⟨_, List.getElem?_eq_getElem hbl⟩
          have y0 := hcs _ _ x0
          have y1 := hcs _ _ x1
          have y2 := hrow _ _ hb
          unfold hdr at y2
          obtain ⟨hbb, hcell⟩ := hmo.row hb
          have y3 := hcell e.b heb
          have i0 : (0 : Int) ≤ (m : Int) := by omega
          have i1 : (m : Int) < (es.length : Int) := by omega
          have i2 : (0 : Int) ≤ (e.a : Int) := by omega
          have i3 : (e.a : Int) < (k : Int) := by omega
          have i4 : (0 : Int) ≤ (e.b : Int) := by omega
          have i5 : (e.b : Int) < (k : Int) := by omega
          have yf : wr.frozen? ⟨b, e.b, none⟩ = false := by
            have hM : M[e.a]? = some (M.getD e.a []) := by rw [List.getD_eq_getElem?_getD, List.getElem?_eq_getElem (by rw [hsq.rows]; exact hea)]; rfl
            exact (hmo.rows _ _ _ hb hM).2.frozen _
          clear hcs hrow hcell x0 x1
          go_wp2_with fail
          have hmo2 := hmo.put hb e.b true
          have hes2 := own_putne (p := ⟨b, e.b, none⟩) hes (by
            have hM : M[e.a]? = some (M.getD e.a []) := by rw [List.getD_eq_getElem?_getD, List.getElem?_eq_getElem (by rw [hsq.rows]; exact hea)]; rfl
            exact own_far hes (hmo.rows _ _ _ hb hM).2 (by decide)) (.bool true)
          have hbw3 := hbw.setCell (p := ⟨b, e.b, none⟩) (by have := hmo.low b (List.mem_of_getElem? hb); simp; omega) (.bool true)
          go_still_tail 14, (by kernel_rfl)
          change wpList _ _ _ _ _ wr.drew
          go_wp2_with fail
          go_roundw
          case rel => exact ⟨m + 1, _, by omega, by go_num, Lib.hid (by rw [take_more he, List.foldl_append, ← HM.out]; rfl), hsq.set hea true, hmo2.drew, hes2, hbw3.drew⟩
          case measure => simp [intOf]; omega
        · have d2 : decide ((m : Int) < (es.length : Int)) = false := by simp; omega
          have HM2 := Lib.hid (show M = Tj.medges k es by rw [HM.out, List.take_of_length_le (by omega)]; rfl)
          clear HM hes HES hm
          go_wp2_with fail
          go_loopw [9, 10, 11] (fun q _ _ wr => ∃ (c : Nat) (M : Tj.Mx), c ≤ k ∧ q = .int .i64 c ∧ Hid (M = (List.range c).foldl (Tj.wk k) (Tj.medges k es)) ∧ Tj.Sq k M ∧ MxOwn wr (w.heap.size + 1) (.slice ga k gc) k bs M ∧ Below w.heap.size w wr) (fun q _ _ _ => k - (intOf q).toNat)
          case atStart => exact ⟨0, M, by omega, rfl, Lib.hid (by rw [HM2.out]; rfl), hsq, hmo, hbw⟩
          case round =>
            clear HM2 hsq hmo hbw
            obtain ⟨c, M, hc, rfl, HM, hsq, hmo, hbw⟩ := hrel
            by_cases h3 : c < k
            · have d3 : decide ((c : Int) < (k : Int)) = true := by simp; omega
              go_wp2_with fail
              go_loopw [10, 11] (fun q _ wr => ∃ (a : Nat) (M2 : Tj.Mx), a ≤ k ∧ q = .int .i64 a ∧ Hid (M2 = (List.range a).foldl (Tj.wa k c) M) ∧ Tj.Sq k M2 ∧ MxOwn wr (w.heap.size + 1) (.slice ga k gc) k bs M2 ∧ Below w.heap.size w wr) (fun q _ _ => k - (intOf q).toNat)
              case atStart => exact ⟨0, M, by omega, rfl, Lib.hid rfl, hsq, hmo, hbw⟩
              case round =>
                clear hsq hmo hbw d3
                obtain ⟨a, M2, ha, rfl, HM2, hsq, hmo, hbw⟩ := hrel
                by_cases h4 : a < k
                · have d4 : decide ((a : Int) < (k : Int)) = true := by simp; omega
                  go_wp2_with fail
                  go_loopw [11] (fun q wr => ∃ (b : Nat) (M3 : Tj.Mx), b ≤ k ∧ q = .int .i64 b ∧ Hid (M3 = (List.range b).foldl (Tj.wb c a) M2) ∧ Tj.Sq k M3 ∧ MxOwn wr (w.heap.size + 1) (.slice ga k gc) k bs M3 ∧ Below w.heap.size w wr) (fun q _ => k - (intOf q).toNat)
                  case atStart => exact ⟨0, M2, by omega, rfl, Lib.hid rfl, hsq, hmo, hbw⟩
                  case round =>
                    clear hsq hmo hbw d4
                    obtain ⟨b, M3, hb, rfl, HM3, hsq, hmo, hbw⟩ := hrel
                    by_cases h5 : b < k
                    · have d5 : decide ((b : Int) < (k : Int)) = true := by simp; omega
                      obtain ⟨g, c3, ev5, _, hg, hrow⟩ := hmo.at (by intro h; have := hsq.rows; rw [h] at this; simp at this; omega)
                      injection ev5 with ev6 ev7 ev8
                      subst ev6
                      clear ev7 ev8
                      have hal : a < bs.length := by rw [hmo.len, hsq.rows]; exact h4
                      have hcl : c < bs.length := by rw [hmo.len, hsq.rows]; exact h3
                      obtain ⟨ba, hba⟩ : ∃ b, bs[a]? = some b := ⟨_, List.getElem?_eq_getElem hal⟩
                      obtain ⟨bc, hbc⟩ : ∃ b, bs[c]? = some b := ⟨_, List.getElem?_eq_getElem hcl⟩
                      have y1 := hrow _ _ hba
                      have y2 := hrow _ _ hbc
                      unfold hdr at y1 y2
                      obtain ⟨hb1, hc1⟩ := hmo.row hba
                      obtain ⟨hb2, hc2⟩ := hmo.row hbc
                      have y3 := hc1 b h5
                      have y4 := hc1 c h3
                      have y5 := hc2 b h5
                      have i0 : (0 : Int) ≤ (a : Int) := by omega
                      have i1 : (a : Int) < (k : Int) := by omega
                      have i2 : (0 : Int) ≤ (b : Int) := by omega
                      have i3 : (b : Int) < (k : Int) := by omega
                      have i4 : (0 : Int) ≤ (c : Int) := by omega
                      have i5 : (c : Int) < (k : Int) := by omega
                      have hM : M3[a]? = some (M3.getD a []) := by rw [List.getD_eq_getElem?_getD, List.getElem?_eq_getElem (by rw [hsq.rows]; exact h4)]; rfl
                      have yf : wr.frozen? ⟨ba, b, none⟩ = false := (hmo.rows _ _ _ hba hM).2.frozen _
                      have HB1 := Lib.hid (hmo.low ba (List.mem_of_getElem? hba))
                      obtain ⟨x, hx⟩ : ∃ x, Tj.mget M3 a b = x := ⟨_, rfl⟩
                      obtain ⟨y, hy⟩ : ∃ y, Tj.mget M3 a c = y := ⟨_, rfl⟩
                      obtain ⟨z, hz⟩ : ∃ z, Tj.mget M3 c b = z := ⟨_, rfl⟩
                      have HW := Lib.hid (show Tj.wb c a M3 b = Tj.mset M3 a b (x || (y && z)) by unfold Tj.wb; rw [hx, hy, hz])
                      rw [hx] at y3
                      rw [hy] at y4
                      rw [hz] at y5
                      clear hx hy hz hrow hc1 hc2 hM
                      have HP := Lib.hid (fun v => hmo.put hba b v)
                      have HBW := Lib.hid (fun v => hbw.setCell (p := ⟨ba, b, none⟩) (by have := HB1.out; simp; omega) (.bool v))
                      have HST := Lib.hid (show (List.range (b + 1)).foldl (Tj.wb c a) M2 = Tj.mset M3 a b (x || (y && z)) by rw [List.range_succ, List.foldl_append, ← HM3.out]; exact HW.out)
                      have HSQ := Lib.hid (fun v => hsq.set (b := b) h4 v)
                      have HCS := Lib.hid (fun W (h : Below wr.heap.size wr W) => (⟨(h.cell hg).trans y1, (h.cell hg).trans y2, (h.cell hb1).trans y3, (h.cell hb1).trans y4, (h.cell hb2).trans y5, (h.frozen hb1).trans yf⟩ : W.cell? ⟨g, a, none⟩ = _ ∧ W.cell? ⟨g, c, none⟩ = _ ∧ W.cell? ⟨ba, b, none⟩ = _ ∧ W.cell? ⟨ba, c, none⟩ = _ ∧ W.cell? ⟨bc, b, none⟩ = _ ∧ W.frozen? ⟨ba, b, none⟩ = _))
                      have HMO := Lib.hid hmo
                      have HBO := Lib.hid hbw
                      have HGS := Lib.hid (hmo.low ba (List.mem_of_getElem? hba))
                      have HPP := Lib.hid (fun W v (h : Below wr.heap.size wr W) => (hmo.below h).put hba b v)
                      have HBB := Lib.hid (fun W v (h : Below wr.heap.size wr W) => (hbw.trans (h.mono hbw.size)).setCell (p := ⟨ba, b, none⟩) (by have := HGS.out; simp; omega) (.bool v))
                      clear y1 y2 y3 y4 y5 yf HP HBW hmo hbw
                      clear HBO HMO HW HB1
                      cases x
                      · cases y
                        · go_wp2_with fail
                          refine' wp_region_last 31 _ _ (Below wr.heap.size wr) (Onward) (Vl :: Vl :: Vl :: Vl :: Vl :: Vl :: Vl :: Vl :: Vl :: Vl :: Vl :: Vl :: Vl :: Vl :: Vl :: Vl :: Vl :: Vl :: Vl :: Vl :: Vl :: Pin undef :: Pin undef :: Pin undef :: Pin undef :: Pin undef :: Pin undef :: Pin undef :: Vl :: Vl :: Vl :: []) ?hF (by kernel_rfl) (by kernel_rfl) (by kernel_rfl) (by rfl) (by rfl) (by rfl) (by kernel_rfl) ((Below.refl _ _).drew) (lasting_cons (lasting_vl) (lasting_cons (lasting_vl) (lasting_cons (lasting_vl) (lasting_cons (lasting_vl) (lasting_cons (lasting_vl) (lasting_cons (lasting_vl) (lasting_cons (lasting_vl) (lasting_cons (lasting_vl) (lasting_cons (lasting_vl) (lasting_cons (lasting_vl) (lasting_cons (lasting_vl) (lasting_cons (lasting_vl) (lasting_cons (lasting_vl) (lasting_cons (lasting_vl) (lasting_cons (lasting_vl) (lasting_cons (lasting_vl) (lasting_cons (lasting_vl) (lasting_cons (lasting_vl) (lasting_cons (lasting_vl) (lasting_cons (lasting_vl) (lasting_cons (lasting_vl) (lasting_cons (lasting_pin _) (lasting_cons (lasting_pin _) (lasting_cons (lasting_pin _) (lasting_cons (lasting_pin _) (lasting_cons (lasting_pin _) (lasting_cons (lasting_pin _) (lasting_cons (lasting_pin _) (lasting_cons (lasting_vl) (lasting_cons (lasting_vl) (lasting_cons (lasting_vl) (lasting_none)))))))))))))))))))))))))))))))) ?hops ?hlast
                          case hF => (intro v; simp only [over, Act.put, List.setIfInBounds_toArray, List.set_cons_zero, List.set_cons_succ, Nat.zero_add, Nat.reduceAdd]; exact rfl)
                          case hops =>
                            refine ⟨?_, ?_⟩
                            · intro v w' hj hd hs K hK
                              have hk := hK.out
                              simp only [Act.put, List.setIfInBounds_toArray, List.set_cons_zero, List.set_cons_succ] at hk
                              have HK := Lib.hid hk
                              clear hd hs hk hK
                              go_simp
                              exact HK.out _ _ hj.out (Below.refl _ _) (show _ = _ from rfl)
                            refine ⟨?_, ?_⟩
                            · intro v w' hj hd hs K hK
                              have hk := hK.out
                              simp only [Act.put, List.setIfInBounds_toArray, List.set_cons_zero, List.set_cons_succ] at hk
                              have HK := Lib.hid hk
                              clear hd hs hk hK
                              go_simp
                              exact HK.out _ _ hj.out (Below.refl _ _) (show _ = _ from rfl)
                            refine ⟨?_, ?_⟩
                            · intro v w' hj hd hs K hK
                              have t0 : v 0 = _ := hd.out 0 (by kernel_rfl)
                              have t1 : v 1 = _ := hd.out 1 (by kernel_rfl)
                              have hk := hK.out
                              simp only [t0, t1, Act.put, List.setIfInBounds_toArray, List.set_cons_zero, List.set_cons_succ] at hk
                              have HK := Lib.hid hk
                              clear hd hs hk hK
                              go_simp
                              exact HK.out _ _ hj.out (Below.refl _ _) (show _ = _ from rfl)
                            refine ⟨?_, ?_⟩
                            · intro v w' hj hd hs K hK
                              have t2 : v 2 = _ := hd.out 2 (by kernel_rfl)
                              obtain ⟨y1, y2, y3, y4, y5, yf⟩ := HCS.out _ hj.out
                              have hk := hK.out
                              simp only [t2, Act.put, List.setIfInBounds_toArray, List.set_cons_zero, List.set_cons_succ] at hk
                              have HK := Lib.hid hk
                              clear hd hs hk hK
                              go_simp
                              exact HK.out _ _ hj.out (Below.refl _ _) (show _ = _ from rfl)
                            refine ⟨?_, ?_⟩
                            · intro v w' hj hd hs K hK
                              have hk := hK.out
                              simp only [Act.put, List.setIfInBounds_toArray, List.set_cons_zero, List.set_cons_succ] at hk
                              have HK := Lib.hid hk
                              clear hd hs hk hK
                              go_simp
                              exact HK.out _ _ hj.out (Below.refl _ _) (show _ = _ from rfl)
                            refine ⟨?_, ?_⟩
                            · intro v w' hj hd hs K hK
                              have hk := hK.out
                              simp only [Act.put, List.setIfInBounds_toArray, List.set_cons_zero, List.set_cons_succ] at hk
                              have HK := Lib.hid hk
                              clear hd hs hk hK
                              go_simp
                              exact HK.out _ _ hj.out (Below.refl _ _) (show _ = _ from rfl)
                            refine ⟨?_, ?_⟩
                            · intro v w' hj hd hs K hK
                              have hk := hK.out
                              simp only [Act.put, List.setIfInBounds_toArray, List.set_cons_zero, List.set_cons_succ] at hk
                              have HK := Lib.hid hk
                              clear hd hs hk hK
                              go_simp
                              exact HK.out _ _ hj.out (Below.refl _ _) (show _ = _ from rfl)
                            refine ⟨?_, ?_⟩
                            · intro v w' hj hd hs K hK
                              have t5 : v 5 = _ := hd.out 5 (by kernel_rfl)
                              have t6 : v 6 = _ := hd.out 6 (by kernel_rfl)
                              have hk := hK.out
                              simp only [t5, t6, Act.put, List.setIfInBounds_toArray, List.set_cons_zero, List.set_cons_succ] at hk
                              have HK := Lib.hid hk
                              clear hd hs hk hK
                              go_simp
                              exact HK.out _ _ hj.out (Below.refl _ _) (show _ = _ from rfl)
                            refine ⟨?_, ?_⟩
                            · intro v w' hj hd hs K hK
                              have t7 : v 7 = _ := hd.out 7 (by kernel_rfl)
                              obtain ⟨y1, y2, y3, y4, y5, yf⟩ := HCS.out _ hj.out
                              have hk := hK.out
                              simp only [t7, Act.put, List.setIfInBounds_toArray, List.set_cons_zero, List.set_cons_succ] at hk
                              have HK := Lib.hid hk
                              clear hd hs hk hK
                              go_simp
                              exact HK.out _ _ hj.out (Below.refl _ _) (show _ = _ from rfl)
                            refine ⟨?_, ?_⟩
                            · intro v w' hj hd hs K hK
                              have hk := hK.out
                              simp only [Act.put, List.setIfInBounds_toArray, List.set_cons_zero, List.set_cons_succ] at hk
                              have HK := Lib.hid hk
                              clear hd hs hk hK
                              go_simp
                              exact HK.out _ _ hj.out (Below.refl _ _) (show _ = _ from rfl)
                            refine ⟨?_, ?_⟩
                            · intro v w' hj hd hs K hK
                              have t8 : v 8 = _ := hd.out 8 (by kernel_rfl)
                              have t9 : v 9 = _ := hd.out 9 (by kernel_rfl)
                              have hk := hK.out
                              simp only [t8, t9, Act.put, List.setIfInBounds_toArray, List.set_cons_zero, List.set_cons_succ] at hk
                              have HK := Lib.hid hk
                              clear hd hs hk hK
                              go_simp
                              exact HK.out _ _ hj.out (Below.refl _ _) (show _ = _ from rfl)
                            refine ⟨?_, ?_⟩
                            · intro v w' hj hd hs K hK
                              have t10 : v 10 = _ := hd.out 10 (by kernel_rfl)
                              obtain ⟨y1, y2, y3, y4, y5, yf⟩ := HCS.out _ hj.out
                              have hk := hK.out
                              simp only [t10, Act.put, List.setIfInBounds_toArray, List.set_cons_zero, List.set_cons_succ] at hk
                              have HK := Lib.hid hk
                              clear hd hs hk hK
                              go_simp
                              exact HK.out _ _ hj.out (Below.refl _ _) (show _ = _ from rfl)
                            refine ⟨?_, ?_⟩
                            · intro v w' hj hd hs K hK
                              have t11 : v 11 = _ := hd.out 11 (by kernel_rfl)
                              have hk := hK.out
                              simp only [t11, Act.put, List.setIfInBounds_toArray, List.set_cons_zero, List.set_cons_succ] at hk
                              have HK := Lib.hid hk
                              clear hd hs hk hK
                              go_simp
                              exact HK.out _ _ hj.out (Below.refl _ _) (show _ = _ from rfl)
                            refine ⟨?_, ?_⟩
                            · intro v w' hj hd hs K hK
                              have t12 : v 12 = _ := hd.out 12 (by kernel_rfl)
                              have hk := hK.out
                              simp only [t12, Act.put, List.setIfInBounds_toArray, List.set_cons_zero, List.set_cons_succ] at hk
                              have HK := Lib.hid hk
                              clear hd hs hk hK
                              go_simp
                              exact HK.out _ _ hj.out (Below.refl _ _) (show _ = _ from rfl)
                            refine ⟨?_, ?_⟩
                            · intro v w' hj hd hs K hK
                              have t12 : v 12 = _ := hd.out 12 (by kernel_rfl)
                              have hk := hK.out
                              simp only [t12, Act.put, List.setIfInBounds_toArray, List.set_cons_zero, List.set_cons_succ] at hk
                              have HK := Lib.hid hk
                              clear hd hs hk hK
                              go_simp
                              exact HK.out _ _ hj.out (Below.refl _ _) (show _ = _ from rfl)
                            refine ⟨?_, ?_⟩
                            · intro v w' hj hd hs K hK
                              have t12 : v 12 = _ := hd.out 12 (by kernel_rfl)
                              have t13 : v 13 = _ := hd.out 13 (by kernel_rfl)
                              have t14 : v 14 = _ := hd.out 14 (by kernel_rfl)
                              have hk := hK.out
                              simp only [t12, t13, t14, Act.put, List.setIfInBounds_toArray, List.set_cons_zero, List.set_cons_succ] at hk
                              have HK := Lib.hid hk
                              clear hd hs hk hK
                              go_simp
                              exact HK.out _ _ hj.out (Below.refl _ _) (show _ = _ from rfl)
                            refine ⟨?_, ?_⟩
                            · intro v w' hj hd hs K hK
                              have t12 : v 12 = _ := hd.out 12 (by kernel_rfl)
                              have t15 : v 15 = _ := hd.out 15 (by kernel_rfl)
                              obtain ⟨y1, y2, y3, y4, y5, yf⟩ := HCS.out _ hj.out
                              have hk := hK.out
                              simp only [t12, t15, Act.put, List.setIfInBounds_toArray, List.set_cons_zero, List.set_cons_succ] at hk
                              have HK := Lib.hid hk
                              clear hd hs hk hK
                              go_simp
                              exact HK.out _ _ hj.out (Below.refl _ _) (show _ = _ from rfl)
                            refine ⟨?_, ?_⟩
                            · intro v w' hj hd hs K hK
                              have t12 : v 12 = _ := hd.out 12 (by kernel_rfl)
                              have hk := hK.out
                              simp only [t12, Act.put, List.setIfInBounds_toArray, List.set_cons_zero, List.set_cons_succ] at hk
                              have HK := Lib.hid hk
                              clear hd hs hk hK
                              go_simp
                              exact HK.out _ _ hj.out (Below.refl _ _) (show _ = _ from rfl)
                            refine ⟨?_, ?_⟩
                            · intro v w' hj hd hs K hK
                              have t12 : v 12 = _ := hd.out 12 (by kernel_rfl)
                              have t16 : v 16 = _ := hd.out 16 (by kernel_rfl)
                              have t17 : v 17 = _ := hd.out 17 (by kernel_rfl)
                              have hk := hK.out
                              simp only [t12, t16, t17, Act.put, List.setIfInBounds_toArray, List.set_cons_zero, List.set_cons_succ] at hk
                              have HK := Lib.hid hk
                              clear hd hs hk hK
                              go_simp
                              exact HK.out _ _ hj.out (Below.refl _ _) (show _ = _ from rfl)
                            refine ⟨?_, ?_⟩
                            · intro v w' hj hd hs K hK
                              have t12 : v 12 = _ := hd.out 12 (by kernel_rfl)
                              have t18 : v 18 = _ := hd.out 18 (by kernel_rfl)
                              obtain ⟨y1, y2, y3, y4, y5, yf⟩ := HCS.out _ hj.out
                              have hk := hK.out
                              simp only [t12, t18, Act.put, List.setIfInBounds_toArray, List.set_cons_zero, List.set_cons_succ] at hk
                              have HK := Lib.hid hk
                              clear hd hs hk hK
                              go_simp
                              exact HK.out _ _ hj.out (Below.refl _ _) (show _ = _ from rfl)
                            refine ⟨?_, ?_⟩
                            · intro v w' hj hd hs K hK
                              have t12 : v 12 = _ := hd.out 12 (by kernel_rfl)
                              have t19 : v 19 = _ := hd.out 19 (by kernel_rfl)
                              have hk := hK.out
                              simp only [t12, t19, Act.put, List.setIfInBounds_toArray, List.set_cons_zero, List.set_cons_succ] at hk
                              have HK := Lib.hid hk
                              clear hd hs hk hK
                              go_simp
                              exact HK.out _ _ hj.out (Below.refl _ _) (show _ = _ from rfl)
                            refine ⟨?_, ?_⟩
                            · intro v w' hj hd hs K hK
                              have t20 : v 20 = _ := hd.out 20 (by kernel_rfl)
                              have hk := hK.out
                              simp only [t20, Act.put, List.setIfInBounds_toArray, List.set_cons_zero, List.set_cons_succ] at hk
                              have HK := Lib.hid hk
                              clear hd hs hk hK
                              go_simp
                              exact HK.out _ _ hj.out (Below.refl _ _) (show _ = _ from rfl)
                            refine ⟨?_, ?_⟩
                            · intro v w' hj hd hs K hK
                              have t20 : v 20 = _ := hd.out 20 (by kernel_rfl)
                              have hk := hK.out
                              simp only [t20, Act.put, List.setIfInBounds_toArray, List.set_cons_zero, List.set_cons_succ] at hk
                              have HK := Lib.hid hk
                              clear hd hs hk hK
                              go_simp
                              exact HK.out _ _ hj.out (Below.refl _ _) (show _ = _ from rfl)
                            refine ⟨?_, ?_⟩
                            · intro v w' hj hd hs K hK
                              have t20 : v 20 = _ := hd.out 20 (by kernel_rfl)
                              have hk := hK.out
                              simp only [t20, Act.put, List.setIfInBounds_toArray, List.set_cons_zero, List.set_cons_succ] at hk
                              have HK := Lib.hid hk
                              clear hd hs hk hK
                              go_simp
                              exact HK.out _ _ hj.out (Below.refl _ _) (show _ = _ from rfl)
                            refine ⟨?_, ?_⟩
                            · intro v w' hj hd hs K hK
                              have t20 : v 20 = _ := hd.out 20 (by kernel_rfl)
                              have hk := hK.out
                              simp only [t20, Act.put, List.setIfInBounds_toArray, List.set_cons_zero, List.set_cons_succ] at hk
                              have HK := Lib.hid hk
                              clear hd hs hk hK
                              go_simp
                              exact HK.out _ _ hj.out (Below.refl _ _) (show _ = _ from rfl)
                            refine ⟨?_, ?_⟩
                            · intro v w' hj hd hs K hK
                              have t20 : v 20 = _ := hd.out 20 (by kernel_rfl)
                              have hk := hK.out
                              simp only [t20, Act.put, List.setIfInBounds_toArray, List.set_cons_zero, List.set_cons_succ] at hk
                              have HK := Lib.hid hk
                              clear hd hs hk hK
                              go_simp
                              exact HK.out _ _ hj.out (Below.refl _ _) (show _ = _ from rfl)
                            refine ⟨?_, ?_⟩
                            · intro v w' hj hd hs K hK
                              have t20 : v 20 = _ := hd.out 20 (by kernel_rfl)
                              have hk := hK.out
                              simp only [t20, Act.put, List.setIfInBounds_toArray, List.set_cons_zero, List.set_cons_succ] at hk
                              have HK := Lib.hid hk
                              clear hd hs hk hK
                              go_simp
                              exact HK.out _ _ hj.out (Below.refl _ _) (show _ = _ from rfl)
                            refine ⟨?_, ?_⟩
                            · intro v w' hj hd hs K hK
                              have t20 : v 20 = _ := hd.out 20 (by kernel_rfl)
                              have hk := hK.out
                              simp only [t20, Act.put, List.setIfInBounds_toArray, List.set_cons_zero, List.set_cons_succ] at hk
                              have HK := Lib.hid hk
                              clear hd hs hk hK
                              go_simp
                              exact HK.out _ _ hj.out (Below.refl _ _) (show _ = _ from rfl)
                            refine ⟨?_, ?_⟩
                            · intro v w' hj hd hs K hK
                              have t12 : v 12 = _ := hd.out 12 (by kernel_rfl)
                              have t20 : v 20 = _ := hd.out 20 (by kernel_rfl)
                              have t27 : v 27 = _ := hd.out 27 (by kernel_rfl)
                              have hk := hK.out
                              simp only [t12, t20, t27, Act.put, List.setIfInBounds_toArray, List.set_cons_zero, List.set_cons_succ] at hk
                              have HK := Lib.hid hk
                              clear hd hs hk hK
                              go_simp
                              exact HK.out _ _ hj.out (Below.refl _ _) (show _ = _ from rfl)
                            refine ⟨?_, ?_⟩
                            · intro v w' hj hd hs K hK
                              have t12 : v 12 = _ := hd.out 12 (by kernel_rfl)
                              have t28 : v 28 = _ := hd.out 28 (by kernel_rfl)
                              have hk := hK.out
                              simp only [t12, t28, Act.put, List.setIfInBounds_toArray, List.set_cons_zero, List.set_cons_succ] at hk
                              have HK := Lib.hid hk
                              clear hd hs hk hK
                              go_simp
                              exact HK.out _ _ hj.out (Below.refl _ _) (show _ = _ from rfl)
                            refine ⟨?_, ?_⟩
                            · intro v w' hj hd hs K hK
                              have t3 : v 3 = _ := hd.out 3 (by kernel_rfl)
                              have t4 : v 4 = _ := hd.out 4 (by kernel_rfl)
                              have hk := hK.out
                              simp only [t3, t4, Act.put, List.setIfInBounds_toArray, List.set_cons_zero, List.set_cons_succ] at hk
                              have HK := Lib.hid hk
                              clear hd hs hk hK
                              go_simp
                              exact HK.out _ _ hj.out (Below.refl _ _) (show _ = _ from rfl)
                            trivial
                          case hlast =>
                            intro v w' hj hd K hK
                            have t29 : v 29 = _ := hd.out 29 (of_decide_eq_true (by kernel_rfl))
                            have t30 : v 30 = _ := hd.out 30 (of_decide_eq_true (by kernel_rfl))
                            obtain ⟨y1, y2, y3, y4, y5, yf⟩ := HCS.out _ hj.out
                            have hk := hK.out
                            simp only [t29, t30, Act.put, List.setIfInBounds_toArray, List.set_cons_zero, List.set_cons_succ] at hk
                            have HK := Lib.hid hk
                            clear hd hk hK
                            go_simp
                            refine HK.out _ ?_
                            clear y1 y2 y3 y4 y5 yf t29 t30 HK
                            go_wp2_with fail
                            exact ⟨⟨b + 1, Tj.mset M3 a b false, by omega, by go_num, Lib.hid (HST.out.symm), HSQ.out _, HPP.out _ _ hj.out, HBB.out _ _ hj.out⟩, by simp [intOf]; omega⟩
                        · go_wp2_with fail
                          refine' wp_region_last 31 _ _ (Below wr.heap.size wr) (Onward) (Vl :: Vl :: Vl :: Vl :: Vl :: Vl :: Vl :: Vl :: Vl :: Vl :: Vl :: Vl :: Vl :: Vl :: Vl :: Vl :: Vl :: Vl :: Vl :: Vl :: Vl :: Vl :: Vl :: Vl :: Vl :: Vl :: Vl :: Vl :: Vl :: Vl :: Vl :: []) ?hF (by kernel_rfl) (by kernel_rfl) (by kernel_rfl) (by rfl) (by rfl) (by rfl) (by kernel_rfl) ((Below.refl _ _).drew) (lasting_cons (lasting_vl) (lasting_cons (lasting_vl) (lasting_cons (lasting_vl) (lasting_cons (lasting_vl) (lasting_cons (lasting_vl) (lasting_cons (lasting_vl) (lasting_cons (lasting_vl) (lasting_cons (lasting_vl) (lasting_cons (lasting_vl) (lasting_cons (lasting_vl) (lasting_cons (lasting_vl) (lasting_cons (lasting_vl) (lasting_cons (lasting_vl) (lasting_cons (lasting_vl) (lasting_cons (lasting_vl) (lasting_cons (lasting_vl) (lasting_cons (lasting_vl) (lasting_cons (lasting_vl) (lasting_cons (lasting_vl) (lasting_cons (lasting_vl) (lasting_cons (lasting_vl) (lasting_cons (lasting_vl) (lasting_cons (lasting_vl) (lasting_cons (lasting_vl) (lasting_cons (lasting_vl) (lasting_cons (lasting_vl) (lasting_cons (lasting_vl) (lasting_cons (lasting_vl) (lasting_cons (lasting_vl) (lasting_cons (lasting_vl) (lasting_cons (lasting_vl) (lasting_none)))))))))))))))))))))))))))))))) ?hops ?hlast
                          case hF => (intro v; simp only [over, Act.put, List.setIfInBounds_toArray, List.set_cons_zero, List.set_cons_succ, Nat.zero_add, Nat.reduceAdd]; exact rfl)
                          case hops =>
                            refine ⟨?_, ?_⟩
                            · intro v w' hj hd hs K hK
                              have hk := hK.out
                              simp only [Act.put, List.setIfInBounds_toArray, List.set_cons_zero, List.set_cons_succ] at hk
                              have HK := Lib.hid hk
                              clear hd hs hk hK
                              go_simp
                              exact HK.out _ _ hj.out (Below.refl _ _) (show _ = _ from rfl)
                            refine ⟨?_, ?_⟩
                            · intro v w' hj hd hs K hK
                              have hk := hK.out
                              simp only [Act.put, List.setIfInBounds_toArray, List.set_cons_zero, List.set_cons_succ] at hk
                              have HK := Lib.hid hk
                              clear hd hs hk hK
                              go_simp
                              exact HK.out _ _ hj.out (Below.refl _ _) (show _ = _ from rfl)
                            refine ⟨?_, ?_⟩
                            · intro v w' hj hd hs K hK
                              have t0 : v 0 = _ := hd.out 0 (by kernel_rfl)
                              have t1 : v 1 = _ := hd.out 1 (by kernel_rfl)
                              have hk := hK.out
                              simp only [t0, t1, Act.put, List.setIfInBounds_toArray, List.set_cons_zero, List.set_cons_succ] at hk
                              have HK := Lib.hid hk
                              clear hd hs hk hK
                              go_simp
                              exact HK.out _ _ hj.out (Below.refl _ _) (show _ = _ from rfl)
                            refine ⟨?_, ?_⟩
                            · intro v w' hj hd hs K hK
                              have t2 : v 2 = _ := hd.out 2 (by kernel_rfl)
                              obtain ⟨y1, y2, y3, y4, y5, yf⟩ := HCS.out _ hj.out
                              have hk := hK.out
                              simp only [t2, Act.put, List.setIfInBounds_toArray, List.set_cons_zero, List.set_cons_succ] at hk
                              have HK := Lib.hid hk
                              clear hd hs hk hK
                              go_simp
                              exact HK.out _ _ hj.out (Below.refl _ _) (show _ = _ from rfl)
                            refine ⟨?_, ?_⟩
                            · intro v w' hj hd hs K hK
                              have hk := hK.out
                              simp only [Act.put, List.setIfInBounds_toArray, List.set_cons_zero, List.set_cons_succ] at hk
                              have HK := Lib.hid hk
                              clear hd hs hk hK
                              go_simp
                              exact HK.out _ _ hj.out (Below.refl _ _) (show _ = _ from rfl)
                            refine ⟨?_, ?_⟩
                            · intro v w' hj hd hs K hK
                              have hk := hK.out
                              simp only [Act.put, List.setIfInBounds_toArray, List.set_cons_zero, List.set_cons_succ] at hk
                              have HK := Lib.hid hk
                              clear hd hs hk hK
                              go_simp
                              exact HK.out _ _ hj.out (Below.refl _ _) (show _ = _ from rfl)
                            refine ⟨?_, ?_⟩
                            · intro v w' hj hd hs K hK
                              have hk := hK.out
                              simp only [Act.put, List.setIfInBounds_toArray, List.set_cons_zero, List.set_cons_succ] at hk
                              have HK := Lib.hid hk
                              clear hd hs hk hK
                              go_simp
                              exact HK.out _ _ hj.out (Below.refl _ _) (show _ = _ from rfl)
                            refine ⟨?_, ?_⟩
                            · intro v w' hj hd hs K hK
                              have t5 : v 5 = _ := hd.out 5 (by kernel_rfl)
                              have t6 : v 6 = _ := hd.out 6 (by kernel_rfl)
                              have hk := hK.out
                              simp only [t5, t6, Act.put, List.setIfInBounds_toArray, List.set_cons_zero, List.set_cons_succ] at hk
                              have HK := Lib.hid hk
                              clear hd hs hk hK
                              go_simp
                              exact HK.out _ _ hj.out (Below.refl _ _) (show _ = _ from rfl)
                            refine ⟨?_, ?_⟩
                            · intro v w' hj hd hs K hK
                              have t7 : v 7 = _ := hd.out 7 (by kernel_rfl)
                              obtain ⟨y1, y2, y3, y4, y5, yf⟩ := HCS.out _ hj.out
                              have hk := hK.out
                              simp only [t7, Act.put, List.setIfInBounds_toArray, List.set_cons_zero, List.set_cons_succ] at hk
                              have HK := Lib.hid hk
                              clear hd hs hk hK
                              go_simp
                              exact HK.out _ _ hj.out (Below.refl _ _) (show _ = _ from rfl)
                            refine ⟨?_, ?_⟩
                            · intro v w' hj hd hs K hK
                              have hk := hK.out
                              simp only [Act.put, List.setIfInBounds_toArray, List.set_cons_zero, List.set_cons_succ] at hk
                              have HK := Lib.hid hk
                              clear hd hs hk hK
                              go_simp
                              exact HK.out _ _ hj.out (Below.refl _ _) (show _ = _ from rfl)
                            refine ⟨?_, ?_⟩
                            · intro v w' hj hd hs K hK
                              have t8 : v 8 = _ := hd.out 8 (by kernel_rfl)
                              have t9 : v 9 = _ := hd.out 9 (by kernel_rfl)
                              have hk := hK.out
                              simp only [t8, t9, Act.put, List.setIfInBounds_toArray, List.set_cons_zero, List.set_cons_succ] at hk
                              have HK := Lib.hid hk
                              clear hd hs hk hK
                              go_simp
                              exact HK.out _ _ hj.out (Below.refl _ _) (show _ = _ from rfl)
                            refine ⟨?_, ?_⟩
                            · intro v w' hj hd hs K hK
                              have t10 : v 10 = _ := hd.out 10 (by kernel_rfl)
                              obtain ⟨y1, y2, y3, y4, y5, yf⟩ := HCS.out _ hj.out
                              have hk := hK.out
                              simp only [t10, Act.put, List.setIfInBounds_toArray, List.set_cons_zero, List.set_cons_succ] at hk
                              have HK := Lib.hid hk
                              clear hd hs hk hK
                              go_simp
                              exact HK.out _ _ hj.out (Below.refl _ _) (show _ = _ from rfl)
                            refine ⟨?_, ?_⟩
                            · intro v w' hj hd hs K hK
                              have t11 : v 11 = _ := hd.out 11 (by kernel_rfl)
                              have hk := hK.out
                              simp only [t11, Act.put, List.setIfInBounds_toArray, List.set_cons_zero, List.set_cons_succ] at hk
                              have HK := Lib.hid hk
                              clear hd hs hk hK
                              go_simp
                              exact HK.out _ _ hj.out (Below.refl _ _) (show _ = _ from rfl)
                            refine ⟨?_, ?_⟩
                            · intro v w' hj hd hs K hK
                              have t12 : v 12 = _ := hd.out 12 (by kernel_rfl)
                              have hk := hK.out
                              simp only [t12, Act.put, List.setIfInBounds_toArray, List.set_cons_zero, List.set_cons_succ] at hk
                              have HK := Lib.hid hk
                              clear hd hs hk hK
                              go_simp
                              exact HK.out _ _ hj.out (Below.refl _ _) (show _ = _ from rfl)
                            refine ⟨?_, ?_⟩
                            · intro v w' hj hd hs K hK
                              have t12 : v 12 = _ := hd.out 12 (by kernel_rfl)
                              have hk := hK.out
                              simp only [t12, Act.put, List.setIfInBounds_toArray, List.set_cons_zero, List.set_cons_succ] at hk
                              have HK := Lib.hid hk
                              clear hd hs hk hK
                              go_simp
                              exact HK.out _ _ hj.out (Below.refl _ _) (show _ = _ from rfl)
                            refine ⟨?_, ?_⟩
                            · intro v w' hj hd hs K hK
                              have t12 : v 12 = _ := hd.out 12 (by kernel_rfl)
                              have t13 : v 13 = _ := hd.out 13 (by kernel_rfl)
                              have t14 : v 14 = _ := hd.out 14 (by kernel_rfl)
                              have hk := hK.out
                              simp only [t12, t13, t14, Act.put, List.setIfInBounds_toArray, List.set_cons_zero, List.set_cons_succ] at hk
                              have HK := Lib.hid hk
                              clear hd hs hk hK
                              go_simp
                              exact HK.out _ _ hj.out (Below.refl _ _) (show _ = _ from rfl)
                            refine ⟨?_, ?_⟩
                            · intro v w' hj hd hs K hK
                              have t12 : v 12 = _ := hd.out 12 (by kernel_rfl)
                              have t15 : v 15 = _ := hd.out 15 (by kernel_rfl)
                              obtain ⟨y1, y2, y3, y4, y5, yf⟩ := HCS.out _ hj.out
                              have hk := hK.out
                              simp only [t12, t15, Act.put, List.setIfInBounds_toArray, List.set_cons_zero, List.set_cons_succ] at hk
                              have HK := Lib.hid hk
                              clear hd hs hk hK
                              go_simp
                              exact HK.out _ _ hj.out (Below.refl _ _) (show _ = _ from rfl)
                            refine ⟨?_, ?_⟩
                            · intro v w' hj hd hs K hK
                              have t12 : v 12 = _ := hd.out 12 (by kernel_rfl)
                              have hk := hK.out
                              simp only [t12, Act.put, List.setIfInBounds_toArray, List.set_cons_zero, List.set_cons_succ] at hk
                              have HK := Lib.hid hk
                              clear hd hs hk hK
                              go_simp
                              exact HK.out _ _ hj.out (Below.refl _ _) (show _ = _ from rfl)
                            refine ⟨?_, ?_⟩
                            · intro v w' hj hd hs K hK
                              have t12 : v 12 = _ := hd.out 12 (by kernel_rfl)
                              have t16 : v 16 = _ := hd.out 16 (by kernel_rfl)
                              have t17 : v 17 = _ := hd.out 17 (by kernel_rfl)
                              have hk := hK.out
                              simp only [t12, t16, t17, Act.put, List.setIfInBounds_toArray, List.set_cons_zero, List.set_cons_succ] at hk
                              have HK := Lib.hid hk
                              clear hd hs hk hK
                              go_simp
                              exact HK.out _ _ hj.out (Below.refl _ _) (show _ = _ from rfl)
                            refine ⟨?_, ?_⟩
                            · intro v w' hj hd hs K hK
                              have t12 : v 12 = _ := hd.out 12 (by kernel_rfl)
                              have t18 : v 18 = _ := hd.out 18 (by kernel_rfl)
                              obtain ⟨y1, y2, y3, y4, y5, yf⟩ := HCS.out _ hj.out
                              have hk := hK.out
                              simp only [t12, t18, Act.put, List.setIfInBounds_toArray, List.set_cons_zero, List.set_cons_succ] at hk
                              have HK := Lib.hid hk
                              clear hd hs hk hK
                              go_simp
                              exact HK.out _ _ hj.out (Below.refl _ _) (show _ = _ from rfl)
                            refine ⟨?_, ?_⟩
                            · intro v w' hj hd hs K hK
                              have t12 : v 12 = _ := hd.out 12 (by kernel_rfl)
                              have t19 : v 19 = _ := hd.out 19 (by kernel_rfl)
                              have hk := hK.out
                              simp only [t12, t19, Act.put, List.setIfInBounds_toArray, List.set_cons_zero, List.set_cons_succ] at hk
                              have HK := Lib.hid hk
                              clear hd hs hk hK
                              go_simp
                              exact HK.out _ _ hj.out (Below.refl _ _) (show _ = _ from rfl)
                            refine ⟨?_, ?_⟩
                            · intro v w' hj hd hs K hK
                              have t20 : v 20 = _ := hd.out 20 (by kernel_rfl)
                              have hk := hK.out
                              simp only [t20, Act.put, List.setIfInBounds_toArray, List.set_cons_zero, List.set_cons_succ] at hk
                              have HK := Lib.hid hk
                              clear hd hs hk hK
                              go_simp
                              exact HK.out _ _ hj.out (Below.refl _ _) (show _ = _ from rfl)
                            refine ⟨?_, ?_⟩
                            · intro v w' hj hd hs K hK
                              have t20 : v 20 = _ := hd.out 20 (by kernel_rfl)
                              have hk := hK.out
                              simp only [t20, Act.put, List.setIfInBounds_toArray, List.set_cons_zero, List.set_cons_succ] at hk
                              have HK := Lib.hid hk
                              clear hd hs hk hK
                              go_simp
                              exact HK.out _ _ hj.out (Below.refl _ _) (show _ = _ from rfl)
                            refine ⟨?_, ?_⟩
                            · intro v w' hj hd hs K hK
                              have t20 : v 20 = _ := hd.out 20 (by kernel_rfl)
                              have t21 : v 21 = _ := hd.out 21 (by kernel_rfl)
                              have t22 : v 22 = _ := hd.out 22 (by kernel_rfl)
                              have hk := hK.out
                              simp only [t20, t21, t22, Act.put, List.setIfInBounds_toArray, List.set_cons_zero, List.set_cons_succ] at hk
                              have HK := Lib.hid hk
                              clear hd hs hk hK
                              go_simp
                              exact HK.out _ _ hj.out (Below.refl _ _) (show _ = _ from rfl)
                            refine ⟨?_, ?_⟩
                            · intro v w' hj hd hs K hK
                              have t20 : v 20 = _ := hd.out 20 (by kernel_rfl)
                              have t23 : v 23 = _ := hd.out 23 (by kernel_rfl)
                              obtain ⟨y1, y2, y3, y4, y5, yf⟩ := HCS.out _ hj.out
                              have hk := hK.out
                              simp only [t20, t23, Act.put, List.setIfInBounds_toArray, List.set_cons_zero, List.set_cons_succ] at hk
                              have HK := Lib.hid hk
                              clear hd hs hk hK
                              go_simp
                              exact HK.out _ _ hj.out (Below.refl _ _) (show _ = _ from rfl)
                            refine ⟨?_, ?_⟩
                            · intro v w' hj hd hs K hK
                              have t20 : v 20 = _ := hd.out 20 (by kernel_rfl)
                              have hk := hK.out
                              simp only [t20, Act.put, List.setIfInBounds_toArray, List.set_cons_zero, List.set_cons_succ] at hk
                              have HK := Lib.hid hk
                              clear hd hs hk hK
                              go_simp
                              exact HK.out _ _ hj.out (Below.refl _ _) (show _ = _ from rfl)
                            refine ⟨?_, ?_⟩
                            · intro v w' hj hd hs K hK
                              have t20 : v 20 = _ := hd.out 20 (by kernel_rfl)
                              have t24 : v 24 = _ := hd.out 24 (by kernel_rfl)
                              have t25 : v 25 = _ := hd.out 25 (by kernel_rfl)
                              have hk := hK.out
                              simp only [t20, t24, t25, Act.put, List.setIfInBounds_toArray, List.set_cons_zero, List.set_cons_succ] at hk
                              have HK := Lib.hid hk
                              clear hd hs hk hK
                              go_simp
                              exact HK.out _ _ hj.out (Below.refl _ _) (show _ = _ from rfl)
                            refine ⟨?_, ?_⟩
                            · intro v w' hj hd hs K hK
                              have t20 : v 20 = _ := hd.out 20 (by kernel_rfl)
                              have t26 : v 26 = _ := hd.out 26 (by kernel_rfl)
                              obtain ⟨y1, y2, y3, y4, y5, yf⟩ := HCS.out _ hj.out
                              have hk := hK.out
                              simp only [t20, t26, Act.put, List.setIfInBounds_toArray, List.set_cons_zero, List.set_cons_succ] at hk
                              have HK := Lib.hid hk
                              clear hd hs hk hK
                              go_simp
                              exact HK.out _ _ hj.out (Below.refl _ _) (show _ = _ from rfl)
                            refine ⟨?_, ?_⟩
                            · intro v w' hj hd hs K hK
                              have t12 : v 12 = _ := hd.out 12 (by kernel_rfl)
                              have t20 : v 20 = _ := hd.out 20 (by kernel_rfl)
                              have t27 : v 27 = _ := hd.out 27 (by kernel_rfl)
                              have hk := hK.out
                              simp only [t12, t20, t27, Act.put, List.setIfInBounds_toArray, List.set_cons_zero, List.set_cons_succ] at hk
                              have HK := Lib.hid hk
                              clear hd hs hk hK
                              go_simp
                              exact HK.out _ _ hj.out (Below.refl _ _) (show _ = _ from rfl)
                            refine ⟨?_, ?_⟩
                            · intro v w' hj hd hs K hK
                              have t12 : v 12 = _ := hd.out 12 (by kernel_rfl)
                              have t28 : v 28 = _ := hd.out 28 (by kernel_rfl)
                              have hk := hK.out
                              simp only [t12, t28, Act.put, List.setIfInBounds_toArray, List.set_cons_zero, List.set_cons_succ] at hk
                              have HK := Lib.hid hk
                              clear hd hs hk hK
                              go_simp
                              exact HK.out _ _ hj.out (Below.refl _ _) (show _ = _ from rfl)
                            refine ⟨?_, ?_⟩
                            · intro v w' hj hd hs K hK
                              have t3 : v 3 = _ := hd.out 3 (by kernel_rfl)
                              have t4 : v 4 = _ := hd.out 4 (by kernel_rfl)
                              have hk := hK.out
                              simp only [t3, t4, Act.put, List.setIfInBounds_toArray, List.set_cons_zero, List.set_cons_succ] at hk
                              have HK := Lib.hid hk
                              clear hd hs hk hK
                              go_simp
                              exact HK.out _ _ hj.out (Below.refl _ _) (show _ = _ from rfl)
                            trivial
                          case hlast =>
                            intro v w' hj hd K hK
                            have t29 : v 29 = _ := hd.out 29 (of_decide_eq_true (by kernel_rfl))
                            have t30 : v 30 = _ := hd.out 30 (of_decide_eq_true (by kernel_rfl))
                            obtain ⟨y1, y2, y3, y4, y5, yf⟩ := HCS.out _ hj.out
                            have hk := hK.out
                            simp only [t29, t30, Act.put, List.setIfInBounds_toArray, List.set_cons_zero, List.set_cons_succ] at hk
                            have HK := Lib.hid hk
                            clear hd hk hK
                            go_simp
                            refine HK.out _ ?_
                            clear y1 y2 y3 y4 y5 yf t29 t30 HK
                            go_wp2_with fail
                            exact ⟨⟨b + 1, Tj.mset M3 a b z, by omega, by go_num, Lib.hid (HST.out.symm), HSQ.out _, HPP.out _ _ hj.out, HBB.out _ _ hj.out⟩, by simp [intOf]; omega⟩
                      · go_wp2_with fail
                        refine' wp_region_last 31 _ _ (Below wr.heap.size wr) (Onward) (Vl :: Vl :: Vl :: Vl :: Vl :: Vl :: Vl :: Vl :: Vl :: Vl :: Vl :: Vl :: Vl :: Pin undef :: Pin undef :: Pin undef :: Pin undef :: Pin undef :: Pin undef :: Pin undef :: Pin undef :: Pin undef :: Pin undef :: Pin undef :: Pin undef :: Pin undef :: Pin undef :: Pin undef :: Pin undef :: Vl :: Vl :: []) ?hF (by kernel_rfl) (by kernel_rfl) (by kernel_rfl) (by rfl) (by rfl) (by rfl) (by kernel_rfl) ((Below.refl _ _).drew) (lasting_cons (lasting_vl) (lasting_cons (lasting_vl) (lasting_cons (lasting_vl) (lasting_cons (lasting_vl) (lasting_cons (lasting_vl) (lasting_cons (lasting_vl) (lasting_cons (lasting_vl) (lasting_cons (lasting_vl) (lasting_cons (lasting_vl) (lasting_cons (lasting_vl) (lasting_cons (lasting_vl) (lasting_cons (lasting_vl) (lasting_cons (lasting_vl) (lasting_cons (lasting_pin _) (lasting_cons (lasting_pin _) (lasting_cons (lasting_pin _) (lasting_cons (lasting_pin _) (lasting_cons (lasting_pin _) (lasting_cons (lasting_pin _) (lasting_cons (lasting_pin _) (lasting_cons (lasting_pin _) (lasting_cons (lasting_pin _) (lasting_cons (lasting_pin _) (lasting_cons (lasting_pin _) (lasting_cons (lasting_pin _) (lasting_cons (lasting_pin _) (lasting_cons (lasting_pin _) (lasting_cons (lasting_pin _) (lasting_cons (lasting_pin _) (lasting_cons (lasting_vl) (lasting_cons (lasting_vl) (lasting_none)))))))))))))))))))))))))))))))) ?hops ?hlast
                        case hF => (intro v; simp only [over, Act.put, List.setIfInBounds_toArray, List.set_cons_zero, List.set_cons_succ, Nat.zero_add, Nat.reduceAdd]; exact rfl)
                        case hops =>
                          refine ⟨?_, ?_⟩
                          · intro v w' hj hd hs K hK
                            have hk := hK.out
                            simp only [Act.put, List.setIfInBounds_toArray, List.set_cons_zero, List.set_cons_succ] at hk
                            have HK := Lib.hid hk
                            clear hd hs hk hK
                            go_simp
                            exact HK.out _ _ hj.out (Below.refl _ _) (show _ = _ from rfl)
                          refine ⟨?_, ?_⟩
                          · intro v w' hj hd hs K hK
                            have hk := hK.out
                            simp only [Act.put, List.setIfInBounds_toArray, List.set_cons_zero, List.set_cons_succ] at hk
                            have HK := Lib.hid hk
                            clear hd hs hk hK
                            go_simp
                            exact HK.out _ _ hj.out (Below.refl _ _) (show _ = _ from rfl)
                          refine ⟨?_, ?_⟩
                          · intro v w' hj hd hs K hK
                            have t0 : v 0 = _ := hd.out 0 (by kernel_rfl)
                            have t1 : v 1 = _ := hd.out 1 (by kernel_rfl)
                            have hk := hK.out
                            simp only [t0, t1, Act.put, List.setIfInBounds_toArray, List.set_cons_zero, List.set_cons_succ] at hk
                            have HK := Lib.hid hk
                            clear hd hs hk hK
                            go_simp
                            exact HK.out _ _ hj.out (Below.refl _ _) (show _ = _ from rfl)
                          refine ⟨?_, ?_⟩
                          · intro v w' hj hd hs K hK
                            have t2 : v 2 = _ := hd.out 2 (by kernel_rfl)
                            obtain ⟨y1, y2, y3, y4, y5, yf⟩ := HCS.out _ hj.out
                            have hk := hK.out
                            simp only [t2, Act.put, List.setIfInBounds_toArray, List.set_cons_zero, List.set_cons_succ] at hk
                            have HK := Lib.hid hk
                            clear hd hs hk hK
                            go_simp
                            exact HK.out _ _ hj.out (Below.refl _ _) (show _ = _ from rfl)
                          refine ⟨?_, ?_⟩
                          · intro v w' hj hd hs K hK
                            have hk := hK.out
                            simp only [Act.put, List.setIfInBounds_toArray, List.set_cons_zero, List.set_cons_succ] at hk
                            have HK := Lib.hid hk
                            clear hd hs hk hK
                            go_simp
                            exact HK.out _ _ hj.out (Below.refl _ _) (show _ = _ from rfl)
                          refine ⟨?_, ?_⟩
                          · intro v w' hj hd hs K hK
                            have hk := hK.out
                            simp only [Act.put, List.setIfInBounds_toArray, List.set_cons_zero, List.set_cons_succ] at hk
                            have HK := Lib.hid hk
                            clear hd hs hk hK
                            go_simp
                            exact HK.out _ _ hj.out (Below.refl _ _) (show _ = _ from rfl)
                          refine ⟨?_, ?_⟩
                          · intro v w' hj hd hs K hK
                            have hk := hK.out
                            simp only [Act.put, List.setIfInBounds_toArray, List.set_cons_zero, List.set_cons_succ] at hk
                            have HK := Lib.hid hk
                            clear hd hs hk hK
                            go_simp
                            exact HK.out _ _ hj.out (Below.refl _ _) (show _ = _ from rfl)
                          refine ⟨?_, ?_⟩
                          · intro v w' hj hd hs K hK
                            have t5 : v 5 = _ := hd.out 5 (by kernel_rfl)
                            have t6 : v 6 = _ := hd.out 6 (by kernel_rfl)
                            have hk := hK.out
                            simp only [t5, t6, Act.put, List.setIfInBounds_toArray, List.set_cons_zero, List.set_cons_succ] at hk
                            have HK := Lib.hid hk
                            clear hd hs hk hK
                            go_simp
                            exact HK.out _ _ hj.out (Below.refl _ _) (show _ = _ from rfl)
                          refine ⟨?_, ?_⟩
                          · intro v w' hj hd hs K hK
                            have t7 : v 7 = _ := hd.out 7 (by kernel_rfl)
                            obtain ⟨y1, y2, y3, y4, y5, yf⟩ := HCS.out _ hj.out
                            have hk := hK.out
                            simp only [t7, Act.put, List.setIfInBounds_toArray, List.set_cons_zero, List.set_cons_succ] at hk
                            have HK := Lib.hid hk
                            clear hd hs hk hK
                            go_simp
                            exact HK.out _ _ hj.out (Below.refl _ _) (show _ = _ from rfl)
                          refine ⟨?_, ?_⟩
                          · intro v w' hj hd hs K hK
                            have hk := hK.out
                            simp only [Act.put, List.setIfInBounds_toArray, List.set_cons_zero, List.set_cons_succ] at hk
                            have HK := Lib.hid hk
                            clear hd hs hk hK
                            go_simp
                            exact HK.out _ _ hj.out (Below.refl _ _) (show _ = _ from rfl)
                          refine ⟨?_, ?_⟩
                          · intro v w' hj hd hs K hK
                            have t8 : v 8 = _ := hd.out 8 (by kernel_rfl)
                            have t9 : v 9 = _ := hd.out 9 (by kernel_rfl)
                            have hk := hK.out
                            simp only [t8, t9, Act.put, List.setIfInBounds_toArray, List.set_cons_zero, List.set_cons_succ] at hk
                            have HK := Lib.hid hk
                            clear hd hs hk hK
                            go_simp
                            exact HK.out _ _ hj.out (Below.refl _ _) (show _ = _ from rfl)
                          refine ⟨?_, ?_⟩
                          · intro v w' hj hd hs K hK
                            have t10 : v 10 = _ := hd.out 10 (by kernel_rfl)
                            obtain ⟨y1, y2, y3, y4, y5, yf⟩ := HCS.out _ hj.out
                            have hk := hK.out
                            simp only [t10, Act.put, List.setIfInBounds_toArray, List.set_cons_zero, List.set_cons_succ] at hk
                            have HK := Lib.hid hk
                            clear hd hs hk hK
                            go_simp
                            exact HK.out _ _ hj.out (Below.refl _ _) (show _ = _ from rfl)
                          refine ⟨?_, ?_⟩
                          · intro v w' hj hd hs K hK
                            have t11 : v 11 = _ := hd.out 11 (by kernel_rfl)
                            have hk := hK.out
                            simp only [t11, Act.put, List.setIfInBounds_toArray, List.set_cons_zero, List.set_cons_succ] at hk
                            have HK := Lib.hid hk
                            clear hd hs hk hK
                            go_simp
                            exact HK.out _ _ hj.out (Below.refl _ _) (show _ = _ from rfl)
                          refine ⟨?_, ?_⟩
                          · intro v w' hj hd hs K hK
                            have t12 : v 12 = _ := hd.out 12 (by kernel_rfl)
                            have hk := hK.out
                            simp only [t12, Act.put, List.setIfInBounds_toArray, List.set_cons_zero, List.set_cons_succ] at hk
                            have HK := Lib.hid hk
                            clear hd hs hk hK
                            go_simp
                            exact HK.out _ _ hj.out (Below.refl _ _) (show _ = _ from rfl)
                          refine ⟨?_, ?_⟩
                          · intro v w' hj hd hs K hK
                            have t12 : v 12 = _ := hd.out 12 (by kernel_rfl)
                            have hk := hK.out
                            simp only [t12, Act.put, List.setIfInBounds_toArray, List.set_cons_zero, List.set_cons_succ] at hk
                            have HK := Lib.hid hk
                            clear hd hs hk hK
                            go_simp
                            exact HK.out _ _ hj.out (Below.refl _ _) (show _ = _ from rfl)
                          refine ⟨?_, ?_⟩
                          · intro v w' hj hd hs K hK
                            have t12 : v 12 = _ := hd.out 12 (by kernel_rfl)
                            have hk := hK.out
                            simp only [t12, Act.put, List.setIfInBounds_toArray, List.set_cons_zero, List.set_cons_succ] at hk
                            have HK := Lib.hid hk
                            clear hd hs hk hK
                            go_simp
                            exact HK.out _ _ hj.out (Below.refl _ _) (show _ = _ from rfl)
                          refine ⟨?_, ?_⟩
                          · intro v w' hj hd hs K hK
                            have t12 : v 12 = _ := hd.out 12 (by kernel_rfl)
                            have hk := hK.out
                            simp only [t12, Act.put, List.setIfInBounds_toArray, List.set_cons_zero, List.set_cons_succ] at hk
                            have HK := Lib.hid hk
                            clear hd hs hk hK
                            go_simp
                            exact HK.out _ _ hj.out (Below.refl _ _) (show _ = _ from rfl)
                          refine ⟨?_, ?_⟩
                          · intro v w' hj hd hs K hK
                            have t12 : v 12 = _ := hd.out 12 (by kernel_rfl)
                            have hk := hK.out
                            simp only [t12, Act.put, List.setIfInBounds_toArray, List.set_cons_zero, List.set_cons_succ] at hk
                            have HK := Lib.hid hk
                            clear hd hs hk hK
                            go_simp
                            exact HK.out _ _ hj.out (Below.refl _ _) (show _ = _ from rfl)
                          refine ⟨?_, ?_⟩
                          · intro v w' hj hd hs K hK
                            have t12 : v 12 = _ := hd.out 12 (by kernel_rfl)
                            have hk := hK.out
                            simp only [t12, Act.put, List.setIfInBounds_toArray, List.set_cons_zero, List.set_cons_succ] at hk
                            have HK := Lib.hid hk
                            clear hd hs hk hK
                            go_simp
                            exact HK.out _ _ hj.out (Below.refl _ _) (show _ = _ from rfl)
                          refine ⟨?_, ?_⟩
                          · intro v w' hj hd hs K hK
                            have t12 : v 12 = _ := hd.out 12 (by kernel_rfl)
                            have hk := hK.out
                            simp only [t12, Act.put, List.setIfInBounds_toArray, List.set_cons_zero, List.set_cons_succ] at hk
                            have HK := Lib.hid hk
                            clear hd hs hk hK
                            go_simp
                            exact HK.out _ _ hj.out (Below.refl _ _) (show _ = _ from rfl)
                          refine ⟨?_, ?_⟩
                          · intro v w' hj hd hs K hK
                            have t12 : v 12 = _ := hd.out 12 (by kernel_rfl)
                            have hk := hK.out
                            simp only [t12, Act.put, List.setIfInBounds_toArray, List.set_cons_zero, List.set_cons_succ] at hk
                            have HK := Lib.hid hk
                            clear hd hs hk hK
                            go_simp
                            exact HK.out _ _ hj.out (Below.refl _ _) (show _ = _ from rfl)
                          refine ⟨?_, ?_⟩
                          · intro v w' hj hd hs K hK
                            have t20 : v 20 = _ := hd.out 20 (by kernel_rfl)
                            have hk := hK.out
                            simp only [t20, Act.put, List.setIfInBounds_toArray, List.set_cons_zero, List.set_cons_succ] at hk
                            have HK := Lib.hid hk
                            clear hd hs hk hK
                            go_simp
                            exact HK.out _ _ hj.out (Below.refl _ _) (show _ = _ from rfl)
                          refine ⟨?_, ?_⟩
                          · intro v w' hj hd hs K hK
                            have t20 : v 20 = _ := hd.out 20 (by kernel_rfl)
                            have hk := hK.out
                            simp only [t20, Act.put, List.setIfInBounds_toArray, List.set_cons_zero, List.set_cons_succ] at hk
                            have HK := Lib.hid hk
                            clear hd hs hk hK
                            go_simp
                            exact HK.out _ _ hj.out (Below.refl _ _) (show _ = _ from rfl)
                          refine ⟨?_, ?_⟩
                          · intro v w' hj hd hs K hK
                            have t20 : v 20 = _ := hd.out 20 (by kernel_rfl)
                            have hk := hK.out
                            simp only [t20, Act.put, List.setIfInBounds_toArray, List.set_cons_zero, List.set_cons_succ] at hk
                            have HK := Lib.hid hk
                            clear hd hs hk hK
                            go_simp
                            exact HK.out _ _ hj.out (Below.refl _ _) (show _ = _ from rfl)
                          refine ⟨?_, ?_⟩
                          · intro v w' hj hd hs K hK
                            have t20 : v 20 = _ := hd.out 20 (by kernel_rfl)
                            have hk := hK.out
                            simp only [t20, Act.put, List.setIfInBounds_toArray, List.set_cons_zero, List.set_cons_succ] at hk
                            have HK := Lib.hid hk
                            clear hd hs hk hK
                            go_simp
                            exact HK.out _ _ hj.out (Below.refl _ _) (show _ = _ from rfl)
                          refine ⟨?_, ?_⟩
                          · intro v w' hj hd hs K hK
                            have t20 : v 20 = _ := hd.out 20 (by kernel_rfl)
                            have hk := hK.out
                            simp only [t20, Act.put, List.setIfInBounds_toArray, List.set_cons_zero, List.set_cons_succ] at hk
                            have HK := Lib.hid hk
                            clear hd hs hk hK
                            go_simp
                            exact HK.out _ _ hj.out (Below.refl _ _) (show _ = _ from rfl)
                          refine ⟨?_, ?_⟩
                          · intro v w' hj hd hs K hK
                            have t20 : v 20 = _ := hd.out 20 (by kernel_rfl)
                            have hk := hK.out
                            simp only [t20, Act.put, List.setIfInBounds_toArray, List.set_cons_zero, List.set_cons_succ] at hk
                            have HK := Lib.hid hk
                            clear hd hs hk hK
                            go_simp
                            exact HK.out _ _ hj.out (Below.refl _ _) (show _ = _ from rfl)
                          refine ⟨?_, ?_⟩
                          · intro v w' hj hd hs K hK
                            have t20 : v 20 = _ := hd.out 20 (by kernel_rfl)
                            have hk := hK.out
                            simp only [t20, Act.put, List.setIfInBounds_toArray, List.set_cons_zero, List.set_cons_succ] at hk
                            have HK := Lib.hid hk
                            clear hd hs hk hK
                            go_simp
                            exact HK.out _ _ hj.out (Below.refl _ _) (show _ = _ from rfl)
                          refine ⟨?_, ?_⟩
                          · intro v w' hj hd hs K hK
                            have t12 : v 12 = _ := hd.out 12 (by kernel_rfl)
                            have hk := hK.out
                            simp only [t12, Act.put, List.setIfInBounds_toArray, List.set_cons_zero, List.set_cons_succ] at hk
                            have HK := Lib.hid hk
                            clear hd hs hk hK
                            go_simp
                            exact HK.out _ _ hj.out (Below.refl _ _) (show _ = _ from rfl)
                          refine ⟨?_, ?_⟩
                          · intro v w' hj hd hs K hK
                            have t12 : v 12 = _ := hd.out 12 (by kernel_rfl)
                            have t28 : v 28 = _ := hd.out 28 (by kernel_rfl)
                            have hk := hK.out
                            simp only [t12, t28, Act.put, List.setIfInBounds_toArray, List.set_cons_zero, List.set_cons_succ] at hk
                            have HK := Lib.hid hk
                            clear hd hs hk hK
                            go_simp
                            exact HK.out _ _ hj.out (Below.refl _ _) (show _ = _ from rfl)
                          refine ⟨?_, ?_⟩
                          · intro v w' hj hd hs K hK
                            have t3 : v 3 = _ := hd.out 3 (by kernel_rfl)
                            have t4 : v 4 = _ := hd.out 4 (by kernel_rfl)
                            have hk := hK.out
                            simp only [t3, t4, Act.put, List.setIfInBounds_toArray, List.set_cons_zero, List.set_cons_succ] at hk
                            have HK := Lib.hid hk
                            clear hd hs hk hK
                            go_simp
                            exact HK.out _ _ hj.out (Below.refl _ _) (show _ = _ from rfl)
                          trivial
                        case hlast =>
                          intro v w' hj hd K hK
                          have t29 : v 29 = _ := hd.out 29 (of_decide_eq_true (by kernel_rfl))
                          have t30 : v 30 = _ := hd.out 30 (of_decide_eq_true (by kernel_rfl))
                          obtain ⟨y1, y2, y3, y4, y5, yf⟩ := HCS.out _ hj.out
                          have hk := hK.out
                          simp only [t29, t30, Act.put, List.setIfInBounds_toArray, List.set_cons_zero, List.set_cons_succ] at hk
                          have HK := Lib.hid hk
                          clear hd hk hK
                          go_simp
                          refine HK.out _ ?_
                          clear y1 y2 y3 y4 y5 yf t29 t30 HK
                          go_wp2_with fail
                          exact ⟨⟨b + 1, Tj.mset M3 a b true, by omega, by go_num, Lib.hid (HST.out.symm), HSQ.out _, HPP.out _ _ hj.out, HBB.out _ _ hj.out⟩, by simp [intOf]; omega⟩
                    · have d5 : decide ((b : Int) < (k : Int)) = false := by simp; omega
                      have HE3 := Lib.hid (show M3 = Tj.wa k c M2 a by rw [HM3.out, show b = k by omega]; rfl)
                      go_wp2_with fail
                      go_roundw
                      case rel => exact ⟨a + 1, M3, by omega, by go_num, Lib.hid (by rw [List.range_succ, List.foldl_append, ← HM2.out]; exact HE3.out), hsq, hmo, hbw⟩
                      case measure => simp [intOf]; omega
                · have d4 : decide ((a : Int) < (k : Int)) = false := by simp; omega
                  have HE2 := Lib.hid (show M2 = Tj.wk k M c by rw [HM2.out, show a = k by omega]; rfl)
                  go_wp2_with fail
                  go_roundw
                  case rel => exact ⟨c + 1, M2, by omega, by go_num, Lib.hid (by rw [List.range_succ, List.foldl_append, ← HM.out]; exact HE2.out), hsq, hmo, hbw⟩
                  case measure => simp [intOf]; omega
            · have d3 : decide ((c : Int) < (k : Int)) = false := by simp; omega
              have HD := Lib.hid (show M = Tj.depends k es by rw [HM.out, show c = k by omega]; rfl)
              go_wp2_with fail
              go_ret
              obtain ⟨A, c2, e2, hx⟩ := hmo.mx
              injection e2 with e3 _ e4
              rw [← e3] at hx
              have hd := HD.out
              exact ⟨ga, gc, rfl, by rw [HEE.out, ← hd]; exact hx, hbw⟩
end Go.Proofs.Ytljlihimmcmlmaa
