/- The walk of Components. -/
import Derived.Test.YtljlihimmcmlmaaTCl
import Derived.Test.YtljlihimmcmlmaaTGrp
namespace Go.Proofs.Ytljlihimmcmlmaa
set_option linter.unusedVariables false
set_option linter.unusedSimpArgs false
open Go.RowKit
theorem zero_cells (n : Nat) : (Array.replicate n (Value.int .i64 0)) = (ncells (List.replicate n 0)).toArray := zeros_eq n
theorem assert_ints (s : Value) (W : World) : (Instr.typeAssert (.iface 42 s) 20 42 false).run Try.prog W = .ok s W := by kernel_rfl
theorem pairs_len (of : Nat → Nat) (es : List Tj.Ed) : (Tj.pairs of es).length ≤ es.length := by
  have key : ∀ (es : List Tj.Ed) (ps : List Tj.Pa), (es.foldl (Tj.addP of) ps).length ≤ ps.length + es.length := by
    intro es
    induction es with
    | nil => intro ps; simp
    | cons e es ih =>
      intro ps
      rw [List.foldl_cons]
      have h1 := ih (Tj.addP of ps e)
      have h2 : (Tj.addP of ps e).length ≤ ps.length + 1 := by unfold Tj.addP; split <;> simp
      simp
      omega
  have := key es []
  simpa [Tj.pairs] using this
theorem row_len {nc b : Nat} {ps : List Tj.Pa} {row : List Nat} (h : ((List.range nc).map (Tj.users ps))[b]? = some row) : row.length ≤ ps.length := by
  rw [List.getElem?_map, Option.map_eq_some_iff] at h
  obtain ⟨x, _, rfl⟩ := h
  unfold Tj.users
  rw [List.length_map]
  exact List.length_filter_le _ _
/-- Which pairs have been seen. -/
def SeenIs (ps : List Tj.Pa) (f : Pr2 → Option Bool) : Prop := ∀ k, (f k).getD false = decide (k ∈ ps)
theorem seen_more {ps : List Tj.Pa} {f : Pr2 → Option Bool} {k : Pr2} (h : SeenIs ps f) : SeenIs (ps ++ [k]) (fun y => if y = k then some true else f y) := fun y => by
  show (if y = k then some true else f y).getD false = _
  by_cases e : y = k
  · subst e; simp
  · rw [if_neg e, h y]; simp [e]
set_option maxHeartbeats 4000000 in
set_option maxRecDepth 100000 in
theorem components_any (p : Pg) (n : Nat) (w : World) (hp : PgOk w p) (hf : PgFine p n) :
    Calls Try.prog 15 #[p.v] w fun e w' => ∃ A c, e = .returned (.slice A (Tj.ord (Tj.next (edges p)) n n []).length c) ∧ LsAt w' A (Tj.ord (Tj.next (edges p)) n n []) ∧ Below w.heap.size w w' := by
  obtain ⟨in1, hi1, hy0, hy1, hy2⟩ := info_of ints_info
  obtain ⟨in2, hi2, hx0, hx1, hx2⟩ := info_of int_info
  have HGR := Lib.hid (fun W (h : Below w.heap.size w W) => groups_any p n W (hp.below h) hf)
  have HED := Lib.hid (fun W (h : Below w.heap.size w W) => edges_any p W (hp.below h) hf.rs hf.ls)
  have hpt := Tj.whole_parts (g := Tj.next (edges p)) (n := n) (next_in hf.es)
  have hinv := (Tj.whole_inv (g := Tj.next (edges p)) (n := n) (next_in hf.es)).1
  have HES := Lib.hid hf.es
  have hel := hf.el
  have hn1 := hf.n1
  have hn := hf.hn
  generalize hES : edges p = es at *
  generalize Tj.whole (Tj.next es) n = wh at *
  obtain ⟨R, hR⟩ : ∃ R, Tj.ord (Tj.next es) n n [] = R := ⟨_, rfl⟩
  rw [hR]
  obtain ⟨cs, hcs⟩ : ∃ cs, wh.out = cs := ⟨_, rfl⟩
  have hnc : cs.length ≤ n := by rw [← hcs]; exact out_len hinv
  have hofl : wh.of.length = n := hinv.lof
  obtain ⟨of, hof⟩ : ∃ of, wh.of = of := ⟨_, rfl⟩
  rw [hcs] at hpt HGR
  rw [hof] at hpt HGR hofl
  have HPT := Lib.hid hpt
  have HR := Lib.hid hR
  clear hR hpt hinv hcs hof hES hf hp
  unfold Pg.v at HGR HED ⊢
  generalize p.ra = ra at *
  generalize p.pa = pa at *
  rw [hn] at HGR HED ⊢
  clear hn
  have HAT := Lib.hid (At.new w 27 #[.slice p.lat.a p.lat.n p.lat.c, .slice p.fns.a p.fns.n p.fns.c, .slice pa n p.pc, .slice ra p.rus.length p.rc])
  have hmm := @run_makeMap Try.prog
  go_enter Try.func15, Try.ntmps15
  go_wp2_with (go_at_call 32; refine (HGR.out _ (below1 _ _)).mono ?_; rintro e w1 ⟨A1, c1, A2, c2, rfl, hofm, hlsm, hb1⟩)
  have q0 := run_make_one w1 Try.underlying42 hi2 hx0 hx1 (by rw [hx2]; decide) rfl cs.length (by omega)
  have q1 := run_make_one (w1.alloc (.cells (Array.replicate cs.length (.int .i64 0)) 3)) Try.underlying36 hi1 hy0 hy1 (by rw [hy2]; decide) rfl cs.length (by omega)
  have hat1 := HAT.out.next hb1
  obtain ⟨p0, p1, p2, p3⟩ := pg_cells hat1
  have hsz := hat1.lt
  have hbw : Below w.heap.size w w1 := (below1 _ _).trans (hb1.mono (by simp))
  have hb3 : Below w1.heap.size w1 (((w1.alloc (.cells (Array.replicate cs.length (.int .i64 0)) 3)).alloc (.cells (Array.replicate cs.length (.slice none 0 0)) 42)).alloc (.map #[] 0)) := ((below1 _ _).alloc (by simp) _).alloc (by simp; omega) _
  have hE := HED.out _ (hbw.trans (hb3.mono hbw.size))
  have HE := Lib.hid hE
  have hnd : At (((w1.alloc (.cells (Array.replicate cs.length (.int .i64 0)) 3)).alloc (.cells (Array.replicate cs.length (.slice none 0 0)) 42)).alloc (.map #[] 0)) w1.heap.size 3 (ncells (List.replicate cs.length 0)).toArray := by
    rw [← zero_cells]; exact ((At.new _ _ _).alloc _).alloc _
  have hfn : Fan (((w1.alloc (.cells (Array.replicate cs.length (.int .i64 0)) 3)).alloc (.cells (Array.replicate cs.length (.slice none 0 0)) 42)).alloc (.map #[] 0)) (w1.heap.size + 1) (w1.heap.size + 1) (List.replicate cs.length (.slice none 0 0)) (List.replicate cs.length []) := by
    refine Fan.start ?_ (Nat.le_refl _)
    have h := (At.newAt (w := w1.alloc (.cells (Array.replicate cs.length (.int .i64 0)) 3)) (g := w1.heap.size + 1) (by simp) 42 (Array.replicate cs.length (.slice none 0 0))).alloc (.map #[] 0)
    simpa using h
  have hsn : PMap (((w1.alloc (.cells (Array.replicate cs.length (.int .i64 0)) 3)).alloc (.cells (Array.replicate cs.length (.slice none 0 0)) 42)).alloc (.map #[] 0)) (w1.heap.size + 2) 0 (fun _ => none) := FMap.madeAt (by simp) _ _ _ _ _
  have hs3 : (((w1.alloc (.cells (Array.replicate cs.length (.int .i64 0)) 3)).alloc (.cells (Array.replicate cs.length (.slice none 0 0)) 42)).alloc (.map #[] 0)).heap.size = w1.heap.size + 3 := by simp
  clear hE
  obtain ⟨r0, r1, r2, r3⟩ := pg_cells (hat1.next hb3)
  go_wp2_with fail
  rw [q0]
  go_wp2_with fail
  refine HE.out.mono ?_
  rintro e w2 ⟨ev, eu, rfl, ho1, ho2, hb2⟩
  have hcj : CJ w1 w1.heap.size cs.length (List.replicate cs.length 0) (List.replicate cs.length []) (List.replicate cs.length (.slice none 0 0)) 0 (fun _ => none) ev es w2 :=
    ⟨hnd.next hb2, hfn.below hb2, hsn.next hb2, by rw [hs3] at ho1; exact ho1, hb3.trans (hb2.mono hb3.size), Nat.le_refl _⟩
  obtain ⟨va, vc, rfl⟩ := own_len ho1
  clear r0 r1 r2 r3 HE HED HGR q0 q1 hnd hfn hsn hs3 hb3 ho1 ho2 hb2 hmm hat1 p0 p1 p2 p3 HAT hb1
  go_wp2_with fail
  go_loopw [11, 12, 13, 14, 41] (fun _ _ _ _ i wr => ∃ (m : Nat) (need : List Nat) (us : List (List Nat)) (hs : List Value) (nn : Nat) (f : Pr2 → Option Bool), m ≤ es.length ∧ i = .int .i64 m ∧ nn ≤ m ∧ Hid (need = (List.range cs.length).map (Tj.cnt (Tj.pairs (fun v => of.getD v 0) (es.take m)) [])) ∧ Hid (us = (List.range cs.length).map (Tj.users (Tj.pairs (fun v => of.getD v 0) (es.take m)))) ∧ Hid (SeenIs (Tj.pairs (fun v => of.getD v 0) (es.take m)) f) ∧ CJ w1 w1.heap.size cs.length need us hs nn f (.slice va es.length vc) es wr) (fun _ _ _ _ i _ => es.length - (intOf i).toNat)
  case atStart => exact ⟨0, _, _, _, 0, _, by omega, rfl, by omega, Lib.hid (by
      apply List.ext_getElem?; intro j; by_cases hj : j < cs.length <;> simp [Tj.cnt, Tj.pairs, hj]), Lib.hid (by
      apply List.ext_getElem?; intro j; by_cases hj : j < cs.length <;> simp [Tj.users, Tj.pairs, hj]), Lib.hid (fun k => by simp [Tj.pairs]), hcj⟩
  case round =>
    clear hcj
    obtain ⟨m, need, us, hs, nn, f, hm, rfl, hnn, HN, HU, HF, hcj⟩ := hrel
    by_cases h1 : m < es.length
    · have d1 : decide ((m : Int) < (es.length : Int)) = true := by simp; omega
      obtain ⟨e, he⟩ : ∃ e, es[m]? = some e := ⟨_, List.getElem?_eq_getElem h1⟩
      obtain ⟨hea, heb⟩ := HES.out e (List.mem_of_getElem? he)
      obtain ⟨z0, z1⟩ := ecells_get es m e he
      obtain ⟨A3, c3, ev2, _, _, hcs⟩ := own_cells hcj.es
      rcases hcs with hcs | ⟨ge, rfl, _, hge, hcs⟩
      · exact absurd hcs (by omega)
      injection ev2 with ev3 _ ev4
      subst ev3
      clear ev4
      have y0 := hcs _ _ z0
      have y1 := hcs _ _ z1
      obtain ⟨a, ha⟩ : ∃ a, of.getD e.a 0 = a := ⟨_, rfl⟩
      obtain ⟨b, hb⟩ : ∃ b, of.getD e.b 0 = b := ⟨_, rfl⟩
      have hga : of[e.a]? = some a := by rw [← ha, List.getD_eq_getElem?_getD, List.getElem?_eq_getElem (by omega)]; rfl
      have hgb : of[e.b]? = some b := by rw [← hb, List.getD_eq_getElem?_getD, List.getElem?_eq_getElem (by omega)]; rfl
      obtain ⟨g1, o1, e1, hg1, k0⟩ := hofm.at hga
      obtain ⟨g2, o2, e2, hg2, k1⟩ := hofm.at hgb
      rw [e1] at e2
      obtain ⟨rfl, rfl⟩ := addr_inj e2
      subst e1
      have hal : a < cs.length := by have := HPT.out.lt hea; rw [ha] at this; exact this
      have hbl : b < cs.length := by have := HPT.out.lt heb; rw [hb] at this; exact this
      have hzz := hcj.below.size
      have HCX := Lib.hid (fun W (h : Below (wr.alloc (.cells #[.int .i64 (e.a : Int), .int .i64 (e.b : Int)] 34)).heap.size (wr.alloc (.cells #[.int .i64 (e.a : Int), .int .i64 (e.b : Int)] 34)) W) => (⟨((At.new wr 34 #[.int .i64 (e.a : Int), .int .i64 (e.b : Int)]).next h).cell 0, ((At.new wr 34 #[.int .i64 (e.a : Int), .int .i64 (e.b : Int)]).next h).cell 1, ((hcj.next (below1 _ _)).next h).below.cell hg1 |>.trans k0, ((hcj.next (below1 _ _)).next h).below.cell hg1 |>.trans k1⟩ : W.cell? ⟨wr.heap.size, 0, none⟩ = some (.int .i64 (e.a : Int)) ∧ W.cell? ⟨wr.heap.size, 1, none⟩ = some (.int .i64 (e.b : Int)) ∧ W.cell? ⟨g1, o1 + e.a, none⟩ = some (.int .i64 (a : Int)) ∧ W.cell? ⟨g1, o1 + e.b, none⟩ = some (.int .i64 (b : Int))))
      have HCJ := Lib.hid (hcj.next (below1 wr (.cells #[.int .i64 (e.a : Int), .int .i64 (e.b : Int)] 34)))
      have HPS := Lib.hid (show Tj.pairs (fun v => of.getD v 0) (es.take (m + 1)) = if a ≠ b ∧ (a, b) ∉ Tj.pairs (fun v => of.getD v 0) (es.take m) then Tj.pairs (fun v => of.getD v 0) (es.take m) ++ [(a, b)] else Tj.pairs (fun v => of.getD v 0) (es.take m) by
        rw [take_more he, Tj.pairs_snoc]; unfold Tj.addP; simp only [ha, hb])
      have hpl := pairs_len (fun v => of.getD v 0) (es.take m)
      rw [List.length_take] at hpl
      generalize hps2 : Tj.pairs (fun v => of.getD v 0) (es.take (m + 1)) = ps2 at *
      generalize Tj.pairs (fun v => of.getD v 0) (es.take m) = ps at *
      have HPE := Lib.hid hps2
      clear hps2
      have j0 : (0 : Int) ≤ (m : Int) := by omega
      have j1 : (m : Int) < (es.length : Int) := by omega
      have j2 : (0 : Int) ≤ (e.a : Int) := by omega
      have j3 : (e.a : Int) < (n : Int) := by omega
      have j4 : (0 : Int) ≤ (e.b : Int) := by omega
      have j5 : (e.b : Int) < (n : Int) := by omega
      clear hcs z0 z1 he ha hb hga hgb k0 k1 hcj e2
      go_wp2_with fail
      clear y0 y1
      refine' wp_region_each _ (Below (wr.alloc (.cells #[.int .i64 (e.a : Int), .int .i64 (e.b : Int)] 34)).heap.size (wr.alloc (.cells #[.int .i64 (e.a : Int), .int .i64 (e.b : Int)] 34))) (Onward) (Vl :: Vl :: Vl :: Vl :: Vl :: Vl :: Vl :: Vl :: Vl :: Vl :: Vl :: Vl :: []) ?hF (by kernel_rfl) (by kernel_rfl) (by kernel_rfl) ((Below.refl _ _).drew) (lasting_cons (lasting_vl) (lasting_cons (lasting_vl) (lasting_cons (lasting_vl) (lasting_cons (lasting_vl) (lasting_cons (lasting_vl) (lasting_cons (lasting_vl) (lasting_cons (lasting_vl) (lasting_cons (lasting_vl) (lasting_cons (lasting_vl) (lasting_cons (lasting_vl) (lasting_cons (lasting_vl) (lasting_cons (lasting_vl) (lasting_none))))))))))))) ?hops ?hend
      case hF => (intro v; simp only [over, Act.put, List.setIfInBounds_toArray, List.set_cons_zero, List.set_cons_succ, Nat.zero_add, Nat.reduceAdd]; exact rfl)
      case hops =>
        refine ⟨?_, ?_⟩
        · intro v w' hj hd hs K hK
          have hk := hK.out
          simp only [Act.put, List.setIfInBounds_toArray, List.set_cons_zero, List.set_cons_succ] at hk
          have HK := Lib.hid hk
          clear hd hs hk hK
          go_simp
          exact HK.out _ _ hj.out (Below.refl _ _) (show _ = _ from rfl)
        refine ⟨?_, ?_⟩
        · intro v w' hj hd hs K hK
          have hk := hK.out
          simp only [Act.put, List.setIfInBounds_toArray, List.set_cons_zero, List.set_cons_succ] at hk
          have HK := Lib.hid hk
          clear hd hs hk hK
          go_simp
          exact HK.out _ _ hj.out (Below.refl _ _) (show _ = _ from rfl)
        refine ⟨?_, ?_⟩
        · intro v w' hj hd hs K hK
          have t1 : v 1 = _ := hd.out 1 (by kernel_rfl)
          obtain ⟨x0, x1, x2, x3⟩ := HCX.out _ hj.out
          have hk := hK.out
          simp only [t1, Act.put, List.setIfInBounds_toArray, List.set_cons_zero, List.set_cons_succ] at hk
          have HK := Lib.hid hk
          clear hd hs hk hK
          go_simp
          exact HK.out _ _ hj.out (Below.refl _ _) (show _ = _ from rfl)
        refine ⟨?_, ?_⟩
        · intro v w' hj hd hs K hK
          have t0 : v 0 = _ := hd.out 0 (by kernel_rfl)
          have t2 : v 2 = _ := hd.out 2 (by kernel_rfl)
          have hk := hK.out
          simp only [t0, t2, Act.put, List.setIfInBounds_toArray, List.set_cons_zero, List.set_cons_succ] at hk
          have HK := Lib.hid hk
          clear hd hs hk hK
          go_simp
          exact HK.out _ _ hj.out (Below.refl _ _) (show _ = _ from rfl)
        refine ⟨?_, ?_⟩
        · intro v w' hj hd hs K hK
          have t3 : v 3 = _ := hd.out 3 (by kernel_rfl)
          obtain ⟨x0, x1, x2, x3⟩ := HCX.out _ hj.out
          have hk := hK.out
          simp only [t3, Act.put, List.setIfInBounds_toArray, List.set_cons_zero, List.set_cons_succ] at hk
          have HK := Lib.hid hk
          clear hd hs hk hK
          go_simp
          exact HK.out _ _ hj.out (Below.refl _ _) (show _ = _ from rfl)
        refine ⟨?_, ?_⟩
        · intro v w' hj hd hs K hK
          have hk := hK.out
          simp only [Act.put, List.setIfInBounds_toArray, List.set_cons_zero, List.set_cons_succ] at hk
          have HK := Lib.hid hk
          clear hd hs hk hK
          go_simp
          exact HK.out _ _ hj.out (Below.refl _ _) (show _ = _ from rfl)
        refine ⟨?_, ?_⟩
        · intro v w' hj hd hs K hK
          have hk := hK.out
          simp only [Act.put, List.setIfInBounds_toArray, List.set_cons_zero, List.set_cons_succ] at hk
          have HK := Lib.hid hk
          clear hd hs hk hK
          go_simp
          exact HK.out _ _ hj.out (Below.refl _ _) (show _ = _ from rfl)
        refine ⟨?_, ?_⟩
        · intro v w' hj hd hs K hK
          have t6 : v 6 = _ := hd.out 6 (by kernel_rfl)
          obtain ⟨x0, x1, x2, x3⟩ := HCX.out _ hj.out
          have hk := hK.out
          simp only [t6, Act.put, List.setIfInBounds_toArray, List.set_cons_zero, List.set_cons_succ] at hk
          have HK := Lib.hid hk
          clear hd hs hk hK
          go_simp
          exact HK.out _ _ hj.out (Below.refl _ _) (show _ = _ from rfl)
        refine ⟨?_, ?_⟩
        · intro v w' hj hd hs K hK
          have t5 : v 5 = _ := hd.out 5 (by kernel_rfl)
          have t7 : v 7 = _ := hd.out 7 (by kernel_rfl)
          have hk := hK.out
          simp only [t5, t7, Act.put, List.setIfInBounds_toArray, List.set_cons_zero, List.set_cons_succ] at hk
          have HK := Lib.hid hk
          clear hd hs hk hK
          go_simp
          exact HK.out _ _ hj.out (Below.refl _ _) (show _ = _ from rfl)
        refine ⟨?_, ?_⟩
        · intro v w' hj hd hs K hK
          have t8 : v 8 = _ := hd.out 8 (by kernel_rfl)
          obtain ⟨x0, x1, x2, x3⟩ := HCX.out _ hj.out
          have hk := hK.out
          simp only [t8, Act.put, List.setIfInBounds_toArray, List.set_cons_zero, List.set_cons_succ] at hk
          have HK := Lib.hid hk
          clear hd hs hk hK
          go_simp
          exact HK.out _ _ hj.out (Below.refl _ _) (show _ = _ from rfl)
        refine ⟨?_, ?_⟩
        · intro v w' hj hd hs K hK
          have t4 : v 4 = _ := hd.out 4 (by kernel_rfl)
          have hk := hK.out
          simp only [t4, Act.put, List.setIfInBounds_toArray, List.set_cons_zero, List.set_cons_succ] at hk
          have HK := Lib.hid hk
          clear hd hs hk hK
          go_simp
          exact HK.out _ _ hj.out (Below.refl _ _) (show _ = _ from rfl)
        refine ⟨?_, ?_⟩
        · intro v w' hj hd hs K hK
          have t9 : v 9 = _ := hd.out 9 (by kernel_rfl)
          have hk := hK.out
          simp only [t9, Act.put, List.setIfInBounds_toArray, List.set_cons_zero, List.set_cons_succ] at hk
          have HK := Lib.hid hk
          clear hd hs hk hK
          go_simp
          exact HK.out _ _ hj.out (Below.refl _ _) (show _ = _ from rfl)
        trivial
      case hend =>
        intro v5 w5 hj hd
        have t10 : v5 10 = _ := hd.out 10 (of_decide_eq_true (by kernel_rfl))
        have t11 : v5 11 = _ := hd.out 11 (of_decide_eq_true (by kernel_rfl))
        simp only [t10, t11]
        have hcj := HCJ.out.next hj.out
        clear hj hd t10 t11 HCX HCJ
        have hck := hcj.next (below1 w5 (.cells #[.int .i64 (a : Int), .int .i64 (b : Int)] 34))
        have hgood : PGood (a, b) := ⟨by unfold I64; omega, by unfold I64; omega⟩
        have q2 : (Instr.lookup 66 (.map (some (w1.heap.size + 1 + 1))) (.agg #[.int .i64 (a : Int), .int .i64 (b : Int)]) false).run Try.prog (w5.alloc (.cells #[.int .i64 (a : Int), .int .i64 (b : Int)] 34)) = .ok (.bool ((f (a, b)).getD false)) (w5.alloc (.cells #[.int .i64 (a : Int), .int .i64 (b : Int)] 34)) := hck.seen.look pair_enc bool_enc Try.underlying66 (zero_bool _) (a, b) hgood
        rw [HF.out (a, b)] at q2
        have HCK := Lib.hid hck
        by_cases hab : a = b
        · have t1 : ((a : Int) == (b : Int)) = true := by rw [beq_iff_eq]; omega
          have t2 : ((a : Int) != (b : Int)) = false := by rw [bne, t1]; rfl
          have HP2 := Lib.hid (show ps2 = ps by rw [HPS.out, if_neg (fun h => h.1 hab)])
          clear hab hck hcj q2
          go_wp2_with fail
          go_roundw
          case rel => exact ⟨m + 1, need, us, hs, nn, f, by omega, by go_num, by omega, Lib.hid (by rw [HPE.out, HP2.out]; exact HN.out), Lib.hid (by rw [HPE.out, HP2.out]; exact HU.out), Lib.hid (by rw [HPE.out, HP2.out]; exact HF.out), HCK.out⟩
          case measure => simp [intOf]; omega
        · have t1 : ((a : Int) == (b : Int)) = false := by rw [beq_eq_false_iff_ne]; omega
          have t2 : ((a : Int) != (b : Int)) = true := by rw [bne, t1]; rfl
          by_cases hin : (a, b) ∈ ps
          · rw [decide_eq_true hin] at q2
            have HP2 := Lib.hid (show ps2 = ps by rw [HPS.out, if_neg (fun h => h.2 hin)])
            clear hab hin hck hcj
            go_wp2_with fail
            go_roundw
            case rel => exact ⟨m + 1, need, us, hs, nn, f, by omega, by go_num, by omega, Lib.hid (by rw [HPE.out, HP2.out]; exact HN.out), Lib.hid (by rw [HPE.out, HP2.out]; exact HU.out), Lib.hid (by rw [HPE.out, HP2.out]; exact HF.out), HCK.out⟩
            case measure => simp [intOf]; omega
          · rw [decide_eq_false hin] at q2
            have HP2 := Lib.hid (show ps2 = ps ++ [(a, b)] by rw [HPS.out, if_pos ⟨hab, hin⟩])
            have hnl : need.length = cs.length := by rw [HN.out]; simp
            have hul : us.length = cs.length := by rw [HU.out]; simp
            obtain ⟨x, hx⟩ : ∃ x, need.getD a 0 = x := ⟨_, rfl⟩
            have hxc : x = Tj.cnt ps [] a := by rw [← hx, HN.out, List.getD_eq_getElem?_getD]; simp [hal]
            have hxl : x ≤ ps.length := by rw [hxc]; unfold Tj.cnt; exact List.length_filter_le _ _
            have HXC := Lib.hid hxc
            have HXL := Lib.hid hx
            have HHI := Lib.hid hin
            have b0 : (0 : Int) ≤ (a : Int) := by omega
            have b1 : (a : Int) < (cs.length : Int) := by omega
            have b2 : (0 : Int) ≤ (b : Int) := by omega
            have b3 : (b : Int) < (cs.length : Int) := by omega
            clear hab hin hcj hx hxc
            go_wp2_with (first | (at_mapUpdate; refine wpList_fmap_update _ rfl _ _ _ 66 rfl hck.seen pair_enc bool_enc Try.underlying66 (by unfold maxLen; omega) rfl (a, b) rfl hgood true rfl ?_; intro w9 hk9 g9; have hc9 := HCK.out.mark g9 hk9; have yn := ncell hc9.need (j := a) (by omega); rw [HXL.out] at yn; have yf := hc9.need.frozen a; have hcA := hc9.count a (x + 1); rw [show ((x + 1 : Nat) : Int) = (x : Int) + 1 from by omega] at hcA; obtain ⟨row, ua, uc, hrow, hhs, hro, yu⟩ := hcA.users.get (a := b) (by omega); have hzA := hcA.users.cells.lt; have hcB := hcA.next (below1 _ (.cells #[.int .i64 (a : Int)] 3)); have hrB := hcB.users.rows b _ row hhs hrow; have hrl := row_len (HU.out ▸ hrow); have HCB := Lib.hid hcB; have hsz9 := hcB.below.size) | (at_builtin; refine wpList_append_where rfl _ _ 42 rfl (w1.heap.size + 1) 3 in2 (.int .i64 0) 1 8 Try.underlying42 hi2 hx0 hx1 hx2 rfl (by decide) _ _ _ rfl hrB ⟨w9.heap.size, 0, none⟩ 1 1 [.int .i64 (a : Int)] rfl rfl (At.news (xs := [.int .i64 (a : Int)]) (At.newAt (by simp) _ _)) (one1 rfl) (by unfold maxLen; omega) (by omega) (by simp at hzA ⊢; omega) ?_; intro v10 w10 o10 k10 g10 wh10; obtain ⟨vb, vd, rfl⟩ := own_len o10; obtain ⟨hcC, hcD⟩ := HCB.out.user hhs hrow o10 k10 g10 (fun q hq => wh10 q hq); clear yn yf yu; have yu := (hcC.users.cells.cell b).trans (show hs.toArray[b]? = some (.slice ua row.length uc) by simpa using hhs); have yf := hcC.users.cells.frozen b; have HCD := Lib.hid hcD; clear hcD hcC hcA hcB o10 k10 g10 wh10 hro hrB))
            go_roundw
            case rel => exact ⟨m + 1, _, _, _, nn + 1, _, by omega, by go_num, by omega, Lib.hid (by rw [HPE.out, HP2.out, Tj.cnts_more ps b, ← HN.out, ← HXC.out]), Lib.hid (by
              rw [HPE.out, HP2.out, Tj.userss_more ps a, ← HU.out]
              congr 2
              have h9 := hrow
              rw [HU.out, List.getElem?_map, range_get hbl] at h9
              exact (Option.some.inj h9).symm), Lib.hid (by rw [HPE.out, HP2.out]; exact seen_more HF.out), HCD.out⟩
            case measure => simp [intOf]; omega
    · have d1 : decide ((m : Int) < (es.length : Int)) = false := by simp; omega
      rw [List.take_of_length_le (by omega)] at HN HU
      obtain ⟨wA, hwA⟩ : ∃ wA, wA = wr := ⟨_, rfl⟩
      subst hwA
      have hpo := Tj.pairs_ok (fun v => of.getD v 0) es.length es rfl
      have hpl := pairs_len (fun v => of.getD v 0) es
      generalize Tj.pairs (fun v => of.getD v 0) es = ps at *
      have HPO := Lib.hid hpo
      have hck0 := hcj.ck
      have hbA : Below wA.heap.size wA ((wA.alloc (.cells #[] 42)).alloc (.cells #[.slice (some ⟨wA.heap.size, 0, none⟩) 0 0] 68)) := (below1 _ _).alloc (by simp) _
      have hw1A := hcj.below
      have hnl : need.length = cs.length := by rw [HN.out]; simp
      have hhp0 : HpAt w1 wA.heap.size (wA.heap.size + 1) (.slice (some ⟨wA.heap.size, 0, none⟩) 0 0) [] [] ((wA.alloc (.cells #[] 42)).alloc (.cells #[.slice (some ⟨wA.heap.size, 0, none⟩) 0 0] 68)) :=
        ⟨At.newAt (by simp) _ _, (own_empty wA 42 1 wA.heap.size (Nat.le_refl _)).alloc _, fun i u row h1 h2 => by simp at h2, hw1A.trans (hbA.mono hw1A.size), hw1A.size, by simp; omega⟩
      have hckA := hck0.below hbA
      clear hpo hcj hck0 HF hnn hm
      go_wp2_with fail
      go_loopw [16, 17, 90] (fun _ _ i wr => ∃ (k : Nat) (hF : List (List Nat)) (v : Value) (hv : List Value), k ≤ cs.length ∧ i = .int .i64 k ∧ HpAt w1 wA.heap.size (wA.heap.size + 1) v hv hF wr ∧ CK w1.heap.size wA.heap.size need us hs wr ∧ Hid (Hp.Heap Tj.key hF hF.length) ∧ Hid (hF.Perm (((List.range k).filter fun a => decide (need.getD a 0 = 0)).map fun a => cs.getD a []))) (fun _ _ i _ => cs.length - (intOf i).toNat)
      case atStart => exact ⟨0, [], _, _, by omega, rfl, hhp0, hckA, Lib.hid (fun i _ h => by simp at h), Lib.hid (by simp)⟩
      case round =>
        clear hhp0 hckA hbA d1
        obtain ⟨k, hF, v, hv, hk, rfl, hhp, hck, HH, HP⟩ := hrel
        have hfl : hF.length ≤ cs.length := by
          rw [HP.out.length_eq, List.length_map]
          have := List.length_filter_le (fun a => decide (need.getD a 0 = 0)) (List.range k)
          rw [List.length_range] at this
          omega
        by_cases h1 : k < cs.length
        · have d1 : decide ((k : Int) < (cs.length : Int)) = true := by simp; omega
          obtain ⟨row, hrow⟩ : ∃ row, cs[k]? = some row := ⟨_, List.getElem?_eq_getElem h1⟩
          obtain ⟨gl, ol, Bk, ck, rfl, hgl, hch, hnr⟩ := hlsm.at hrow
          have hrne := (HPT.out.comp k row hrow).1
          have yc := (hhp.below.cell hgl).trans hch
          have yn := ncell hck.need (j := k) (by omega)
          obtain ⟨x, hx⟩ : ∃ x, need.getD k 0 = x := ⟨_, rfl⟩
          rw [hx] at yn
          have i0 : (0 : Int) ≤ (k : Int) := by omega
          have i1 : (k : Int) < (cs.length : Int) := by omega
          have hcg : cs.getD k [] = row := by rw [List.getD_eq_getElem?_getD, hrow]; rfl
          by_cases hz : x = 0
          · have t1 : ((x : Int) == 0) = true := by rw [beq_iff_eq]; omega
            have HC := Lib.hid (push_any w1 wA.heap.size (wA.heap.size + 1) v hv hF wr hhp (by have := hw1A.size; omega) (by omega) Bk ck row hrne hnr)
            have hpk := Hp.push_ok (k := Tj.key) HH.out row
            have HP2 := Lib.hid (show (Hp.push Tj.key hF row).Perm (((List.range (k + 1)).filter fun a => decide (need.getD a 0 = 0)).map fun a => cs.getD a []) by
              rw [List.range_succ, List.filter_append, List.map_append]
              have : ([k].filter fun a => decide (need.getD a 0 = 0)).map (fun a => cs.getD a []) = [row] := by rw [List.filter_cons, if_pos (show decide (need.getD k 0 = 0) = true by rw [hx, hz]; rfl), List.filter_nil, List.map_cons, List.map_nil, hcg]
              rw [this]
              exact hpk.2.trans (HP.out.append_right _))
            have HH2 := Lib.hid hpk.1
            have hvb : ∀ q, v.ownBlock = some q → wA.heap.size ≤ q := fun q hq => (own_lt hhp.own hq).1
            have hzz := hhp.size
            clear hpk hx hz hcg hrne
            unfold hif at HC
            go_wp2_with fail
            refine HC.out.mono ?_
            rintro e w5 ⟨rfl, v5, hv5, hhp5, fr5, hw5⟩
            have hck5 := hck.below (fr5.toBelow (by omega) hvb hzz)
            clear yc yn hhp hck
            go_wp2_with fail
            go_roundw
            case rel => exact ⟨k + 1, _, v5, hv5, by omega, by go_num, hhp5, hck5, HH2, HP2⟩
            case measure => simp [intOf]; omega
          · have t1 : ((x : Int) == 0) = false := by rw [beq_eq_false_iff_ne]; omega
            have HP2 := Lib.hid (show hF.Perm (((List.range (k + 1)).filter fun a => decide (need.getD a 0 = 0)).map fun a => cs.getD a []) by
              rw [List.range_succ, List.filter_append, List.map_append]
              have : ([k].filter fun a => decide (need.getD a 0 = 0)).map (fun a => cs.getD a []) = [] := by rw [List.filter_cons, if_neg (show ¬ decide (need.getD k 0 = 0) = true by rw [hx, decide_eq_true_eq]; exact hz), List.filter_nil, List.map_nil]
              rw [this, List.append_nil]
              exact HP.out)
            clear hx hz hcg hrne
            go_wp2_with fail
            go_roundw
            case rel => exact ⟨k + 1, hF, v, hv, by omega, by go_num, hhp, hck, HH, HP2⟩
            case measure => simp [intOf]; omega
        · have d1 : decide ((k : Int) < (cs.length : Int)) = false := by simp; omega
          have hke : k = cs.length := by omega
          rw [hke] at HP
          have HKI := Lib.hid (show Tj.KI cs ps [] need hF from ⟨(fun a h => by cases h), List.nodup_nil, (fun q hq h => by cases h), ⟨hnl, (fun a ha => by
            rw [if_neg (by simp), Nat.add_zero, HN.out, List.getD_eq_getElem?_getD]; simp [ha]), HH.out, by
            unfold Tj.rdy; simpa using HP.out⟩⟩)
          have HKH := Lib.hid (show Tj.kahn cs (fun v => of.getD v 0) ps cs.length need hF [] = R by
            rw [Tj.kahn_ord HES.out HPT.out HPO.out.1 HPO.out.2 cs.length n [] need [] hF [] HKI.out (fun v => by simp) (by simp) (by simpa using hnc), HR.out]; rfl)
          have HUS := Lib.hid (show us = (List.range cs.length).map (Tj.users ps) from HU.out)
          have hbz := hw1A.size
          clear HP HH HN HU hnl hke
          go_wp2_with fail
          go_loopw [18, 19, 21, 129] (fun o _ _ _ wr => ∃ (f : Nat) (pp need : List Nat) (hF out : List (List Nat)) (v : Value) (hv ohs : List Value), HpAt w1 wA.heap.size (wA.heap.size + 1) v hv hF wr ∧ CK w1.heap.size wA.heap.size need us hs wr ∧ wr.ownsRow wA.heap.size 42 1 o out.length ohs ∧ Hid (ORows w1 ohs out) ∧ Hid (∀ q, o.ownBlock = some q → v.ownBlock ≠ some q) ∧ Hid (Tj.KI cs ps pp need hF) ∧ cs.length ≤ pp.length + f ∧ out.length ≤ pp.length ∧ Hid (Tj.kahn cs (fun v => of.getD v 0) ps f need hF out = R)) (fun o _ _ _ _ => 2000 - lenOf o)
          case atStart => exact ⟨cs.length, [], need, hF, [], v, hv, [], hhp, hck, World.ownsRow_nil _ _ _ _, Lib.hid (fun i u row h1 h2 => by simp at h2), Lib.hid (fun q hq => by simp [Value.ownBlock] at hq), HKI, by simp, by simp, HKH⟩
          case round =>
            clear HKI HKH hhp hck hfl h1 d1 hk
            obtain ⟨f, pp, need, hF, out, v, hv, ohs, hhp, hck, ho, HOR, HAP, HKI, hpf, hop, HKH⟩ := hrel
            have hppl : pp.length ≤ cs.length := nodup_le HKI.out.nd (fun x hx => HKI.out.lt x hx)
            obtain ⟨va2, vc2, rfl⟩ := own_len hhp.own
            obtain ⟨oa, oc, rfl⟩ := own_len ho
            have HL := Lib.hid (len_any va2 hF.length vc2 wr)
            have yv : wr.cell? ⟨wA.heap.size + 1, 0, none⟩ = some (.slice va2 hF.length vc2) := hhp.cell.cell 0
            have hfl : hF.length ≤ cs.length := by
              rw [HKI.out.rel.perm.length_eq]
              unfold Tj.rdy
              rw [List.length_map]
              have := List.length_filter_le (fun a => decide (a ∉ pp ∧ need.getD a 0 = 0)) (List.range cs.length)
              rw [List.length_range] at this
              exact this
            cases hx : hF[0]? with
            | none =>
              have h0 : hF = [] := List.eq_nil_of_length_eq_zero (by have := List.getElem?_eq_none_iff.1 hx; omega)
              subst h0
              have HE := Lib.hid (show out = R by
                rw [← HKH.out]
                cases f with
                | zero => rfl
                | succ f => rfl)
              have hbR := hbw.trans (hhp.below.mono hbw.size)
              obtain ⟨A', c', e, hl⟩ := ls_headers ho HOR.out hhp.below
              injection e with e1 e2 e3
              subst e1
              have HLS := Lib.hid hl
              clear hl e3
              go_wp2_with fail
              refine HL.out.mono ?_
              rintro e w3 ⟨rfl, rfl⟩
              go_wp2_with fail
              go_ret
              refine ⟨oa, oc, ?_, ?_, hbR⟩
              · rw [← HE.out]; rfl
              · rw [← HE.out]; exact HLS.out
            | some x =>
              have hl0 : 0 < hF.length := (List.getElem?_eq_some_iff.1 hx).1
              have d2 : decide ((0 : Int) < (hF.length : Int)) = true := by simp; omega
              obtain ⟨b, hcb, hob, hbl, hkn, hus, hun, hrel, hki⟩ := Tj.ki_step HES.out HPT.out HPO.out.1 HPO.out.2 HKI.out hx
              have hK2 := hki _ (hrel.fold _ _ hus hun)
              have hppl2 : (pp ++ [b]).length ≤ cs.length := nodup_le hK2.nd (fun x hx => hK2.lt x hx)
              obtain ⟨f, rfl⟩ : ∃ f', f = f' + 1 := ⟨f - 1, by simp at hppl2; omega⟩
              have HK3 := Lib.hid (show Tj.kahn cs (fun v => of.getD v 0) ps f ((Tj.users ps b).foldl (Tj.relax cs) (need, Hp.pop Tj.key hF)).1 ((Tj.users ps b).foldl (Tj.relax cs) (need, Hp.pop Tj.key hF)).2 (out ++ [x]) = R by
                rw [← HKH.out]
                show _ = (match hF[0]? with | none => out | some x => _)
                rw [hx, ← hob])
              have HC := Lib.hid (pop_any w1 wA.heap.size (wA.heap.size + 1) _ hv hF wr hhp (by omega) (by omega) x hx HKI.out.rel.heap)
              have HREL := Lib.hid hrel
              have HUS2 := Lib.hid hus
              have HUN := Lib.hid hun
              have HKI2 := Lib.hid hki
              have hvb : ∀ q, (Value.slice va2 hF.length vc2).ownBlock = some q → wA.heap.size ≤ q := fun q hq => (own_lt hhp.own hq).1
              have hzz := hhp.size
              have hoH : (Value.slice oa out.length oc).ownBlock ≠ some (wA.heap.size + 1) := fun e => own_far ho hhp.cell (by decide) e.symm
              have hgb : of[Tj.key x]? = some b := by rw [← hob, List.getD_eq_getElem?_getD, List.getElem?_eq_getElem (by omega)]; rfl
              obtain ⟨g1, o1, rfl, hg1, k0⟩ := hofm.at hgb
              have hul : us.length = cs.length := by rw [HUS.out]; simp
              unfold hif at HC
              have j2 : (0 : Int) ≤ ((Tj.key x : Nat) : Int) := by omega
              have j3 : ((Tj.key x : Nat) : Int) < (n : Int) := by omega
              have j4 : (0 : Int) ≤ (b : Int) := by omega
              have j5 : (b : Int) < (cs.length : Int) := by omega
              clear hrel hus hun hki hK2 hgb hx hob HKH
              go_wp2_with fail
              refine HL.out.mono ?_
              rintro e w3 ⟨rfl, rfl⟩
              go_wp2_with fail
              refine HC.out.mono ?_
              rintro e w5 ⟨A, c, v5, hv5, rfl, hne, hnx, hhp5, fr5, hw5⟩
              have hck5 := hck.below (fr5.toBelow (by omega) hvb hzz)
              have ho5 := own_fr ho fr5 hoH HAP.out
              have ap5 : ∀ q, (Value.slice oa out.length oc).ownBlock = some q → v5.ownBlock ≠ some q := fun q hq h5 => HAP.out q hq (hw5 q h5)
              obtain ⟨kx, rx, hxx⟩ : ∃ kx rx, x = kx :: rx := by
                cases x with
                | nil => exact absurd rfl hne
                | cons a r => exact ⟨a, r, rfl⟩
              have hkx : Tj.key x = kx := by rw [hxx]; rfl
              rw [hkx] at k0 j2 j3 hkn
              obtain ⟨gx, ox, rfl, hgx, cx⟩ := hnx.at (j := 0) (x := kx) (by rw [hxx]; rfl)
              rw [Nat.add_zero] at cx
              have hxl : 0 < x.length := by rw [hxx]; simp
              have i4 : (0 : Int) < (x.length : Int) := by omega
              have hhpA := hhp5.next (below1 w5 (.cells #[.slice (some ⟨gx, ox, none⟩) x.length c] 42))
              have hoA := ho5.alloc (.cells #[.slice (some ⟨gx, ox, none⟩) x.length c] 42)
              have hckA := hck5.below ((below1 w5 (.cells #[.slice (some ⟨gx, ox, none⟩) x.length c] 42)).mono hhp5.size)
              have HNX := Lib.hid hnx
              have HHA := Lib.hid hhpA
              have HCA := Lib.hid hckA
              have HOA := Lib.hid hoA
              have HAP5 := Lib.hid ap5
              have hv5z : ∀ q, v5.ownBlock = some q → q < w5.heap.size := fun q hq => (own_lt hhp5.own hq).2
              have HVZ := Lib.hid hv5z
              have hz5 := hhp5.size
              clear hxx hkx hhp5 hck5 ho5 hck ho hhp HL HC yv fr5 hw5 ap5 hv5z hhpA hckA hnx hne
              have qa := assert_ints (.slice (some ⟨gx, ox, none⟩) x.length c) w5
              go_wp2_with ((at_builtin; refine wpList_append_where rfl _ _ 36 rfl wA.heap.size 42 in1 (.slice none 0 0) 1 24 Try.underlying36 hi1 hy0 hy1 hy2 rfl (by decide) _ _ _ rfl hoA ⟨w5.heap.size, 0, none⟩ 1 1 [.slice (some ⟨gx, ox, none⟩) x.length c] rfl rfl (At.news (xs := [.slice (some ⟨gx, ox, none⟩) x.length c]) (At.new w5 42 _)) (one1 rfl) (by unfold maxLen; omega) (by omega) HHA.out.size ?_; intro v10 w10 o10 k10 g10 wh10; obtain ⟨ob, od, rfl⟩ := own_len o10; have hhp10 := HHA.out.far HOA.out g10 HAP5.out; have hck10 := HCA.out.below (below_own HOA.out g10 HHA.out.size); obtain ⟨row, ua, uc, hrow, hhs, hro, yu⟩ := hck10.users.get (a := b) (by omega); have yx := (hhp10.below.cell hgx).trans cx; have yo := (hhp10.below.cell hg1).trans k0))
              have hrowe : row = Tj.users ps b := by
                have h9 := hrow
                rw [HUS.out, List.getElem?_map, range_get hbl] at h9
                exact (Option.some.inj h9).symm
              have ho10 := o10
              have HOR10 := Lib.hid (HOR.out.snoc (A := some ⟨gx, ox, none⟩) (c := c) (row := x) (by have := o10.1; simp at this; omega) HNX.out)
              have HAP10 := Lib.hid (show ∀ q, (Value.slice ob (out.length + 1) od).ownBlock = some q → v5.ownBlock ≠ some q from fun q hq h5 => by
                rcases wh10 q hq with h6 | h6
                · exact HAP5.out q h6 h5
                · have := HVZ.out q h5
                  simp at h6
                  omega)
              have HROW := Lib.hid hrow
              have HHS := Lib.hid hhs
              have hrll : row.length ≤ ps.length := by rw [hrowe]; unfold Tj.users; rw [List.length_map]; exact List.length_filter_le _ _
              have HRE := Lib.hid hrowe
              rw [← hrowe] at HREL HUS2 HUN HK3
              clear yx yo yu o10 k10 g10 wh10 hoA HOA HHA HCA HAP HAP5 HVZ hoH hvb hro hrow hhs hrowe qa
              go_loopw [21, 129] (fun _ i wr => ∃ (j : Nat) (need2 : List Nat) (hF2 : List (List Nat)) (v : Value) (hv : List Value), j ≤ row.length ∧ i = .int .i64 j ∧ HpAt w1 wA.heap.size (wA.heap.size + 1) v hv hF2 wr ∧ CK w1.heap.size wA.heap.size need2 us hs wr ∧ wr.ownsRow wA.heap.size 42 1 (.slice ob (out.length + 1) od) (out.length + 1) (ohs ++ [.slice (some ⟨gx, ox, none⟩) x.length c]) ∧ Hid (∀ q, (Value.slice ob (out.length + 1) od).ownBlock = some q → v.ownBlock ≠ some q) ∧ Hid ((need2, hF2) = (row.take j).foldl (Tj.relax cs) (need, Hp.pop Tj.key hF)) ∧ Hid (Tj.Rel cs ps (pp ++ [b]) (row.drop j) (need2, hF2))) (fun _ i _ => row.length - (intOf i).toNat)
              case atStart => exact ⟨0, need, _, v5, hv5, by omega, rfl, hhp10, hck10, ho10, HAP10, Lib.hid rfl, Lib.hid (by rw [List.drop_zero]; exact HREL.out)⟩
              case round =>
                clear hhp10 hck10 ho10 HAP10 HREL
                obtain ⟨j, need2, hF2, v, hv, hj, rfl, hhp, hck, ho, HAP, HFO, HREL⟩ := hrel
                have hnl2 : need2.length = cs.length := HREL.out.len
                by_cases h3 : j < row.length
                · have d3 : decide ((j : Int) < (row.length : Int)) = true := by simp; omega
                  obtain ⟨a, ha⟩ : ∃ a, row[j]? = some a := ⟨_, List.getElem?_eq_getElem h3⟩
                  obtain ⟨hal, hap⟩ := HUS2.out a (List.mem_of_getElem? ha)
                  obtain ⟨A9, c9, ev2, _, _, hcs⟩ := own_cells (hck.users.rows b _ row HHS.out HROW.out)
                  rcases hcs with hcs | ⟨gq, rfl, _, hgq, hcs⟩
                  · exact absurd hcs (by omega)
                  injection ev2 with ev3 _ ev4
                  subst ev3
                  clear ev4
                  have ya := hcs _ _ (ncells_get ha)
                  have hdr : row.drop j = a :: row.drop (j + 1) := by
                    rw [List.drop_eq_getElem_cons h3]
                    rw [List.getElem?_eq_getElem h3] at ha
                    rw [Option.some.inj ha]
                  have hun' : a ∉ row.drop (j + 1) := by
                    have h9 := HUN.out.sublist (List.drop_sublist j row)
                    rw [hdr] at h9
                    exact (List.nodup_cons.1 h9).1
                  have hrs := HREL.out
                  rw [hdr] at hrs
                  have HST := Lib.hid (hrs.step hal hap hun')
                  have hy1 := hrs.need a hal
                  rw [if_pos (by simp)] at hy1
                  obtain ⟨y, hy⟩ : ∃ y, need2.getD a 0 = y := ⟨_, rfl⟩
                  have hy0 : 1 ≤ y := by rw [← hy]; show 1 ≤ (need2, hF2).1.getD a 0; omega
                  have yn := ncell hck.need (j := a) (by omega)
                  rw [hy] at yn
                  have yf := hck.need.frozen a
                  have hfl2 : hF2.length ≤ cs.length := by
                    rw [hrs.perm.length_eq]
                    unfold Tj.rdy
                    rw [List.length_map]
                    have := List.length_filter_le (fun z => decide (z ∉ pp ++ [b] ∧ (need2, hF2).1.getD z 0 = 0)) (List.range cs.length)
                    rw [List.length_range] at this
                    exact this
                  have hcl : Tj.cnt ps (pp ++ [b]) a ≤ ps.length := by unfold Tj.cnt; exact List.length_filter_le _ _
                  have hyl : y ≤ 3000000 := by rw [← hy]; have h9 : need2.getD a 0 = Tj.cnt ps (pp ++ [b]) a + 1 := hy1; omega
                  obtain ⟨z, hz⟩ : ∃ z, y - 1 = z := ⟨_, rfl⟩
                  have e3 : (y : Int) - 1 = (z : Int) := by omega
                  have hck2 := hck.count a z
                  have hhp2 := hhp.count (S := w1.heap.size) ⟨Nat.le_refl _, by have := hck.fit; omega⟩ (by have := hck.fit; omega) a (.int .i64 (z : Int))
                  have ho2 := own_put (p := ⟨w1.heap.size, a, none⟩) ho (by have := hck.fit; simp; omega) (.int .i64 (z : Int))
                  have yn2 := ncell hck2.need (j := a) (by rw [List.length_set]; omega)
                  rw [show (need2.set a z).getD a 0 = z by rw [Tj.getD_set, if_pos ⟨rfl, by omega⟩]] at yn2
                  obtain ⟨rowa, hra⟩ : ∃ rowa, cs[a]? = some rowa := ⟨_, List.getElem?_eq_getElem hal⟩
                  obtain ⟨gl, ol, Bk, ck, rfl, hgl, hch, hnr⟩ := hlsm.at hra
                  have hrne := (HPT.out.comp a rowa hra).1
                  have yc := (hhp2.below.cell hgl).trans hch
                  have hcg : cs.getD a [] = rowa := by rw [List.getD_eq_getElem?_getD, hra]; rfl
                  have hrx : Tj.relax cs (need2, hF2) a = (need2.set a z, if z = 0 then Hp.push Tj.key hF2 rowa else hF2) := by
                    unfold Tj.relax
                    simp only [hy, hz, hcg]
                  have HFO2 := Lib.hid (show Tj.relax cs (need2, hF2) a = (row.take (j + 1)).foldl (Tj.relax cs) (need, Hp.pop Tj.key hF) by
                    rw [take_more ha, List.foldl_append, ← HFO.out]; rfl)
                  have j0 : (0 : Int) ≤ (j : Int) := by omega
                  have j1 : (j : Int) < (row.length : Int) := by omega
                  have i0 : (0 : Int) ≤ (a : Int) := by omega
                  have i1 : (a : Int) < (cs.length : Int) := by omega
                  have HCK2 := Lib.hid hck2
                  have HHP2 := Lib.hid hhp2
                  have HO2 := Lib.hid ho2
                  by_cases hz0 : z = 0
                  · have t1 : ((z : Int) == 0) = true := by rw [beq_iff_eq]; omega
                    rw [if_pos hz0] at hrx
                    have HRX := Lib.hid hrx
                    have HC := Lib.hid (push_any w1 wA.heap.size (wA.heap.size + 1) v hv hF2 _ hhp2 (by omega) (by omega) Bk ck rowa hrne hnr)
                    unfold hif at HC
                    clear hcs hdr hun' hrs hy1 hy hz hrx hcg hra ha hck2 hhp2 ho2 hck hhp ho hz0 hcl hap hnr
                    go_wp2_with fail
                    refine HC.out.mono ?_
                    rintro e w9 ⟨rfl, v9, hv9, hhp9, fr9, hw9⟩
                    have hvb : ∀ q, v.ownBlock = some q → wA.heap.size ≤ q := fun q hq => (own_lt HHP2.out.own hq).1
                    have hck9 := HCK2.out.below (fr9.toBelow (by omega) hvb HHP2.out.size)
                    have ho9 := own_fr HO2.out fr9 (fun e => own_far HO2.out HHP2.out.cell (by decide) e.symm) HAP.out
                    have HAP9 := Lib.hid (show ∀ q, (Value.slice ob (out.length + 1) od).ownBlock = some q → v9.ownBlock ≠ some q from fun q hq h5 => by
                      rcases hw9 q h5 with h6 | h6
                      · exact HAP.out q hq h6
                      · have := (own_lt HO2.out hq).2
                        omega)
                    clear yc yn2 yn yf ya
                    go_wp2_with fail
                    go_roundw
                    case rel => exact ⟨j + 1, _, _, v9, hv9, by omega, by go_num, hhp9, hck9, ho9, HAP9, Lib.hid (by rw [← HFO2.out, HRX.out]), Lib.hid (by rw [← HRX.out]; exact HST.out)⟩
                    case measure => simp [intOf]; omega
                  · have t1 : ((z : Int) == 0) = false := by rw [beq_eq_false_iff_ne]; omega
                    rw [if_neg hz0] at hrx
                    have HRX := Lib.hid hrx
                    clear hcs hdr hun' hrs hy1 hy hz hrx hcg hra ha hck2 hhp2 ho2 hck hhp ho hz0 hcl hap hnr
                    go_wp2_with fail
                    go_roundw
                    case rel => exact ⟨j + 1, _, _, v, hv, by omega, by go_num, HHP2.out, HCK2.out, HO2.out, HAP, Lib.hid (by rw [← HFO2.out, HRX.out]), Lib.hid (by rw [← HRX.out]; exact HST.out)⟩
                    case measure => simp [intOf]; omega
                · have d3 : decide ((j : Int) < (row.length : Int)) = false := by simp; omega
                  rw [List.drop_of_length_le (by omega)] at HREL
                  rw [List.take_of_length_le (by omega)] at HFO
                  have hK4 := HKI2.out _ HREL.out
                  have HK4 := Lib.hid hK4
                  have HK5 := Lib.hid (show Tj.kahn cs (fun v => of.getD v 0) ps f need2 hF2 (out ++ [x]) = R by
                    rw [← HK3.out, ← HFO.out])
                  have ho' : wr.ownsRow wA.heap.size 42 1 (.slice ob (out.length + 1) od) (out ++ [x]).length (ohs ++ [.slice (some ⟨gx, ox, none⟩) x.length c]) := by rw [List.length_append]; exact ho
                  go_wp2_with fail
                  go_roundw
                  case rel => exact ⟨f, pp ++ [b], need2, hF2, out ++ [x], v, hv, _, hhp, hck, ho', HOR10, HAP, HK4, by simp; omega, by simp; omega, HK5⟩
                  case measure => simp [lenOf]; simp at hppl2; omega
end Go.Proofs.Ytljlihimmcmlmaa
