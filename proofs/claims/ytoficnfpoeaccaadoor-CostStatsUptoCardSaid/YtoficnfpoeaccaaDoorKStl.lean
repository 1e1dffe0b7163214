/- The walk of CostStats. -/
import Derived.Test.YtoficnfpoeaccaaDoorKLit2
import Derived.Test.YtoficnfpoeaccaaDoorKHead
import Derived.StillTactics
namespace Go.Proofs.YtoficnfpoeaccaaDoor
set_option linter.unusedVariables false
set_option linter.unusedSimpArgs false
open Go.RowKit
theorem min_cast (q : Nat) : min (q : Int) 1000 = ((min q 1000 : Nat) : Int) := by
  rcases Nat.le_total q 1000 with h | h
  · rw [Nat.min_eq_left h, Int.min_eq_left (by omega)]
  · rw [Nat.min_eq_right h, Int.min_eq_right (by omega)]; rfl
theorem cap_le (l : List Nat) : Ct.capL l ≤ 1000 := by
  have key : ∀ (l : List Nat) (p : Nat), p ≤ 1000 → l.foldl (fun p x => min (p * x) 1000) p ≤ 1000 := fun l => by
    induction l with
    | nil => intro p h; exact h
    | cons x l ih => intro p _; rw [List.foldl_cons]; exact ih _ (Nat.min_le_right _ _)
  exact key l 1 (by decide)
theorem cap_snoc {l : List Nat} {k x : Nat} (h : l[k]? = some x) : Ct.capL (l.take (k + 1)) = min (Ct.capL (l.take k) * x) 1000 := by
  rw [take_more h]
  unfold Ct.capL
  rw [List.foldl_append]
  rfl
theorem cols_pos {G : List (List Qu.Vl3)} {n rn : Nat} (hG : ∀ r ∈ G, r.length = n) (hr : Ct.dcount G = rn) (i : Nat) (hi : i < n) : 0 < rn → 0 < Ct.dcount (Ct.col G i) := fun h0 => by
  refine Ct.dcount_pos fun e => ?_
  cases G with
  | nil => subst hr; exact absurd h0 (by decide)
  | cons r G =>
    have hil : i < r.length := by rw [hG r (by simp)]; exact hi
    have : r[i] ∈ Ct.col (r :: G) i := List.mem_filterMap.2 ⟨r, by simp, List.getElem?_eq_getElem hil⟩
    rw [e] at this
    cases this
set_option maxHeartbeats 8000000 in
set_option maxRecDepth 100000 in
theorem stats_law (pm : Pm) (d : Da) (pred : Int) (w : World) (hT : Tabs w) (hpm : PmOk w pm) (hd : DaOk w d) (htn : ∀ x ∈ pm.preds, x.tn ≤ 2000000) :
    Calls Tryd.prog 4 #[pm.v, d.v, .int .i64 pred] w fun e w' => e = .returned (.bool true) ∧ Below w.heap.size w w' := by
  have HH := Lib.hid (fun W (h : Below w.heap.size w W) => head_any W (hT.next h))
  have HLI := Lib.hid (fun W (h : Below w.heap.size w W) => little_any d W (hd.below h))
  have HSTA := Lib.hid (fun W (h : Below w.heap.size w W) hl hn => stats_any pm d pred W (hpm.below h) (hd.below h) hl hn (hT.next h) htn)
  have HP := Lib.hid (fun W (h : Below w.heap.size w W) => (hpm.preds).below h)
  have HLO := Lib.hid (@lit_of d)
  have HTN := Lib.hid htn
  have HNEG := Lib.hid (@statP_neg pm d pred)
  have HOUT := Lib.hid (@statP_out pm d pred)
  have HIN := Lib.hid (fun p pd (h : pm.preds[p]? = some pd) => statP_in (d := d) h)
  have HRK := Lib.hid (fun hl pd p => rowsOf_ok hd hl pd p)
  obtain ⟨lt, fn, pa, pc, preds, ru⟩ := pm
  obtain ⟨ra, rc, rels, la, lc, lats⟩ := d
  unfold Pm.v Da.v at *
  dsimp only at *
  clear hpm hd hT htn
  have hw1 : Below w.heap.size w ((w.alloc (.cells #[.slice lt.a lt.n lt.c, .slice fn.a fn.n fn.c, .slice pa preds.length pc, .slice ru.a ru.n ru.c] 27)).alloc (.cells #[.slice ra rels.length rc, .slice la lats.length lc] 31)) := (below1 _ _).alloc (by simp) _
  have hp1 : At ((w.alloc (.cells #[.slice lt.a lt.n lt.c, .slice fn.a fn.n fn.c, .slice pa preds.length pc, .slice ru.a ru.n ru.c] 27)).alloc (.cells #[.slice ra rels.length rc, .slice la lats.length lc] 31)) w.heap.size 27 #[.slice lt.a lt.n lt.c, .slice fn.a fn.n fn.c, .slice pa preds.length pc, .slice ru.a ru.n ru.c] := (At.new w _ _).alloc _
  have hq1 : At ((w.alloc (.cells #[.slice lt.a lt.n lt.c, .slice fn.a fn.n fn.c, .slice pa preds.length pc, .slice ru.a ru.n ru.c] 27)).alloc (.cells #[.slice ra rels.length rc, .slice la lats.length lc] 31)) (w.heap.size + 1) 31 #[.slice ra rels.length rc, .slice la lats.length lc] := At.newAt (by simp) _ _
  by_cases h30 : 30 < preds.length
  · have d0 : decide ((30 : Int) < (preds.length : Int)) = true := by simp; omega
    have n0 : decide (30 < preds.length) = true := decide_eq_true h30
    clear h30
    go_enter Tryd.func4, Tryd.ntmps4
    go_wp2_with first | (go_at_call 10; with_reducible refine (HH.out _ hw1).mono ?_; rintro e w2 ⟨rfl, hb2⟩; have hw2 : Below w.heap.size w w2 := hw1.trans (hb2.mono hw1.size); have hp2 := hp1.next hb2; have hq2 := hq1.next hb2; skip; have p0 := hp2.cell 0; have p1 := hp2.cell 1; have p2 := hp2.cell 2; have p3 := hp2.cell 3; have q0 := hq2.cell 0; have q1 := hq2.cell 1; simp only [List.getElem?_toArray, List.getElem?_cons_zero, List.getElem?_cons_succ] at p0 p1 p2 p3 q0 q1)
    go_ret
    exact ⟨rfl, hw2⟩
  · have d0 : decide ((30 : Int) < (preds.length : Int)) = false := by simp; omega
    have n0 : decide (30 < preds.length) = false := decide_eq_false h30
    have hpl : preds.length ≤ 30 := by omega
    clear h30
    cases hli : litB ⟨ra, rc, rels, la, lc, lats⟩
    · rw [hli] at HLI
      clear hli
      go_enter Tryd.func4, Tryd.ntmps4
      go_wp2_with first | (go_at_call 11; with_reducible refine (HLI.out _ hw2).mono ?_; rintro e w3 ⟨rfl, hb3⟩; have hw3 : Below w.heap.size w w3 := hw2.trans (hb3.mono hw2.size); have hp3 := hp2.next hb3; have hq3 := hq2.next hb3; clear p0 p1 p2 p3 q0 q1; have p0 := hp3.cell 0; have p1 := hp3.cell 1; have p2 := hp3.cell 2; have p3 := hp3.cell 3; have q0 := hq3.cell 0; have q1 := hq3.cell 1; simp only [List.getElem?_toArray, List.getElem?_cons_zero, List.getElem?_cons_succ] at p0 p1 p2 p3 q0 q1) | (go_at_call 10; with_reducible refine (HH.out _ hw1).mono ?_; rintro e w2 ⟨rfl, hb2⟩; have hw2 : Below w.heap.size w w2 := hw1.trans (hb2.mono hw1.size); have hp2 := hp1.next hb2; have hq2 := hq1.next hb2; skip; have p0 := hp2.cell 0; have p1 := hp2.cell 1; have p2 := hp2.cell 2; have p3 := hp2.cell 3; have q0 := hq2.cell 0; have q1 := hq2.cell 1; simp only [List.getElem?_toArray, List.getElem?_cons_zero, List.getElem?_cons_succ] at p0 p1 p2 p3 q0 q1)
      go_ret
      exact ⟨rfl, hw3⟩
    · rw [hli] at HLI
      have hL := HLO.out hli
      have HST := Lib.hid (fun W h => HSTA.out W h hL hpl)
      by_cases h0 : pred < 0
      · have d1 : decide (pred < 0) = true := decide_eq_true h0
        rw [HNEG.out h0] at HST
        clear hli h0
        go_enter Tryd.func4, Tryd.ntmps4
        go_wp2_with first | (go_at_call 11; with_reducible refine (HLI.out _ hw2).mono ?_; rintro e w3 ⟨rfl, hb3⟩; have hw3 : Below w.heap.size w w3 := hw2.trans (hb3.mono hw2.size); have hp3 := hp2.next hb3; have hq3 := hq2.next hb3; clear p0 p1 p2 p3 q0 q1; have p0 := hp3.cell 0; have p1 := hp3.cell 1; have p2 := hp3.cell 2; have p3 := hp3.cell 3; have q0 := hq3.cell 0; have q1 := hq3.cell 1; simp only [List.getElem?_toArray, List.getElem?_cons_zero, List.getElem?_cons_succ] at p0 p1 p2 p3 q0 q1) | (go_at_call 10; with_reducible refine (HH.out _ hw1).mono ?_; rintro e w2 ⟨rfl, hb2⟩; have hw2 : Below w.heap.size w w2 := hw1.trans (hb2.mono hw1.size); have hp2 := hp1.next hb2; have hq2 := hq1.next hb2; skip; have p0 := hp2.cell 0; have p1 := hp2.cell 1; have p2 := hp2.cell 2; have p3 := hp2.cell 3; have q0 := hq2.cell 0; have q1 := hq2.cell 1; simp only [List.getElem?_toArray, List.getElem?_cons_zero, List.getElem?_cons_succ] at p0 p1 p2 p3 q0 q1)
        refine (HST.out _ hw3).mono ?_
        rintro e w4 ⟨⟨⟨sr, sda, sdc, sdist⟩, rfl, hso, hsr, hsd, hsz⟩, hb4⟩
        dsimp only at hsr hsd hsz
        subst hsr; subst hsd
        dsimp only
        have hw4 : Below w.heap.size w w4 := hw3.trans (hb4.mono hw3.size)
        have hp4 := hp3.next hb4
        have hq4 := hq3.next hb4
        have hpl4 := hp4.lt
        have hql4 := hq4.lt
        clear p0 p1 p2 p3 q0 q1
        have p0 := hp4.cell 0; have p1 := hp4.cell 1; have p2 := hp4.cell 2; have p3 := hp4.cell 3; have q0 := hq4.cell 0; have q1 := hq4.cell 1; simp only [List.getElem?_toArray, List.getElem?_cons_zero, List.getElem?_cons_succ] at p0 p1 p2 p3 q0 q1
        go_wp2_with fail
        go_ret
        exact ⟨rfl, hw4.alloc hw4.size _⟩
      · have d1 : decide (pred < 0) = false := decide_eq_false h0
        by_cases h1 : (preds.length : Int) ≤ pred
        · have d2 : decide ((preds.length : Int) ≤ pred) = true := decide_eq_true h1
          rw [HOUT.out h1] at HST
          clear hli h0 h1
          go_enter Tryd.func4, Tryd.ntmps4
          go_wp2_with first | (go_at_call 11; with_reducible refine (HLI.out _ hw2).mono ?_; rintro e w3 ⟨rfl, hb3⟩; have hw3 : Below w.heap.size w w3 := hw2.trans (hb3.mono hw2.size); have hp3 := hp2.next hb3; have hq3 := hq2.next hb3; clear p0 p1 p2 p3 q0 q1; have p0 := hp3.cell 0; have p1 := hp3.cell 1; have p2 := hp3.cell 2; have p3 := hp3.cell 3; have q0 := hq3.cell 0; have q1 := hq3.cell 1; simp only [List.getElem?_toArray, List.getElem?_cons_zero, List.getElem?_cons_succ] at p0 p1 p2 p3 q0 q1) | (go_at_call 10; with_reducible refine (HH.out _ hw1).mono ?_; rintro e w2 ⟨rfl, hb2⟩; have hw2 : Below w.heap.size w w2 := hw1.trans (hb2.mono hw1.size); have hp2 := hp1.next hb2; have hq2 := hq1.next hb2; skip; have p0 := hp2.cell 0; have p1 := hp2.cell 1; have p2 := hp2.cell 2; have p3 := hp2.cell 3; have q0 := hq2.cell 0; have q1 := hq2.cell 1; simp only [List.getElem?_toArray, List.getElem?_cons_zero, List.getElem?_cons_succ] at p0 p1 p2 p3 q0 q1)
          refine (HST.out _ hw3).mono ?_
          rintro e w4 ⟨⟨⟨sr, sda, sdc, sdist⟩, rfl, hso, hsr, hsd, hsz⟩, hb4⟩
          dsimp only at hsr hsd hsz
          subst hsr; subst hsd
          dsimp only
          have hw4 : Below w.heap.size w w4 := hw3.trans (hb4.mono hw3.size)
          have hp4 := hp3.next hb4
          have hq4 := hq3.next hb4
          have hpl4 := hp4.lt
          have hql4 := hq4.lt
          clear p0 p1 p2 p3 q0 q1
          have p0 := hp4.cell 0; have p1 := hp4.cell 1; have p2 := hp4.cell 2; have p3 := hp4.cell 3; have q0 := hq4.cell 0; have q1 := hq4.cell 1; simp only [List.getElem?_toArray, List.getElem?_cons_zero, List.getElem?_cons_succ] at p0 p1 p2 p3 q0 q1
          go_wp2_with fail
          go_ret
          exact ⟨rfl, hw4.alloc hw4.size _⟩
        · obtain ⟨p, rfl⟩ : ∃ p : Nat, pred = (p : Int) := ⟨pred.toNat, by omega⟩
          have hpp : p < preds.length := by omega
          obtain ⟨pd, hpd⟩ : ∃ pd, preds[p]? = some pd := ⟨_, List.getElem?_eq_getElem hpp⟩
          have d2 : decide ((preds.length : Int) ≤ (p : Int)) = false := decide_eq_false (by omega)
          have n2 : decide (preds.length ≤ p) = false := decide_eq_false (by omega)
          have i0 : (0 : Int) ≤ (p : Int) := by omega
          have i1 : (p : Int) < (preds.length : Int) := by omega
          rw [HIN.out p pd hpd] at HST
          obtain ⟨gp, op, rfl, hgp, x1, x3⟩ := pd_cells (HP.out w (Below.refl _ _)) hpd
          have hok := HRK.out hL pd p
          have htp := HTN.out pd (List.mem_of_getElem? hpd)
          clear hli h0 h1
          go_enter Tryd.func4, Tryd.ntmps4
          go_wp2_with first | (go_at_call 11; with_reducible refine (HLI.out _ hw2).mono ?_; rintro e w3 ⟨rfl, hb3⟩; have hw3 : Below w.heap.size w w3 := hw2.trans (hb3.mono hw2.size); have hp3 := hp2.next hb3; have hq3 := hq2.next hb3; clear p0 p1 p2 p3 q0 q1; have p0 := hp3.cell 0; have p1 := hp3.cell 1; have p2 := hp3.cell 2; have p3 := hp3.cell 3; have q0 := hq3.cell 0; have q1 := hq3.cell 1; simp only [List.getElem?_toArray, List.getElem?_cons_zero, List.getElem?_cons_succ] at p0 p1 p2 p3 q0 q1) | (go_at_call 10; with_reducible refine (HH.out _ hw1).mono ?_; rintro e w2 ⟨rfl, hb2⟩; have hw2 : Below w.heap.size w w2 := hw1.trans (hb2.mono hw1.size); have hp2 := hp1.next hb2; have hq2 := hq1.next hb2; skip; have p0 := hp2.cell 0; have p1 := hp2.cell 1; have p2 := hp2.cell 2; have p3 := hp2.cell 3; have q0 := hq2.cell 0; have q1 := hq2.cell 1; simp only [List.getElem?_toArray, List.getElem?_cons_zero, List.getElem?_cons_succ] at p0 p1 p2 p3 q0 q1)
          refine (HST.out _ hw3).mono ?_
          rintro e w4 ⟨⟨⟨sr, sda, sdc, sdist⟩, rfl, hso, hsr, hsd, hsz⟩, hb4⟩
          dsimp only at hsr hsd hsz
          subst hsr; subst hsd
          dsimp only
          have hw4 : Below w.heap.size w w4 := hw3.trans (hb4.mono hw3.size)
          have hp4 := hp3.next hb4
          have hq4 := hq3.next hb4
          have hpl4 := hp4.lt
          have hql4 := hq4.lt
          clear p0 p1 p2 p3 q0 q1
          have p0 := hp4.cell 0; have p1 := hp4.cell 1; have p2 := hp4.cell 2; have p3 := hp4.cell 3; have q0 := hq4.cell 0; have q1 := hq4.cell 1; simp only [List.getElem?_toArray, List.getElem?_cons_zero, List.getElem?_cons_succ] at p0 p1 p2 p3 q0 q1
          have y1 := next_cell x1 hw4
          have hgp4 : gp < w4.heap.size := Nat.lt_of_lt_of_le hgp hw4.size
          have hG60 := goodOf_le (rowsOf ⟨ra, rc, rels, la, lc, lats⟩ pd p) pd.tn
          have hGL := goodOf_len (l := rowsOf ⟨ra, rc, rels, la, lc, lats⟩ pd p) (n := pd.tn)
          have hk60 := hok.1
          obtain ⟨G, hG⟩ : ∃ G, goodOf (rowsOf ⟨ra, rc, rels, la, lc, lats⟩ pd p) pd.tn = G := ⟨_, rfl⟩
          rw [hG] at hso hG60 hGL ⊢
          have hrn := Ct.dcount_len G
          have HCAP := Lib.hid (Ct.rows_cap hGL (by omega))
          have HCOL := Lib.hid (Ct.col_le G)
          obtain ⟨rn, hrne⟩ : ∃ rn, Ct.dcount G = rn := ⟨_, rfl⟩
          rw [hrne] at hso hrn HCAP HCOL ⊢
          have hrne2 := hrne
          have hlen : ((List.range pd.tn).map fun i => ((Ct.dcount (Ct.col G i) : Nat) : Int)).length = pd.tn := by simp
          rw [hlen]
          go_wp2_with fail
          have hw5 : Below w.heap.size w (w4.alloc (.cells #[.int .i64 (rn : Int), .slice sda pd.tn sdc] 46)) := hw4.alloc hw4.size _
          have hb5 := below1 w4 (.cells #[.int .i64 (rn : Int), .slice sda pd.tn sdc] 46)
          have hs5 := At.new w4 46 #[.int .i64 (rn : Int), .slice sda pd.tn sdc]
          have hp5 := hp4.next hb5
          have hso5 := hso.below hb5
          have y5 := next_cell y1 hb5
          generalize w4.alloc (.cells #[.int .i64 (rn : Int), .slice sda pd.tn sdc] 46) = w5 at hw5 hb5 hs5 hp5 hso5 y5 ⊢
          generalize w4.heap.size = sb at hs5 ⊢
          have z2 := hp5.cell 2
          have e0 := hs5.cell 0
          have e1 := hs5.cell 1
          simp only [List.getElem?_toArray, List.getElem?_cons_zero, List.getElem?_cons_succ] at e0 e1 z2
          have t1 : decide ((rn : Int) < 0) = false := decide_eq_false (by omega)
          have t2 : decide ((60 : Int) < (rn : Int)) = false := decide_eq_false (by omega)
          have n2' : decide (60 < rn) = false := decide_eq_false (by omega)
          clear hb5 hp4 hq4 hp3 hq3 hp2 hq2 hso y1 hb2 hb3 hb4 hw2 hw3 hw4 p0 p1 p2 p3 q0 q1 hrne
          go_still (by kernel_rfl)
          go_wp2_with fail
          obtain ⟨NL, hNL⟩ : ∃ NL, (List.range pd.tn).map (fun i => Ct.dcount (Ct.col G i)) = NL := ⟨_, rfl⟩
          have HNL := Lib.hid hNL
          rw [hNL] at HCAP
          have HL := Lib.hid (show NL.length = pd.tn by rw [← hNL]; simp)
          have HPO := Lib.hid (cols_pos hGL hrne2)
          have HD5 := Lib.hid (show Str w5 sda 1 ((NL.map fun x => ((x : Nat) : Int)).map fun x => [.int .i64 x]) by
            have h : Str w5 sda 1 (((List.range pd.tn).map fun i => ((Ct.dcount (Ct.col G i) : Nat) : Int)).map fun x => [.int .i64 x]) := hso5.dist
            rw [show ((List.range pd.tn).map fun i => ((Ct.dcount (Ct.col G i) : Nat) : Int)) = NL.map (fun x => ((x : Nat) : Int)) by rw [← hNL, List.map_map]; rfl] at h
            exact h)
          have hr60 : rn ≤ 60 := by omega
          clear hNL hso5 hG hlen hk60 hsz e0 e1 z2 hok t1 t2 n2' hGL hrne2
          go_loopw [9, 10] (fun pr i wr => ∃ k : Nat, k ≤ pd.tn ∧ i = .int .i64 k ∧ pr = .int .i64 ((Ct.capL (NL.take k) : Nat) : Int) ∧ Below w5.heap.size w5 wr) (fun _ i _ => pd.tn - (intOf i).toNat)
          case atStart => exact ⟨0, by omega, rfl, rfl, (Below.refl _ _).drew⟩
          case round =>
            obtain ⟨k, hk, rfl, rfl, hb⟩ := hrel
            have hsr := hs5.next hb
            have e0 := hsr.cell 0
            have e1 := hsr.cell 1
            simp only [List.getElem?_toArray, List.getElem?_cons_zero, List.getElem?_cons_succ] at e0 e1
            by_cases h1 : k < pd.tn
            · have d3 : decide ((k : Int) < (pd.tn : Int)) = true := by simp; omega
              obtain ⟨x, hx⟩ : ∃ x, NL[k]? = some x := ⟨_, List.getElem?_eq_getElem (by have := HL.out; omega)⟩
              obtain ⟨gd, od, rfl, hgd, yd⟩ := (HD5.out.below hb).at (i := k) (fs := [.int .i64 (x : Int)]) (by rw [List.getElem?_map, List.getElem?_map, hx]; rfl)
              have yx : wr.cell? ⟨gd, od + k, none⟩ = some (.int .i64 (x : Int)) := by have := yd 0 _ rfl; rwa [Nat.mul_one, Nat.add_zero] at this
              have hxr : x ≤ rn ∧ (0 < rn → 0 < x) := by
                have h := List.mem_of_getElem? hx
                rw [← HNL.out] at h
                obtain ⟨i, hi, rfl⟩ := List.mem_map.1 h
                exact ⟨HCOL.out i, HPO.out i (List.mem_range.1 hi)⟩
              have HCS := Lib.hid (cap_snoc hx)
              have hp9 := cap_le (NL.take k)
              obtain ⟨P, hP⟩ : ∃ P, Ct.capL (NL.take k) = P := ⟨_, rfl⟩
              rw [hP] at HCS hp9 ⊢
              obtain ⟨q, hq⟩ : ∃ q, P * x = q := ⟨_, rfl⟩
              have hq9 : q ≤ 60000 := by rw [← hq]; exact Nat.le_trans (Nat.mul_le_mul hp9 (show x ≤ 60 by omega)) (by omega)
              have W : wrap64 ((P : Int) * (x : Int)) = (q : Int) := by
                rw [← Int.natCast_mul, hq]
                unfold wrap64; omega
              rw [hq] at HCS
              obtain ⟨mq, hmq⟩ : ∃ mq, min q 1000 = mq := ⟨_, rfl⟩
              have MM : min (q : Int) 1000 = (mq : Int) := by rw [← hmq]; exact min_cast q
              rw [hmq] at HCS
              have HYX := Lib.hid yx
              have HS5 := Lib.hid (fun W (h : Below w5.heap.size w5 W) => show W.cell? ⟨sb, 1, none⟩ = some (.slice (some ⟨gd, od, none⟩) pd.tn sdc) from (hs5.next h).cell 1)
              have HS50 := Lib.hid (fun W (h : Below w5.heap.size w5 W) => show W.cell? ⟨sb, 0, none⟩ = some (.int .i64 (rn : Int)) from (hs5.next h).cell 0)
              have i2 : (0 : Int) ≤ (k : Int) := by omega
              have i3 : (k : Int) < (pd.tn : Int) := by omega
              have t3 : decide ((x : Int) < 0) = false := decide_eq_false (by omega)
              have t4 : decide ((rn : Int) < (x : Int)) = false := decide_eq_false (by omega)
              have n4 : decide (rn < x) = false := decide_eq_false (by omega)
              clear hx yd hP hq hmq yx
              by_cases h9 : 0 < rn
              · have t5 : decide ((0 : Int) < (rn : Int)) = true := decide_eq_true (by omega)
                have n5 : decide (0 < rn) = true := decide_eq_true h9
                have t6 : ((x : Int) == 0) = false := by have := hxr.2 h9; simp; omega
                clear h9 hxr
                go_wp2_with fail
                refine' wp_region_each _ (Below wr.heap.size wr) (Onward) (Vl :: Vl :: Vl :: Vl :: Vl :: Vl :: Vl :: Vl :: Vl :: Vl :: Vl :: Vl :: Vl :: Vl :: Vl :: Vl :: Vl :: Vl :: Vl :: Vl :: Vl :: Vl :: Vl :: Vl :: Vl :: Vl :: Vl :: Vl :: Vl :: []) ?hF (by kernel_rfl) (by kernel_rfl) (by kernel_rfl) ((Below.refl _ _).drew) (lasting_cons (lasting_vl) (lasting_cons (lasting_vl) (lasting_cons (lasting_vl) (lasting_cons (lasting_vl) (lasting_cons (lasting_vl) (lasting_cons (lasting_vl) (lasting_cons (lasting_vl) (lasting_cons (lasting_vl) (lasting_cons (lasting_vl) (lasting_cons (lasting_vl) (lasting_cons (lasting_vl) (lasting_cons (lasting_vl) (lasting_cons (lasting_vl) (lasting_cons (lasting_vl) (lasting_cons (lasting_vl) (lasting_cons (lasting_vl) (lasting_cons (lasting_vl) (lasting_cons (lasting_vl) (lasting_cons (lasting_vl) (lasting_cons (lasting_vl) (lasting_cons (lasting_vl) (lasting_cons (lasting_vl) (lasting_cons (lasting_vl) (lasting_cons (lasting_vl) (lasting_cons (lasting_vl) (lasting_cons (lasting_vl) (lasting_cons (lasting_vl) (lasting_cons (lasting_vl) (lasting_cons (lasting_vl) (lasting_none)))))))))))))))))))))))))))))) ?hops ?hend
                case hF => (intro v; simp only [over, Act.put, List.setIfInBounds_toArray, List.set_cons_zero, List.set_cons_succ, Nat.zero_add, Nat.reduceAdd]; exact rfl)
                case hops =>
                  refine ⟨?_, ?_⟩
                  · intro v w' hj hd hs K hK
                    have hk := hK.out
                    simp only [Act.put, List.setIfInBounds_toArray, List.set_cons_zero, List.set_cons_succ] at hk
                    have HK := Lib.hid hk
                    clear hd hs hk hK
                    go_simp
                    exact HK.out _ _ hj.out (Below.refl _ _) (show _ = _ from rfl)
                  refine ⟨?_, ?_⟩
                  · intro v w' hj hd hs K hK
                    have t0 : v 0 = _ := hd.out 0 (by kernel_rfl)
                    have u1 := HS5.out w' (hb.trans (hj.out.mono hb.size))
                    have hk := hK.out
                    simp only [t0, Act.put, List.setIfInBounds_toArray, List.set_cons_zero, List.set_cons_succ] at hk
                    have HK := Lib.hid hk
                    clear hd hs hk hK
                    go_simp
                    exact HK.out _ _ hj.out (Below.refl _ _) (show _ = _ from rfl)
                  refine ⟨?_, ?_⟩
                  · intro v w' hj hd hs K hK
                    have hk := hK.out
                    simp only [Act.put, List.setIfInBounds_toArray, List.set_cons_zero, List.set_cons_succ] at hk
                    have HK := Lib.hid hk
                    clear hd hs hk hK
                    go_simp
                    exact HK.out _ _ hj.out (Below.refl _ _) (show _ = _ from rfl)
                  refine ⟨?_, ?_⟩
                  · intro v w' hj hd hs K hK
                    have t1 : v 1 = _ := hd.out 1 (by kernel_rfl)
                    have t2 : v 2 = _ := hd.out 2 (by kernel_rfl)
                    have hk := hK.out
                    simp only [t1, t2, Act.put, List.setIfInBounds_toArray, List.set_cons_zero, List.set_cons_succ] at hk
                    have HK := Lib.hid hk
                    clear hd hs hk hK
                    go_simp
                    exact HK.out _ _ hj.out (Below.refl _ _) (show _ = _ from rfl)
                  refine ⟨?_, ?_⟩
                  · intro v w' hj hd hs K hK
                    have t3 : v 3 = _ := hd.out 3 (by kernel_rfl)
                    have ux := next_cell HYX.out hj.out
                    have hk := hK.out
                    simp only [t3, Act.put, List.setIfInBounds_toArray, List.set_cons_zero, List.set_cons_succ] at hk
                    have HK := Lib.hid hk
                    clear hd hs hk hK
                    go_simp
                    exact HK.out _ _ hj.out (Below.refl _ _) (show _ = _ from rfl)
                  refine ⟨?_, ?_⟩
                  · intro v w' hj hd hs K hK
                    have t4 : v 4 = _ := hd.out 4 (by kernel_rfl)
                    have hk := hK.out
                    simp only [t4, Act.put, List.setIfInBounds_toArray, List.set_cons_zero, List.set_cons_succ] at hk
                    have HK := Lib.hid hk
                    clear hd hs hk hK
                    go_simp
                    exact HK.out _ _ hj.out (Below.refl _ _) (show _ = _ from rfl)
                  refine ⟨?_, ?_⟩
                  · intro v w' hj hd hs K hK
                    have t5 : v 5 = _ := hd.out 5 (by kernel_rfl)
                    have hk := hK.out
                    simp only [t5, Act.put, List.setIfInBounds_toArray, List.set_cons_zero, List.set_cons_succ] at hk
                    have HK := Lib.hid hk
                    clear hd hs hk hK
                    go_simp
                    exact HK.out _ _ hj.out (Below.refl _ _) (show _ = _ from rfl)
                  refine ⟨?_, ?_⟩
                  · intro v w' hj hd hs K hK
                    have t6 : v 6 = _ := hd.out 6 (by kernel_rfl)
                    have hk := hK.out
                    simp only [t6, Act.put, List.setIfInBounds_toArray, List.set_cons_zero, List.set_cons_succ] at hk
                    have HK := Lib.hid hk
                    clear hd hs hk hK
                    go_simp
                    exact HK.out _ _ hj.out (Below.refl _ _) (show _ = _ from rfl)
                  refine ⟨?_, ?_⟩
                  · intro v w' hj hd hs K hK
                    have t6 : v 6 = _ := hd.out 6 (by kernel_rfl)
                    have t7 : v 7 = _ := hd.out 7 (by kernel_rfl)
                    have u1 := HS5.out w' (hb.trans (hj.out.mono hb.size))
                    have hk := hK.out
                    simp only [t6, t7, Act.put, List.setIfInBounds_toArray, List.set_cons_zero, List.set_cons_succ] at hk
                    have HK := Lib.hid hk
                    clear hd hs hk hK
                    go_simp
                    exact HK.out _ _ hj.out (Below.refl _ _) (show _ = _ from rfl)
                  refine ⟨?_, ?_⟩
                  · intro v w' hj hd hs K hK
                    have t6 : v 6 = _ := hd.out 6 (by kernel_rfl)
                    have hk := hK.out
                    simp only [t6, Act.put, List.setIfInBounds_toArray, List.set_cons_zero, List.set_cons_succ] at hk
                    have HK := Lib.hid hk
                    clear hd hs hk hK
                    go_simp
                    exact HK.out _ _ hj.out (Below.refl _ _) (show _ = _ from rfl)
                  refine ⟨?_, ?_⟩
                  · intro v w' hj hd hs K hK
                    have t6 : v 6 = _ := hd.out 6 (by kernel_rfl)
                    have t8 : v 8 = _ := hd.out 8 (by kernel_rfl)
                    have t9 : v 9 = _ := hd.out 9 (by kernel_rfl)
                    have hk := hK.out
                    simp only [t6, t8, t9, Act.put, List.setIfInBounds_toArray, List.set_cons_zero, List.set_cons_succ] at hk
                    have HK := Lib.hid hk
                    clear hd hs hk hK
                    go_simp
                    exact HK.out _ _ hj.out (Below.refl _ _) (show _ = _ from rfl)
                  refine ⟨?_, ?_⟩
                  · intro v w' hj hd hs K hK
                    have t6 : v 6 = _ := hd.out 6 (by kernel_rfl)
                    have t10 : v 10 = _ := hd.out 10 (by kernel_rfl)
                    have ux := next_cell HYX.out hj.out
                    have hk := hK.out
                    simp only [t6, t10, Act.put, List.setIfInBounds_toArray, List.set_cons_zero, List.set_cons_succ] at hk
                    have HK := Lib.hid hk
                    clear hd hs hk hK
                    go_simp
                    exact HK.out _ _ hj.out (Below.refl _ _) (show _ = _ from rfl)
                  refine ⟨?_, ?_⟩
                  · intro v w' hj hd hs K hK
                    have t6 : v 6 = _ := hd.out 6 (by kernel_rfl)
                    have hk := hK.out
                    simp only [t6, Act.put, List.setIfInBounds_toArray, List.set_cons_zero, List.set_cons_succ] at hk
                    have HK := Lib.hid hk
                    clear hd hs hk hK
                    go_simp
                    exact HK.out _ _ hj.out (Below.refl _ _) (show _ = _ from rfl)
                  refine ⟨?_, ?_⟩
                  · intro v w' hj hd hs K hK
                    have t6 : v 6 = _ := hd.out 6 (by kernel_rfl)
                    have t12 : v 12 = _ := hd.out 12 (by kernel_rfl)
                    have u0 := HS50.out w' (hb.trans (hj.out.mono hb.size))
                    have hk := hK.out
                    simp only [t6, t12, Act.put, List.setIfInBounds_toArray, List.set_cons_zero, List.set_cons_succ] at hk
                    have HK := Lib.hid hk
                    clear hd hs hk hK
                    go_simp
                    exact HK.out _ _ hj.out (Below.refl _ _) (show _ = _ from rfl)
                  refine ⟨?_, ?_⟩
                  · intro v w' hj hd hs K hK
                    have t6 : v 6 = _ := hd.out 6 (by kernel_rfl)
                    have t11 : v 11 = _ := hd.out 11 (by kernel_rfl)
                    have t13 : v 13 = _ := hd.out 13 (by kernel_rfl)
                    have hk := hK.out
                    simp only [t6, t11, t13, Act.put, List.setIfInBounds_toArray, List.set_cons_zero, List.set_cons_succ] at hk
                    have HK := Lib.hid hk
                    clear hd hs hk hK
                    go_simp
                    exact HK.out _ _ hj.out (Below.refl _ _) (show _ = _ from rfl)
                  refine ⟨?_, ?_⟩
                  · intro v w' hj hd hs K hK
                    have t6 : v 6 = _ := hd.out 6 (by kernel_rfl)
                    have t14 : v 14 = _ := hd.out 14 (by kernel_rfl)
                    have hk := hK.out
                    simp only [t6, t14, Act.put, List.setIfInBounds_toArray, List.set_cons_zero, List.set_cons_succ] at hk
                    have HK := Lib.hid hk
                    clear hd hs hk hK
                    go_simp
                    exact HK.out _ _ hj.out (Below.refl _ _) (show _ = _ from rfl)
                  refine ⟨?_, ?_⟩
                  · intro v w' hj hd hs K hK
                    have t15 : v 15 = _ := hd.out 15 (by kernel_rfl)
                    have hk := hK.out
                    simp only [t15, Act.put, List.setIfInBounds_toArray, List.set_cons_zero, List.set_cons_succ] at hk
                    have HK := Lib.hid hk
                    clear hd hs hk hK
                    go_simp
                    exact HK.out _ _ hj.out (Below.refl _ _) (show _ = _ from rfl)
                  refine ⟨?_, ?_⟩
                  · intro v w' hj hd hs K hK
                    have t16 : v 16 = _ := hd.out 16 (by kernel_rfl)
                    have hk := hK.out
                    simp only [t16, Act.put, List.setIfInBounds_toArray, List.set_cons_zero, List.set_cons_succ] at hk
                    have HK := Lib.hid hk
                    clear hd hs hk hK
                    go_simp
                    exact HK.out _ _ hj.out (Below.refl _ _) (show _ = _ from rfl)
                  refine ⟨?_, ?_⟩
                  · intro v w' hj hd hs K hK
                    have t16 : v 16 = _ := hd.out 16 (by kernel_rfl)
                    have t17 : v 17 = _ := hd.out 17 (by kernel_rfl)
                    have u0 := HS50.out w' (hb.trans (hj.out.mono hb.size))
                    have hk := hK.out
                    simp only [t16, t17, Act.put, List.setIfInBounds_toArray, List.set_cons_zero, List.set_cons_succ] at hk
                    have HK := Lib.hid hk
                    clear hd hs hk hK
                    go_simp
                    exact HK.out _ _ hj.out (Below.refl _ _) (show _ = _ from rfl)
                  refine ⟨?_, ?_⟩
                  · intro v w' hj hd hs K hK
                    have t16 : v 16 = _ := hd.out 16 (by kernel_rfl)
                    have t18 : v 18 = _ := hd.out 18 (by kernel_rfl)
                    have hk := hK.out
                    simp only [t16, t18, Act.put, List.setIfInBounds_toArray, List.set_cons_zero, List.set_cons_succ] at hk
                    have HK := Lib.hid hk
                    clear hd hs hk hK
                    go_simp
                    exact HK.out _ _ hj.out (Below.refl _ _) (show _ = _ from rfl)
                  refine ⟨?_, ?_⟩
                  · intro v w' hj hd hs K hK
                    have t16 : v 16 = _ := hd.out 16 (by kernel_rfl)
                    have t19 : v 19 = _ := hd.out 19 (by kernel_rfl)
                    have hk := hK.out
                    simp only [t16, t19, Act.put, List.setIfInBounds_toArray, List.set_cons_zero, List.set_cons_succ] at hk
                    have HK := Lib.hid hk
                    clear hd hs hk hK
                    go_simp
                    exact HK.out _ _ hj.out (Below.refl _ _) (show _ = _ from rfl)
                  refine ⟨?_, ?_⟩
                  · intro v w' hj hd hs K hK
                    have t20 : v 20 = _ := hd.out 20 (by kernel_rfl)
                    have hk := hK.out
                    simp only [t20, Act.put, List.setIfInBounds_toArray, List.set_cons_zero, List.set_cons_succ] at hk
                    have HK := Lib.hid hk
                    clear hd hs hk hK
                    go_simp
                    exact HK.out _ _ hj.out (Below.refl _ _) (show _ = _ from rfl)
                  refine ⟨?_, ?_⟩
                  · intro v w' hj hd hs K hK
                    have t20 : v 20 = _ := hd.out 20 (by kernel_rfl)
                    have t21 : v 21 = _ := hd.out 21 (by kernel_rfl)
                    have u1 := HS5.out w' (hb.trans (hj.out.mono hb.size))
                    have hk := hK.out
                    simp only [t20, t21, Act.put, List.setIfInBounds_toArray, List.set_cons_zero, List.set_cons_succ] at hk
                    have HK := Lib.hid hk
                    clear hd hs hk hK
                    go_simp
                    exact HK.out _ _ hj.out (Below.refl _ _) (show _ = _ from rfl)
                  refine ⟨?_, ?_⟩
                  · intro v w' hj hd hs K hK
                    have t20 : v 20 = _ := hd.out 20 (by kernel_rfl)
                    have hk := hK.out
                    simp only [t20, Act.put, List.setIfInBounds_toArray, List.set_cons_zero, List.set_cons_succ] at hk
                    have HK := Lib.hid hk
                    clear hd hs hk hK
                    go_simp
                    exact HK.out _ _ hj.out (Below.refl _ _) (show _ = _ from rfl)
                  refine ⟨?_, ?_⟩
                  · intro v w' hj hd hs K hK
                    have t20 : v 20 = _ := hd.out 20 (by kernel_rfl)
                    have t22 : v 22 = _ := hd.out 22 (by kernel_rfl)
                    have t23 : v 23 = _ := hd.out 23 (by kernel_rfl)
                    have hk := hK.out
                    simp only [t20, t22, t23, Act.put, List.setIfInBounds_toArray, List.set_cons_zero, List.set_cons_succ] at hk
                    have HK := Lib.hid hk
                    clear hd hs hk hK
                    go_simp
                    exact HK.out _ _ hj.out (Below.refl _ _) (show _ = _ from rfl)
                  refine ⟨?_, ?_⟩
                  · intro v w' hj hd hs K hK
                    have t20 : v 20 = _ := hd.out 20 (by kernel_rfl)
                    have t24 : v 24 = _ := hd.out 24 (by kernel_rfl)
                    have ux := next_cell HYX.out hj.out
                    have hk := hK.out
                    simp only [t20, t24, Act.put, List.setIfInBounds_toArray, List.set_cons_zero, List.set_cons_succ] at hk
                    have HK := Lib.hid hk
                    clear hd hs hk hK
                    go_simp
                    exact HK.out _ _ hj.out (Below.refl _ _) (show _ = _ from rfl)
                  refine ⟨?_, ?_⟩
                  · intro v w' hj hd hs K hK
                    have t20 : v 20 = _ := hd.out 20 (by kernel_rfl)
                    have t25 : v 25 = _ := hd.out 25 (by kernel_rfl)
                    have hk := hK.out
                    simp only [t20, t25, Act.put, List.setIfInBounds_toArray, List.set_cons_zero, List.set_cons_succ] at hk
                    have HK := Lib.hid hk
                    clear hd hs hk hK
                    go_simp
                    exact HK.out _ _ hj.out (Below.refl _ _) (show _ = _ from rfl)
                  refine ⟨?_, ?_⟩
                  · intro v w' hj hd hs K hK
                    have t16 : v 16 = _ := hd.out 16 (by kernel_rfl)
                    have t20 : v 20 = _ := hd.out 20 (by kernel_rfl)
                    have t26 : v 26 = _ := hd.out 26 (by kernel_rfl)
                    have hk := hK.out
                    simp only [t16, t20, t26, Act.put, List.setIfInBounds_toArray, List.set_cons_zero, List.set_cons_succ] at hk
                    have HK := Lib.hid hk
                    clear hd hs hk hK
                    go_simp
                    exact HK.out _ _ hj.out (Below.refl _ _) (show _ = _ from rfl)
                  refine ⟨?_, ?_⟩
                  · intro v w' hj hd hs K hK
                    have t16 : v 16 = _ := hd.out 16 (by kernel_rfl)
                    have t27 : v 27 = _ := hd.out 27 (by kernel_rfl)
                    have hk := hK.out
                    simp only [t16, t27, Act.put, List.setIfInBounds_toArray, List.set_cons_zero, List.set_cons_succ] at hk
                    have HK := Lib.hid hk
                    clear hd hs hk hK
                    go_simp
                    exact HK.out _ _ hj.out (Below.refl _ _) (show _ = _ from rfl)
                  trivial
                case hend =>
                  intro v wt hj hd
                  have t28 : v 28 = _ := hd.out 28 (of_decide_eq_true (by kernel_rfl))
                  have bt := hj.out
                  have hbt := hb.trans (bt.mono hb.size)
                  have u1 := HS5.out wt hbt
                  have ux := next_cell HYX.out bt
                  simp only [t28]
                  clear hj hd t28 bt e0 e1
                  go_wp2_with fail
                  go_roundw
                  case rel => exact ⟨k + 1, by omega, by go_num, by rw [HCS.out], hbt⟩
                  case measure => simp [intOf]; omega
              · have t5 : decide ((0 : Int) < (rn : Int)) = false := decide_eq_false (by omega)
                have n5 : decide (0 < rn) = false := decide_eq_false h9
                clear h9 hxr
                go_wp2_with fail
                refine' wp_region_each _ (Below wr.heap.size wr) (Onward) (Vl :: Vl :: Vl :: Vl :: Vl :: Vl :: Vl :: Vl :: Vl :: Vl :: Vl :: Vl :: Vl :: Vl :: Vl :: Vl :: Vl :: Vl :: Vl :: Vl :: Vl :: Pin undef :: Pin undef :: Pin undef :: Pin undef :: Pin undef :: Pin undef :: Vl :: Vl :: []) ?hF (by kernel_rfl) (by kernel_rfl) (by kernel_rfl) ((Below.refl _ _).drew) (lasting_cons (lasting_vl) (lasting_cons (lasting_vl) (lasting_cons (lasting_vl) (lasting_cons (lasting_vl) (lasting_cons (lasting_vl) (lasting_cons (lasting_vl) (lasting_cons (lasting_vl) (lasting_cons (lasting_vl) (lasting_cons (lasting_vl) (lasting_cons (lasting_vl) (lasting_cons (lasting_vl) (lasting_cons (lasting_vl) (lasting_cons (lasting_vl) (lasting_cons (lasting_vl) (lasting_cons (lasting_vl) (lasting_cons (lasting_vl) (lasting_cons (lasting_vl) (lasting_cons (lasting_vl) (lasting_cons (lasting_vl) (lasting_cons (lasting_vl) (lasting_cons (lasting_vl) (lasting_cons (lasting_pin _) (lasting_cons (lasting_pin _) (lasting_cons (lasting_pin _) (lasting_cons (lasting_pin _) (lasting_cons (lasting_pin _) (lasting_cons (lasting_pin _) (lasting_cons (lasting_vl) (lasting_cons (lasting_vl) (lasting_none)))))))))))))))))))))))))))))) ?hops ?hend
                case hF => (intro v; simp only [over, Act.put, List.setIfInBounds_toArray, List.set_cons_zero, List.set_cons_succ, Nat.zero_add, Nat.reduceAdd]; exact rfl)
                case hops =>
                  refine ⟨?_, ?_⟩
                  · intro v w' hj hd hs K hK
                    have hk := hK.out
                    simp only [Act.put, List.setIfInBounds_toArray, List.set_cons_zero, List.set_cons_succ] at hk
                    have HK := Lib.hid hk
                    clear hd hs hk hK
                    go_simp
                    exact HK.out _ _ hj.out (Below.refl _ _) (show _ = _ from rfl)
                  refine ⟨?_, ?_⟩
                  · intro v w' hj hd hs K hK
                    have t0 : v 0 = _ := hd.out 0 (by kernel_rfl)
                    have u1 := HS5.out w' (hb.trans (hj.out.mono hb.size))
                    have hk := hK.out
                    simp only [t0, Act.put, List.setIfInBounds_toArray, List.set_cons_zero, List.set_cons_succ] at hk
                    have HK := Lib.hid hk
                    clear hd hs hk hK
                    go_simp
                    exact HK.out _ _ hj.out (Below.refl _ _) (show _ = _ from rfl)
                  refine ⟨?_, ?_⟩
                  · intro v w' hj hd hs K hK
                    have hk := hK.out
                    simp only [Act.put, List.setIfInBounds_toArray, List.set_cons_zero, List.set_cons_succ] at hk
                    have HK := Lib.hid hk
                    clear hd hs hk hK
                    go_simp
                    exact HK.out _ _ hj.out (Below.refl _ _) (show _ = _ from rfl)
                  refine ⟨?_, ?_⟩
                  · intro v w' hj hd hs K hK
                    have t1 : v 1 = _ := hd.out 1 (by kernel_rfl)
                    have t2 : v 2 = _ := hd.out 2 (by kernel_rfl)
                    have hk := hK.out
                    simp only [t1, t2, Act.put, List.setIfInBounds_toArray, List.set_cons_zero, List.set_cons_succ] at hk
                    have HK := Lib.hid hk
                    clear hd hs hk hK
                    go_simp
                    exact HK.out _ _ hj.out (Below.refl _ _) (show _ = _ from rfl)
                  refine ⟨?_, ?_⟩
                  · intro v w' hj hd hs K hK
                    have t3 : v 3 = _ := hd.out 3 (by kernel_rfl)
                    have ux := next_cell HYX.out hj.out
                    have hk := hK.out
                    simp only [t3, Act.put, List.setIfInBounds_toArray, List.set_cons_zero, List.set_cons_succ] at hk
                    have HK := Lib.hid hk
                    clear hd hs hk hK
                    go_simp
                    exact HK.out _ _ hj.out (Below.refl _ _) (show _ = _ from rfl)
                  refine ⟨?_, ?_⟩
                  · intro v w' hj hd hs K hK
                    have t4 : v 4 = _ := hd.out 4 (by kernel_rfl)
                    have hk := hK.out
                    simp only [t4, Act.put, List.setIfInBounds_toArray, List.set_cons_zero, List.set_cons_succ] at hk
                    have HK := Lib.hid hk
                    clear hd hs hk hK
                    go_simp
                    exact HK.out _ _ hj.out (Below.refl _ _) (show _ = _ from rfl)
                  refine ⟨?_, ?_⟩
                  · intro v w' hj hd hs K hK
                    have t5 : v 5 = _ := hd.out 5 (by kernel_rfl)
                    have hk := hK.out
                    simp only [t5, Act.put, List.setIfInBounds_toArray, List.set_cons_zero, List.set_cons_succ] at hk
                    have HK := Lib.hid hk
                    clear hd hs hk hK
                    go_simp
                    exact HK.out _ _ hj.out (Below.refl _ _) (show _ = _ from rfl)
                  refine ⟨?_, ?_⟩
                  · intro v w' hj hd hs K hK
                    have t6 : v 6 = _ := hd.out 6 (by kernel_rfl)
                    have hk := hK.out
                    simp only [t6, Act.put, List.setIfInBounds_toArray, List.set_cons_zero, List.set_cons_succ] at hk
                    have HK := Lib.hid hk
                    clear hd hs hk hK
                    go_simp
                    exact HK.out _ _ hj.out (Below.refl _ _) (show _ = _ from rfl)
                  refine ⟨?_, ?_⟩
                  · intro v w' hj hd hs K hK
                    have t6 : v 6 = _ := hd.out 6 (by kernel_rfl)
                    have t7 : v 7 = _ := hd.out 7 (by kernel_rfl)
                    have u1 := HS5.out w' (hb.trans (hj.out.mono hb.size))
                    have hk := hK.out
                    simp only [t6, t7, Act.put, List.setIfInBounds_toArray, List.set_cons_zero, List.set_cons_succ] at hk
                    have HK := Lib.hid hk
                    clear hd hs hk hK
                    go_simp
                    exact HK.out _ _ hj.out (Below.refl _ _) (show _ = _ from rfl)
                  refine ⟨?_, ?_⟩
                  · intro v w' hj hd hs K hK
                    have t6 : v 6 = _ := hd.out 6 (by kernel_rfl)
                    have hk := hK.out
                    simp only [t6, Act.put, List.setIfInBounds_toArray, List.set_cons_zero, List.set_cons_succ] at hk
                    have HK := Lib.hid hk
                    clear hd hs hk hK
                    go_simp
                    exact HK.out _ _ hj.out (Below.refl _ _) (show _ = _ from rfl)
                  refine ⟨?_, ?_⟩
                  · intro v w' hj hd hs K hK
                    have t6 : v 6 = _ := hd.out 6 (by kernel_rfl)
                    have t8 : v 8 = _ := hd.out 8 (by kernel_rfl)
                    have t9 : v 9 = _ := hd.out 9 (by kernel_rfl)
                    have hk := hK.out
                    simp only [t6, t8, t9, Act.put, List.setIfInBounds_toArray, List.set_cons_zero, List.set_cons_succ] at hk
                    have HK := Lib.hid hk
                    clear hd hs hk hK
                    go_simp
                    exact HK.out _ _ hj.out (Below.refl _ _) (show _ = _ from rfl)
                  refine ⟨?_, ?_⟩
                  · intro v w' hj hd hs K hK
                    have t6 : v 6 = _ := hd.out 6 (by kernel_rfl)
                    have t10 : v 10 = _ := hd.out 10 (by kernel_rfl)
                    have ux := next_cell HYX.out hj.out
                    have hk := hK.out
                    simp only [t6, t10, Act.put, List.setIfInBounds_toArray, List.set_cons_zero, List.set_cons_succ] at hk
                    have HK := Lib.hid hk
                    clear hd hs hk hK
                    go_simp
                    exact HK.out _ _ hj.out (Below.refl _ _) (show _ = _ from rfl)
                  refine ⟨?_, ?_⟩
                  · intro v w' hj hd hs K hK
                    have t6 : v 6 = _ := hd.out 6 (by kernel_rfl)
                    have hk := hK.out
                    simp only [t6, Act.put, List.setIfInBounds_toArray, List.set_cons_zero, List.set_cons_succ] at hk
                    have HK := Lib.hid hk
                    clear hd hs hk hK
                    go_simp
                    exact HK.out _ _ hj.out (Below.refl _ _) (show _ = _ from rfl)
                  refine ⟨?_, ?_⟩
                  · intro v w' hj hd hs K hK
                    have t6 : v 6 = _ := hd.out 6 (by kernel_rfl)
                    have t12 : v 12 = _ := hd.out 12 (by kernel_rfl)
                    have u0 := HS50.out w' (hb.trans (hj.out.mono hb.size))
                    have hk := hK.out
                    simp only [t6, t12, Act.put, List.setIfInBounds_toArray, List.set_cons_zero, List.set_cons_succ] at hk
                    have HK := Lib.hid hk
                    clear hd hs hk hK
                    go_simp
                    exact HK.out _ _ hj.out (Below.refl _ _) (show _ = _ from rfl)
                  refine ⟨?_, ?_⟩
                  · intro v w' hj hd hs K hK
                    have t6 : v 6 = _ := hd.out 6 (by kernel_rfl)
                    have t11 : v 11 = _ := hd.out 11 (by kernel_rfl)
                    have t13 : v 13 = _ := hd.out 13 (by kernel_rfl)
                    have hk := hK.out
                    simp only [t6, t11, t13, Act.put, List.setIfInBounds_toArray, List.set_cons_zero, List.set_cons_succ] at hk
                    have HK := Lib.hid hk
                    clear hd hs hk hK
                    go_simp
                    exact HK.out _ _ hj.out (Below.refl _ _) (show _ = _ from rfl)
                  refine ⟨?_, ?_⟩
                  · intro v w' hj hd hs K hK
                    have t6 : v 6 = _ := hd.out 6 (by kernel_rfl)
                    have t14 : v 14 = _ := hd.out 14 (by kernel_rfl)
                    have hk := hK.out
                    simp only [t6, t14, Act.put, List.setIfInBounds_toArray, List.set_cons_zero, List.set_cons_succ] at hk
                    have HK := Lib.hid hk
                    clear hd hs hk hK
                    go_simp
                    exact HK.out _ _ hj.out (Below.refl _ _) (show _ = _ from rfl)
                  refine ⟨?_, ?_⟩
                  · intro v w' hj hd hs K hK
                    have t15 : v 15 = _ := hd.out 15 (by kernel_rfl)
                    have hk := hK.out
                    simp only [t15, Act.put, List.setIfInBounds_toArray, List.set_cons_zero, List.set_cons_succ] at hk
                    have HK := Lib.hid hk
                    clear hd hs hk hK
                    go_simp
                    exact HK.out _ _ hj.out (Below.refl _ _) (show _ = _ from rfl)
                  refine ⟨?_, ?_⟩
                  · intro v w' hj hd hs K hK
                    have t16 : v 16 = _ := hd.out 16 (by kernel_rfl)
                    have hk := hK.out
                    simp only [t16, Act.put, List.setIfInBounds_toArray, List.set_cons_zero, List.set_cons_succ] at hk
                    have HK := Lib.hid hk
                    clear hd hs hk hK
                    go_simp
                    exact HK.out _ _ hj.out (Below.refl _ _) (show _ = _ from rfl)
                  refine ⟨?_, ?_⟩
                  · intro v w' hj hd hs K hK
                    have t16 : v 16 = _ := hd.out 16 (by kernel_rfl)
                    have t17 : v 17 = _ := hd.out 17 (by kernel_rfl)
                    have u0 := HS50.out w' (hb.trans (hj.out.mono hb.size))
                    have hk := hK.out
                    simp only [t16, t17, Act.put, List.setIfInBounds_toArray, List.set_cons_zero, List.set_cons_succ] at hk
                    have HK := Lib.hid hk
                    clear hd hs hk hK
                    go_simp
                    exact HK.out _ _ hj.out (Below.refl _ _) (show _ = _ from rfl)
                  refine ⟨?_, ?_⟩
                  · intro v w' hj hd hs K hK
                    have t16 : v 16 = _ := hd.out 16 (by kernel_rfl)
                    have t18 : v 18 = _ := hd.out 18 (by kernel_rfl)
                    have hk := hK.out
                    simp only [t16, t18, Act.put, List.setIfInBounds_toArray, List.set_cons_zero, List.set_cons_succ] at hk
                    have HK := Lib.hid hk
                    clear hd hs hk hK
                    go_simp
                    exact HK.out _ _ hj.out (Below.refl _ _) (show _ = _ from rfl)
                  refine ⟨?_, ?_⟩
                  · intro v w' hj hd hs K hK
                    have t16 : v 16 = _ := hd.out 16 (by kernel_rfl)
                    have t19 : v 19 = _ := hd.out 19 (by kernel_rfl)
                    have hk := hK.out
                    simp only [t16, t19, Act.put, List.setIfInBounds_toArray, List.set_cons_zero, List.set_cons_succ] at hk
                    have HK := Lib.hid hk
                    clear hd hs hk hK
                    go_simp
                    exact HK.out _ _ hj.out (Below.refl _ _) (show _ = _ from rfl)
                  refine ⟨?_, ?_⟩
                  · intro v w' hj hd hs K hK
                    have t20 : v 20 = _ := hd.out 20 (by kernel_rfl)
                    have hk := hK.out
                    simp only [t20, Act.put, List.setIfInBounds_toArray, List.set_cons_zero, List.set_cons_succ] at hk
                    have HK := Lib.hid hk
                    clear hd hs hk hK
                    go_simp
                    exact HK.out _ _ hj.out (Below.refl _ _) (show _ = _ from rfl)
                  refine ⟨?_, ?_⟩
                  · intro v w' hj hd hs K hK
                    have t20 : v 20 = _ := hd.out 20 (by kernel_rfl)
                    have hk := hK.out
                    simp only [t20, Act.put, List.setIfInBounds_toArray, List.set_cons_zero, List.set_cons_succ] at hk
                    have HK := Lib.hid hk
                    clear hd hs hk hK
                    go_simp
                    exact HK.out _ _ hj.out (Below.refl _ _) (show _ = _ from rfl)
                  refine ⟨?_, ?_⟩
                  · intro v w' hj hd hs K hK
                    have t20 : v 20 = _ := hd.out 20 (by kernel_rfl)
                    have hk := hK.out
                    simp only [t20, Act.put, List.setIfInBounds_toArray, List.set_cons_zero, List.set_cons_succ] at hk
                    have HK := Lib.hid hk
                    clear hd hs hk hK
                    go_simp
                    exact HK.out _ _ hj.out (Below.refl _ _) (show _ = _ from rfl)
                  refine ⟨?_, ?_⟩
                  · intro v w' hj hd hs K hK
                    have t20 : v 20 = _ := hd.out 20 (by kernel_rfl)
                    have hk := hK.out
                    simp only [t20, Act.put, List.setIfInBounds_toArray, List.set_cons_zero, List.set_cons_succ] at hk
                    have HK := Lib.hid hk
                    clear hd hs hk hK
                    go_simp
                    exact HK.out _ _ hj.out (Below.refl _ _) (show _ = _ from rfl)
                  refine ⟨?_, ?_⟩
                  · intro v w' hj hd hs K hK
                    have t20 : v 20 = _ := hd.out 20 (by kernel_rfl)
                    have hk := hK.out
                    simp only [t20, Act.put, List.setIfInBounds_toArray, List.set_cons_zero, List.set_cons_succ] at hk
                    have HK := Lib.hid hk
                    clear hd hs hk hK
                    go_simp
                    exact HK.out _ _ hj.out (Below.refl _ _) (show _ = _ from rfl)
                  refine ⟨?_, ?_⟩
                  · intro v w' hj hd hs K hK
                    have t20 : v 20 = _ := hd.out 20 (by kernel_rfl)
                    have hk := hK.out
                    simp only [t20, Act.put, List.setIfInBounds_toArray, List.set_cons_zero, List.set_cons_succ] at hk
                    have HK := Lib.hid hk
                    clear hd hs hk hK
                    go_simp
                    exact HK.out _ _ hj.out (Below.refl _ _) (show _ = _ from rfl)
                  refine ⟨?_, ?_⟩
                  · intro v w' hj hd hs K hK
                    have t16 : v 16 = _ := hd.out 16 (by kernel_rfl)
                    have t20 : v 20 = _ := hd.out 20 (by kernel_rfl)
                    have t26 : v 26 = _ := hd.out 26 (by kernel_rfl)
                    have hk := hK.out
                    simp only [t16, t20, t26, Act.put, List.setIfInBounds_toArray, List.set_cons_zero, List.set_cons_succ] at hk
                    have HK := Lib.hid hk
                    clear hd hs hk hK
                    go_simp
                    exact HK.out _ _ hj.out (Below.refl _ _) (show _ = _ from rfl)
                  refine ⟨?_, ?_⟩
                  · intro v w' hj hd hs K hK
                    have t16 : v 16 = _ := hd.out 16 (by kernel_rfl)
                    have t27 : v 27 = _ := hd.out 27 (by kernel_rfl)
                    have hk := hK.out
                    simp only [t16, t27, Act.put, List.setIfInBounds_toArray, List.set_cons_zero, List.set_cons_succ] at hk
                    have HK := Lib.hid hk
                    clear hd hs hk hK
                    go_simp
                    exact HK.out _ _ hj.out (Below.refl _ _) (show _ = _ from rfl)
                  trivial
                case hend =>
                  intro v wt hj hd
                  have t28 : v 28 = _ := hd.out 28 (of_decide_eq_true (by kernel_rfl))
                  have bt := hj.out
                  have hbt := hb.trans (bt.mono hb.size)
                  have u1 := HS5.out wt hbt
                  have ux := next_cell HYX.out bt
                  simp only [t28]
                  clear hj hd t28 bt e0 e1
                  go_wp2_with fail
                  go_roundw
                  case rel => exact ⟨k + 1, by omega, by go_num, by rw [HCS.out], hbt⟩
                  case measure => simp [intOf]; omega
            · have d3 : decide ((k : Int) < (pd.tn : Int)) = false := by simp; omega
              have HX := Lib.hid (show rn ≤ Ct.capL (NL.take k) by rw [List.take_of_length_le (by have := HL.out; omega)]; exact HCAP.out)
              obtain ⟨P, hP⟩ : ∃ P, Ct.capL (NL.take k) = P := ⟨_, rfl⟩
              rw [hP] at HX ⊢
              have hrp := HX.out
              have t7 : decide ((rn : Int) ≤ (P : Int)) = true := decide_eq_true (by omega)
              have n7 : decide (rn ≤ P) = true := decide_eq_true hrp
              clear hP hrp
              go_wp2_with fail
              go_ret
              exact ⟨rfl, hw5.trans (hb.mono hw5.size)⟩
end Go.Proofs.YtoficnfpoeaccaaDoor
