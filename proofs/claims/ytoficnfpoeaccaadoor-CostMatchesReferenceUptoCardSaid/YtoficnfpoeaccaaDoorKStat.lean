/- The walk of the program's Stats. -/
import Derived.Test.YtoficnfpoeaccaaDoorKCm2
namespace Go.Proofs.YtoficnfpoeaccaaDoor
set_option linter.unusedVariables false
set_option linter.unusedSimpArgs false
open Go.RowKit
/-- The statistics of a predicate: how many rows, and of each column how many values. -/
def statP (pm : Pm) (d : Da) (pred : Int) : Int × List Int :=
  if pred < 0 then (0, []) else match pm.preds[pred.toNat]? with
    | none => (0, [])
    | some pd => (((Ct.dcount (goodOf (rowsOf d pd pred.toNat) pd.tn) : Nat) : Int), (List.range pd.tn).map fun i => ((Ct.dcount (Ct.col (goodOf (rowsOf d pd pred.toNat) pd.tn) i) : Nat) : Int))
theorem statP_neg {pm : Pm} {d : Da} {pred : Int} (h : pred < 0) : statP pm d pred = (0, []) := if_pos h
theorem statP_out {pm : Pm} {d : Da} {pred : Int} (h : (pm.preds.length : Int) ≤ pred) : statP pm d pred = (0, []) := by
  unfold statP
  split
  · rfl
  · rw [List.getElem?_eq_none (by omega)]
theorem statP_in {pm : Pm} {d : Da} {p : Nat} {pd : Pd} (h : pm.preds[p]? = some pd) : statP pm d (p : Int) = (((Ct.dcount (goodOf (rowsOf d pd p) pd.tn) : Nat) : Int), (List.range pd.tn).map fun i => ((Ct.dcount (Ct.col (goodOf (rowsOf d pd p) pd.tn) i) : Nat) : Int)) := by
  unfold statP
  rw [if_neg (by omega), Int.toNat_natCast, h]
/-- What Stats hands back. -/
def StatOut (B : Nat) (R : Int × List Int) (e : Ending) (w' : World) : Prop := ∃ s : Sta, e = .returned (.agg #[.int .i64 s.rows, .slice s.da s.dist.length s.dc]) ∧ StaOk w' s ∧ s.rows = R.1 ∧ s.dist = R.2 ∧ (s.da = none → s.dc = 0)
/-- The boxes of Stats. -/
structure SBox (w : World) (N : Nat) (PC DC : Array Value) : Prop where
  p : At w N 27 PC
  d : At w (N + 1) 31 DC
  r : At w (N + 2) 46 #[.int .i64 0, .slice none 0 0]
theorem SBox.next {w w' : World} {N : Nat} {PC DC : Array Value} (h : SBox w N PC DC) (hb : Below w.heap.size w w') : SBox w' N PC DC := ⟨h.p.next hb, h.d.next hb, h.r.next hb⟩
theorem SBox.mapGrown {w w' : World} {N b : Nat} {PC DC : Array Value} {es : Array MapEntry} {c : Nat} (h : SBox w N PC DC) (hm : w.heap[b]? = some (.map es c)) (hg : w.grownBy w' (some b)) : SBox w' N PC DC := ⟨h.p.mapGrown hm hg, h.d.mapGrown hm hg, h.r.mapGrown hm hg⟩
theorem SBox.grown {w w' : World} {N : Nat} {PC DC : Array Value} {row : Option Nat} (h : SBox w N PC DC) (hg : w.grownBy w' row) (h0 : ∀ q, row = some q → q ≠ N ∧ q ≠ N + 1 ∧ q ≠ N + 2) : SBox w' N PC DC :=
  ⟨h.p.grown hg fun e => (h0 N e.symm).1 rfl, h.d.grown hg fun e => (h0 _ e.symm).2.1 rfl, h.r.grown hg fun e => (h0 _ e.symm).2.2 rfl⟩
theorem SBox.setCell {w : World} {N g i : Nat} {PC DC : Array Value} (h : SBox w N PC DC) (h0 : g ≠ N ∧ g ≠ N + 1 ∧ g ≠ N + 2) (u : Value) : SBox (w.setCell ⟨g, i, none⟩ u) N PC DC :=
  ⟨h.p.far (p := ⟨g, i, none⟩) h0.1.symm u, h.d.far (p := ⟨g, i, none⟩) h0.2.1.symm u, h.r.far (p := ⟨g, i, none⟩) h0.2.2.symm u⟩
theorem vcells_none {n k : Nat} {mb : List Nat} (h : mb.length ≤ k) (hk : k < n) : (vcells n mb)[k]? = some (.map none) := by
  unfold vcells
  rw [List.getElem?_toArray, List.getElem?_append_right (by simpa using h), List.getElem?_replicate, if_pos (by simp; omega)]
theorem own_hdr {w : World} {B : Nat} {A : Option Addr} {c : Nat} {rs : List Rw} {k : Nat} {r : Rw} (h : w.ownsRow B 73 1 (.slice A rs.length c) rs.length (hcells rs)) (hr : rs[k]? = some r) : ∃ g, A = some ⟨g, 0, none⟩ ∧ g < w.heap.size ∧ w.cell? ⟨g, k, none⟩ = some (.slice r.aa r.args.length r.ac) := by
  obtain ⟨A', c', e, _, _, h0⟩ := own_cells h
  injection e with e1 e2 e3
  subst e1
  rcases h0 with h0 | ⟨g, rfl, _, hg, hc⟩
  · have := (List.getElem?_eq_some_iff.1 hr).1; omega
  · exact ⟨g, rfl, hg, hc k _ (by unfold hcells; rw [List.getElem?_map, hr]; rfl)⟩
def kcells (l : List Qu.Vl3) : List Value := (l.map keyS).map Value.string
def ccells (G : List (List Qu.Vl3)) (k : Nat) : List Value := (List.range k).map fun i => Value.int .i64 ((Ct.dcount (Ct.col G i) : Nat) : Int)
theorem ccells_snoc (G : List (List Qu.Vl3)) (k : Nat) : ccells G (k + 1) = ccells G k ++ [.int .i64 ((Ct.dcount (Ct.col G k) : Nat) : Int)] := by
  unfold ccells
  rw [List.range_succ, List.map_append]
  rfl
theorem int_info : (Tryd.prog.info? 3).map (fun i => (i.zero, i.size, i.bytes)) = some (some (.int .i64 0), 1, 8) := by kernel_rfl
theorem sta_own {w : World} {B n : Nat} {A : Option Addr} {c : Nat} {rn : Int} {l : List Int} {xs : List Value} (h : w.ownsRow B 3 1 (.slice A n c) n xs) (hl : l.length = n) (hx : xs = l.map (Value.int .i64)) (hr : I64 rn) (hi : ∀ x ∈ l, I64 x) : StaOk w ⟨rn, A, c, l⟩ ∧ (A = none → c = 0) := by
  subst hx
  subst hl
  rcases h.2 with ⟨e, e2⟩ | ⟨g, cap, cur, e, hB, hh, h1, h2, h3, h4⟩
  · injection e with e1 e2 e3
    subst e1; subst e3
    refine ⟨⟨fun hn => ?_, ⟨show l.length ≤ 0 by omega, show 0 ≤ maxLen from Nat.zero_le _⟩, ⟨hr, hi⟩⟩, fun _ => rfl⟩
    have : l = [] := List.eq_nil_of_length_eq_zero e2
    subst this
    exact absurd rfl hn
  · injection e with e1 e2 e3
    subst e1; subst e3
    refine ⟨⟨fun hn => ⟨g, 0, rfl, (Array.getElem?_eq_some_iff.1 hh).1, fun i fs hi2 j v hj => ?_⟩, ⟨h1, h2⟩, ⟨hr, hi⟩⟩, fun e => by cases e⟩
    rw [List.getElem?_map, Option.map_eq_some_iff] at hi2
    obtain ⟨x, hx, rfl⟩ := hi2
    cases j with
    | succ j => simp at hj
    | zero =>
      obtain rfl : Value.int .i64 x = v := by simpa using hj
      obtain ⟨A', c', e', _, _, h0⟩ := own_cells h
      injection e' with e1 _ _
      subst e1
      rcases h0 with h0 | ⟨g', eg, _, _, hc⟩
      · exfalso
        have h9 : i < l.length := (List.getElem?_eq_some_iff.1 hx).1
        omega
      · injection eg with eg
        injection eg with eg
        subst eg
        have := hc i _ (by rw [List.getElem?_map, hx]; rfl)
        simpa using this
theorem staOk_nil (w : World) : StaOk w ⟨0, none, 0, []⟩ := ⟨fun h => absurd rfl h, ⟨Nat.le_refl _, by unfold maxLen; simp⟩, ⟨by unfold I64; simp, fun x hx => by cases hx⟩⟩
theorem keyFit {v : Qu.Vl3} (h : I64 v.t ∧ I64 v.n ∧ v.s.size ≤ 1000000000000) : FitS (keyS v) := by
  have h1 := keyB_len h.1 h.2.1
  have h2 : (keyS v).size = (Qu.keyB PT v).length := by simp [keyS, ByteArray.size]
  unfold FitS maxLen
  omega
theorem joinFit {l : List Qu.Vl3} (h : ∀ v ∈ l, I64 v.t ∧ I64 v.n ∧ v.s.size ≤ 1000000000000) (h8 : l.length ≤ 8) : FitS (joinS l) := by
  have h1 := joinB_len l h
  have h2 : (joinS l).size = (Qu.joinB PT l).length := by simp [joinS, ByteArray.size]
  unfold FitS maxLen
  omega
/-- What the maps of the columns hold while a row is taken. -/
def kcol (G : List (List Qu.Vl3)) (r : List Qu.Vl3) (m i : Nat) : List ByteArray := if i < m then (Ct.col (G ++ [r]) i).map keyS else (Ct.col G i).map keyS
theorem kcol_zero (G : List (List Qu.Vl3)) (r : List Qu.Vl3) : kcol G r 0 = fun i => (Ct.col G i).map keyS := by funext i; simp [kcol]
theorem kcol_end {G : List (List Qu.Vl3)} {r : List Qu.Vl3} {n : Nat} (h : r.length = n) : kcol G r n = fun i => (Ct.col (G ++ [r]) i).map keyS := by
  funext i
  unfold kcol
  split
  · rfl
  · rw [col_same (List.getElem?_eq_none (by omega))]
theorem kcol_more {G : List (List Qu.Vl3)} {r : List Qu.Vl3} {m : Nat} {v : Qu.Vl3} (h : r[m]? = some v) : (fun i => if i = m then (Ct.col G m).map keyS ++ [keyS v] else kcol G r m i) = kcol G r (m + 1) := by
  funext i
  unfold kcol
  by_cases e : i = m
  · subst e
    rw [if_pos rfl, if_pos (by omega), col_more h, List.map_append]
    rfl
  · rw [if_neg e]
    by_cases e2 : i < m
    · rw [if_pos e2, if_pos (by omega)]
    · rw [if_neg e2, if_neg (by omega)]
theorem kcol_at (G : List (List Qu.Vl3)) (r : List Qu.Vl3) (m : Nat) : kcol G r m m = (Ct.col G m).map keyS := by simp [kcol]
set_option maxHeartbeats 2000000 in
set_option maxRecDepth 100000 in
theorem stats_any (pm : Pm) (d : Da) (pred : Int) (w : World) (hpm : PmOk w pm) (hd : DaOk w d) (hl : Lit d) (hn : pm.preds.length ≤ 30) (hT : Tabs w) (htn : ∀ x ∈ pm.preds, x.tn ≤ 2000000) :
    Calls Tryd.prog 14 #[pm.v, d.v, .int .i64 pred] w fun e w' => StatOut w.heap.size (statP pm d pred) e w' ∧ Below w.heap.size w w' := by
  obtain ⟨R, hR⟩ : ∃ R, statP pm d pred = R := ⟨_, rfl⟩
  rw [hR]
  have HTP := Lib.hid (fun W (h : Below w.heap.size w W) p pd (hp : pm.preds[p]? = some pd) => tuples_any pm d p pd W (hpm.below h) (hd.below h) hl hp hn)
  have HTA := Lib.hid (fun W (h : Below w.heap.size w W) => hT.next h)
  have HD := Lib.hid (fun W (h : Below w.heap.size w W) pd p => rowsOf_ok (hd.below h) hl pd p)
  have HP := Lib.hid (fun W (h : Below w.heap.size w W) => (hpm.preds).below h)
  have HTN := Lib.hid htn
  have HN := Lib.hid (@statP_neg pm d pred)
  have HO := Lib.hid (@statP_out pm d pred)
  have HI := Lib.hid (fun p pd (h : pm.preds[p]? = some pd) => statP_in (d := d) h)
  obtain ⟨iI, hi0, hi1, hi2, hi3⟩ := info_parts map_info
  obtain ⟨iS, hs0, hs1, hs2, hs3⟩ := info_parts s_info
  obtain ⟨iN, hn0, hn1, hn2, hn3⟩ := info_parts int_info
  obtain ⟨lt, fn, pa, pc, preds, ru⟩ := pm
  obtain ⟨ra, rc, rels, la, lc, lats⟩ := d
  unfold Pm.v Da.v at *
  dsimp only at *
  clear hpm hd hl hT htn
  have hw1 : Below w.heap.size w (((w.alloc (.cells #[.slice lt.a lt.n lt.c, .slice fn.a fn.n fn.c, .slice pa preds.length pc, .slice ru.a ru.n ru.c] 27)).alloc (.cells #[.slice ra rels.length rc, .slice la lats.length lc] 31)).alloc (.cells #[.int .i64 0, .slice none 0 0] 46)) := ((below1 _ _).alloc (by simp) _).alloc (by simp; omega) _
  have hR0 : At (((w.alloc (.cells #[.slice lt.a lt.n lt.c, .slice fn.a fn.n fn.c, .slice pa preds.length pc, .slice ru.a ru.n ru.c] 27)).alloc (.cells #[.slice ra rels.length rc, .slice la lats.length lc] 31)).alloc (.cells #[.int .i64 0, .slice none 0 0] 46)) (w.heap.size + 2) 46 #[.int .i64 0, .slice none 0 0] := At.newAt (by simp) _ _
  by_cases h0 : pred < 0
  · have t0 : decide (pred < 0) = true := decide_eq_true h0
    have HR := Lib.hid (hR.symm.trans (HN.out h0))
    clear h0 hR
    go_enter Tryd.func14, Tryd.ntmps14
    go_wp2_with fail
    refine bodyPost_ret (results_cell_row rfl _ _ (w.heap.size + 2) 46 _ (0, 0) _ rfl hR0 Tryd.underlying46 rfl (by kernel_rfl)) rfl ?_
    exact ⟨⟨⟨0, none, 0, []⟩, rfl, staOk_nil _, by rw [HR.out], by rw [HR.out], fun _ => rfl⟩, hw1⟩
  · have t0 : decide (pred < 0) = false := decide_eq_false h0
    by_cases h1 : (preds.length : Int) ≤ pred
    · have t1 : decide ((preds.length : Int) ≤ pred) = true := decide_eq_true h1
      have HR := Lib.hid (hR.symm.trans (HO.out h1))
      clear h0 h1 hR
      go_enter Tryd.func14, Tryd.ntmps14
      go_wp2_with fail
      refine bodyPost_ret (results_cell_row rfl _ _ (w.heap.size + 2) 46 _ (0, 0) _ rfl hR0 Tryd.underlying46 rfl (by kernel_rfl)) rfl ?_
      exact ⟨⟨⟨0, none, 0, []⟩, rfl, staOk_nil _, by rw [HR.out], by rw [HR.out], fun _ => rfl⟩, hw1⟩
    · obtain ⟨p, rfl⟩ : ∃ p : Nat, pred = (p : Int) := ⟨pred.toNat, by omega⟩
      have t1 : decide ((preds.length : Int) ≤ (p : Int)) = false := decide_eq_false h1
      have n1 : decide (preds.length ≤ p) = false := decide_eq_false (by omega)
      have hpl : p < preds.length := by omega
      obtain ⟨pd, hp⟩ : ∃ pd, preds[p]? = some pd := ⟨_, List.getElem?_eq_getElem hpl⟩
      have HR := Lib.hid (hR.symm.trans (HI.out p pd hp))
      have htn := HTN.out pd (List.mem_of_getElem? hp)
      obtain ⟨gp, op, rfl, hgp, x1, x3⟩ := pd_cells (HP.out _ hw1) hp
      have i0 : (0 : Int) ≤ (p : Int) := by omega
      have i1 : (p : Int) < (preds.length : Int) := by omega
      obtain ⟨rs, hrs⟩ : ∃ rs, rowsOf ⟨ra, rc, rels, la, lc, lats⟩ pd p = rs := ⟨_, rfl⟩
      have HTU := Lib.hid (fun W (h : Below w.heap.size w W) => HTP.out W h p pd hp)
      have HDR := Lib.hid (fun W (h : Below w.heap.size w W) => HD.out W h pd p)
      rw [hrs] at HR
      simp only [hrs] at HTU HDR
      have hrs60 : rs.length ≤ 60 := (HDR.out w (Below.refl _ _)).1
      clear HD hrs
      have hbox : SBox (((w.alloc (.cells #[.slice lt.a lt.n lt.c, .slice fn.a fn.n fn.c, .slice (some ⟨gp, op, none⟩) preds.length pc, .slice ru.a ru.n ru.c] 27)).alloc (.cells #[.slice ra rels.length rc, .slice la lats.length lc] 31)).alloc (.cells #[.int .i64 0, .slice none 0 0] 46)) w.heap.size #[.slice lt.a lt.n lt.c, .slice fn.a fn.n fn.c, .slice (some ⟨gp, op, none⟩) preds.length pc, .slice ru.a ru.n ru.c] #[.slice ra rels.length rc, .slice la lats.length lc] := ⟨((At.new w _ _).alloc _).alloc _, (At.newAt (by simp) _ _).alloc _, hR0⟩
      obtain ⟨w1, hw⟩ : ∃ w1, w1 = ((w.alloc (.cells #[.slice lt.a lt.n lt.c, .slice fn.a fn.n fn.c, .slice (some ⟨gp, op, none⟩) preds.length pc, .slice ru.a ru.n ru.c] 27)).alloc (.cells #[.slice ra rels.length rc, .slice la lats.length lc] 31)).alloc (.cells #[.int .i64 0, .slice none 0 0] 46) := ⟨_, rfl⟩
      rw [← hw] at hw1 hbox
      have hW1 : Below w.heap.size w w1 := hw1
      clear hR h0 h1 hpl hR0 HP HTP HN HO HI HTN hp
      go_enter Tryd.func14, Tryd.ntmps14
      go_wp2_with fail
      rw [← hw]
      clear hw x1 x3
      refine' wp_region_each _ (Below w1.heap.size w1) (Onward) (NewMp w.heap.size :: Vl :: NewVs w.heap.size pd.tn :: NewMp w.heap.size :: NewVs w.heap.size pd.tn :: []) ?hF (by kernel_rfl) (by kernel_rfl) (by kernel_rfl) ((Below.refl _ _).drew) (lasting_cons (newMp_on _) (lasting_cons (lasting_vl) (lasting_cons (newVs_on _ _) (lasting_cons (newMp_on _) (lasting_cons (newVs_on _ _) (lasting_none)))))) ?hops ?hend
      case hF => (intro v; simp only [over, Act.put, List.setIfInBounds_toArray, List.set_cons_zero, List.set_cons_succ, Nat.zero_add, Nat.reduceAdd]; exact rfl)
      case hops =>
        refine ⟨?_, ?_⟩
        · intro v w' hj hd hs K hK
          have hmm := @run_makeMap Tryd.prog
          have hjs := hj.out.size
          have hk := hK.out
          simp only [Act.put, List.setIfInBounds_toArray, List.set_cons_zero, List.set_cons_succ] at hk
          have HK := Lib.hid hk
          clear hd hs hk hK
          go_simp
          exact HK.out _ _ (hj.out.alloc hj.out.size _) (below1 _ _) ⟨_, rfl, by have := hW1.size; omega, CMap.madeAt rfl⟩
        refine ⟨?_, ?_⟩
        · intro v w' hj hd hs K hK
          have hk := hK.out
          simp only [Act.put, List.setIfInBounds_toArray, List.set_cons_zero, List.set_cons_succ] at hk
          have HK := Lib.hid hk
          clear hd hs hk hK
          go_simp
          exact HK.out _ _ hj.out (Below.refl _ _) (show _ = _ from rfl)
        refine ⟨?_, ?_⟩
        · intro v w' hj hd hs K hK
          have t1 : v 1 = _ := hd.out 1 (by kernel_rfl)
          have q0 := run_make_maps w' Tryd.underlying84 hi0 hi1 hi2 (by rw [hi3]; decide) rfl pd.tn (by omega)
          have hjs := hj.out.size
          have hk := hK.out
          simp only [t1, Act.put, List.setIfInBounds_toArray, List.set_cons_zero, List.set_cons_succ] at hk
          have HK := Lib.hid hk
          clear hd hs hk hK
          go_simp
          exact HK.out _ _ (hj.out.alloc hj.out.size _) (below1 _ _) ⟨_, rfl, by have := hW1.size; omega, by rw [← vcells_nil]; exact At.newAt rfl _ _⟩
        refine ⟨?_, ?_⟩
        · intro v w' hj hd hs K hK
          obtain ⟨b0, t0, l0, z0⟩ : NewMp w.heap.size (v 0) w' := hd.out 0 (by kernel_rfl)
          have hk := hK.out
          simp only [t0, Act.put, List.setIfInBounds_toArray, List.set_cons_zero, List.set_cons_succ] at hk
          have HK := Lib.hid hk
          clear hd hs hk hK
          go_simp
          exact HK.out _ _ hj.out (Below.refl _ _) ⟨_, rfl, l0, z0⟩
        refine ⟨?_, ?_⟩
        · intro v w' hj hd hs K hK
          obtain ⟨b2, t2, l2, z2⟩ : NewVs w.heap.size pd.tn (v 2) w' := hd.out 2 (by kernel_rfl)
          have hk := hK.out
          simp only [t2, Act.put, List.setIfInBounds_toArray, List.set_cons_zero, List.set_cons_succ] at hk
          have HK := Lib.hid hk
          clear hd hs hk hK
          go_simp
          exact HK.out _ _ hj.out (Below.refl _ _) ⟨_, rfl, l2, z2⟩
        trivial
      case hend =>
        intro v w2 hj hd
        obtain ⟨bR, t3, l3, z3⟩ : NewMp w.heap.size (v 3) w2 := hd.out 3 (of_decide_eq_true (by kernel_rfl))
        obtain ⟨gV, t4, l4, z4⟩ : NewVs w.heap.size pd.tn (v 4) w2 := hd.out 4 (of_decide_eq_true (by kernel_rfl))
        have hb2 := hj.out
        clear hj hd
        simp only [t3, t4]
        clear t3 t4
        have hb2' := hb2
        have hw2 : Below w.heap.size w w2 := hw1.trans (hb2.mono hw1.size)
        have hbx2 := hbox.next hb2
        have hcols : Cols w2 w.heap.size bR [] [] (fun _ => []) := ⟨z3, fun i b hi => (by simp at hi), ⟨l3, fun b hb => (by cases hb)⟩, fun b hb => (by cases hb), fun i j b hi => (by simp at hi)⟩
        have hsz1 : w.heap.size + 3 ≤ w1.heap.size := by have := hbox.r.lt; omega
        have hsz2 := hb2.size
        have HNE := Lib.hid (show gV ≠ w.heap.size ∧ gV ≠ w.heap.size + 1 ∧ gV ≠ w.heap.size + 2 from ⟨(At.ne z4 hbx2.p (by decide)), (At.ne z4 hbx2.d (by decide)), (At.ne z4 hbx2.r (by decide))⟩)
        clear z3 hbox hb2 hb2'
        go_wp2_with fail
        go_loopw [10, 41] (fun _ i wr => ∃ (k : Nat) (mb : List Nat), k ≤ pd.tn ∧ i = .int .i64 k ∧ mb.length = k ∧ Cols wr w.heap.size bR mb [] (fun _ => []) ∧ At wr gV 83 (vcells pd.tn mb) ∧ SBox wr w.heap.size #[.slice lt.a lt.n lt.c, .slice fn.a fn.n fn.c, .slice (some ⟨gp, op, none⟩) preds.length pc, .slice ru.a ru.n ru.c] #[.slice ra rels.length rc, .slice la lats.length lc] ∧ Below w.heap.size w wr) (fun _ i _ => pd.tn - (intOf i).toNat)
        case atStart => exact ⟨0, [], by omega, rfl, rfl, hcols, z4, hbx2, hw2⟩
        case round =>
          clear hcols z4 hbx2 hw2
          obtain ⟨k, mb, hk, rfl, hmb, hcols, hV, hbx, hw⟩ := hrel
          by_cases h1 : k < pd.tn
          · have d1 : decide ((k : Int) < (pd.tn : Int)) = true := by simp; omega
            have i2 : (0 : Int) ≤ (k : Int) := by omega
            have i3 : (k : Int) < (pd.tn : Int) := by omega
            have hmm := @run_makeMap Tryd.prog
            have hlV := hV.lt
            have hV2 := hV.alloc (.map #[] 0)
            have yf : (wr.alloc (.map #[] 0)).frozen? ⟨gV, k, none⟩ = false := hV2.frozen k
            have yc : (wr.alloc (.map #[] 0)).cell? ⟨gV, k, none⟩ = some (.map none) := (hV2.cell k).trans (vcells_none (by omega) h1)
            go_wp2_with fail
            go_roundw
            case rel =>
              have hs := hw.size
              obtain ⟨wp, hwp⟩ : ∃ wp, wp = wr.setCell ⟨gV, k, none⟩ (.map (some wr.heap.size)) := ⟨_, rfl⟩
              have hps : wp.heap.size = wr.heap.size := by rw [hwp]; simp
              have hc1 : Cols wp w.heap.size bR mb [] (fun _ => []) := by rw [hwp]; exact hcols.setCell hV k _
              have hc2 := hc1.next (below1 wp (.map #[] 0))
              have hc3 : Cols (wp.alloc (.map #[] 0)) w.heap.size bR (mb ++ [wr.heap.size]) [] (fun _ => []) := by
                refine ⟨hc2.rows, fun i b hi => ?_, ⟨hc2.low.1, fun b hb => ?_⟩, fun b hb => ?_, fun i j b hi hj => ?_⟩
                · rcases Nat.lt_or_ge i mb.length with h | h
                  · rw [List.getElem?_append_left h] at hi; exact hc2.each i b hi
                  · rw [List.getElem?_append_right h] at hi
                    have hb : b = wr.heap.size := by
                      cases e : i - mb.length with
                      | zero => rw [e] at hi; simpa using hi.symm
                      | succ q => rw [e] at hi; simp at hi
                    subst hb
                    exact CMap.madeAt hps
                · rcases List.mem_append.1 hb with h | h
                  · exact hc2.low.2 b h
                  · simp at h; omega
                · rcases List.mem_append.1 hb with h | h
                  · exact hc2.ne b h
                  · have := hcols.rows.lt; simp at h; omega
                · have hlt : ∀ (i b : Nat), mb[i]? = some b → b < wr.heap.size := fun i b h => (hcols.each i b h).lt
                  rcases Nat.lt_or_ge i mb.length with h | h
                  · rw [List.getElem?_append_left h] at hi
                    rcases Nat.lt_or_ge j mb.length with h' | h'
                    · rw [List.getElem?_append_left h'] at hj
                      exact hcols.one i j b hi hj
                    · rw [List.getElem?_append_right h'] at hj
                      have := hlt i b hi
                      cases e : j - mb.length with
                      | zero => rw [e] at hj; simp at hj; omega
                      | succ q => rw [e] at hj; simp at hj
                  · rw [List.getElem?_append_right h] at hi
                    have hb : b = wr.heap.size ∧ i = mb.length := by
                      cases e : i - mb.length with
                      | zero => rw [e] at hi; exact ⟨by simpa using hi.symm, by omega⟩
                      | succ q => rw [e] at hi; simp at hi
                    obtain ⟨rfl, rfl⟩ := hb
                    rcases Nat.lt_or_ge j mb.length with h' | h'
                    · rw [List.getElem?_append_left h'] at hj
                      have := hlt j _ hj; omega
                    · rw [List.getElem?_append_right h'] at hj
                      cases e : j - mb.length with
                      | zero => omega
                      | succ q => rw [e] at hj; simp at hj
              refine ⟨k + 1, mb ++ [wr.heap.size], by omega, by go_num, by simp [hmb], by rw [hwp] at hc3; exact hc3, ?_, (hbx.setCell HNE.out _).next (below1 _ _), (hw.setCell (p := ⟨gV, k, none⟩) l4 _).alloc (by simp; omega) _⟩
              have := hV.put k (.map (some wr.heap.size))
              rw [← hmb, vcells_put (by omega), hmb] at this
              exact this.alloc _
            case measure => simp [intOf]; omega
          · have d1 : decide ((k : Int) < (pd.tn : Int)) = false := by simp; omega
            obtain rfl : k = pd.tn := by omega
            have hbp := hbx.p
            have hbd := hbx.d
            have p0 : wr.cell? ⟨w.heap.size, 0, none⟩ = some (.slice lt.a lt.n lt.c) := hbp.cell 0
            have p1 : wr.cell? ⟨w.heap.size, 1, none⟩ = some (.slice fn.a fn.n fn.c) := hbp.cell 1
            have p2 : wr.cell? ⟨w.heap.size, 2, none⟩ = some (.slice (some ⟨gp, op, none⟩) preds.length pc) := hbp.cell 2
            have p3 : wr.cell? ⟨w.heap.size, 3, none⟩ = some (.slice ru.a ru.n ru.c) := hbp.cell 3
            have q0 : wr.cell? ⟨w.heap.size + 1, 0, none⟩ = some (.slice ra rels.length rc) := hbd.cell 0
            have q1 : wr.cell? ⟨w.heap.size + 1, 1, none⟩ = some (.slice la lats.length lc) := hbd.cell 1
            go_wp2_with (go_at_call 26; refine (HTU.out wr hw).mono ?_; rintro e w3 ⟨⟨tv, rfl, hts⟩, hb3⟩; obtain ⟨tA, tc, rfl⟩ := own_len hts)
            have hw3 : Below w.heap.size w w3 := hw.trans (hb3.mono hw.size)
            have hcols3 := hcols.next hb3
            have hV3 := hV.next hb3
            have hbx3 := hbx.next hb3
            have hts := own_mono hts hw.size
            have hcols4 : Cols w3 w.heap.size bR mb ((goodOf (rs.take 0) pd.tn).map joinS) (fun i => (Ct.col (goodOf (rs.take 0) pd.tn) i).map keyS) := hcols3
            have HMB := Lib.hid hmb
            clear hcols hcols3 hV hbx hbp hbd p0 p1 p2 p3 q0 q1 hb3 hw hk h1 d1 hmb
            go_loopw [12, 13, 14, 15, 54] (fun _ _ _ _ i wr => ∃ k : Nat, k ≤ rs.length ∧ i = .int .i64 k ∧ Cols wr w.heap.size bR mb ((goodOf (rs.take k) pd.tn).map joinS) (fun i => (Ct.col (goodOf (rs.take k) pd.tn) i).map keyS) ∧ At wr gV 83 (vcells pd.tn mb) ∧ SBox wr w.heap.size #[.slice lt.a lt.n lt.c, .slice fn.a fn.n fn.c, .slice (some ⟨gp, op, none⟩) preds.length pc, .slice ru.a ru.n ru.c] #[.slice ra rels.length rc, .slice la lats.length lc] ∧ wr.ownsRow w.heap.size 73 1 (.slice tA rs.length tc) rs.length (hcells rs) ∧ Below w.heap.size w wr) (fun _ _ _ _ i _ => rs.length - (intOf i).toNat)
            case atStart => exact ⟨0, by omega, rfl, hcols4, hV3, hbx3, hts, hw3⟩
            case round =>
              clear hcols4 hV3 hbx3 hts hw3
              obtain ⟨k, hk, rfl, hcols, hV, hbx, hts, hw⟩ := hrel
              by_cases h1 : k < rs.length
              · have d1 : decide ((k : Int) < (rs.length : Int)) = true := by simp; omega
                obtain ⟨r, hr⟩ : ∃ r, rs[k]? = some r := ⟨_, List.getElem?_eq_getElem h1⟩
                obtain ⟨gt, rfl, hgt, y0⟩ := own_hdr hts hr
                obtain ⟨hr8, hrok⟩ := (HDR.out wr hw).2 r (List.mem_of_getElem? hr)
                have i2 : (0 : Int) ≤ (k : Int) := by omega
                have i3 : (k : Int) < (rs.length : Int) := by omega
                by_cases hln : r.args.length = pd.tn
                · have t2 : ((r.args.length : Int) != (pd.tn : Int)) = false := by simp [hln]
                  have HGM := Lib.hid (good_more hr hln)
                  have HLN := Lib.hid hln
                  have HROK := Lib.hid (fun W (h : Below w.heap.size w W) => ((HDR.out W h).2 r (List.mem_of_getElem? hr)).2)
                  obtain ⟨G, hG⟩ : ∃ G, goodOf (rs.take k) pd.tn = G := ⟨_, rfl⟩
                  have hGl : G.length ≤ 60 := by
                    rw [← hG]
                    have h2 := goodOf_le (rs.take k) pd.tn
                    have h3 : (rs.take k).length ≤ rs.length := by simp; omega
                    omega
                  rw [hG] at hcols HGM
                  have hcols0 : Cols wr w.heap.size bR mb (G.map joinS) (kcol G r.args 0) := by rw [kcol_zero]; exact hcols
                  clear hr hG hln hrok hcols
                  go_wp2_with fail
                  go_loopw [13, 14, 15, 64] (fun pv _ _ i wx => ∃ (m : Nat) (A : Option Addr) (c : Nat), m ≤ r.args.length ∧ i = .int .i64 m ∧ pv = .slice A m c ∧ wx.ownsRow w.heap.size 9 1 (.slice A m c) m (kcells (r.args.take m)) ∧ Cols wx w.heap.size bR mb (G.map joinS) (kcol G r.args m) ∧ At wx gV 83 (vcells pd.tn mb) ∧ SBox wx w.heap.size #[.slice lt.a lt.n lt.c, .slice fn.a fn.n fn.c, .slice (some ⟨gp, op, none⟩) preds.length pc, .slice ru.a ru.n ru.c] #[.slice ra rels.length rc, .slice la lats.length lc] ∧ wx.ownsRow w.heap.size 73 1 (.slice (some ⟨gt, 0, none⟩) rs.length tc) rs.length (hcells rs) ∧ Below w.heap.size w wx) (fun _ _ _ i _ => r.args.length - (intOf i).toNat)
                  case atStart => exact ⟨0, none, 0, by omega, rfl, rfl, ⟨by simp [kcells], Or.inl ⟨rfl, by simp [kcells]⟩⟩, hcols0, hV, hbx, hts, hw⟩
                  case round =>
                    clear hcols0 hV hbx hts hw y0 hgt
                    obtain ⟨m, pA, pc2, hm, rfl, rfl, hpo, hcols, hV, hbx, hts, hw⟩ := hrel
                    by_cases h2 : m < r.args.length
                    · have d2 : decide ((m : Int) < (r.args.length : Int)) = true := by simp; omega
                      obtain ⟨xv, hv⟩ : ∃ xv, r.args[m]? = some xv := ⟨_, List.getElem?_eq_getElem h2⟩
                      obtain ⟨gr, og, hga, hgr, r0, r1, r2⟩ := vl_cells (HROK.out wr hw).args hv
                      have hvok := (HROK.out wr hw).i64 xv (List.mem_of_getElem? hv)
                      have hmtn : m < pd.tn := by have := HLN.out; omega
                      obtain ⟨mbb, hmbb⟩ : ∃ b, mb[m]? = some b := ⟨_, List.getElem?_eq_getElem (by have := HMB.out; omega)⟩
                      have HMBB := Lib.hid hmbb
                      have HKM := Lib.hid (kcol_more (G := G) hv)
                      have HSN := Lib.hid (show kcells (r.args.take (m + 1)) = kcells (r.args.take m) ++ [.string (keyS xv)] by rw [take_more hv]; simp [kcells])
                      have j2 : (0 : Int) ≤ (m : Int) := by omega
                      have j3 : (m : Int) < (r.args.length : Int) := by omega
                      have j4 : (m : Int) < (pd.tn : Int) := by omega
                      obtain ⟨wv, hwv⟩ : ∃ wv, wv = wr.alloc (.cells #[.int .i64 xv.t, .int .i64 xv.n, .string xv.s] 62) := ⟨_, rfl⟩
                      have hbv : Below wr.heap.size wr wv := by rw [hwv]; exact below1 _ _
                      have hval : At wv wr.heap.size 62 #[.int .i64 xv.t, .int .i64 xv.n, .string xv.s] := by rw [hwv]; exact At.new _ _ _
                      have v0 : wv.cell? ⟨wr.heap.size, 0, none⟩ = some (.int .i64 xv.t) := hval.cell 0
                      have v1 : wv.cell? ⟨wr.heap.size, 1, none⟩ = some (.int .i64 xv.n) := hval.cell 1
                      have v2 : wv.cell? ⟨wr.heap.size, 2, none⟩ = some (.string xv.s) := hval.cell 2
                      have hwv' : Below w.heap.size w wv := hw.trans (hbv.mono hw.size)
                      have HKC := Lib.hid (fun W (h : Below w.heap.size w W) => key_any xv W hvok.1 hvok.2.1 hvok.2.2 (HTA.out W h))
                      have HFK := Lib.hid (keyFit hvok)
                      obtain ⟨raa, rac, rargs, rwn⟩ := r
                      dsimp only at *
                      subst hga
                      clear hv hmbb
                      have hsz := hw.size
                      go_wp2_with fail
                      rw [← hwv]
                      clear hwv
                      go_wp2_with first
                        | (at_builtin; refine wpList_append_own _ rfl _ _ 39 rfl w.heap.size 9 iS (.string ⟨#[]⟩) 1 16 Tryd.underlying39 hs0 hs1 hs2 hs3 rfl (by decide) _ _ _ rfl (((own_below (own_below hpo hbv) hb4)).alloc _) ⟨w4.heap.size, 0, none⟩ 1 1 [.string (keyS xv)] rfl rfl ?c1 ?c2 ?c3 ?c4 ?c5 ?_)
                        | (go_at_call 27; refine (HKC.out _ hwv').mono ?_; rintro e w4 ⟨rfl, hb4⟩)
                      case c1 => exact At.news (xs := [.string (keyS xv)]) (At.newAt (by simp) _ _)
                      case c2 => exact one1 rfl
                      case c3 => simp [maxLen]; omega
                      case c4 => omega
                      case c5 => have := hb4.size; have := hbv.size; simp; omega
                      intro v5 w5 o5 g5 _
                      obtain ⟨pA5, pc5, rfl⟩ := own_len o5
                      replace o5 : w5.ownsRow w.heap.size 9 1 (.slice pA5 (m + 1) pc5) (m + 1) (kcells (rargs.take (m + 1))) := by rw [HSN.out]; exact o5
                      have hs4 := hb4.size
                      have hsv := hbv.size
                      have hpo4 := (own_below (own_below hpo hbv) hb4).alloc (.cells #[.string (keyS xv)] 9)
                      have hcl4 := ((hcols.next hbv).next hb4).next (below1 w4 (.cells #[.string (keyS xv)] 9))
                      have hV4 := ((hV.next hbv).next hb4).next (below1 w4 (.cells #[.string (keyS xv)] 9))
                      have hbx4 := ((hbx.next hbv).next hb4).next (below1 w4 (.cells #[.string (keyS xv)] 9))
                      have hts4 := own_below (own_below (own_below hts hbv) hb4) (below1 w4 (.cells #[.string (keyS xv)] 9))
                      have hw4 : Below w.heap.size w (w4.alloc (.cells #[.string (keyS xv)] 9)) := (hwv'.trans (hb4.mono hwv'.size)).alloc (by have := hwv'.size; omega) _
                      have hval4 := (hval.next hb4).next (below1 w4 (.cells #[.string (keyS xv)] 9))
                      have hcl5 := hcl4.keptCells g5 fun q hq => own_not_map hpo4 q hq
                      have hV5 := hV4.grown g5 (own_far hpo4 hV4 (by decide))
                      have hbx5 : SBox w5 w.heap.size _ _ := ⟨hbx4.p.grown g5 (own_far hpo4 hbx4.p (by decide)), hbx4.d.grown g5 (own_far hpo4 hbx4.d (by decide)), hbx4.r.grown g5 (own_far hpo4 hbx4.r (by decide))⟩
                      have hts5 := own_kept hts4 g5 (own_blocks hts4 hpo4 (by decide))
                      have hval5 := hval4.grown g5 (own_far hpo4 hval4 (by decide))
                      have hw5 : Below w.heap.size w w5 := hw4.grown g5 hw4.size (fun q hq => (own_lt hpo4 hq).1)
                      clear hpo4 hcl4 hV4 hbx4 hts4 hw4 hval4 g5 hpo hcols hV hbx hts hval hb4 hbv v0 v1 v2 r0 r1 r2
                      go_wp2_with fail
                      refine' wp_region_last 6 _ _ (Below w5.heap.size w5) (Onward) (Vl :: Vl :: Vl :: Vl :: Vl :: Vl :: []) ?hF (by kernel_rfl) (by kernel_rfl) (by kernel_rfl) (by rfl) (by rfl) (by rfl) (by kernel_rfl) ((Below.refl _ _).drew) (lasting_cons (lasting_vl) (lasting_cons (lasting_vl) (lasting_cons (lasting_vl) (lasting_cons (lasting_vl) (lasting_cons (lasting_vl) (lasting_cons (lasting_vl) (lasting_none))))))) ?hops ?hlast
                      case hF => (intro v; simp only [over, Act.put, List.setIfInBounds_toArray, List.set_cons_zero, List.set_cons_succ, Nat.zero_add, Nat.reduceAdd]; exact rfl)
                      case hops =>
                        refine ⟨?_, ?_⟩
                        · intro v w' hj hd hs K hK
                          have hk := hK.out
                          simp only [Act.put, List.setIfInBounds_toArray, List.set_cons_zero, List.set_cons_succ] at hk
                          have HK := Lib.hid hk
                          clear hd hs hk hK
                          go_simp
                          exact HK.out _ _ hj.out (Below.refl _ _) (show _ = _ from rfl)
                        refine ⟨?_, ?_⟩
                        · intro v w' hj hd hs K hK
                          have hk := hK.out
                          simp only [Act.put, List.setIfInBounds_toArray, List.set_cons_zero, List.set_cons_succ] at hk
                          have HK := Lib.hid hk
                          clear hd hs hk hK
                          go_simp
                          exact HK.out _ _ hj.out (Below.refl _ _) (show _ = _ from rfl)
                        refine ⟨?_, ?_⟩
                        · intro v w' hj hd hs K hK
                          have t0 : v 0 = _ := hd.out 0 (by kernel_rfl)
                          have t1 : v 1 = _ := hd.out 1 (by kernel_rfl)
                          have hk := hK.out
                          simp only [t0, t1, Act.put, List.setIfInBounds_toArray, List.set_cons_zero, List.set_cons_succ] at hk
                          have HK := Lib.hid hk
                          clear hd hs hk hK
                          go_simp
                          exact HK.out _ _ hj.out (Below.refl _ _) (show _ = _ from rfl)
                        refine ⟨?_, ?_⟩
                        · intro v w' hj hd hs K hK
                          have t2 : v 2 = _ := hd.out 2 (by kernel_rfl)
                          have yv := ((hV5.next hj.out).cell m).trans (vcells_get HMBB.out)
                          have hk := hK.out
                          simp only [t2, Act.put, List.setIfInBounds_toArray, List.set_cons_zero, List.set_cons_succ] at hk
                          have HK := Lib.hid hk
                          clear hd hs hk hK
                          go_simp
                          exact HK.out _ _ hj.out (Below.refl _ _) (show _ = _ from rfl)
                        refine ⟨?_, ?_⟩
                        · intro v w' hj hd hs K hK
                          have yb := hval5.next hj.out
                          have v0 := yb.cell 0; have v1 := yb.cell 1; have v2 := yb.cell 2
                          simp only [List.getElem?_toArray, List.getElem?_cons_zero, List.getElem?_cons_succ] at v0 v1 v2
                          clear yb
                          have hk := hK.out
                          simp only [Act.put, List.setIfInBounds_toArray, List.set_cons_zero, List.set_cons_succ] at hk
                          have HK := Lib.hid hk
                          clear hd hs hk hK
                          go_simp
                          exact HK.out _ _ hj.out (Below.refl _ _) (show _ = _ from rfl)
                        refine ⟨?_, ?_⟩
                        · intro v w' hj hd hs K hK
                          have t4 : v 4 = _ := hd.out 4 (by kernel_rfl)
                          have hk := hK.out
                          simp only [t4, Act.put, List.setIfInBounds_toArray, List.set_cons_zero, List.set_cons_succ] at hk
                          have HK := Lib.hid hk
                          clear hd hs hk hK
                          go_simp
                          refine (HKC.out _ (hw5.trans (hj.out.mono hw5.size))).mono ?_
                          rintro e w6 ⟨rfl, hb6⟩
                          exact HK.out _ _ (hj.out.trans (hb6.mono hj.out.size)) hb6 (show _ = _ from rfl)
                        trivial
                      case hlast =>
                        intro v w' hj hd K hK
                        have t3 : v 3 = _ := hd.out 3 (of_decide_eq_true (by kernel_rfl))
                        have t5 : v 5 = _ := hd.out 5 (of_decide_eq_true (by kernel_rfl))
                        rw [if_pos (show Region.wanted _ _ = true from rfl)]
                        have hj6 := hj.out
                        have hc6 := hcl5.next hj6
                        refine oper_cmap rfl (hc6.each m mbb HMBB.out) (show _ = _ from t3) (key := keyS xv) (show _ = _ from t5) HFK.out rfl (by rw [kcol_at, List.length_map]; have := col_len G m; omega) ?_
                        intro w7 hc7 g7
                        refine hK.out _ ?_
                        have hcl6 := hc6.putCol HMBB.out hc7 g7
                        rw [kcol_at, HKM.out] at hcl6
                        obtain ⟨es, ec, hob⟩ := (hc6.each m mbb HMBB.out).obj
                        have hV6 := (hV5.next hj6).mapGrown hob g7
                        have hbx6 := (hbx5.next hj6).mapGrown hob g7
                        have hts6 := own_keptMap (own_below hts5 hj6) hob g7
                        have HO6 := Lib.hid (own_keptMap (own_below o5 hj6) hob g7)
                        have hw6 : Below w.heap.size w w7 := (hw5.trans (hj6.mono hw5.size)).trans (below_of_grown g7 (hc6.low.2 mbb (List.mem_of_getElem? HMBB.out)) ((hw5.trans (hj6.mono hw5.size)).size))
                        clear hd hj hK hj6 hc6 hc7 g7 hob hV5 hbx5 hts5 o5 hcl5 hval5 t3 t5
                        go_wp2_with fail
                        go_roundw
                        case rel => exact ⟨m + 1, pA5, pc5, by omega, by go_num, rfl, HO6.out, hcl6, hV6, hbx6, hts6, hw6⟩
                        case measure => simp [intOf]; omega
                    · have d2 : decide ((m : Int) < (r.args.length : Int)) = false := by simp; omega
                      have HPO := Lib.hid (show wr.ownsRow w.heap.size 9 1 (.slice pA m pc2) r.args.length (ncs (r.args.map keyS)) by
                        have h := hpo
                        rw [List.take_of_length_le (by omega)] at h
                        rw [show r.args.length = m by omega]
                        exact h)
                      have hok := (HROK.out wr hw).i64
                      have HJ := Lib.hid (join_any wr w.heap.size _ r.args HPO.out hok hr8)
                      have hcl : Cols wr w.heap.size bR mb (G.map joinS) (fun i => (Ct.col (G ++ [r.args]) i).map keyS) := by
                        have h := hcols
                        rw [show m = pd.tn by have := HLN.out; omega, kcol_end HLN.out] at h
                        exact h
                      have hjf := joinFit hok hr8
                      have HGR := Lib.hid (show (goodOf (rs.take (k + 1)) pd.tn).map joinS = G.map joinS ++ [joinS r.args] by rw [HGM.out, List.map_append]; rfl)
                      clear hpo hcols hok
                      go_wp2_with first
                        | (at_mapUpdate; refine wpList_cmap rfl _ _ _ rfl hcl4.rows rfl rfl hjf rfl (by rw [List.length_map]; omega) ?_; intro w6 hc6 g6)
                        | (go_at_call 28; refine HJ.out.mono ?_; rintro e w4 ⟨rfl, hb4⟩; have hcl4 := hcl.next hb4)
                      go_roundw
                      case rel =>
                        obtain ⟨es, ec, hob⟩ := hcl4.rows.obj
                        have hw4 := hw.trans (hb4.mono hw.size)
                        refine ⟨k + 1, by omega, by go_num, ?_, (hV.next hb4).mapGrown hob g6, (hbx.next hb4).mapGrown hob g6, own_keptMap (own_below hts hb4) hob g6, hw4.trans (below_of_grown g6 hcl4.low.1 hw4.size)⟩
                        have h := hcl4.putRow hc6 g6
                        rw [HGR.out, HGM.out]
                        exact h
                      case measure => simp [intOf]; omega
                · have t2 : ((r.args.length : Int) != (pd.tn : Int)) = true := by simpa using fun h => hln (by omega)
                  have HGS := Lib.hid (good_skip hr hln)
                  clear hr hln
                  go_wp2_with fail
                  go_roundw
                  case rel => exact ⟨k + 1, by omega, by go_num, by rw [HGS.out]; exact hcols, hV, hbx, hts, hw⟩
                  case measure => simp [intOf]; omega
              · have d1 : decide ((k : Int) < (rs.length : Int)) = false := by simp; omega
                have hcl : Cols wr w.heap.size bR mb ((goodOf rs pd.tn).map joinS) (fun i => (Ct.col (goodOf rs pd.tn) i).map keyS) := by
                  have h := hcols
                  rw [List.take_of_length_le (by omega)] at h
                  exact h
                have hlr := hcl.rows.len 3
                rw [count_rows] at hlr
                clear hcols hts
                obtain ⟨Gd, hGd⟩ : ∃ Gd, goodOf rs pd.tn = Gd := ⟨_, rfl⟩
                have hGl : Gd.length ≤ 60 := by
                  rw [← hGd]
                  have h2 := goodOf_le rs pd.tn
                  omega
                rw [hGd] at hcl hlr HR
                clear hGd
                obtain ⟨rn, hrn⟩ : ∃ rn, Ct.dcount Gd = rn := ⟨_, rfl⟩
                have hrn60 : rn ≤ 60 := by rw [← hrn]; have := Ct.dcount_len Gd; omega
                rw [hrn] at hlr HR
                clear hrn
                have hcl2 := hcl.next (below1 wr (.cells #[.int .i64 (rn : Int), .slice none 0 0] 46))
                have hV2 := hV.next (below1 wr (.cells #[.int .i64 (rn : Int), .slice none 0 0] 46))
                have hbr2 := hbx.r.next (below1 wr (.cells #[.int .i64 (rn : Int), .slice none 0 0] 46))
                have hw2 := hw.alloc hw.size (.cells #[.int .i64 (rn : Int), .slice none 0 0] 46)
                have hat2 := At.new wr 46 #[.int .i64 (rn : Int), .slice none 0 0]
                have hbrl := hbx.r.lt
                obtain ⟨ob, hob⟩ : ∃ ob, wr.heap.size = ob := ⟨_, rfl⟩
                have hobn : w.heap.size + 2 < ob := by omega
                rw [hob] at hat2
                clear hcl hV hbx hw
                go_wp2_with fail
                clear hob hlr hbrl
                go_loopw [18, 90] (fun _ i wx => ∃ (k : Nat) (A : Option Addr) (c : Nat), k ≤ pd.tn ∧ i = .int .i64 k ∧ At wx ob 46 #[.int .i64 (rn : Int), .slice A k c] ∧ wx.ownsRow w.heap.size 3 1 (.slice A k c) k (ccells Gd k) ∧ Cols wx w.heap.size bR mb (Gd.map joinS) (fun i => (Ct.col Gd i).map keyS) ∧ At wx gV 83 (vcells pd.tn mb) ∧ At wx (w.heap.size + 2) 46 #[.int .i64 0, .slice none 0 0] ∧ Below w.heap.size w wx) (fun _ i _ => pd.tn - (intOf i).toNat)
                case atStart => exact ⟨0, none, 0, by omega, rfl, hat2, ⟨by simp [ccells], Or.inl ⟨rfl, by simp [ccells]⟩⟩, hcl2, hV2, hbr2, hw2⟩
                case round =>
                  clear hcl2 hV2 hbr2 hw2 hat2
                  obtain ⟨k, A, c, hk, rfl, hat, ho, hcl, hV, hbr, hw⟩ := hrel
                  by_cases h1 : k < pd.tn
                  · have d1 : decide ((k : Int) < (pd.tn : Int)) = true := by simp; omega
                    obtain ⟨mbb, hmbb⟩ : ∃ b, mb[k]? = some b := ⟨_, List.getElem?_eq_getElem (by have := HMB.out; omega)⟩
                    have yv := (hV.cell k).trans (vcells_get hmbb)
                    have hlc := (hcl.each k mbb hmbb).len 3
                    rw [count_col] at hlc
                    have HCS := Lib.hid (ccells_snoc Gd k)
                    have hcn : Ct.dcount (Ct.col Gd k) ≤ 60 := by have := Ct.dcount_len (Ct.col Gd k); have := col_len Gd k; omega
                    obtain ⟨cn, hcn2⟩ : ∃ cn, Ct.dcount (Ct.col Gd k) = cn := ⟨_, rfl⟩
                    rw [hcn2] at hlc HCS hcn
                    have i2 : (0 : Int) ≤ (k : Int) := by omega
                    have i3 : (k : Int) < (pd.tn : Int) := by omega
                    have ya : wr.cell? ⟨ob, 1, none⟩ = some (.slice A k c) := hat.cell 1
                    have hsz := hw.size
                    have hat2 := hat.next (below1 wr (.cells #[.int .i64 (cn : Int)] 3))
                    have ho2 := ho.alloc (.cells #[.int .i64 (cn : Int)] 3)
                    clear hmbb hcn2
                    go_wp2_with (at_builtin; refine wpList_append_own _ rfl _ _ 40 rfl w.heap.size 3 iN (.int .i64 0) 1 8 Tryd.underlying40 hn0 hn1 hn2 hn3 rfl (by decide) _ _ _ rfl ho2 ⟨wr.heap.size, 0, none⟩ 1 1 [.int .i64 (cn : Int)] rfl rfl ?c1 ?c2 ?c3 ?c4 ?c5 ?_)
                    case c1 => exact At.news (xs := [.int .i64 (cn : Int)]) (At.newAt (by simp) _ _)
                    case c2 => exact one1 rfl
                    case c3 => simp [maxLen]; omega
                    case c4 => omega
                    case c5 => simp; omega
                    intro v5 w5 o5 g5 _
                    obtain ⟨A5, c5, rfl⟩ := own_len o5
                    rw [← HCS.out] at o5
                    have hat5 := hat2.grown g5 (own_far ho2 hat2 (by decide))
                    have yf5 : w5.frozen? ⟨ob, 1, none⟩ = false := hat5.frozen 1
                    have yc5 : w5.cell? ⟨ob, 1, none⟩ = some (.slice A k c) := hat5.cell 1
                    have hcl5 := (hcl.next (below1 wr (.cells #[.int .i64 (cn : Int)] 3))).keptCells g5 fun q hq => own_not_map ho2 q hq
                    have hV5 := (hV.alloc (.cells #[.int .i64 (cn : Int)] 3)).grown g5 (own_far ho2 (hV.alloc (.cells #[.int .i64 (cn : Int)] 3)) (by decide))
                    have hbr5 := (hbr.alloc (.cells #[.int .i64 (cn : Int)] 3)).grown g5 (own_far ho2 (hbr.alloc (.cells #[.int .i64 (cn : Int)] 3)) (by decide))
                    have hw5 : Below w.heap.size w w5 := (hw.alloc hw.size (.cells #[.int .i64 (cn : Int)] 3)).grown g5 (by simp; omega) (fun q hq => (own_lt ho2 hq).1)
                    have hlo := hat5.lt
                    clear hat2 ho2 g5 hat ho hcl hV hbr hw ya yv hlc
                    go_wp2_with fail
                    go_roundw
                    case rel => exact ⟨k + 1, A5, c5, by omega, by go_num, hat5.put 1 _, own_putne (p := ⟨ob, 1, none⟩) o5 (own_far o5 hat5 (by decide)) _, hcl5.setCell hat5 1 _, hV5.far (p := ⟨ob, 1, none⟩) (At.ne hV5 hat5 (by decide)) _, hbr5.far (p := ⟨ob, 1, none⟩) (show w.heap.size + 2 ≠ ob by omega) _, hw5.setCell (p := ⟨ob, 1, none⟩) (show w.heap.size ≤ ob by omega) _⟩
                    case measure => simp [intOf]; omega
                  · have d1 : decide ((k : Int) < (pd.tn : Int)) = false := by simp; omega
                    obtain rfl : k = pd.tn := by omega
                    have ya : wr.cell? ⟨ob, 0, none⟩ = some (.int .i64 (rn : Int)) := hat.cell 0
                    have yb : wr.cell? ⟨ob, 1, none⟩ = some (.slice A pd.tn c) := hat.cell 1
                    have yf0 : wr.frozen? ⟨w.heap.size + 1 + 1, 0, none⟩ = false := hbr.frozen 0
                    have yf1 : wr.frozen? ⟨w.heap.size + 1 + 1, 1, none⟩ = false := hbr.frozen 1
                    have yl : w.heap.size + 1 + 1 < wr.heap.size := hbr.lt
                    have yc0 : wr.cell? ⟨w.heap.size + 1 + 1, 0, none⟩ = some (.int .i64 0) := hbr.cell 0
                    have yc1 : wr.cell? ⟨w.heap.size + 1 + 1, 1, none⟩ = some (.slice none 0 0) := hbr.cell 1
                    have HBR := Lib.hid hbr
                    have HOF := Lib.hid (own_far ho hbr (by decide))
                    have HO := Lib.hid ho
                    clear hat ho hcl hV hbr
                    go_wp2_with fail
                    refine bodyPost_ret (results_cell_row rfl _ _ (w.heap.size + 2) 46 _ (0, 0) _ rfl ((HBR.out.put 0 (.int .i64 (rn : Int))).put 1 (.slice A pd.tn c)) Tryd.underlying46 rfl (by kernel_rfl)) rfl ?_
                    have hb2 := (hw.setCell (p := ⟨w.heap.size + 2, 0, none⟩) (by simp) (.int .i64 (rn : Int))).setCell (p := ⟨w.heap.size + 2, 1, none⟩) (by simp) (.slice A pd.tn c)
                    have ho2 := own_putne (p := ⟨w.heap.size + 2, 1, none⟩) (own_putne (p := ⟨w.heap.size + 2, 0, none⟩) HO.out HOF.out (.int .i64 (rn : Int))) HOF.out (.slice A pd.tn c)
                    have hlen : ((List.range pd.tn).map fun i => ((Ct.dcount (Ct.col Gd i) : Nat) : Int)).length = pd.tn := by simp
                    obtain ⟨hso, hdc⟩ := sta_own (rn := (rn : Int)) (l := (List.range pd.tn).map fun i => ((Ct.dcount (Ct.col Gd i) : Nat) : Int)) ho2 hlen (by unfold ccells; rw [List.map_map]; rfl) (by unfold I64; omega) (fun x hx => by
                      obtain ⟨i, _, rfl⟩ := List.mem_map.1 hx
                      have := Ct.dcount_len (Ct.col Gd i)
                      have := col_len Gd i
                      unfold I64
                      omega)
                    refine ⟨⟨⟨(rn : Int), A, c, (List.range pd.tn).map fun i => ((Ct.dcount (Ct.col Gd i) : Nat) : Int)⟩, ?_, hso, by rw [HR.out], by rw [HR.out], hdc⟩, hb2⟩
                    rw [hlen]
                    rfl
end Go.Proofs.YtoficnfpoeaccaaDoor
