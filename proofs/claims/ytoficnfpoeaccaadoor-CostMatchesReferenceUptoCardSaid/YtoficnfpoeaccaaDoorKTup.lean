/- The walk of the program's tuples. -/
import Derived.Test.YtoficnfpoeaccaaDoorKDat
namespace Go.Proofs.YtoficnfpoeaccaaDoor
set_option linter.unusedVariables false
set_option linter.unusedSimpArgs false
open Go.RowKit
theorem vals_info : (Tryd.prog.info? 73).map (fun i => (i.zero, i.size, i.bytes)) = some (some (.slice none 0 0), 1, 24) := by kernel_rfl
theorem hcells_one (l : List Rw) : ∀ u ∈ hcells l, u.oneCell' = true := by
  intro u hu; unfold hcells at hu; obtain ⟨x, _, rfl⟩ := List.mem_map.1 hu; rfl
theorem hcells_snoc {l : List Rw} {k : Nat} {x : Rw} (h : l[k]? = some x) : hcells (l.take (k + 1)) = hcells (l.take k) ++ [.slice x.aa x.args.length x.ac] := by
  unfold hcells
  rw [take_more h, List.map_append]
  rfl
set_option maxHeartbeats 1000000 in
set_option maxRecDepth 100000 in
theorem tuples_any (pm : Pm) (d : Da) (p : Nat) (pd : Pd) (w : World) (hpm : PmOk w pm) (hd : DaOk w d) (hl : Lit d) (hp : pm.preds[p]? = some pd) (hn : pm.preds.length ≤ 30) :
    Calls Tryd.prog 26 #[pm.v, d.v, .int .i64 (p : Int)] w fun e w' => (∃ v, e = .returned v ∧ w'.ownsRow w.heap.size 73 1 v (rowsOf d pd p).length (hcells (rowsOf d pd p))) ∧ Below w.heap.size w w' := by
  obtain ⟨lt, fn, pa, pc, preds, ru⟩ := pm
  obtain ⟨ra, rc, rels, la, lc, lats⟩ := d
  obtain ⟨iI, hi0, hi1, hi2, hi3⟩ := info_parts vals_info
  have HP := Lib.hid (fun W (h : Below w.heap.size w W) => (hpm.preds).below h)
  have HD := Lib.hid (fun W (h : Below w.heap.size w W) => hd.below h)
  have HLT := Lib.hid hl
  unfold Pm.v Da.v
  dsimp only at *
  have hw0 : Below w.heap.size w ((w.alloc (.cells #[.slice lt.a lt.n lt.c, .slice fn.a fn.n fn.c, .slice pa preds.length pc, .slice ru.a ru.n ru.c] 27)).alloc (.cells #[.slice ra rels.length rc, .slice la lats.length lc] 31)) := (below1 _ _).alloc (by simp) _
  obtain ⟨gp, op, rfl, hgp, x1, x3⟩ := pd_cells (HP.out _ hw0) hp
  have i0 : (0 : Int) ≤ (p : Int) := by omega
  have i1 : (p : Int) < (preds.length : Int) := by have := (List.getElem?_eq_some_iff.1 hp).1; omega
  clear hpm hd hl hp
  by_cases hof : 0 ≤ pd.of
  · have t1 : decide (0 ≤ pd.of) = true := decide_eq_true hof
    have HOF := Lib.hid (show (0 ≤ pd.of) = True from eq_true hof)
    clear hof
    by_cases hp : p < lats.length
    · have t3 : decide ((p : Int) < (lats.length : Int)) = true := decide_eq_true (by omega)
      have n3 : decide (p < lats.length) = true := decide_eq_true hp
      obtain ⟨x, hx⟩ : ∃ x, lats[p]? = some x := ⟨_, List.getElem?_eq_getElem hp⟩
      have HRW := Lib.hid (show rowsOf ⟨ra, rc, rels, la, lc, lats⟩ pd p = x.rows by
        unfold rowsOf
        simp only [HOF.out, if_true, if_false]
        rw [hx]
        rfl)
      have hm := List.mem_of_getElem? hx
      have hl60 := (HLT.out.r2 x hm).1
      obtain ⟨g, o, rfl, hg, y0⟩ := re_cells (HD.out _ hw0).lats hx
      have HXR := Lib.hid (fun W (h : Below w.heap.size w W) => ((HD.out W h).eachL x hm).rows)
      have i2 : (p : Int) < (lats.length : Int) := by omega
      clear hx hm hp
      go_enter Tryd.func26, Tryd.ntmps26
      go_wp2_with fail
      go_loopw [7, 9, 31] (fun v _ i wr => ∃ (k : Nat) (A : Option Addr) (c : Nat), k ≤ x.rows.length ∧ i = .int .i64 k ∧ v = .slice A k c ∧ wr.ownsRow w.heap.size 73 1 (.slice A k c) k (hcells (x.rows.take k)) ∧ Below w.heap.size w wr) (fun _ _ i _ => x.rows.length - (intOf i).toNat)
      case atStart => exact ⟨0, none, 0, by omega, rfl, rfl, ⟨by simp [hcells], Or.inl ⟨rfl, by simp [hcells]⟩⟩, hw0⟩
      case round =>
        obtain ⟨k, A1, c1, hk, rfl, rfl, ho, hw⟩ := hrel
        have hsz := hw.size
        by_cases h1 : k < x.rows.length
        · have d1 : decide ((k : Int) < (x.rows.length : Int)) = true := by simp; omega
          obtain ⟨r, hr⟩ : ∃ r, x.rows[k]? = some r := ⟨_, List.getElem?_eq_getElem h1⟩
          obtain ⟨gr, og, hga, hgr, r0, r1⟩ := rw_cells (HXR.out wr hw) hr
          have j0 : (0 : Int) ≤ (k : Int) := by omega
          have j1 : (k : Int) < (x.rows.length : Int) := by omega
          have HSN := Lib.hid (hcells_snoc hr)
          obtain ⟨xa, xc, xr⟩ := x
          dsimp only at *
          subst hga
          clear hr
          go_wp2_with (at_builtin; refine wpList_append_own _ rfl _ _ 85 rfl w.heap.size 73 iI (.slice none 0 0) 1 24 Tryd.underlying85 hi0 hi1 hi2 hi3 rfl (by decide) _ _ _ rfl ((ho.alloc _).alloc _) ⟨wr.heap.size + 1, 0, none⟩ 1 1 [.slice r.aa r.args.length r.ac] rfl rfl ?c1 ?c2 ?c3 ?c4 ?c5 ?_)
          case c1 => exact At.news (xs := [.slice r.aa r.args.length r.ac]) (At.newAt (by simp) _ _)
          case c2 => exact one1 rfl
          case c3 => simp [maxLen]; omega
          case c4 => omega
          case c5 => simp; omega
          intro v3 w3 o3 g3 _
          obtain ⟨A3, c3, rfl⟩ := own_len o3
          replace o3 : w3.ownsRow w.heap.size 73 1 (.slice A3 (k + 1) c3) (k + 1) (hcells (xr.take (k + 1))) := by rw [HSN.out]; exact o3
          have hb3 := ((hw.alloc hw.size (.cells #[.slice r.aa r.args.length r.ac, .slice r.wn.a r.wn.n r.wn.c] 81)).alloc (by simp; omega) (.cells #[.slice r.aa r.args.length r.ac] 73)).grown g3 (by simp; omega) (fun q hq => by have := (own_lt ho hq).1; omega)
          go_wp2_with fail
          go_roundw
          case rel => exact ⟨k + 1, A3, c3, by omega, by go_num, rfl, o3, hb3⟩
          case measure => simp [intOf]; omega
        · have d1 : decide ((k : Int) < (x.rows.length : Int)) = false := by simp; omega
          have HO := Lib.hid (show wr.ownsRow w.heap.size 73 1 (.slice A1 k c1) x.rows.length (hcells x.rows) by
            have h := ho
            rw [List.take_of_length_le (by omega)] at h
            rw [show x.rows.length = k by omega]
            exact h)
          clear ho
          go_wp2_with fail
          go_ret
          exact ⟨⟨_, rfl, by rw [HRW.out]; exact HO.out⟩, hw⟩
    · have t3 : decide ((p : Int) < (lats.length : Int)) = false := decide_eq_false (by omega)
      have n3 : decide (p < lats.length) = false := decide_eq_false hp
      have HRW := Lib.hid (show rowsOf ⟨ra, rc, rels, la, lc, lats⟩ pd p = [] by
        unfold rowsOf
        simp only [HOF.out, if_true, if_false]
        rw [List.getElem?_eq_none (by omega)]
        rfl)
      clear hp
      go_enter Tryd.func26, Tryd.ntmps26
      go_wp2_with fail
      go_ret
      exact ⟨⟨_, rfl, by rw [HRW.out]; exact ⟨by simp [hcells], Or.inl ⟨rfl, by simp [hcells]⟩⟩⟩, hw0⟩
  · have t1 : decide (0 ≤ pd.of) = false := decide_eq_false hof
    have HOF := Lib.hid (show (0 ≤ pd.of) = False from eq_false hof)
    clear hof
    by_cases hp : p < rels.length
    · have t3 : decide ((p : Int) < (rels.length : Int)) = true := decide_eq_true (by omega)
      have n3 : decide (p < rels.length) = true := decide_eq_true hp
      obtain ⟨x, hx⟩ : ∃ x, rels[p]? = some x := ⟨_, List.getElem?_eq_getElem hp⟩
      have HRW := Lib.hid (show rowsOf ⟨ra, rc, rels, la, lc, lats⟩ pd p = x.rows by
        unfold rowsOf
        simp only [HOF.out, if_true, if_false]
        rw [hx]
        rfl)
      have hm := List.mem_of_getElem? hx
      have hl60 := (HLT.out.r1 x hm).1
      obtain ⟨g, o, rfl, hg, y0⟩ := re_cells (HD.out _ hw0).rels hx
      have HXR := Lib.hid (fun W (h : Below w.heap.size w W) => ((HD.out W h).eachR x hm).rows)
      have i2 : (p : Int) < (rels.length : Int) := by omega
      clear hx hm hp
      go_enter Tryd.func26, Tryd.ntmps26
      go_wp2_with fail
      go_loopw [7, 11, 53] (fun v _ i wr => ∃ (k : Nat) (A : Option Addr) (c : Nat), k ≤ x.rows.length ∧ i = .int .i64 k ∧ v = .slice A k c ∧ wr.ownsRow w.heap.size 73 1 (.slice A k c) k (hcells (x.rows.take k)) ∧ Below w.heap.size w wr) (fun _ _ i _ => x.rows.length - (intOf i).toNat)
      case atStart => exact ⟨0, none, 0, by omega, rfl, rfl, ⟨by simp [hcells], Or.inl ⟨rfl, by simp [hcells]⟩⟩, hw0⟩
      case round =>
        obtain ⟨k, A1, c1, hk, rfl, rfl, ho, hw⟩ := hrel
        have hsz := hw.size
        by_cases h1 : k < x.rows.length
        · have d1 : decide ((k : Int) < (x.rows.length : Int)) = true := by simp; omega
          obtain ⟨r, hr⟩ : ∃ r, x.rows[k]? = some r := ⟨_, List.getElem?_eq_getElem h1⟩
          obtain ⟨gr, og, hga, hgr, r0, r1⟩ := rw_cells (HXR.out wr hw) hr
          have j0 : (0 : Int) ≤ (k : Int) := by omega
          have j1 : (k : Int) < (x.rows.length : Int) := by omega
          have HSN := Lib.hid (hcells_snoc hr)
          obtain ⟨xa, xc, xr⟩ := x
          dsimp only at *
          subst hga
          clear hr
          go_wp2_with (at_builtin; refine wpList_append_own _ rfl _ _ 85 rfl w.heap.size 73 iI (.slice none 0 0) 1 24 Tryd.underlying85 hi0 hi1 hi2 hi3 rfl (by decide) _ _ _ rfl ((ho.alloc _).alloc _) ⟨wr.heap.size + 1, 0, none⟩ 1 1 [.slice r.aa r.args.length r.ac] rfl rfl ?c1 ?c2 ?c3 ?c4 ?c5 ?_)
          case c1 => exact At.news (xs := [.slice r.aa r.args.length r.ac]) (At.newAt (by simp) _ _)
          case c2 => exact one1 rfl
          case c3 => simp [maxLen]; omega
          case c4 => omega
          case c5 => simp; omega
          intro v3 w3 o3 g3 _
          obtain ⟨A3, c3, rfl⟩ := own_len o3
          replace o3 : w3.ownsRow w.heap.size 73 1 (.slice A3 (k + 1) c3) (k + 1) (hcells (xr.take (k + 1))) := by rw [HSN.out]; exact o3
          have hb3 := ((hw.alloc hw.size (.cells #[.slice r.aa r.args.length r.ac, .slice r.wn.a r.wn.n r.wn.c] 76)).alloc (by simp; omega) (.cells #[.slice r.aa r.args.length r.ac] 73)).grown g3 (by simp; omega) (fun q hq => by have := (own_lt ho hq).1; omega)
          go_wp2_with fail
          go_roundw
          case rel => exact ⟨k + 1, A3, c3, by omega, by go_num, rfl, o3, hb3⟩
          case measure => simp [intOf]; omega
        · have d1 : decide ((k : Int) < (x.rows.length : Int)) = false := by simp; omega
          have HO := Lib.hid (show wr.ownsRow w.heap.size 73 1 (.slice A1 k c1) x.rows.length (hcells x.rows) by
            have h := ho
            rw [List.take_of_length_le (by omega)] at h
            rw [show x.rows.length = k by omega]
            exact h)
          clear ho
          go_wp2_with fail
          go_ret
          exact ⟨⟨_, rfl, by rw [HRW.out]; exact HO.out⟩, hw⟩
    · have t3 : decide ((p : Int) < (rels.length : Int)) = false := decide_eq_false (by omega)
      have n3 : decide (p < rels.length) = false := decide_eq_false hp
      have HRW := Lib.hid (show rowsOf ⟨ra, rc, rels, la, lc, lats⟩ pd p = [] by
        unfold rowsOf
        simp only [HOF.out, if_true, if_false]
        rw [List.getElem?_eq_none (by omega)]
        rfl)
      clear hp
      go_enter Tryd.func26, Tryd.ntmps26
      go_wp2_with fail
      go_ret
      exact ⟨⟨_, rfl, by rw [HRW.out]; exact ⟨by simp [hcells], Or.inl ⟨rfl, by simp [hcells]⟩⟩⟩, hw0⟩
end Go.Proofs.YtoficnfpoeaccaaDoor
