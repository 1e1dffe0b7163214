/- The walk of the reference's Little. -/
import Derived.Test.YtoficnfpoeaccaaDoorKTup
import Derived.Test.YtoficnfpoeaccaaDoorKRefD
namespace Go.Proofs.YtoficnfpoeaccaaDoor
set_option linter.unusedVariables false
set_option linter.unusedSimpArgs false
open Go.RowKit
def argB (y : Rw) : Bool := decide (y.args.length ≤ 8)
def relB (x : Re) : Bool := decide (x.rows.length ≤ 60) && x.rows.all argB
def litB (d : Da) : Bool := decide (d.rels.length ≤ 30 ∧ d.lats.length ≤ 30) && (d.rels.all relB && d.lats.all relB)
theorem lit_of {d : Da} (h : litB d = true) : Lit d := by
  unfold litB at h
  simp only [Bool.and_eq_true, decide_eq_true_eq, List.all_eq_true] at h
  obtain ⟨⟨h1, h2⟩, h3, h4⟩ := h
  refine ⟨h1, h2, fun x hx => ?_, fun x hx => ?_⟩
  · have := h3 x hx
    unfold relB at this
    simp only [Bool.and_eq_true, decide_eq_true_eq, List.all_eq_true] at this
    exact ⟨this.1, fun y hy => of_decide_eq_true (this.2 y hy)⟩
  · have := h4 x hx
    unfold relB at this
    simp only [Bool.and_eq_true, decide_eq_true_eq, List.all_eq_true] at this
    exact ⟨this.1, fun y hy => of_decide_eq_true (this.2 y hy)⟩
theorem rel_long {x : Re} (h : 60 < x.rows.length) : relB x = false := by
  unfold relB; rw [decide_eq_false (by omega)]; rfl
theorem rel_wide {x : Re} (h : x.rows.all argB = false) : relB x = false := by
  unfold relB; rw [h, Bool.and_false]
theorem arg_long {y : Rw} (h : 8 < y.args.length) : argB y = false := decide_eq_false (by omega)
theorem rel_ok {x : Re} (h : x.rows.length ≤ 60) (h2 : x.rows.all argB = true) : relB x = true := by
  unfold relB; rw [decide_eq_true h, h2]; rfl
section
variable {ra la : Option Addr} {rc lc : Nat} {rels lats : List Re}
theorem lit_many (h : ¬ (rels.length ≤ 30 ∧ lats.length ≤ 30)) : litB ⟨ra, rc, rels, la, lc, lats⟩ = false := by
  unfold litB; rw [decide_eq_false h]; rfl
theorem lit_rels_bad (h : rels.all relB = false) : litB ⟨ra, rc, rels, la, lc, lats⟩ = false := by
  unfold litB; dsimp only; rw [h]; simp
theorem lit_lats_bad (h : lats.all relB = false) : litB ⟨ra, rc, rels, la, lc, lats⟩ = false := by
  unfold litB; dsimp only; rw [h]; simp
theorem lit_good (h1 : rels.length ≤ 30) (h2 : lats.length ≤ 30) (h3 : rels.all relB = true) (h4 : lats.all relB = true) : litB ⟨ra, rc, rels, la, lc, lats⟩ = true := by
  unfold litB; dsimp only; rw [h3, h4, decide_eq_true ⟨h1, h2⟩]; rfl
end
set_option maxHeartbeats 2000000 in
set_option maxRecDepth 100000 in
theorem little_any (d : Da) (w : World) (hd : DaOk w d) :
    Calls Tryd.prog 11 #[d.v] w fun e w' => e = .returned (.bool (litB d)) ∧ Below w.heap.size w w' := by
  have HRA := Lib.hid (fun W (h : Below w.heap.size w W) => hd.rels.below h)
  have HLA := Lib.hid (fun W (h : Below w.heap.size w W) => hd.lats.below h)
  have HRAE := Lib.hid (fun W (h : Below w.heap.size w W) => (hd.below h).eachR)
  have HLAE := Lib.hid (fun W (h : Below w.heap.size w W) => (hd.below h).eachL)
  obtain ⟨ra, rc, rels, la, lc, lats⟩ := d
  dsimp only at HRA HLA HRAE HLAE
  unfold Da.v
  dsimp only
  clear hd
  have HAT := Lib.hid (At.new w 31 #[.slice ra rels.length rc, .slice la lats.length lc])
  have hw0 : Below w.heap.size w (w.alloc (.cells #[.slice ra rels.length rc, .slice la lats.length lc] 31)) := below1 _ _
  by_cases hr : 30 < rels.length
  · have d0 : decide ((30 : Int) < (rels.length : Int)) = true := by simp; omega
    have n0 : decide (30 < rels.length) = true := decide_eq_true hr
    have HB := Lib.hid (lit_many (ra := ra) (rc := rc) (la := la) (lc := lc) (rels := rels) (lats := lats) (by omega))
    clear hr
    go_enter Tryd.func11, Tryd.ntmps11
    go_wp2_with fail
    go_ret
    exact ⟨by rw [HB.out]; rfl, hw0⟩
  · have d0 : decide ((30 : Int) < (rels.length : Int)) = false := by simp; omega
    have n0 : decide (30 < rels.length) = false := decide_eq_false hr
    have hr30 : rels.length ≤ 30 := by omega
    by_cases hl : 30 < lats.length
    · have d00 : decide ((30 : Int) < (lats.length : Int)) = true := by simp; omega
      have n00 : decide (30 < lats.length) = true := decide_eq_true hl
      have HB := Lib.hid (lit_many (ra := ra) (rc := rc) (la := la) (lc := lc) (rels := rels) (lats := lats) (by omega))
      clear hl hr
      go_enter Tryd.func11, Tryd.ntmps11
      go_wp2_with fail
      go_ret
      exact ⟨by rw [HB.out]; rfl, hw0⟩
    · have d00 : decide ((30 : Int) < (lats.length : Int)) = false := by simp; omega
      have n00 : decide (30 < lats.length) = false := decide_eq_false hl
      have hl30 : lats.length ≤ 30 := by omega
      clear hl hr
      go_enter Tryd.func11, Tryd.ntmps11
      go_wp2_with fail
      go_loopw [3, 4] (fun i _ wr => ∃ k : Nat, k ≤ rels.length ∧ i = .int .i64 k ∧ Hid ((rels.take k).all relB = true) ∧ Below (w.alloc (.cells #[.slice ra rels.length rc, .slice la lats.length lc] 31)).heap.size (w.alloc (.cells #[.slice ra rels.length rc, .slice la lats.length lc] 31)) wr) (fun i _ _ => rels.length - (intOf i).toNat)
      case atStart => first | exact ⟨0, by omega, rfl, Lib.hid rfl, Below.refl _ _⟩ | exact ⟨0, by omega, rfl, Lib.hid rfl, hb⟩
      case round =>
        obtain ⟨k, hk, rfl, HK, hb⟩ := hrel
        have hat := HAT.out.next hb
        have hwr : Below w.heap.size w wr := hw0.trans (hb.mono hw0.size)
        have c0 : wr.cell? ⟨w.heap.size, 0, none⟩ = some (.slice ra rels.length rc) := hat.cell 0
        by_cases h1 : k < rels.length
        · have d1 : decide ((k : Int) < (rels.length : Int)) = true := by simp; omega
          obtain ⟨x, hx⟩ : ∃ x, rels[k]? = some x := ⟨_, List.getElem?_eq_getElem h1⟩
          have HRE := Lib.hid (fun W (h : Below w.heap.size w W) => re_cells (HRA.out W h) hx)
          have HRR := Lib.hid (fun W (h : Below w.heap.size w W) => (HRAE.out W h x (List.mem_of_getElem? hx)))
          have HM := Lib.hid (all_moreG (f := relB) hx)
          have HBAD := Lib.hid (fun h => all_bad (f := relB) hx h)
          obtain ⟨g, o, rfl, hg, x0⟩ := HRE.out wr hwr
          have i0 : (0 : Int) ≤ (k : Int) := by omega
          have i1 : (k : Int) < (rels.length : Int) := by omega
          clear hx
          by_cases h60 : 60 < x.rows.length
          · have d2 : decide ((60 : Int) < (x.rows.length : Int)) = true := by simp; omega
            have n2 : decide (60 < x.rows.length) = true := decide_eq_true h60
            have HF := Lib.hid (HBAD.out (rel_long h60))
            clear h60
            go_wp2_with fail
            go_ret
            exact ⟨by rw [lit_rels_bad HF.out]; rfl, hwr⟩
          · have d2 : decide ((60 : Int) < (x.rows.length : Int)) = false := by simp; omega
            have n2 : decide (60 < x.rows.length) = false := decide_eq_false h60
            have hx60 : x.rows.length ≤ 60 := by omega
            clear h60
            go_wp2_with fail
            go_loopw [4] (fun j wr => ∃ m : Nat, m ≤ x.rows.length ∧ j = .int .i64 m ∧ Hid ((x.rows.take m).all argB = true) ∧ Below (w.alloc (.cells #[.slice (some ⟨g, o, none⟩) rels.length rc, .slice la lats.length lc] 31)).heap.size (w.alloc (.cells #[.slice (some ⟨g, o, none⟩) rels.length rc, .slice la lats.length lc] 31)) wr) (fun j _ => x.rows.length - (intOf j).toNat)
            case atStart => exact ⟨0, by omega, rfl, Lib.hid rfl, hb⟩
            case round =>
              clear hb hat hwr c0 x0 hg
              obtain ⟨m, hm, rfl, HJ, hb⟩ := hrel
              have hat := HAT.out.next hb
              have hwr : Below w.heap.size w wr := hw0.trans (hb.mono hw0.size)
              have c0 : wr.cell? ⟨w.heap.size, 0, none⟩ = some (.slice (some ⟨g, o, none⟩) rels.length rc) := hat.cell 0
              obtain ⟨g2, o2, e2, hg2, x0⟩ := HRE.out wr hwr
              injection e2 with e2
              injection e2 with e2 e3 _
              subst e2; subst e3
              by_cases h3 : m < x.rows.length
              · have d3 : decide ((m : Int) < (x.rows.length : Int)) = true := by simp; omega
                obtain ⟨y, hy⟩ : ∃ y, x.rows[m]? = some y := ⟨_, List.getElem?_eq_getElem h3⟩
                obtain ⟨gy, oy, hay, hgy, y0, y1⟩ := rw_cells (HRR.out wr hwr).rows hy
                rw [hay] at x0
                have HM2 := Lib.hid (all_moreG (f := argB) hy)
                have HBAD2 := Lib.hid (fun h => all_bad (f := argB) hy h)
                have i2 : (0 : Int) ≤ (m : Int) := by omega
                have i3 : (m : Int) < (x.rows.length : Int) := by omega
                clear hy hay
                by_cases h8 : 8 < y.args.length
                · have d4 : decide ((8 : Int) < (y.args.length : Int)) = true := by simp; omega
                  have n4 : decide (8 < y.args.length) = true := decide_eq_true h8
                  have HF := Lib.hid (HBAD.out (rel_wide (HBAD2.out (arg_long h8))))
                  clear h8
                  go_wp2_with fail
                  go_ret
                  exact ⟨by rw [lit_rels_bad HF.out]; rfl, hwr⟩
                · have d4 : decide ((8 : Int) < (y.args.length : Int)) = false := by simp; omega
                  have n4 : decide (8 < y.args.length) = false := decide_eq_false h8
                  have HN := Lib.hid (show (x.rows.take (m + 1)).all argB = true by rw [HM2.out, HJ.out]; exact decide_eq_true (by omega))
                  clear h8
                  go_wp2_with fail
                  go_roundw
                  case rel => exact ⟨m + 1, by omega, by go_num, HN, hb⟩
                  case measure => simp [intOf]; omega
              · have d3 : decide ((m : Int) < (x.rows.length : Int)) = false := by simp; omega
                have HN := Lib.hid (show (rels.take (k + 1)).all relB = true by
                  have h := HJ.out
                  rw [List.take_of_length_le (by omega)] at h
                  rw [HM.out, HK.out]
                  exact rel_ok hx60 h)
                go_wp2_with fail
                go_roundw
                case rel => exact ⟨k + 1, by omega, by go_num, HN, hb⟩
                case measure => simp [intOf]; omega
        · have d1 : decide ((k : Int) < (rels.length : Int)) = false := by simp; omega
          have HArels := Lib.hid (show rels.all relB = true by
            have h := HK.out
            rw [List.take_of_length_le (by omega)] at h
            exact h)
          clear hat
          clear hwr
          go_wp2_with fail
          go_loopw [5, 6] (fun i _ wr => ∃ k : Nat, k ≤ lats.length ∧ i = .int .i64 k ∧ Hid ((lats.take k).all relB = true) ∧ Below (w.alloc (.cells #[.slice ra rels.length rc, .slice la lats.length lc] 31)).heap.size (w.alloc (.cells #[.slice ra rels.length rc, .slice la lats.length lc] 31)) wr) (fun i _ _ => lats.length - (intOf i).toNat)
          case atStart => first | exact ⟨0, by omega, rfl, Lib.hid rfl, Below.refl _ _⟩ | exact ⟨0, by omega, rfl, Lib.hid rfl, hb⟩
          case round =>
            obtain ⟨k, hk, rfl, HK, hb⟩ := hrel
            have hat := HAT.out.next hb
            have hwr : Below w.heap.size w wr := hw0.trans (hb.mono hw0.size)
            have c0 : wr.cell? ⟨w.heap.size, 1, none⟩ = some (.slice la lats.length lc) := hat.cell 1
            by_cases h1 : k < lats.length
            · have d1 : decide ((k : Int) < (lats.length : Int)) = true := by simp; omega
              obtain ⟨x, hx⟩ : ∃ x, lats[k]? = some x := ⟨_, List.getElem?_eq_getElem h1⟩
              have HRE := Lib.hid (fun W (h : Below w.heap.size w W) => re_cells (HLA.out W h) hx)
              have HRR := Lib.hid (fun W (h : Below w.heap.size w W) => (HLAE.out W h x (List.mem_of_getElem? hx)))
              have HM := Lib.hid (all_moreG (f := relB) hx)
              have HBAD := Lib.hid (fun h => all_bad (f := relB) hx h)
              obtain ⟨g, o, rfl, hg, x0⟩ := HRE.out wr hwr
              have i0 : (0 : Int) ≤ (k : Int) := by omega
              have i1 : (k : Int) < (lats.length : Int) := by omega
              clear hx
              by_cases h60 : 60 < x.rows.length
              · have d2 : decide ((60 : Int) < (x.rows.length : Int)) = true := by simp; omega
                have n2 : decide (60 < x.rows.length) = true := decide_eq_true h60
                have HF := Lib.hid (HBAD.out (rel_long h60))
                clear h60
                go_wp2_with fail
                go_ret
                exact ⟨by rw [lit_lats_bad HF.out]; rfl, hwr⟩
              · have d2 : decide ((60 : Int) < (x.rows.length : Int)) = false := by simp; omega
                have n2 : decide (60 < x.rows.length) = false := decide_eq_false h60
                have hx60 : x.rows.length ≤ 60 := by omega
                clear h60
                go_wp2_with fail
                go_loopw [6] (fun j wr => ∃ m : Nat, m ≤ x.rows.length ∧ j = .int .i64 m ∧ Hid ((x.rows.take m).all argB = true) ∧ Below (w.alloc (.cells #[.slice ra rels.length rc, .slice (some ⟨g, o, none⟩) lats.length lc] 31)).heap.size (w.alloc (.cells #[.slice ra rels.length rc, .slice (some ⟨g, o, none⟩) lats.length lc] 31)) wr) (fun j _ => x.rows.length - (intOf j).toNat)
                case atStart => exact ⟨0, by omega, rfl, Lib.hid rfl, hb⟩
                case round =>
                  clear hb hat hwr c0 x0 hg
                  obtain ⟨m, hm, rfl, HJ, hb⟩ := hrel
                  have hat := HAT.out.next hb
                  have hwr : Below w.heap.size w wr := hw0.trans (hb.mono hw0.size)
                  have c0 : wr.cell? ⟨w.heap.size, 1, none⟩ = some (.slice (some ⟨g, o, none⟩) lats.length lc) := hat.cell 1
                  obtain ⟨g2, o2, e2, hg2, x0⟩ := HRE.out wr hwr
                  injection e2 with e2
                  injection e2 with e2 e3 _
                  subst e2; subst e3
                  by_cases h3 : m < x.rows.length
                  · have d3 : decide ((m : Int) < (x.rows.length : Int)) = true := by simp; omega
                    obtain ⟨y, hy⟩ : ∃ y, x.rows[m]? = some y := ⟨_, List.getElem?_eq_getElem h3⟩
                    obtain ⟨gy, oy, hay, hgy, y0, y1⟩ := rw_cells (HRR.out wr hwr).rows hy
                    rw [hay] at x0
                    have HM2 := Lib.hid (all_moreG (f := argB) hy)
                    have HBAD2 := Lib.hid (fun h => all_bad (f := argB) hy h)
                    have i2 : (0 : Int) ≤ (m : Int) := by omega
                    have i3 : (m : Int) < (x.rows.length : Int) := by omega
                    clear hy hay
                    by_cases h8 : 8 < y.args.length
                    · have d4 : decide ((8 : Int) < (y.args.length : Int)) = true := by simp; omega
                      have n4 : decide (8 < y.args.length) = true := decide_eq_true h8
                      have HF := Lib.hid (HBAD.out (rel_wide (HBAD2.out (arg_long h8))))
                      clear h8
                      go_wp2_with fail
                      go_ret
                      exact ⟨by rw [lit_lats_bad HF.out]; rfl, hwr⟩
                    · have d4 : decide ((8 : Int) < (y.args.length : Int)) = false := by simp; omega
                      have n4 : decide (8 < y.args.length) = false := decide_eq_false h8
                      have HN := Lib.hid (show (x.rows.take (m + 1)).all argB = true by rw [HM2.out, HJ.out]; exact decide_eq_true (by omega))
                      clear h8
                      go_wp2_with fail
                      go_roundw
                      case rel => exact ⟨m + 1, by omega, by go_num, HN, hb⟩
                      case measure => simp [intOf]; omega
                  · have d3 : decide ((m : Int) < (x.rows.length : Int)) = false := by simp; omega
                    have HN := Lib.hid (show (lats.take (k + 1)).all relB = true by
                      have h := HJ.out
                      rw [List.take_of_length_le (by omega)] at h
                      rw [HM.out, HK.out]
                      exact rel_ok hx60 h)
                    go_wp2_with fail
                    go_roundw
                    case rel => exact ⟨k + 1, by omega, by go_num, HN, hb⟩
                    case measure => simp [intOf]; omega
            · have d1 : decide ((k : Int) < (lats.length : Int)) = false := by simp; omega
              have HAlats := Lib.hid (show lats.all relB = true by
                have h := HK.out
                rw [List.take_of_length_le (by omega)] at h
                exact h)
              clear hat
              go_wp2_with fail
              go_ret
              exact ⟨by rw [lit_good hr30 hl30 HArels.out HAlats.out]; rfl, hwr⟩
end Go.Proofs.YtoficnfpoeaccaaDoor
