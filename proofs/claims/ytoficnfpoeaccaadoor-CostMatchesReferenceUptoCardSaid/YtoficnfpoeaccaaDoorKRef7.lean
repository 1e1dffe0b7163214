/- The walk of the reference's Few. -/
import Derived.Test.YtoficnfpoeaccaaDoorKRef4
namespace Go.Proofs.YtoficnfpoeaccaaDoor
set_option linter.unusedVariables false
set_option linter.unusedSimpArgs false
open Go.RowKit
theorem lt_args {w : World} {A : Option Addr} {l : List Lt} (h : Str w A 9 (l.map Lt.fs)) {i : Nat} {x : Lt} (hi : l[i]? = some x) : ∃ g o, A = some ⟨g, o, none⟩ ∧ g < w.heap.size ∧ w.cell? ⟨g, o + i * 9 + 3, none⟩ = some (.slice x.aa x.args.length x.ac) := by
  obtain ⟨g, o, e, hg, hc⟩ := h.at (i := i) (fs := x.fs) (by rw [List.getElem?_map, hi]; rfl)
  exact ⟨g, o, e, hg, hc 3 _ rfl⟩
theorem sta_dist {w : World} {A : Option Addr} {l : List Sta} (h : Str w A 2 (l.map Sta.fs)) {i : Nat} {x : Sta} (hi : l[i]? = some x) : ∃ g o, A = some ⟨g, o, none⟩ ∧ g < w.heap.size ∧ w.cell? ⟨g, o + i * 2 + 1, none⟩ = some (.slice x.da x.dist.length x.dc) := by
  obtain ⟨g, o, e, hg, hc⟩ := h.at (i := i) (fs := x.fs) (by rw [List.getElem?_map, hi]; rfl)
  exact ⟨g, o, e, hg, hc 1 _ rfl⟩
theorem all_moreG {α : Type} {f : α → Bool} {l : List α} {k : Nat} {x : α} (h : l[k]? = some x) : (l.take (k + 1)).all f = ((l.take k).all f && f x) := by
  rw [List.take_add_one, h, List.all_append]
  simp
theorem all_bad {α : Type} {f : α → Bool} {l : List α} {k : Nat} {x : α} (h : l[k]? = some x) (hf : f x = false) : l.all f = false := List.all_eq_false.2 ⟨x, List.mem_of_getElem? h, by rw [hf]; simp⟩
set_option maxHeartbeats 600000 in
set_option maxRecDepth 100000 in
theorem few_any (SA : Option Addr) (sc : Nat) (ss : List Sta) (r : Rl) (ba : Option Addr) (bn bc : Nat) (oa : Option Addr) (on oc : Nat) (w : World)
    (h1 : ss.length ≤ 30) (h2 : r.body.length ≤ 8) (h3 : r.args.n ≤ 8) (h4 : bn ≤ 20) (h5 : on ≤ 10)
    (hS : Str w SA 2 (ss.map Sta.fs)) (hB : Str w r.ba 9 (r.body.map Lt.fs)) :
    Calls Tryd.prog 12 #[.slice SA ss.length sc, r.v, .slice ba bn bc, .slice oa on oc] w fun e w' => e = .returned (.bool ((r.body.all fun l => decide (l.args.length ≤ 8)) && ss.all fun s => decide (s.dist.length ≤ 8))) ∧ Below w.heap.size w w' := by
  obtain ⟨name, pred, ⟨ga, gn, gc⟩, ek, en, ev, ei, da, dc, body, pos⟩ := r
  have HS := Lib.hid hS
  have HB0 : Str w da 9 (body.map Lt.fs) := hB
  have HB := Lib.hid HB0
  unfold Rl.v
  dsimp only at *
  clear hS hB HB0
  have d1 : decide ((30 : Int) < (ss.length : Int)) = false := decide_eq_false (by omega)
  have d2 : decide ((8 : Int) < (body.length : Int)) = false := decide_eq_false (by omega)
  have d3 : decide ((8 : Int) < (gn : Int)) = false := decide_eq_false (by omega)
  have d4 : decide ((20 : Int) < (bn : Int)) = false := decide_eq_false (by omega)
  have d5 : decide ((10 : Int) < (on : Int)) = false := decide_eq_false (by omega)
  have n1 : decide (30 < ss.length) = false := decide_eq_false (by omega)
  have n2 : decide (8 < body.length) = false := decide_eq_false (by omega)
  have n3 : decide (8 < gn) = false := decide_eq_false (by omega)
  have n4 : decide (20 < bn) = false := decide_eq_false (by omega)
  have n5 : decide (10 < on) = false := decide_eq_false (by omega)
  go_enter Tryd.func12, Tryd.ntmps12
  go_wp2_with fail
  go_loop [9] (fun i => ∃ k : Nat, k ≤ body.length ∧ i = .int .i64 k ∧ Hid ((body.take k).all (fun l => decide (l.args.length ≤ 8)) = true)) (fun i => body.length - (intOf i).toNat)
  case atStart => exact ⟨0, by omega, rfl, Lib.hid rfl⟩
  case round =>
    obtain ⟨k, hk, rfl, HK⟩ := hrel
    by_cases h1 : k < body.length
    · have d1 : decide ((k : Int) < (body.length : Int)) = true := by simp; omega
      obtain ⟨x, hx⟩ : ∃ x, body[k]? = some x := ⟨_, List.getElem?_eq_getElem h1⟩
      obtain ⟨g, o, rfl, hg, x0⟩ := lt_args (HB.out.below (below1 w (.cells #[.string name, .int .i64 pred, .slice ga gn gc, .int .i64 ek, .string en, .string ev, .int .i64 ei, .slice da body.length dc, .int .i64 pos] 38))) hx
      have i0 : (0 : Int) ≤ (k : Int) := by omega
      have i1 : (k : Int) < (body.length : Int) := by omega
      have HM := Lib.hid (all_moreG (f := fun l => decide (l.args.length ≤ 8)) hx)
      by_cases hv : x.args.length ≤ 8
      · have HN := Lib.hid (show (body.take (k + 1)).all (fun l => decide (l.args.length ≤ 8)) = true by rw [HM.out, HK.out]; exact decide_eq_true hv)
        have t1 : decide ((8 : Int) < (x.args.length : Int)) = false := decide_eq_false (by omega)
        clear hx hv
        go_wp2_with fail
        go_round
        case rel => exact ⟨k + 1, by omega, by go_num, HN⟩
        case measure => simp [intOf]; omega
      · have t1 : decide ((8 : Int) < (x.args.length : Int)) = true := decide_eq_true (by omega)
        have HX := Lib.hid (all_bad (f := fun l => decide (l.args.length ≤ 8)) hx (decide_eq_false hv))
        clear hx hv
        go_wp2_with fail
        go_ret
        exact ⟨by rw [HX.out]; rfl, below1 _ _⟩
    · have d1 : decide ((k : Int) < (body.length : Int)) = false := by simp; omega
      have HF := Lib.hid (show body.all (fun l => decide (l.args.length ≤ 8)) = true by
        have h := HK.out
        rw [List.take_of_length_le (by omega)] at h
        exact h)
      clear HK
      go_wp2_with fail
      go_loop [10] (fun i => ∃ k : Nat, k ≤ ss.length ∧ i = .int .i64 k ∧ Hid ((ss.take k).all (fun s => decide (s.dist.length ≤ 8)) = true)) (fun i => ss.length - (intOf i).toNat)
      case atStart => exact ⟨0, by omega, rfl, Lib.hid rfl⟩
      case round =>
        obtain ⟨k, hk, rfl, HK⟩ := hrel
        by_cases h1 : k < ss.length
        · have d1 : decide ((k : Int) < (ss.length : Int)) = true := by simp; omega
          obtain ⟨x, hx⟩ : ∃ x, ss[k]? = some x := ⟨_, List.getElem?_eq_getElem h1⟩
          obtain ⟨g, o, rfl, hg, x0⟩ := sta_dist (HS.out.below (below1 w (.cells #[.string name, .int .i64 pred, .slice ga gn gc, .int .i64 ek, .string en, .string ev, .int .i64 ei, .slice da body.length dc, .int .i64 pos] 38))) hx
          have i0 : (0 : Int) ≤ (k : Int) := by omega
          have i1 : (k : Int) < (ss.length : Int) := by omega
          have HM := Lib.hid (all_moreG (f := fun s => decide (s.dist.length ≤ 8)) hx)
          by_cases hv : x.dist.length ≤ 8
          · have HN := Lib.hid (show (ss.take (k + 1)).all (fun s => decide (s.dist.length ≤ 8)) = true by rw [HM.out, HK.out]; exact decide_eq_true hv)
            have t1 : decide ((8 : Int) < (x.dist.length : Int)) = false := decide_eq_false (by omega)
            clear hx hv
            go_wp2_with fail
            go_round
            case rel => exact ⟨k + 1, by omega, by go_num, HN⟩
            case measure => simp [intOf]; omega
          · have t1 : decide ((8 : Int) < (x.dist.length : Int)) = true := decide_eq_true (by omega)
            have HX := Lib.hid (all_bad (f := fun s => decide (s.dist.length ≤ 8)) hx (decide_eq_false hv))
            clear hx hv
            go_wp2_with fail
            go_ret
            exact ⟨by rw [HF.out, HX.out]; rfl, below1 _ _⟩
        · have d1 : decide ((k : Int) < (ss.length : Int)) = false := by simp; omega
          have HE := Lib.hid (show ss.all (fun s => decide (s.dist.length ≤ 8)) = true by
            have h := HK.out
            rw [List.take_of_length_le (by omega)] at h
            exact h)
          clear HK
          go_wp2_with fail
          go_ret
          exact ⟨by rw [HF.out, HE.out]; rfl, below1 _ _⟩
end Go.Proofs.YtoficnfpoeaccaaDoor
