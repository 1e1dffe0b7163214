/- The walk of the reference's Few where something is too many. -/
import Derived.Test.YtoficnfpoeaccaaDoorKRef4
namespace Go.Proofs.YtoficnfpoeaccaaDoor
set_option linter.unusedVariables false
set_option linter.unusedSimpArgs false
open Go.RowKit
set_option maxHeartbeats 600000 in
set_option maxRecDepth 100000 in
theorem few_big (SA : Option Addr) (sc : Nat) (ss : List Sta) (r : Rl) (ba : Option Addr) (bn bc : Nat) (oa : Option Addr) (on oc : Nat) (w : World)
    (hbig : ¬ (ss.length ≤ 30 ∧ r.body.length ≤ 8 ∧ r.args.n ≤ 8 ∧ bn ≤ 20 ∧ on ≤ 10)) :
    Calls Tryd.prog 12 #[.slice SA ss.length sc, r.v, .slice ba bn bc, .slice oa on oc] w fun e w' => e = .returned (.bool false) ∧ Below w.heap.size w w' := by
  obtain ⟨name, pred, ⟨ga, gn, gc⟩, ek, en, ev, ei, da, dc, body, pos⟩ := r
  unfold Rl.v
  dsimp only at *
  by_cases h0 : 30 < ss.length
  · have d0 : decide ((30 : Int) < (ss.length : Int)) = true := decide_eq_true (by omega)
    have n0 : decide (30 < ss.length) = true := decide_eq_true h0
    clear hbig
    go_enter Tryd.func12, Tryd.ntmps12
    go_wp2_with fail
    go_ret
    exact ⟨rfl, below1 _ _⟩
  have d0 : decide ((30 : Int) < (ss.length : Int)) = false := decide_eq_false (by omega)
  have n0 : decide (30 < ss.length) = false := decide_eq_false h0
  by_cases h1 : 8 < body.length
  · have d1 : decide ((8 : Int) < (body.length : Int)) = true := decide_eq_true (by omega)
    have n1 : decide (8 < body.length) = true := decide_eq_true h1
    clear hbig
    go_enter Tryd.func12, Tryd.ntmps12
    go_wp2_with fail
    go_ret
    exact ⟨rfl, below1 _ _⟩
  have d1 : decide ((8 : Int) < (body.length : Int)) = false := decide_eq_false (by omega)
  have n1 : decide (8 < body.length) = false := decide_eq_false h1
  by_cases h2 : 8 < gn
  · have d2 : decide ((8 : Int) < (gn : Int)) = true := decide_eq_true (by omega)
    have n2 : decide (8 < gn) = true := decide_eq_true h2
    clear hbig
    go_enter Tryd.func12, Tryd.ntmps12
    go_wp2_with fail
    go_ret
    exact ⟨rfl, below1 _ _⟩
  have d2 : decide ((8 : Int) < (gn : Int)) = false := decide_eq_false (by omega)
  have n2 : decide (8 < gn) = false := decide_eq_false h2
  by_cases h3 : 20 < bn
  · have d3 : decide ((20 : Int) < (bn : Int)) = true := decide_eq_true (by omega)
    have n3 : decide (20 < bn) = true := decide_eq_true h3
    clear hbig
    go_enter Tryd.func12, Tryd.ntmps12
    go_wp2_with fail
    go_ret
    exact ⟨rfl, below1 _ _⟩
  have d3 : decide ((20 : Int) < (bn : Int)) = false := decide_eq_false (by omega)
  have n3 : decide (20 < bn) = false := decide_eq_false h3
  by_cases h4 : 10 < on
  · have d4 : decide ((10 : Int) < (on : Int)) = true := decide_eq_true (by omega)
    have n4 : decide (10 < on) = true := decide_eq_true h4
    clear hbig
    go_enter Tryd.func12, Tryd.ntmps12
    go_wp2_with fail
    go_ret
    exact ⟨rfl, below1 _ _⟩
  have d4 : decide ((10 : Int) < (on : Int)) = false := decide_eq_false (by omega)
  have n4 : decide (10 < on) = false := decide_eq_false h4
  exact absurd ⟨by omega, by omega, by omega, by omega, by omega⟩ hbig
end Go.Proofs.YtoficnfpoeaccaaDoor
