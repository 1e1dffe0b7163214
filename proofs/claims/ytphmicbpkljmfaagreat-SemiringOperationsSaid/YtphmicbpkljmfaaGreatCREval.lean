/- The walk of the reference's Eval. -/
import Derived.Test.YtphmicbpkljmfaaGreatCVals
namespace Go.Proofs.YtphmicbpkljmfaaGreat
set_option linter.unusedVariables false
set_option linter.unusedSimpArgs false
open Go.RowKit
open Cx (N)
set_option maxHeartbeats 1000000 in
theorem reval_any (A : Option Addr) (c : Nat) (l : List N) (n : Int) (T : Option Addr) (d : Nat) (ts : List Int) (w : World) (hl : l.length ≤ 1000000) (ht : ts.length ≤ 9223372036854775807) (hG : Cx.Good l) (hA : Circ w A l) (hT : Nums w T ts) :
    Calls Tryz.prog 31 #[.slice A l.length c, .int .i64 n, .slice T ts.length d] w fun e w' => e = .returned (.bool (Cx.eval l n ts)) ∧ Below w.heap.size w w' := by
  obtain ⟨R, hR⟩ : ∃ R, R = Cx.eval l n ts := ⟨_, rfl⟩
  rw [← hR]
  unfold Cx.eval at hR
  cases h : Cx.isIn l n with
  | false =>
    have HR := Lib.hid (show R = false by rw [hR, h]; rfl)
    clear hR
    go_enter Tryz.func31, Tryz.ntmps31
    go_wp2_with fail
    refine (in_any A c l n w (by omega)).mono ?_
    rintro e w1 ⟨rfl, rfl⟩
    rw [h]
    go_wp2_with fail
    go_ret
    exact ⟨by rw [HR.out]; rfl, Below.refl _ _⟩
  | true =>
    have hin := h
    unfold Cx.isIn at hin
    simp only [Bool.and_eq_true, decide_eq_true_eq] at hin
    obtain ⟨k, rfl⟩ : ∃ k : Nat, n = k := ⟨n.toNat, by omega⟩
    obtain ⟨x, hx⟩ : ∃ x, (Cx.values ts l)[k]? = some x := ⟨_, getElem_of (show k < (Cx.values ts l).length by rw [Cx.values_len]; omega)⟩
    have HR := Lib.hid (show R = x by rw [hR, h]; simp [List.getD, hx])
    have HX := Lib.hid hx
    have HVL := Lib.hid (Cx.values_len ts l)
    have i0 : (0 : Int) ≤ (k : Int) := by omega
    have i1 : (k : Int) < (l.length : Int) := by omega
    clear hR hx hin
    go_enter Tryz.func31, Tryz.ntmps31
    go_wp2_with fail
    refine (in_any A c l k w (by omega)).mono ?_
    rintro e w1 ⟨rfl, rfl⟩
    rw [h]
    go_wp2_with fail
    refine (values_any A c l T d ts _ hl ht hG hA hT).mono ?_
    rintro e w2 ⟨⟨v, rfl, ho⟩, b2⟩
    have ho' : w2.ownsRow w.heap.size 4 1 v (Cx.values ts l).length (bcells (Cx.values ts l)) := by rw [HVL.out]; exact ho
    obtain ⟨g, cv, rfl, hg, _, hc⟩ := bcell_at ho' (by rw [HVL.out]; omega)
    have c0 := hc _ _ HX.out
    rw [HVL.out]
    clear ho ho' hc
    go_wp2_with fail
    go_ret
    exact ⟨by rw [HR.out]; rfl, b2⟩
end Go.Proofs.YtphmicbpkljmfaaGreat
