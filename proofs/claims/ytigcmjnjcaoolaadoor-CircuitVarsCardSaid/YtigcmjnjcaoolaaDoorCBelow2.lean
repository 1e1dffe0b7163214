/- Below at any number. -/
import Derived.Test.YtigcmjnjcaoolaaDoorCBelow
namespace Go.Proofs.YtigcmjnjcaoolaaDoor
set_option linter.unusedVariables false
set_option linter.unusedSimpArgs false
open Go.RowKit
open Cx (N)
set_option maxHeartbeats 1000000 in
set_option maxRecDepth 100000 in
theorem below_out (A : Option Addr) (c : Nat) (l : List N) (n : Int) (w : World) (hl : l.length ≤ 20000) (hn : Cx.isIn l n = false) :
    Calls Tryd.prog 42 #[.slice A l.length c, .int .i64 n] w (BoolsOut (Cx.below l n) w) := by
  have hR : Cx.below l n = List.replicate l.length false := by unfold Cx.below; rw [hn]; rfl
  rw [hR]
  have HIN := Lib.hid hn
  clear hR hn
  have q0 := run_make_bools w l.length (by omega)
  go_enter Tryd.func42, Tryd.ntmps42
  go_wp2_with fail
  refine (in_any A c l n _ (by omega)).mono ?_
  rintro e w2 ⟨rfl, hw2⟩
  subst hw2
  rw [HIN.out]
  go_wp2_with fail
  go_ret
  exact ⟨_, by rw [List.length_replicate]; rfl, Nat.le_refl _, At.new _ _ _, below1 _ _⟩
theorem below_all (A : Option Addr) (c : Nat) (l : List N) (n : Int) (w : World) (hg : Cx.Good l) (hl : l.length ≤ 20000) (hA : Circ w A l) :
    Calls Tryd.prog 42 #[.slice A l.length c, .int .i64 n] w (BoolsOut (Cx.below l n) w) := by
  cases hin : Cx.isIn l n with
  | false => exact below_out A c l n w hl hin
  | true =>
    have h01 : 0 ≤ n ∧ n < l.length := by unfold Cx.isIn at hin; simpa using hin
    obtain ⟨i, rfl⟩ : ∃ i : Nat, n = i := ⟨n.toNat, by omega⟩
    exact below_any A c l i w hg hl (by omega) hA
end Go.Proofs.YtigcmjnjcaoolaaDoor
