/- The walks of the small functions of value: each call returns the plain function and leaves the world as it is. -/
import Derived.Test.YtagibdofpcbgiaaDoorRows
import Derived.Test.YtagibdofpcbgiaaDoorShelf
import Derived.Test.YtagibdofpcbgiaaDoorBase
import Derived.Test.YtagibdofpcbgiaaDoorVPure
import Derived.WalkKit
import Derived.WalkSpells
import Derived.WalkLawsBesides
import Derived.BigQuiet
import Derived.Lib.Hide
namespace Go.Proofs.YtagibdofpcbgiaaDoor
set_option linter.unusedVariables false
set_option linter.unusedSimpArgs false
open Go.RowKit
theorem nanb_any (c : Int) (w : World) : Calls Tryd.prog 52 #[.int .u8 c] w fun e w' => e = .returned (.bool false) ∧ w = w' := by
  go_enter Tryd.func52, Tryd.ntmps52
  go_wp2
  go_ret
  exact ⟨by simp, rfl⟩
theorem cmpb_any (a b : Int) (w : World) : Calls Tryd.prog 36 #[.int .u8 a, .int .u8 b] w fun e w' => e = .returned (.int .i64 (Vx.cmpI a b)) ∧ w = w' := by
  unfold Vx.cmpI
  by_cases h1 : a < b
  · rw [if_pos h1]
    have d1 : decide (a < b) = true := by simp; omega
    go_enter Tryd.func36, Tryd.ntmps36
    go_wp2_with (go_at_call 52; refine (nanb_any _ _).mono ?_; rintro e w' ⟨rfl, rfl⟩)
    go_ret
    exact ⟨rfl, rfl⟩
  · rw [if_neg h1]
    have d1 : decide (a < b) = false := by simp; omega
    by_cases h2 : b < a
    · rw [if_pos h2]
      have d2 : decide (b < a) = true := by simp; omega
      go_enter Tryd.func36, Tryd.ntmps36
      go_wp2_with (go_at_call 52; refine (nanb_any _ _).mono ?_; rintro e w' ⟨rfl, rfl⟩)
      go_ret
      exact ⟨rfl, rfl⟩
    · rw [if_neg h2]
      have d2 : decide (b < a) = false := by simp; omega
      go_enter Tryd.func36, Tryd.ntmps36
      go_wp2_with (go_at_call 52; refine (nanb_any _ _).mono ?_; rintro e w' ⟨rfl, rfl⟩)
      go_ret
      exact ⟨rfl, rfl⟩
theorem nani_any (c : Int) (w : World) : Calls Tryd.prog 51 #[.int .i64 c] w fun e w' => e = .returned (.bool false) ∧ w = w' := by
  go_enter Tryd.func51, Tryd.ntmps51
  go_wp2
  go_ret
  exact ⟨by simp, rfl⟩
theorem cmpi_any (a b : Int) (w : World) : Calls Tryd.prog 33 #[.int .i64 a, .int .i64 b] w fun e w' => e = .returned (.int .i64 (Vx.cmpI a b)) ∧ w = w' := by
  unfold Vx.cmpI
  by_cases h1 : a < b
  · rw [if_pos h1]
    have d1 : decide (a < b) = true := by simp; omega
    go_enter Tryd.func33, Tryd.ntmps33
    go_wp2_with (go_at_call 51; refine (nani_any _ _).mono ?_; rintro e w' ⟨rfl, rfl⟩)
    go_ret
    exact ⟨rfl, rfl⟩
  · rw [if_neg h1]
    have d1 : decide (a < b) = false := by simp; omega
    by_cases h2 : b < a
    · rw [if_pos h2]
      have d2 : decide (b < a) = true := by simp; omega
      go_enter Tryd.func33, Tryd.ntmps33
      go_wp2_with (go_at_call 51; refine (nani_any _ _).mono ?_; rintro e w' ⟨rfl, rfl⟩)
      go_ret
      exact ⟨rfl, rfl⟩
    · rw [if_neg h2]
      have d2 : decide (b < a) = false := by simp; omega
      go_enter Tryd.func33, Tryd.ntmps33
      go_wp2_with (go_at_call 51; refine (nani_any _ _).mono ?_; rintro e w' ⟨rfl, rfl⟩)
      go_ret
      exact ⟨rfl, rfl⟩
theorem ints_any (a b : Int) (w : World) : Calls Tryd.prog 37 #[.int .i64 a, .int .i64 b] w fun e w' => e = .returned (.int .i64 (Vx.cmpI a b)) ∧ w = w' := by
  unfold Vx.cmpI
  by_cases h1 : a < b
  · rw [if_pos h1]
    have d1 : decide (a < b) = true := by simp; omega
    go_enter Tryd.func37, Tryd.ntmps37
    go_wp2
    go_ret
    exact ⟨rfl, rfl⟩
  · rw [if_neg h1]
    have d1 : decide (a < b) = false := by simp; omega
    by_cases h2 : b < a
    · rw [if_pos h2]
      have d2 : decide (b < a) = true := by simp; omega
      go_enter Tryd.func37, Tryd.ntmps37
      go_wp2
      go_ret
      exact ⟨rfl, rfl⟩
    · rw [if_neg h2]
      have d2 : decide (b < a) = false := by simp; omega
      go_enter Tryd.func37, Tryd.ntmps37
      go_wp2
      go_ret
      exact ⟨rfl, rfl⟩
theorem cmpc_any (a b : Int) (w : World) : Calls Tryd.prog 35 #[.int .u8 a, .int .u8 b] w fun e w' => e = .returned (.int .i64 (Vx.cmpI a b)) ∧ w = w' := by
  go_enter Tryd.func35, Tryd.ntmps35
  go_wp2_with (go_at_call 36; refine (cmpb_any _ _ _).mono ?_; rintro e w' ⟨rfl, rfl⟩)
  go_ret
  exact ⟨rfl, rfl⟩
def letC (c : Int) : Bool := (decide (97 ≤ c) && decide (c ≤ 122)) || (decide (65 ≤ c) && decide (c ≤ 90)) || (decide (48 ≤ c) && decide (c ≤ 57)) || c == 95
theorem letC_eq (c : UInt8) : letC (c.toNat : Int) = Vx.letterB c := by
  unfold letC Vx.letterB Vx.lowerB
  have h95 : (c == 95) = decide (c.toNat = 95) := by
    rw [Bool.eq_iff_iff, beq_iff_eq, decide_eq_true_eq, ← UInt8.toNat_inj]; rfl
  rw [h95, Bool.eq_iff_iff]
  simp only [Bool.or_eq_true, Bool.and_eq_true, decide_eq_true_eq, beq_iff_eq]
  omega
theorem letter_any (c : Int) (w : World) : Calls Tryd.prog 49 #[.int .u8 c] w fun e w' => e = .returned (.bool (letC c)) ∧ w = w' := by
  unfold letC
  cases h1 : decide (97 ≤ c) <;> cases h2 : decide (c ≤ 122) <;> cases h3 : decide (65 ≤ c) <;> cases h4 : decide (c ≤ 90) <;> cases h5 : decide (48 ≤ c) <;> cases h6 : decide (c ≤ 57) <;> cases h7 : (c == 95) <;> (try (exfalso; simp at h1 h2 h3 h4 h5 h6 h7; omega))
  all_goals
    go_enter Tryd.func49, Tryd.ntmps49
    go_wp2
    go_ret
    exact ⟨by simp [*], rfl⟩
theorem odd_any (c : Int) (w : World) : Calls Tryd.prog 47 #[.int .i32 c] w fun e w' => e = .returned (.bool (!letC c)) ∧ w = w' := by
  unfold letC
  cases h1 : decide (97 ≤ c) <;> cases h2 : decide (c ≤ 122) <;> cases h3 : decide (65 ≤ c) <;> cases h4 : decide (c ≤ 90) <;> cases h5 : decide (48 ≤ c) <;> cases h6 : decide (c ≤ 57) <;> cases h7 : (c == 95) <;> (try (exfalso; simp at h1 h2 h3 h4 h5 h6 h7; omega))
  all_goals
    go_enter Tryd.func47, Tryd.ntmps47
    go_wp2
    go_ret
    exact ⟨by simp [*], rfl⟩
end Go.Proofs.YtagibdofpcbgiaaDoor
