/- The one-byte predicates of the lexer and of its reference: each call returns the plain predicate and leaves the world as it is. -/
import Derived.Test.YtgoplhlbcmfocaaDoorRows
import Derived.WalkKit
import Derived.WalkSpells
import Derived.WalkLawsBesides
import Derived.BigQuiet
import Derived.Lib.Hide
namespace Go.Proofs.YtgoplhlbcmfocaaDoor
set_option linter.unusedVariables false
set_option linter.unusedSimpArgs false
open Go.RowKit
def lowB (c : Int) : Bool := decide (97 ≤ c) && decide (c ≤ 122)
def uppB (c : Int) : Bool := decide (65 ≤ c) && decide (c ≤ 90)
def digB (c : Int) : Bool := decide (48 ≤ c) && decide (c ≤ 57)
def wrdB (c : Int) : Bool := lowB c || uppB c || digB c || (c == 95)
theorem lower_any (c : Int) (w : World) : Calls Tryd.prog 30 #[.int .u8 c] w fun e w' => e = .returned (.bool (lowB c)) ∧ w = w' := by
  unfold lowB
  by_cases h1 : 97 ≤ c
  · by_cases h2 : c ≤ 122
    all_goals
      go_enter Tryd.func30, Tryd.ntmps30
      go_wp2
      go_ret
      exact ⟨by simp [*], rfl⟩
  · go_enter Tryd.func30, Tryd.ntmps30
    go_wp2
    go_ret
    exact ⟨by simp [*]; omega, rfl⟩
theorem upper_any (c : Int) (w : World) : Calls Tryd.prog 31 #[.int .u8 c] w fun e w' => e = .returned (.bool (uppB c)) ∧ w = w' := by
  unfold uppB
  by_cases h1 : 65 ≤ c
  · by_cases h2 : c ≤ 90
    all_goals
      go_enter Tryd.func31, Tryd.ntmps31
      go_wp2
      go_ret
      exact ⟨by simp [*], rfl⟩
  · go_enter Tryd.func31, Tryd.ntmps31
    go_wp2
    go_ret
    exact ⟨by simp [*]; omega, rfl⟩
theorem digit_any (c : Int) (w : World) : Calls Tryd.prog 36 #[.int .u8 c] w fun e w' => e = .returned (.bool (digB c)) ∧ w = w' := by
  unfold digB
  by_cases h1 : 48 ≤ c
  · by_cases h2 : c ≤ 57
    all_goals
      go_enter Tryd.func36, Tryd.ntmps36
      go_wp2
      go_ret
      exact ⟨by simp [*], rfl⟩
  · go_enter Tryd.func36, Tryd.ntmps36
    go_wp2
    go_ret
    exact ⟨by simp [*]; omega, rfl⟩
theorem rlower_any (c : Int) (w : World) : Calls Tryd.prog 26 #[.int .u8 c] w fun e w' => e = .returned (.bool (lowB c)) ∧ w = w' := by
  unfold lowB
  by_cases h1 : 97 ≤ c
  · by_cases h2 : c ≤ 122
    all_goals
      go_enter Tryd.func26, Tryd.ntmps26
      go_wp2
      go_ret
      exact ⟨by simp [*], rfl⟩
  · go_enter Tryd.func26, Tryd.ntmps26
    go_wp2
    go_ret
    exact ⟨by simp [*]; omega, rfl⟩
theorem rupper_any (c : Int) (w : World) : Calls Tryd.prog 27 #[.int .u8 c] w fun e w' => e = .returned (.bool (uppB c)) ∧ w = w' := by
  unfold uppB
  by_cases h1 : 65 ≤ c
  · by_cases h2 : c ≤ 90
    all_goals
      go_enter Tryd.func27, Tryd.ntmps27
      go_wp2
      go_ret
      exact ⟨by simp [*], rfl⟩
  · go_enter Tryd.func27, Tryd.ntmps27
    go_wp2
    go_ret
    exact ⟨by simp [*]; omega, rfl⟩
theorem rdigit_any (c : Int) (w : World) : Calls Tryd.prog 25 #[.int .u8 c] w fun e w' => e = .returned (.bool (digB c)) ∧ w = w' := by
  unfold digB
  by_cases h1 : 48 ≤ c
  · by_cases h2 : c ≤ 57
    all_goals
      go_enter Tryd.func25, Tryd.ntmps25
      go_wp2
      go_ret
      exact ⟨by simp [*], rfl⟩
  · go_enter Tryd.func25, Tryd.ntmps25
    go_wp2
    go_ret
    exact ⟨by simp [*]; omega, rfl⟩
theorem rword_any (c : Int) (w : World) : Calls Tryd.prog 19 #[.int .u8 c] w fun e w' => e = .returned (.bool (wrdB c)) ∧ w = w' := by
  unfold wrdB
  cases h1 : lowB c <;> cases h2 : uppB c <;> cases h3 : digB c <;> cases h4 : (c == 95)
  all_goals
    have H1 := Lib.hid h1; have H2 := Lib.hid h2; have H3 := Lib.hid h3; clear h1 h2 h3
    go_enter Tryd.func19, Tryd.ntmps19
    go_wp2_with (first
      | (go_at_call 26; refine (rlower_any _ _).mono ?_; rintro e w' ⟨rfl, rfl⟩; rw [H1.out])
      | (go_at_call 27; refine (rupper_any _ _).mono ?_; rintro e w' ⟨rfl, rfl⟩; rw [H2.out])
      | (go_at_call 25; refine (rdigit_any _ _).mono ?_; rintro e w' ⟨rfl, rfl⟩; rw [H3.out]))
    go_ret
    exact ⟨by simp [*], rfl⟩
end Go.Proofs.YtgoplhlbcmfocaaDoor
