/- The walks of the reference's arithmetic. -/
import Derived.Test.YtoficnfpoeaccaaDoorKRef0
namespace Go.Proofs.YtoficnfpoeaccaaDoor
set_option linter.unusedVariables false
set_option linter.unusedSimpArgs false
open Go.RowKit
theorem prod_cap {a b : Nat} (ha : 0 < a) (h : 1000000000 / a < b) : Ko.prod a b = 1000000000 := by
  have := (Nat.div_lt_iff_lt_mul ha).1 h
  unfold Ko.prod Ko.most
  rw [Nat.mul_comm] at this
  omega
theorem big_div (a : Nat) : (1000000000 : Int) / (a : Int) = ((1000000000 / a : Nat) : Int) := (Int.natCast_ediv 1000000000 a).symm
theorem prod_low {a b : Nat} (ha : 0 < a) (h : ¬ 1000000000 / a < b) : a * b ≤ 1000000000 := by
  have := (Nat.le_div_iff_mul_le ha).1 (Nat.not_lt.1 h)
  rw [Nat.mul_comm] at this
  exact this
set_option maxRecDepth 100000 in
theorem up16_any (a b : Nat) (w : World) (ha : a ≤ 10000000000) (hb : b ≤ 10000000000) : Calls Tryd.prog 41 #[.int .i64 (a : Int), .int .i64 (b : Int)] w fun e w' => e = .returned (.int .i64 ((Ko.up a b : Nat) : Int)) ∧ w = w' := by
  by_cases hb0 : b < 1
  · have d1 : decide ((b : Int) < 1) = true := by simp; omega
    have HU := Lib.hid (show ((Ko.up a b : Nat) : Int) = (a : Int) by
      unfold Ko.up
      rw [show max b 1 = 1 by omega, show a + 1 - 1 = a by omega, Nat.div_one])
    go_enter Tryd.func41, Tryd.ntmps41
    go_wp2_with fail
    go_ret
    exact ⟨by rw [HU.out]; rfl, rfl⟩
  · have d1 : decide ((b : Int) < 1) = false := by simp; omega
    have HU := Lib.hid (show ((Ko.up a b : Nat) : Int) = ((a : Int) + (b : Int) - 1) / (b : Int) by
      unfold Ko.up
      rw [show max b 1 = b by omega, Int.natCast_ediv, show ((a + b - 1 : Nat) : Int) = (a : Int) + (b : Int) - 1 by omega])
    go_enter Tryd.func41, Tryd.ntmps41
    go_wp2_with fail
    go_ret
    exact ⟨by rw [HU.out]; rfl, rfl⟩
set_option maxRecDepth 100000 in
theorem product16_any (a b : Nat) (w : World) (ha : a ≤ 10000000000) (hb : b ≤ 10000000000) : Calls Tryd.prog 39 #[.int .i64 (a : Int), .int .i64 (b : Int)] w fun e w' => e = .returned (.int .i64 ((Ko.prod a b : Nat) : Int)) ∧ w = w' := by
  by_cases ha0 : 0 < a
  · have d1 : decide ((0 : Int) < (a : Int)) = true := by simp; omega
    by_cases hq : 1000000000 / a < b
    · have d2 : decide ((1000000000 : Int) / (a : Int) < (b : Int)) = true := decide_eq_true (by rw [big_div]; omega)
      have HU := Lib.hid (show ((Ko.prod a b : Nat) : Int) = 1000000000 by rw [prod_cap ha0 hq]; rfl)
      go_enter Tryd.func39, Tryd.ntmps39
      go_wp2_with fail
      go_ret
      exact ⟨by rw [HU.out]; rfl, rfl⟩
    · have d2 : decide ((1000000000 : Int) / (a : Int) < (b : Int)) = false := decide_eq_false (by rw [big_div]; omega)
      have hl := prod_low ha0 hq
      have HU := Lib.hid (show Ko.prod a b = a * b by unfold Ko.prod Ko.most; omega)
      obtain ⟨p, hp⟩ : ∃ p, a * b = p := ⟨_, rfl⟩
      have W : wrap64 ((a : Int) * (b : Int)) = (p : Int) := by
        rw [← Int.natCast_mul, hp]
        unfold wrap64
        omega
      rw [hp] at HU hl
      clear hp
      have l1 : (p : Int) ≤ 1000000000 := by omega
      go_enter Tryd.func39, Tryd.ntmps39
      go_wp2_with fail
      all_goals first
        | (exfalso; omega)
        | (go_ret; exact ⟨by rw [HU.out]; rfl, rfl⟩)
  · have d1 : decide ((0 : Int) < (a : Int)) = false := by simp; omega
    obtain rfl : a = 0 := by omega
    have W : wrap64 (((0 : Nat) : Int) * (b : Int)) = ((0 : Nat) : Int) := by rw [Int.natCast_zero, Int.zero_mul]; unfold wrap64; omega
    have HU := Lib.hid (show Ko.prod 0 b = 0 by unfold Ko.prod; rw [Nat.zero_mul]; exact Nat.zero_min _)
    go_enter Tryd.func39, Tryd.ntmps39
    go_wp2_with fail
    all_goals first
      | (exfalso; omega)
      | (go_ret; exact ⟨by rw [HU.out]; rfl, rfl⟩)
set_option maxRecDepth 100000 in
theorem index_any (A : Option Addr) (c : Nat) (l : List ByteArray) (s : ByteArray) (w : World) (hA : NmAt w A l) (hl : l.length ≤ 1000000) :
    Calls Tryd.prog 59 #[.slice A l.length c, .string s] w fun e w' => (∃ i : Int, e = .returned (.int .i64 i) ∧ decide (0 ≤ i) = hasN l s ∧ -1 ≤ i ∧ i < 1000001) ∧ w = w' := by
  have HA := Lib.hid hA
  clear hA
  go_enter Tryd.func59, Tryd.ntmps59
  go_wp2_with fail
  go_loop [5] (fun i => ∃ k : Nat, k ≤ l.length ∧ i = .int .i64 k ∧ Hid (hasN (l.take k) s = false)) (fun i => l.length - (intOf i).toNat)
  case atStart => exact ⟨0, by omega, rfl, Lib.hid rfl⟩
  case round =>
    obtain ⟨k, hk, rfl, HK⟩ := hrel
    by_cases h1 : k < l.length
    · have d1 : decide ((k : Int) < (l.length : Int)) = true := by simp; omega
      obtain ⟨x, hx⟩ : ∃ x, l[k]? = some x := ⟨_, List.getElem?_eq_getElem h1⟩
      obtain ⟨g, o, rfl, hg, c0⟩ := HA.out.at hx
      have i0 : (0 : Int) ≤ (k : Int) := by omega
      have i1 : (k : Int) < (l.length : Int) := by omega
      have HM := Lib.hid (hasN_more (s := s) hx)
      by_cases h2 : x = s
      · have t1 : (x.toList == s.toList) = true := by rw [str_beq]; exact decide_eq_true h2
        have HR := Lib.hid (show hasN l s = true by
          unfold hasN
          rw [List.any_eq_true]
          exact ⟨x, List.mem_of_getElem? hx, decide_eq_true h2⟩)
        clear hx h2
        go_wp2_with fail
        go_ret
        exact ⟨⟨(k : Int), rfl, by rw [HR.out]; exact decide_eq_true (by omega), by omega, by omega⟩, rfl⟩
      · have t1 : (x.toList == s.toList) = false := by rw [str_beq]; exact decide_eq_false h2
        have HN := Lib.hid (show hasN (l.take (k + 1)) s = false by rw [HM.out, HK.out, decide_eq_false h2]; rfl)
        clear hx h2
        go_wp2_with fail
        go_round
        case rel => exact ⟨k + 1, by omega, by go_num, HN⟩
        case measure => simp [intOf]; omega
    · have d1 : decide ((k : Int) < (l.length : Int)) = false := by simp; omega
      have HR := Lib.hid (show hasN l s = false by rw [← HK.out, List.take_of_length_le (by omega)])
      go_wp2_with fail
      go_ret
      exact ⟨⟨-1, rfl, by rw [HR.out]; rfl, by omega, by omega⟩, rfl⟩
end Go.Proofs.YtoficnfpoeaccaaDoor
