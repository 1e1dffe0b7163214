/- The walks of Same, Ints, ok, numbers, begins. -/
import Derived.Test.YtigcmjnjcaoolaaDoorCBuild
namespace Go.Proofs.YtigcmjnjcaoolaaDoor
set_option linter.unusedVariables false
set_option linter.unusedSimpArgs false
open Go.RowKit
open Cx (N)
/-- Two lists of one length that agree everywhere are one. -/
theorem eq_of_all {α : Type} {l m : List α} (hl : l.length = m.length) (h : ∀ j, j < l.length → l[j]? = m[j]?) : l = m := by
  apply List.ext_getElem? ; intro i
  rcases Nat.lt_or_ge i l.length with h1 | h1
  · exact h i h1
  · rw [List.getElem?_eq_none h1, List.getElem?_eq_none (by omega)]
theorem ne_of_one {α : Type} {l m : List α} {k : Nat} {x y : α} (h1 : l[k]? = some x) (h2 : m[k]? = some y) (h : x ≠ y) : l ≠ m := by
  rintro rfl; rw [h1] at h2; exact h (Option.some.inj h2)
set_option maxHeartbeats 2000000 in
theorem same_any (A : Option Addr) (c : Nat) (l : List N) (B : Option Addr) (d : Nat) (m : List N) (w : World) (hl : l.length ≤ 9223372036854775807) (hm : m.length ≤ 9223372036854775807) (hA : Circ w A l) (hB : Circ w B m) :
    Calls Tryd.prog 13 #[.slice A l.length c, .slice B m.length d] w fun e w' => e = .returned (.bool (decide (l = m))) ∧ Below w.heap.size w w' := by
  by_cases hlen : l.length = m.length
  · have t1 : ((l.length : Int) == (m.length : Int)) = true := by rw [beq_iff_eq]; omega
    have t2 : ((l.length : Int) != (m.length : Int)) = false := by rw [bne, t1]; rfl
    go_enter Tryd.func13, Tryd.ntmps13
    go_wp2_with fail
    go_loopw [5] (fun i wr => ∃ k q : Nat, k ≤ l.length ∧ Hid (∀ j, j < k → l[j]? = m[j]?) ∧ i = .int .i64 k ∧ wr = w.drewN q) (fun i _ => l.length - (intOf i).toNat)
    case atStart => exact ⟨0, 0, by omega, Lib.hid (fun j hj => by omega), rfl, rfl⟩
    case round =>
      obtain ⟨k, q, hk, HN, rfl, rfl⟩ := hrel
      by_cases h1 : k < l.length
      · have d1 : decide ((k : Int) < (l.length : Int)) = true := by simp; omega
        have h2 : k < m.length := by omega
        obtain ⟨g, o, rfl, hg, c0, c1, c2⟩ := hA.at h1
        obtain ⟨g', o', rfl, hg', c0', c1', c2'⟩ := hB.at h2
        have e1 := getElem_of h1
        have e2 := getElem_of h2
        generalize l[k] = x at *
        generalize m[k] = y at *
        have i0 : (0 : Int) ≤ (k : Int) := by omega
        have i1 : (k : Int) < (l.length : Int) := by omega
        have i2 : (k : Int) < (m.length : Int) := by omega
        have q1 := fun w => node_eq x y w
        clear t1 t2
        cases hz : (x == y)
        · have HR := Lib.hid (show decide (l = m) = false from decide_eq_false (ne_of_one e1 e2 (by intro h; rw [h] at hz; simp at hz)))
          rw [hz] at q1
          clear e1 e2 hz
          go_wp2_with fail
          go_quiet (fail)
          go_wp2_with fail
          go_ret
          exact ⟨by rw [HR.out]; rfl, below_drewN (below_drewN (Below.refl _ _) _) _⟩
        · have HR := Lib.hid (show ∀ j, j < k + 1 → l[j]? = m[j]? from fun j hj => by
            by_cases e : j = k
            · rw [e, e1, e2, beq_iff_eq.1 hz]
            · exact HN.out j (by omega))
          rw [hz] at q1
          clear e1 e2 hz
          go_wp2_with fail
          go_quiet (fail)
          go_wp2_with fail
          go_roundw
          case rel => exact ⟨k + 1, _, by omega, HR, by go_num, rfl⟩
          case measure => simp [intOf]; omega
      · have d1 : decide ((k : Int) < (l.length : Int)) = false := by simp; omega
        have HR := Lib.hid (show decide (l = m) = true from decide_eq_true (eq_of_all hlen (fun j hj => HN.out j (by omega))))
        go_wp2_with fail
        go_ret
        exact ⟨by rw [HR.out]; rfl, below_drewN (Below.refl _ _) _⟩
  · have t1 : ((l.length : Int) == (m.length : Int)) = false := by rw [beq_eq_false_iff_ne]; omega
    have t2 : ((l.length : Int) != (m.length : Int)) = true := by rw [bne, t1]; rfl
    have HR := Lib.hid (show decide (l = m) = false from decide_eq_false (fun e => hlen (by rw [e])))
    go_enter Tryd.func13, Tryd.ntmps13
    go_wp2_with fail
    go_ret
    exact ⟨by rw [HR.out]; rfl, Below.refl _ _⟩
set_option maxHeartbeats 2000000 in
theorem ints_any (A : Option Addr) (c : Nat) (l : List Int) (B : Option Addr) (d : Nat) (m : List Int) (w : World) (hl : l.length ≤ 9223372036854775807) (hm : m.length ≤ 9223372036854775807) (hA : Nums w A l) (hB : Nums w B m) :
    Calls Tryd.prog 24 #[.slice A l.length c, .slice B m.length d] w fun e w' => e = .returned (.bool (decide (l = m))) ∧ Below w.heap.size w w' := by
  by_cases hlen : l.length = m.length
  · have t1 : ((l.length : Int) == (m.length : Int)) = true := by rw [beq_iff_eq]; omega
    have t2 : ((l.length : Int) != (m.length : Int)) = false := by rw [bne, t1]; rfl
    go_enter Tryd.func24, Tryd.ntmps24
    go_wp2_with fail
    go_loopw [5] (fun i wr => ∃ k q : Nat, k ≤ l.length ∧ Hid (∀ j, j < k → l[j]? = m[j]?) ∧ i = .int .i64 k ∧ wr = w.drewN q) (fun i _ => l.length - (intOf i).toNat)
    case atStart => exact ⟨0, 0, by omega, Lib.hid (fun j hj => by omega), rfl, rfl⟩
    case round =>
      obtain ⟨k, q, hk, HN, rfl, rfl⟩ := hrel
      by_cases h1 : k < l.length
      · have d1 : decide ((k : Int) < (l.length : Int)) = true := by simp; omega
        have h2 : k < m.length := by omega
        obtain ⟨g, o, rfl, hg, c0⟩ := hA.at h1
        obtain ⟨g', o', rfl, hg', c0'⟩ := hB.at h2
        have e1 := getElem_of h1
        have e2 := getElem_of h2
        generalize l[k] = x at *
        generalize m[k] = y at *
        have i0 : (0 : Int) ≤ (k : Int) := by omega
        have i1 : (k : Int) < (l.length : Int) := by omega
        have i2 : (k : Int) < (m.length : Int) := by omega
        clear t1 t2
        cases hz : (x == y)
        · have HR := Lib.hid (show decide (l = m) = false from decide_eq_false (ne_of_one e1 e2 (by intro h; rw [h] at hz; simp at hz)))
          have hz2 : (x != y) = true := by rw [bne, hz]; rfl
          clear e1 e2
          go_wp2_with fail
          go_quiet (fail)
          go_wp2_with fail
          go_ret
          exact ⟨by rw [HR.out]; rfl, below_drewN (below_drewN (Below.refl _ _) _) _⟩
        · have HR := Lib.hid (show ∀ j, j < k + 1 → l[j]? = m[j]? from fun j hj => by
            by_cases e : j = k
            · rw [e, e1, e2, beq_iff_eq.1 hz]
            · exact HN.out j (by omega))
          have hz2 : (x != y) = false := by rw [bne, hz]; rfl
          clear e1 e2
          go_wp2_with fail
          go_quiet (fail)
          go_wp2_with fail
          go_roundw
          case rel => exact ⟨k + 1, _, by omega, HR, by go_num, rfl⟩
          case measure => simp [intOf]; omega
      · have d1 : decide ((k : Int) < (l.length : Int)) = false := by simp; omega
        have HR := Lib.hid (show decide (l = m) = true from decide_eq_true (eq_of_all hlen (fun j hj => HN.out j (by omega))))
        go_wp2_with fail
        go_ret
        exact ⟨by rw [HR.out]; rfl, below_drewN (Below.refl _ _) _⟩
  · have t1 : ((l.length : Int) == (m.length : Int)) = false := by rw [beq_eq_false_iff_ne]; omega
    have t2 : ((l.length : Int) != (m.length : Int)) = true := by rw [bne, t1]; rfl
    have HR := Lib.hid (show decide (l = m) = false from decide_eq_false (fun e => hlen (by rw [e])))
    go_enter Tryd.func24, Tryd.ntmps24
    go_wp2_with fail
    go_ret
    exact ⟨by rw [HR.out]; rfl, Below.refl _ _⟩
end Go.Proofs.YtigcmjnjcaoolaaDoor
