/- The walks of slices.Index at bytes and of Decode's closure. -/
import Derived.Test.YtagibdofpcbgiaaDoorVCmp
namespace Go.Proofs.YtagibdofpcbgiaaDoor
set_option linter.unusedVariables false
set_option linter.unusedSimpArgs false
open Go.RowKit
/-- The place of the first 0, or -1. -/
def idx0 (l : List UInt8) : Int := if 0 ∈ l then ((l.takeWhile (fun x => x != 0)).length : Int) else -1
theorem idx0_hit {l : List UInt8} {k : Nat} (h : l[k]? = some 0) (hno : ∀ j, j < k → l[j]? ≠ some 0) : idx0 l = k := by
  unfold idx0
  rw [if_pos (List.mem_of_getElem? h)]
  have : (l.takeWhile (fun x => x != 0)).length = k := by
    induction l generalizing k with
    | nil => simp at h
    | cons c r ih =>
      cases k with
      | zero => simp at h; subst h; simp
      | succ k =>
        have hc : (c != 0) = true := by
          have := hno 0 (by omega); simpa using this
        rw [List.takeWhile_cons, if_pos hc, List.length_cons, ih (by simpa using h) (fun j hj => by have := hno (j + 1) (by omega); simpa using this)]
  rw [this]
theorem idx0_none {l : List UInt8} (hno : ∀ j, j < l.length → l[j]? ≠ some 0) : idx0 l = -1 := by
  unfold idx0
  rw [if_neg]
  intro h
  obtain ⟨j, hj, e⟩ := List.mem_iff_getElem.1 h
  exact hno j hj (by rw [List.getElem?_eq_getElem hj, e])
set_option maxHeartbeats 1000000 in
theorem index_any (A : Option Addr) (c : Nat) (xs : List UInt8) (w : World) (hx : xs.length ≤ 9223372036854775807) (hA : Bytes w A xs) :
    Calls Tryd.prog 44 #[.slice A xs.length c, .int .u8 0] w fun e w' => e = .returned (.int .i64 (idx0 xs)) ∧ w = w' := by
  go_enter Tryd.func44, Tryd.ntmps44
  go_wp2
  go_loop [8] (fun i => ∃ k : Nat, k ≤ xs.length ∧ Hid (∀ j, j < k → xs[j]? ≠ some 0) ∧ i = .int .i64 k) (fun i => xs.length - (intOf i).toNat)
  case atStart => exact ⟨0, by omega, Lib.hid (fun j hj => by omega), rfl⟩
  case round =>
    obtain ⟨k, hk, HN, rfl⟩ := hrel
    by_cases h1 : k < xs.length
    · have d1 : decide ((k : Int) < (xs.length : Int)) = true := by simp; omega
      obtain ⟨g, o, rfl, hg, hc⟩ := hA (by intro h; rw [h] at h1; simp at h1)
      have e1 := List.getElem?_eq_getElem h1
      have c1 := hc k _ e1
      generalize xs[k] = x at *
      clear hc hA
      by_cases hz : x = 0
      · subst hz
        have hR := Lib.hid (idx0_hit e1 HN.out)
        have d2 : (((0 : UInt8).toNat : Nat) : Int) = 0 := rfl
        rw [d2] at c1
        clear e1
        go_wp2
        go_ret
        exact ⟨by rw [hR.out]; rfl, rfl⟩
      · have hR := Lib.hid (show ∀ j, j < k + 1 → xs[j]? ≠ some 0 from fun j hj => by
          by_cases e : j = k
          · rw [e, e1]; intro h; exact hz (Option.some.inj h)
          · exact HN.out j (by omega))
        have hx0 : ¬ x.toNat = 0 := fun h => hz (UInt8.toNat_inj.1 h)
        have d2 : ((0 : Int) == ((x.toNat : Nat) : Int)) = false := beq_eq_false_iff_ne.2 (by omega)
        clear e1 hz hx0
        go_wp2
        go_round
        case rel => exact ⟨k + 1, by omega, hR, by go_num⟩
        case measure => simp [intOf]; omega
    · have d1 : decide ((k : Int) < (xs.length : Int)) = false := by simp; omega
      obtain rfl : k = xs.length := by omega
      have hR := Lib.hid (idx0_none HN.out)
      go_wp2
      go_ret
      exact ⟨by rw [hR.out]; rfl, rfl⟩
theorem add_at (g o j : Nat) : ((⟨g, o, none⟩ : Addr).add j) = ⟨g, o + j, none⟩ := by
  unfold Addr.add; split
  · rename_i h; subst h; rfl
  · simp
theorem cut_any (A : Option Addr) (L c n bb : Nat) (w : World) (hn : n ≤ L) (hL : L ≤ c) (hc : c ≤ 9223372036854775807) (hb : At w bb 25 #[.slice A L c]) (hA : 0 < L → ∃ g o, A = some ⟨g, o, none⟩) :
    Calls Tryd.prog 43 #[.int .i64 n, .pointer (some ⟨bb, 0, none⟩)] w fun e w' => e = .returned (.slice A n c) ∧ ∃ A', (∀ g o, A = some ⟨g, o, none⟩ → n < L → A' = some ⟨g, o + n, none⟩) ∧ w' = w.setCell ⟨bb, 0, none⟩ (.slice A' (L - n) (c - n)) := by
  have c0 : w.cell? ⟨bb, 0, none⟩ = some (.slice A L c) := hb.cell 0
  have f0 : w.frozen? ⟨bb, 0, none⟩ = false := hb.frozen 0
  have i0 : (0 : Int) ≤ (n : Int) := by omega
  have i1 : (n : Int) ≤ (c : Int) := by omega
  have i2 : (n : Int) ≤ (L : Int) := by omega
  go_enter Tryd.func43, Tryd.ntmps43
  go_wp2
  case inl =>
    go_ret
    exact ⟨rfl, A, fun g o _ hlt => by omega, rfl⟩
  case inr =>
    go_ret
    exact ⟨rfl, _, fun g o hA hlt => by subst hA; simp [add_at], rfl⟩
end Go.Proofs.YtagibdofpcbgiaaDoor
