/- The walk of the reference's Formed. -/
import Derived.Test.YtoficnfpoeaccaaDoorKRef2
namespace Go.Proofs.YtoficnfpoeaccaaDoor
set_option linter.unusedVariables false
set_option linter.unusedSimpArgs false
open Go.RowKit
def okD (x : Int) : Bool := decide (0 ≤ x ∧ x ≤ 1000000)
theorem all_more {l : List Int} {k : Nat} {x : Int} (h : l[k]? = some x) : (l.take (k + 1)).all okD = ((l.take k).all okD && okD x) := by
  rw [List.take_add_one, h, List.all_append]
  simp
set_option maxRecDepth 100000 in
theorem formed_any (s : Sta) (w : World) (hs : StaOk w s) (hl : s.dist.length ≤ 1000000) :
    Calls Tryd.prog 42 #[s.v] w fun e w' => e = .returned (.bool (Ko.formed s)) ∧ Below w.heap.size w w' := by
  obtain ⟨rows, da, dc, l⟩ := s
  have hs0 : Str w da 1 (l.map fun x => [.int .i64 x]) := hs.dist
  have HS := Lib.hid hs0
  have hr : Ko.formed ⟨rows, da, dc, l⟩ = (decide (0 ≤ rows) && decide (rows ≤ 1000000) && l.all okD) := by
    unfold Ko.formed okD
    rw [Bool.decide_and]
  rw [hr]
  clear hs hs0 hr
  unfold Sta.v
  dsimp only at *
  have HAT := Lib.hid (At.new w 46 #[.int .i64 rows, .slice da l.length dc])
  obtain ⟨b0, hb0⟩ : ∃ b0, (decide (0 ≤ rows) && decide (rows ≤ 1000000)) = b0 := ⟨_, rfl⟩
  have HB := Lib.hid hb0
  obtain ⟨R, hR⟩ : ∃ R, (decide (0 ≤ rows) && decide (rows ≤ 1000000) && l.all okD) = R := ⟨_, rfl⟩
  rw [hR]
  rw [hb0] at hR
  have HRR := Lib.hid hR.symm
  clear hb0 hR
  cases r0 : decide (0 ≤ rows) <;> cases r1 : decide (rows ≤ 1000000)
  all_goals
    go_enter Tryd.func42, Tryd.ntmps42
    go_wp2_with fail
    rw [r0, r1] at HB
    go_loop [3, 4] (fun b i => ∃ (k : Nat) (q : Bool), k ≤ l.length ∧ b = .bool q ∧ i = .int .i64 k ∧ Hid (q = (b0 && (l.take k).all okD))) (fun _ i => l.length - (intOf i).toNat)
    case atStart => exact ⟨0, _, by omega, rfl, rfl, Lib.hid (by rw [← HB.out]; rfl)⟩
    case round =>
      obtain ⟨k, q, hk, rfl, rfl, HK⟩ := hrel
      by_cases h1 : k < l.length
      · have d1 : decide ((k : Int) < (l.length : Int)) = true := by simp; omega
        obtain ⟨x, hx⟩ : ∃ x, l[k]? = some x := ⟨_, List.getElem?_eq_getElem h1⟩
        obtain ⟨g, o, rfl, hg, c0⟩ := int_cells (HS.out.below (below1 w (.cells #[.int .i64 rows, .slice da l.length dc] 46))) hx
        have i0 : (0 : Int) ≤ (k : Int) := by omega
        have i1 : (k : Int) < (l.length : Int) := by omega
        have HM := Lib.hid (all_more hx)
        clear hx
        cases q
        · have HN := Lib.hid (show false = (b0 && (l.take (k + 1)).all okD) by rw [HM.out, ← Bool.and_assoc, ← HK.out]; rfl)
          go_wp2_with fail
          go_round
          case rel => exact ⟨k + 1, _, by omega, rfl, by go_num, HN⟩
          case measure => simp [intOf]; omega
        · cases e0 : decide (0 ≤ x) <;> cases e1 : decide (x ≤ 1000000)
          all_goals
            have hz : okD x = (decide (0 ≤ x) && decide (x ≤ 1000000)) := Bool.decide_and _ _
            rw [e0, e1] at hz
            have HN := Lib.hid (show (b0 && (l.take (k + 1)).all okD) = okD x by rw [HM.out, ← Bool.and_assoc, ← HK.out]; rfl)
            rw [hz] at HN
            clear hz
            go_wp2_with fail
            go_round
            case rel => exact ⟨k + 1, _, by omega, rfl, by go_num, Lib.hid HN.out.symm⟩
            case measure => simp [intOf]; omega
      · have d1 : decide ((k : Int) < (l.length : Int)) = false := by simp; omega
        have HR := Lib.hid (show (b0 && l.all okD) = q by
          have h := HK.out
          rw [List.take_of_length_le (by omega)] at h
          exact h.symm)
        go_wp2_with fail
        go_ret
        exact ⟨by rw [HRR.out, HR.out]; rfl, below1 _ _⟩
end Go.Proofs.YtoficnfpoeaccaaDoor
