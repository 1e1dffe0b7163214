/- The law's numbers, as a row of the call's own. -/
import Derived.Test.YtigcmjnjcaoolaaDoorCMisc
import Derived.Test.YtigcmjnjcaoolaaDoorCVars
namespace Go.Proofs.YtigcmjnjcaoolaaDoor
set_option linter.unusedVariables false
set_option linter.unusedSimpArgs false
open Go.RowKit
set_option maxHeartbeats 1000000 in
theorem numbers_own (A : Option Addr) (c : Nat) (xs : List UInt8) (w : World) (hx : xs.length ≤ 1000000) (hA : Raws w A xs) :
    Calls Tryd.prog 30 #[.slice A xs.length c] w (NumsOwn (ints xs) w) := by
  obtain ⟨i0, hi, hz0, hz1, hz2⟩ := info_parts int_info
  have o0 := own_empty w 3 1 w.heap.size (Nat.le_refl _)
  have bw0 := below1 w (.cells #[] 3)
  go_enter Tryd.func30, Tryd.ntmps30
  go_wp2_with fail
  go_loopw [3, 4] (fun v i wr => ∃ (k : Nat) (l : List Int), k ≤ xs.length ∧ l.length = k ∧ Hid (IntsAt xs k l) ∧ i = .int .i64 k ∧ wr.ownsRow w.heap.size 3 1 v l.length (icells l) ∧ Below w.heap.size w wr) (fun _ i _ => xs.length - (intOf i).toNat)
  case atStart => exact ⟨0, [], by omega, rfl, Lib.hid rfl, rfl, o0, bw0⟩
  case round =>
    obtain ⟨k, l, hk, hlk, HL, rfl, hown, hbw⟩ := hrel
    clear o0 bw0
    obtain ⟨va, vc, rfl⟩ := own_len hown
    by_cases h1 : k < xs.length
    · have d1 : decide ((k : Int) < (xs.length : Int)) = true := by simp; omega
      obtain ⟨g, o, rfl, hg, c0⟩ := (hA.below hbw).at h1
      have HN := Lib.hid (HL.out.more (getElem_of h1))
      generalize xs[k] = x at *
      have i0' : (0 : Int) ≤ (k : Int) := by omega
      have i1 : (k : Int) < (xs.length : Int) := by omega
      have y0 : (0 : Int) ≤ (x.toNat : Int) := by omega
      have y1 : (x.toNat : Int) < 256 := by have := x.toNat_lt; omega
      have LL := Lib.hid (icells_len l)
      go_wp2_with (first
        | (at_builtin; go_loud (refine wpList_append_from rfl (.tmp 12) (.tmp 18) 25 rfl w.heap.size 3 i0 _ 1 8 Tryd.underlying25 hi hz0 hz1 hz2 rfl (by omega) (.slice va l.length vc) l.length (icells l) rfl (hown.alloc _) (some ⟨wr.heap.size, 0, none⟩) 1 1 [.int .i64 (x.toNat : Int)] rfl rfl (fun h => by cases h) (fun ad h => by obtain rfl := Option.some.inj h; exact At.news (At.new _ _ _)) (one1 rfl) (by unfold maxLen; omega) (by omega) (by have := hbw.size; simp; omega) ?_); intro v2 w2 o2 g2))
      have bw2 : Below w.heap.size w w2 := (hbw.alloc hbw.size _).grown g2 (by have := hbw.size; simp; omega) (fun q hq => (own_lt hown hq).1)
      go_roundw
      case rel => exact ⟨k + 1, l ++ [(x.toNat : Int)], by omega, by simp [hlk], HN, by go_num, by rw [icells_app, List.length_append]; exact o2, bw2⟩
      case measure => simp [intOf]; omega
    · have d1 : decide ((k : Int) < (xs.length : Int)) = false := by simp; omega
      have HE := Lib.hid (show l = ints xs by rw [HL.out, List.take_of_length_le (by omega)])
      go_wp2_with fail
      go_ret
      refine ⟨_, rfl, ?_, hbw⟩
      rw [← HE.out]; exact hown
end Go.Proofs.YtigcmjnjcaoolaaDoor
