/- The walks of the reference's small functions on names and numbers. -/
import Derived.Test.YtoficnfpoeaccaaDoorKPure
import Derived.Test.YtoficnfpoeaccaaDoorOwn
import Derived.Test.YtoficnfpoeaccaaDoorHeld
import Derived.Test.YtoficnfpoeaccaaDoorProg
namespace Go.Proofs.YtoficnfpoeaccaaDoor
set_option linter.unusedVariables false
set_option linter.unusedSimpArgs false
open Go.RowKit
/-- Names in memory. -/
def NmAt (w : World) (A : Option Addr) (l : List ByteArray) : Prop := l ≠ [] → ∃ g o, A = some ⟨g, o, none⟩ ∧ g < w.heap.size ∧ ∀ (i : Nat) (s : ByteArray), l[i]? = some s → w.cell? ⟨g, o + i, none⟩ = some (.string s)
theorem NmAt.below {w w' : World} {A : Option Addr} {l : List ByteArray} (h : NmAt w A l) (hb : Below w.heap.size w w') : NmAt w' A l := fun hn => by
  obtain ⟨g, o, e, hg, hc⟩ := h hn
  exact ⟨g, o, e, Nat.lt_of_lt_of_le hg hb.size, fun i s hi => (hb.cell hg).trans (hc i s hi)⟩
theorem NmAt.at {w : World} {A : Option Addr} {l : List ByteArray} (h : NmAt w A l) {i : Nat} {s : ByteArray} (hi : l[i]? = some s) : ∃ g o, A = some ⟨g, o, none⟩ ∧ g < w.heap.size ∧ w.cell? ⟨g, o + i, none⟩ = some (.string s) := by
  obtain ⟨g, o, e, hg, hc⟩ := h (by intro e; rw [e] at hi; simp at hi)
  exact ⟨g, o, e, hg, hc i s hi⟩
theorem str_eq {s t : ByteArray} : s = t ↔ s.data.toList = t.data.toList := ⟨fun h => by rw [h], fun h => by apply ByteArray.ext; apply Array.toList_inj.1; exact h⟩
theorem str_beq (s t : ByteArray) : (s.toList == t.toList) = decide (s = t) := by
  rw [Lib.toList_data, Lib.toList_data, Bool.eq_iff_iff, beq_iff_eq, decide_eq_true_iff, str_eq]
def hasN (l : List ByteArray) (s : ByteArray) : Bool := l.any fun x => decide (x = s)
theorem hasN_more {l : List ByteArray} {k : Nat} {x s : ByteArray} (h : l[k]? = some x) : hasN (l.take (k + 1)) s = (hasN (l.take k) s || decide (x = s)) := by
  unfold hasN
  rw [List.take_add_one, h, List.any_append]
  simp
set_option maxRecDepth 100000 in
theorem in_any (A : Option Addr) (c : Nat) (l : List ByteArray) (s : ByteArray) (w : World) (hA : NmAt w A l) (hl : l.length ≤ 1000000) :
    Calls Tryd.prog 70 #[.slice A l.length c, .string s] w fun e w' => e = .returned (.bool (hasN l s)) ∧ w = w' := by
  have HA := Lib.hid hA
  clear hA
  go_enter Tryd.func70, Tryd.ntmps70
  go_wp2_with fail
  go_loop [5] (fun i => ∃ k : Nat, k ≤ l.length ∧ i = .int .i64 k ∧ Hid (hasN (l.take k) s = false)) (fun i => l.length - (intOf i).toNat)
  case atStart => exact ⟨0, by omega, rfl, Lib.hid rfl⟩
  case round =>
    obtain ⟨k, hk, rfl, HK⟩ := hrel
    by_cases h1 : k < l.length
    · have d1 : decide ((k : Int) < (l.length : Int)) = true := by simp; omega
      obtain ⟨x, hx⟩ : ∃ x, l[k]? = some x := ⟨_, List.getElem?_eq_getElem h1⟩
      obtain ⟨g, o, rfl, hg, c0⟩ := HA.out.at hx
      have i0 : (0 : Int) ≤ (k : Int) := by omega
      have i1 : (k : Int) < (l.length : Int) := by omega
      have HM := Lib.hid (hasN_more (s := s) hx)
      by_cases h2 : x = s
      · have t1 : (x.toList == s.toList) = true := by rw [str_beq]; exact decide_eq_true h2
        have HR := Lib.hid (show hasN l s = true by
          unfold hasN
          rw [List.any_eq_true]
          exact ⟨x, List.mem_of_getElem? hx, decide_eq_true h2⟩)
        clear hx h2
        go_wp2_with fail
        go_ret
        exact ⟨by rw [HR.out]; rfl, rfl⟩
      · have t1 : (x.toList == s.toList) = false := by rw [str_beq]; exact decide_eq_false h2
        have HN := Lib.hid (show hasN (l.take (k + 1)) s = false by rw [HM.out, HK.out, decide_eq_false h2]; rfl)
        clear hx h2
        go_wp2_with fail
        go_round
        case rel => exact ⟨k + 1, by omega, by go_num, HN⟩
        case measure => simp [intOf]; omega
    · have d1 : decide ((k : Int) < (l.length : Int)) = false := by simp; omega
      have HR := Lib.hid (show hasN l s = false by rw [← HK.out, List.take_of_length_le (by omega)])
      go_wp2_with fail
      go_ret
      exact ⟨by rw [HR.out]; rfl, rfl⟩
theorem sum16_any (a b : Nat) (w : World) (ha : a ≤ 10000000000) (hb : b ≤ 10000000000) : Calls Tryd.prog 38 #[.int .i64 (a : Int), .int .i64 (b : Int)] w fun e w' => e = .returned (.int .i64 ((min (a + b) Ko.most : Nat) : Int)) ∧ w = w' := by
  have HM := Lib.hid (show 1000000000 < a + b → ((min (a + b) Ko.most : Nat) : Int) = 1000000000 from fun h => by unfold Ko.most; omega)
  have HN := Lib.hid (show a + b ≤ 1000000000 → ((min (a + b) Ko.most : Nat) : Int) = (a : Int) + (b : Int) from fun h => by unfold Ko.most; omega)
  go_enter Tryd.func38, Tryd.ntmps38
  go_wp2_with fail
  · have h : 1000000000 < (a : Int) + (b : Int) := by assumption
    go_ret
    exact ⟨by rw [HM.out (by omega)]; rfl, rfl⟩
  · have h : (a : Int) + (b : Int) ≤ 1000000000 := by assumption
    go_ret
    exact ⟨by rw [HN.out (by omega)]; rfl, rfl⟩
end Go.Proofs.YtoficnfpoeaccaaDoor
