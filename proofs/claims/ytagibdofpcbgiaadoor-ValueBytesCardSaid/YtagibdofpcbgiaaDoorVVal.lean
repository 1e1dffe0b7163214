/- The walks of the comparisons of values. -/
import Derived.Test.YtagibdofpcbgiaaDoorVCmp
namespace Go.Proofs.YtagibdofpcbgiaaDoor
set_option linter.unusedVariables false
set_option linter.unusedSimpArgs false
open Go.RowKit
theorem below2 (w : World) (o o' : Obj) : Below w.heap.size w ((w.alloc o).alloc o') := ((Below.refl _ w).alloc (Nat.le_refl _) _).alloc (by simp) _
theorem conv_any (w : World) (s : ByteArray) : ∃ (c : Nat) (W1 : World), (convert 9 25 (.string s)).run Tryd.prog w = .ok (.slice (some ⟨w.heap.size, 0, none⟩) s.size c) W1 ∧ Below w.heap.size w W1 ∧ W1.heap.size = w.heap.size + 1 ∧ Bytes W1 (some ⟨w.heap.size, 0, none⟩) s.data.toList := by
  refine ⟨_, _, Lib.run_convert_string_bytes (P := Tryd.prog) w 9 25 5 s (u := .string) Tryd.underlying9 Tryd.underlying25 Tryd.underlying5, Lib.bytesWorld_below _ _ _, Lib.bytesWorld_size _ _ _, fun hn => ⟨_, _, rfl, by rw [Lib.bytesWorld_size]; omega, fun k x hx => ?_⟩⟩
  obtain ⟨h1, rfl⟩ := List.getElem?_eq_some_iff.1 hx
  have := Lib.bytesWorld_cell w 5 s k (by rw [← size_len]; exact h1)
  rw [Nat.zero_add, this, List.getD_eq_getElem?_getD, List.getElem?_eq_getElem h1]
  rfl
set_option maxHeartbeats 1000000 in
theorem rcompare_any (t n t' n' : Int) (s s' : ByteArray) (w : World) (hs : s.size ≤ 9223372036854775807) (hs' : s'.size ≤ 9223372036854775807) :
    Calls Tryd.prog 14 #[.agg #[.int .i64 t, .int .i64 n, .string s], .agg #[.int .i64 t', .int .i64 n', .string s']] w fun e w' => e = .returned (.int .i64 (Vx.cmpV ⟨t, n, s.data.toList⟩ ⟨t', n', s'.data.toList⟩)) ∧ Below w.heap.size w w' := by
  by_cases h1 : t = t'
  · have d1 : (t != t') = false := by simp [h1]
    by_cases h2 : n = n'
    · have d2 : (n != n') = false := by simp [h2]
      have hE := Lib.hid (show Vx.cmpV ⟨t, n, s.data.toList⟩ ⟨t', n', s'.data.toList⟩ = Vx.cmpB s.data.toList s'.data.toList by
        unfold Vx.cmpV; rw [if_pos (cmpI_zero.2 h1), if_pos (cmpI_zero.2 h2)])
      clear h1 h2
      go_enter Tryd.func14, Tryd.ntmps14
      go_wp2_with (go_at_call 38; refine (texts_any _ _ _ hs hs').mono ?_; rintro e w' ⟨rfl, hb⟩)
      go_ret
      exact ⟨by rw [hE.out]; rfl, ((below2 w _ _).trans (hb.mono (by simp; omega)))⟩
    · have d2 : (n != n') = true := by simp [h2]
      have hE := Lib.hid (show Vx.cmpV ⟨t, n, s.data.toList⟩ ⟨t', n', s'.data.toList⟩ = Vx.cmpI n n' by
        unfold Vx.cmpV; rw [if_pos (cmpI_zero.2 h1), if_neg (fun h => h2 (cmpI_zero.1 h))])
      clear h1 h2
      go_enter Tryd.func14, Tryd.ntmps14
      go_wp2_with (go_at_call 37; refine (ints_any _ _ _).mono ?_; rintro e w' ⟨rfl, rfl⟩)
      go_ret
      exact ⟨by rw [hE.out]; rfl, (below2 w _ _)⟩
  · have d1 : (t != t') = true := by simp [h1]
    have hE := Lib.hid (show Vx.cmpV ⟨t, n, s.data.toList⟩ ⟨t', n', s'.data.toList⟩ = Vx.cmpI t t' by
      unfold Vx.cmpV; rw [if_neg (fun h => h1 (cmpI_zero.1 h))])
    clear h1
    go_enter Tryd.func14, Tryd.ntmps14
    go_wp2_with (go_at_call 37; refine (ints_any _ _ _).mono ?_; rintro e w' ⟨rfl, rfl⟩)
    go_ret
    exact ⟨by rw [hE.out]; rfl, (below2 w _ _)⟩
set_option maxHeartbeats 1000000 in
theorem compare_any (t n t' n' : Int) (s s' : ByteArray) (w : World) (hs : s.size ≤ 281474976710656) (hs' : s'.size ≤ 281474976710656) :
    Calls Tryd.prog 13 #[.agg #[.int .i64 t, .int .i64 n, .string s], .agg #[.int .i64 t', .int .i64 n', .string s']] w fun e w' => e = .returned (.int .i64 (Vx.cmpV ⟨t, n, s.data.toList⟩ ⟨t', n', s'.data.toList⟩)) ∧ Below w.heap.size w w' := by
  by_cases h1 : t = t'
  · have d1 : (Vx.cmpI t t' != 0) = false := by simp [cmpI_zero.2 h1]
    by_cases h2 : n = n'
    · have d2 : (Vx.cmpI n n' != 0) = false := by simp [cmpI_zero.2 h2]
      have hE := Lib.hid (show Vx.cmpV ⟨t, n, s.data.toList⟩ ⟨t', n', s'.data.toList⟩ = Vx.cmpB s.data.toList s'.data.toList by
        unfold Vx.cmpV; rw [if_pos (cmpI_zero.2 h1), if_pos (cmpI_zero.2 h2)])
      clear h1 h2
      obtain ⟨c1, W1, hc1, hb1, hz1, by1⟩ := conv_any ((w.alloc (.cells #[.int .i64 t, .int .i64 n, .string s] 23)).alloc (.cells #[.int .i64 t', .int .i64 n', .string s'] 23)) s
      have ez : ((w.alloc (.cells #[.int .i64 t, .int .i64 n, .string s] 23)).alloc (.cells #[.int .i64 t', .int .i64 n', .string s'] 23)).heap.size = w.heap.size + 1 + 1 := by simp
      have cell3 : W1.cell? ⟨w.heap.size + 1, 2, none⟩ = some (.string s') := by
        rw [hb1.cell (p := ⟨w.heap.size + 1, 2, none⟩) (by rw [ez]; show w.heap.size + 1 < _; omega)]
        have := (At.new (w.alloc (.cells #[.int .i64 t, .int .i64 n, .string s] 23)) 23 #[.int .i64 t', .int .i64 n', .string s']).cell 2
        simp at this ⊢
      obtain ⟨c2, W2, hc2, hb2, hz2, by2⟩ := conv_any W1 s'
      have by1' := by1.below hb2
      have hbb : Below w.heap.size w W2 := ((below2 w _ _).trans (hb1.mono (by rw [ez]; omega))).trans (hb2.mono (by rw [hz1, ez]; omega))
      rw [ez] at hc1 by1'
      rw [hz1, ez] at hc2 by2
      clear hz1 by1 hb1 hb2 hz2
      have HA := Lib.hid by1'
      have HB := Lib.hid by2
      clear by1' by2
      go_enter Tryd.func13, Tryd.ntmps13
      go_wp2_with (first
        | (go_at_call 33; refine (cmpi_any _ _ _).mono ?_; rintro e w' ⟨rfl, rfl⟩)
        | (go_at_call 34; rw [← size_len s, ← size_len s']; refine (listsb_any _ _ _ _ _ _ _ (by rw [size_len]; omega) (by rw [size_len]; omega) HA.out HB.out).mono ?_; rintro e w' ⟨rfl, rfl⟩))
      go_ret
      exact ⟨by rw [hE.out]; rfl, hbb⟩
    · have d2 : (Vx.cmpI n n' != 0) = true := by simp [cmpI_zero, h2]
      have hE := Lib.hid (show Vx.cmpV ⟨t, n, s.data.toList⟩ ⟨t', n', s'.data.toList⟩ = Vx.cmpI n n' by
        unfold Vx.cmpV; rw [if_pos (cmpI_zero.2 h1), if_neg (fun h => h2 (cmpI_zero.1 h))])
      clear h1 h2
      go_enter Tryd.func13, Tryd.ntmps13
      go_wp2_with (go_at_call 33; refine (cmpi_any _ _ _).mono ?_; rintro e w' ⟨rfl, rfl⟩)
      go_ret
      exact ⟨by rw [hE.out]; rfl, (below2 w _ _)⟩
  · have d1 : (Vx.cmpI t t' != 0) = true := by simp [cmpI_zero, h1]
    have hE := Lib.hid (show Vx.cmpV ⟨t, n, s.data.toList⟩ ⟨t', n', s'.data.toList⟩ = Vx.cmpI t t' by
      unfold Vx.cmpV; rw [if_neg (fun h => h1 (cmpI_zero.1 h))])
    clear h1
    go_enter Tryd.func13, Tryd.ntmps13
    go_wp2_with (go_at_call 33; refine (cmpi_any _ _ _).mono ?_; rintro e w' ⟨rfl, rfl⟩)
    go_ret
    exact ⟨by rw [hE.out]; rfl, (below2 w _ _)⟩
end Go.Proofs.YtagibdofpcbgiaaDoor
