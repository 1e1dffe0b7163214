/- The walks of the comparisons of texts and values. -/
import Derived.Test.YtagibdofpcbgiaaDoorVLeaf
import Derived.Test.YtagibdofpcbgiaaDoorHeld
namespace Go.Proofs.YtagibdofpcbgiaaDoor
set_option linter.unusedVariables false
set_option linter.unusedSimpArgs false
open Go.RowKit
theorem wrap_u8 (c : UInt8) : wrap64 ((c.toNat : Nat) : Int) = (c.toNat : Int) := by
  have := c.toNat_lt
  unfold wrap64; omega
theorem cmpL_same {α : Type} {f : α → α → Int} {a b : List α} {x y : α} {k : Nat} (ha : a[k]? = some x) (hb : b[k]? = some y) (h : f x y = 0) : Vx.cmpL f (a.drop k) (b.drop k) = Vx.cmpL f (a.drop (k + 1)) (b.drop (k + 1)) := by
  obtain ⟨h1, rfl⟩ := List.getElem?_eq_some_iff.1 ha
  obtain ⟨h2, rfl⟩ := List.getElem?_eq_some_iff.1 hb
  rw [List.drop_eq_getElem_cons h1, List.drop_eq_getElem_cons h2, Vx.cmpL, if_pos h]
theorem cmpL_differ {α : Type} {f : α → α → Int} {a b : List α} {x y : α} {k : Nat} (ha : a[k]? = some x) (hb : b[k]? = some y) (h : f x y ≠ 0) : Vx.cmpL f (a.drop k) (b.drop k) = f x y := by
  obtain ⟨h1, rfl⟩ := List.getElem?_eq_some_iff.1 ha
  obtain ⟨h2, rfl⟩ := List.getElem?_eq_some_iff.1 hb
  rw [List.drop_eq_getElem_cons h1, List.drop_eq_getElem_cons h2, Vx.cmpL, if_neg h]
theorem cmpL_end {α : Type} {f : α → α → Int} {a b : List α} {k : Nat} (ha : k ≤ a.length) (hb : k ≤ b.length) (h : k = a.length ∨ k = b.length) : Vx.cmpL f (a.drop k) (b.drop k) = Vx.cmpI a.length b.length := by
  unfold Vx.cmpI
  rcases Nat.lt_trichotomy a.length b.length with hl | hl | hl
  · rw [if_pos (by omega), List.drop_eq_nil_of_le (by omega : a.length ≤ k), List.drop_eq_getElem_cons (by omega : k < b.length)]; rfl
  · rw [if_neg (by omega), if_neg (by omega), List.drop_eq_nil_of_le (by omega : a.length ≤ k), List.drop_eq_nil_of_le (by omega : b.length ≤ k)]; rfl
  · rw [if_neg (by omega), if_pos (by omega), List.drop_eq_nil_of_le (by omega : b.length ≤ k), List.drop_eq_getElem_cons (by omega : k < a.length)]; rfl
theorem cmpI_zero {a b : Int} : Vx.cmpI a b = 0 ↔ a = b := by
  unfold Vx.cmpI; split
  · omega
  · split <;> omega
set_option maxHeartbeats 1000000 in
theorem texts_any (a b : ByteArray) (w : World) (ha : a.size ≤ 9223372036854775807) (hb : b.size ≤ 9223372036854775807) :
    Calls Tryd.prog 38 #[.string a, .string b] w fun e w' => e = .returned (.int .i64 (Vx.cmpB a.data.toList b.data.toList)) ∧ Below w.heap.size w w' := by
  obtain ⟨N, hN⟩ : ∃ N, N = Vx.cmpB (a.data.toList.drop 0) (b.data.toList.drop 0) := ⟨_, rfl⟩
  have hf : Vx.cmpB a.data.toList b.data.toList = N := by rw [hN]; simp
  rw [hf]; clear hf
  have HN := Lib.hid hN
  clear hN
  go_enter Tryd.func38, Tryd.ntmps38
  go_wp2
  go_loopw [5] (fun i wr => ∃ k : Nat, k ≤ a.size ∧ k ≤ b.size ∧ Hid (N = Vx.cmpB (a.data.toList.drop k) (b.data.toList.drop k)) ∧ i = .int .i64 k ∧ Below w.heap.size w wr) (fun i _ => a.size - (intOf i).toNat)
  case atStart => exact ⟨0, by omega, by omega, HN, rfl, Below.refl _ _⟩
  case round =>
    obtain ⟨k, hka, hkb, HK, rfl, hbw⟩ := hrel
    by_cases h1 : k < a.size
    · have d1 : decide ((k : Int) < (a.size : Int)) = true := by simp; omega
      by_cases h2 : k < b.size
      · have d2 : decide ((k : Int) < (b.size : Int)) = true := by simp; omega
        have i0 : (0 : Int) ≤ (k : Int) := by omega
        by_cases he : a[k] = b[k]
        · have hE := Lib.hid (HK.out.trans (cmpL_same (byte_get a k h1) (byte_get b k h2) (cmpI_zero.2 (by rw [he]))))
          have d3 : (((a[k].toNat : Nat) : Int) != ((b[k].toNat : Nat) : Int)) = false := by rw [he]; simp
          clear he
          go_wp2
          go_quiet (fail)
          go_wp2
          go_roundw
          case rel => exact ⟨k + 1, by omega, by omega, hE, by go_num, below_drewN hbw _⟩
          case measure => simp [intOf]; omega
        · have hne : a[k].toNat ≠ b[k].toNat := fun h => he (UInt8.toNat_inj.1 h)
          have hE := Lib.hid (HK.out.trans (cmpL_differ (byte_get a k h1) (byte_get b k h2) (f := Vx.cmpC) (fun h => by have := cmpI_zero.1 h; omega)))
          have d3 : (((a[k].toNat : Nat) : Int) != ((b[k].toNat : Nat) : Int)) = true := by simp; omega
          clear he hne
          go_wp2
          go_quiet (fail)
          go_wp2
          refine wp_region_held w.heap.size w (below_drewN hbw _) (by kernel_rfl) (by kernel_rfl) ?_
          repeat (go_big_quiet_step ((go_at_call 37; exact held_same _ (ints_any _ _ _))))
          refine wpQuiet_nil ?_
          rintro _ ⟨⟨w5, h5⟩, rfl⟩
          go_wp2
          go_ret
          exact ⟨by rw [hE.out, wrap_u8, wrap_u8]; rfl, h5⟩
      · have d2 : decide ((k : Int) < (b.size : Int)) = false := by simp; omega
        have hE := Lib.hid (HK.out.trans (cmpL_end (by rw [size_len]; omega) (by rw [size_len]; omega) (Or.inr (by rw [size_len]; omega))))
        rw [size_len, size_len] at hE
        go_wp2_with (go_at_call 37; refine (ints_any _ _ _).mono ?_; rintro e w' ⟨rfl, rfl⟩)
        go_ret
        exact ⟨by rw [hE.out]; rfl, hbw⟩
    · have d1 : decide ((k : Int) < (a.size : Int)) = false := by simp; omega
      have hE := Lib.hid (HK.out.trans (cmpL_end (by rw [size_len]; omega) (by rw [size_len]; omega) (Or.inl (by rw [size_len]; omega))))
      rw [size_len, size_len] at hE
      go_wp2_with (go_at_call 37; refine (ints_any _ _ _).mono ?_; rintro e w' ⟨rfl, rfl⟩)
      go_ret
      exact ⟨by rw [hE.out]; rfl, hbw⟩
/-- A slice's cells hold these bytes. -/
def Bytes (w : World) (A : Option Addr) (xs : List UInt8) : Prop :=
  xs ≠ [] → ∃ g o, A = some ⟨g, o, none⟩ ∧ g < w.heap.size ∧ ∀ (k : Nat) (x : UInt8), xs[k]? = some x → w.cell? ⟨g, o + k, none⟩ = some (.int .u8 (x.toNat : Int))
theorem Bytes.below {w w' : World} {A : Option Addr} {xs : List UInt8} (h : Bytes w A xs) (hb : Below w.heap.size w w') : Bytes w' A xs := fun hn => by
  obtain ⟨g, o, e, hg, hc⟩ := h hn
  exact ⟨g, o, e, Nat.lt_of_lt_of_le hg hb.size, fun k x hx => (hb.cell hg).trans (hc k x hx)⟩
set_option maxHeartbeats 1000000 in
theorem listsb_any (A B : Option Addr) (c d : Nat) (xs ys : List UInt8) (w : World) (hx : xs.length ≤ 9223372036854775807) (hy : ys.length ≤ 9223372036854775807) (hA : Bytes w A xs) (hB : Bytes w B ys) :
    Calls Tryd.prog 34 #[.slice A xs.length c, .slice B ys.length d, .func (.func 35) #[] #[]] w fun e w' => e = .returned (.int .i64 (Vx.cmpB xs ys)) ∧ w = w' := by
  obtain ⟨N, hN⟩ : ∃ N, N = Vx.cmpB (xs.drop 0) (ys.drop 0) := ⟨_, rfl⟩
  have hf : Vx.cmpB xs ys = N := by rw [hN]; simp
  rw [hf]; clear hf
  have HN := Lib.hid hN
  clear hN
  go_enter Tryd.func34, Tryd.ntmps34
  go_wp2
  go_loop [12] (fun i => ∃ k : Nat, k ≤ xs.length ∧ k ≤ ys.length ∧ Hid (N = Vx.cmpB (xs.drop k) (ys.drop k)) ∧ i = .int .i64 k) (fun i => xs.length - (intOf i).toNat)
  case atStart => exact ⟨0, by omega, by omega, HN, rfl⟩
  case round =>
    obtain ⟨k, hka, hkb, HK, rfl⟩ := hrel
    by_cases h1 : k < xs.length
    · have d1 : decide ((k : Int) < (xs.length : Int)) = true := by simp; omega
      obtain ⟨g, o, rfl, hg, hc⟩ := hA (by intro h; rw [h] at h1; simp at h1)
      have c1 := hc k _ (List.getElem?_eq_getElem h1)
      by_cases h2 : k < ys.length
      · have d2 : ((k : Int) == (ys.length : Int)) = false := beq_eq_false_iff_ne.2 (by omega)
        obtain ⟨g', o', rfl, hg', hc'⟩ := hB (by intro h; rw [h] at h2; simp at h2)
        have c2 := hc' k _ (List.getElem?_eq_getElem h2)
        have e1 := List.getElem?_eq_getElem h1
        have e2 := List.getElem?_eq_getElem h2
        generalize xs[k] = x at *
        generalize ys[k] = y at *
        clear hc hc' hA hB
        cases hz : (Vx.cmpC x y != 0)
        · have h0 : Vx.cmpC x y = 0 := by simpa using hz
          have hE := Lib.hid (HK.out.trans (cmpL_same e1 e2 h0))
          unfold Vx.cmpC at hz h0
          clear e1 e2
          go_wp2_with (go_at_call 35; refine (cmpc_any _ _ _).mono ?_; rintro e w' ⟨rfl, rfl⟩)
          go_round
          case rel => exact ⟨k + 1, by omega, by omega, hE, by go_num⟩
          case measure => simp [intOf]; omega
        · have h0 : Vx.cmpC x y ≠ 0 := by simpa using hz
          have hE := Lib.hid (HK.out.trans (cmpL_differ e1 e2 h0))
          unfold Vx.cmpC at hz h0
          clear e1 e2
          go_wp2_with (go_at_call 35; refine (cmpc_any _ _ _).mono ?_; rintro e w' ⟨rfl, rfl⟩)
          go_ret
          exact ⟨by rw [hE.out]; rfl, rfl⟩
      · have d2 : ((k : Int) == (ys.length : Int)) = true := by rw [beq_iff_eq]; omega
        have hE := Lib.hid (HK.out.trans (cmpL_end (by omega) (by omega) (Or.inr (by omega))))
        go_wp2
        go_ret
        exact ⟨by rw [hE.out]; unfold Vx.cmpI; rw [if_neg (by omega), if_pos (by omega)]; rfl, rfl⟩
    · have d1 : decide ((k : Int) < (xs.length : Int)) = false := by simp; omega
      have hE := Lib.hid (HK.out.trans (cmpL_end (by omega) (by omega) (Or.inl (by omega))))
      go_wp2_with (go_at_call 33; refine (cmpi_any _ _ _).mono ?_; rintro e w' ⟨rfl, rfl⟩)
      go_ret
      exact ⟨by rw [hE.out]; rfl, rfl⟩
end Go.Proofs.YtagibdofpcbgiaaDoor
