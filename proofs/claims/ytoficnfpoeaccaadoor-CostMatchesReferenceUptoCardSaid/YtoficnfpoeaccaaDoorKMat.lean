/- The reference's comparisons of values and of tuples: nought for equal ones alone. -/
import Derived.Test.YtoficnfpoeaccaaDoorKDat
import Derived.Test.YtoficnfpoeaccaaDoorHeld
import Derived.Test.YtoficnfpoeaccaaDoorKStat
import Derived.Test.YtoficnfpoeaccaaDoorKRef6
import Derived.Test.YtoficnfpoeaccaaDoorKRefA
import Derived.Test.YtoficnfpoeaccaaDoorKMono
import Derived.Test.YtoficnfpoeaccaaDoorKBeg1
import Derived.Test.YtoficnfpoeaccaaDoorKGate
import Derived.Test.YtoficnfpoeaccaaDoorKChg
import Derived.Test.YtoficnfpoeaccaaDoorKLit2
import Derived.Test.YtoficnfpoeaccaaDoorKHead
namespace Go.Proofs.YtoficnfpoeaccaaDoor
set_option linter.unusedVariables false
set_option linter.unusedSimpArgs false
open Go.RowKit
namespace Vx
structure V where
  t : Int
  n : Int
  s : List UInt8
def cmpI (a b : Int) : Int := if a < b then -1 else if b < a then 1 else 0
def cmpL {α : Type} (f : α → α → Int) : List α → List α → Int
  | [], [] => 0
  | [], _ :: _ => -1
  | _ :: _, [] => 1
  | a :: x, b :: y => if f a b = 0 then cmpL f x y else f a b
def cmpC (a b : UInt8) : Int := cmpI a.toNat b.toNat
def cmpB (a b : List UInt8) : Int := cmpL cmpC a b
def cmpV (a b : V) : Int := if cmpI a.t b.t = 0 then (if cmpI a.n b.n = 0 then cmpB a.s b.s else cmpI a.n b.n) else cmpI a.t b.t
end Vx
def cmpW (a b : Qu.Vl3) : Int := Vx.cmpV ⟨a.t, a.n, a.s.data.toList⟩ ⟨b.t, b.n, b.s.data.toList⟩
theorem ints02_any (a b : Int) (w : World) : Calls Tryd.prog 67 #[.int .i64 a, .int .i64 b] w fun e w' => e = .returned (.int .i64 (Vx.cmpI a b)) ∧ w = w' := by
  unfold Vx.cmpI
  by_cases h1 : a < b
  · rw [if_pos h1]
    have d1 : decide (a < b) = true := by simp; omega
    go_enter Tryd.func67, Tryd.ntmps67
    go_wp2
    go_ret
    exact ⟨rfl, rfl⟩
  · rw [if_neg h1]
    have d1 : decide (a < b) = false := by simp; omega
    by_cases h2 : b < a
    · rw [if_pos h2]
      have d2 : decide (b < a) = true := by simp; omega
      go_enter Tryd.func67, Tryd.ntmps67
      go_wp2
      go_ret
      exact ⟨rfl, rfl⟩
    · rw [if_neg h2]
      have d2 : decide (b < a) = false := by simp; omega
      go_enter Tryd.func67, Tryd.ntmps67
      go_wp2
      go_ret
      exact ⟨rfl, rfl⟩
theorem wrap_u8 (c : UInt8) : wrap64 ((c.toNat : Nat) : Int) = (c.toNat : Int) := by
  have := c.toNat_lt
  unfold wrap64; omega
theorem cmpL_same {α : Type} {f : α → α → Int} {a b : List α} {x y : α} {k : Nat} (ha : a[k]? = some x) (hb : b[k]? = some y) (h : f x y = 0) : Vx.cmpL f (a.drop k) (b.drop k) = Vx.cmpL f (a.drop (k + 1)) (b.drop (k + 1)) := by
  obtain ⟨h1, rfl⟩ := List.getElem?_eq_some_iff.1 ha
  obtain ⟨h2, rfl⟩ := List.getElem?_eq_some_iff.1 hb
  rw [List.drop_eq_getElem_cons h1, List.drop_eq_getElem_cons h2, Vx.cmpL, if_pos h]
theorem cmpL_differ {α : Type} {f : α → α → Int} {a b : List α} {x y : α} {k : Nat} (ha : a[k]? = some x) (hb : b[k]? = some y) (h : f x y ≠ 0) : Vx.cmpL f (a.drop k) (b.drop k) = f x y := by
  obtain ⟨h1, rfl⟩ := List.getElem?_eq_some_iff.1 ha
  obtain ⟨h2, rfl⟩ := List.getElem?_eq_some_iff.1 hb
  rw [List.drop_eq_getElem_cons h1, List.drop_eq_getElem_cons h2, Vx.cmpL, if_neg h]
theorem cmpL_end {α : Type} {f : α → α → Int} {a b : List α} {k : Nat} (ha : k ≤ a.length) (hb : k ≤ b.length) (h : k = a.length ∨ k = b.length) : Vx.cmpL f (a.drop k) (b.drop k) = Vx.cmpI a.length b.length := by
  unfold Vx.cmpI
  rcases Nat.lt_trichotomy a.length b.length with hl | hl | hl
  · rw [if_pos (by omega), List.drop_eq_nil_of_le (by omega : a.length ≤ k), List.drop_eq_getElem_cons (by omega : k < b.length)]; rfl
  · rw [if_neg (by omega), if_neg (by omega), List.drop_eq_nil_of_le (by omega : a.length ≤ k), List.drop_eq_nil_of_le (by omega : b.length ≤ k)]; rfl
  · rw [if_neg (by omega), if_pos (by omega), List.drop_eq_nil_of_le (by omega : b.length ≤ k), List.drop_eq_getElem_cons (by omega : k < a.length)]; rfl
theorem cmpI_zero {a b : Int} : Vx.cmpI a b = 0 ↔ a = b := by
  unfold Vx.cmpI; split
  · omega
  · split <;> omega
theorem cmpL_zero {α : Type} {f : α → α → Int} (h : ∀ a b, f a b = 0 ↔ a = b) : ∀ (x y : List α), Vx.cmpL f x y = 0 ↔ x = y
  | [], [] => by simp [Vx.cmpL]
  | [], _ :: _ => by simp [Vx.cmpL]
  | _ :: _, [] => by simp [Vx.cmpL]
  | a :: x, b :: y => by
    unfold Vx.cmpL
    by_cases e : f a b = 0
    · rw [if_pos e, cmpL_zero h x y, (h a b).1 e]; simp
    · rw [if_neg e]
      exact ⟨fun h2 => absurd h2 e, fun h2 => by injection h2 with h3 _; exact absurd ((h a b).2 h3) e⟩
theorem cmpC_zero (a b : UInt8) : Vx.cmpC a b = 0 ↔ a = b := by
  unfold Vx.cmpC
  rw [cmpI_zero]
  exact ⟨fun h => UInt8.toNat_inj.1 (by omega), fun h => by rw [h]⟩
theorem cmpW_zero (a b : Qu.Vl3) : cmpW a b = 0 ↔ a = b := by
  obtain ⟨t, n, s⟩ := a
  obtain ⟨t', n', s'⟩ := b
  unfold cmpW Vx.cmpV
  dsimp only
  by_cases h1 : Vx.cmpI t t' = 0
  · rw [if_pos h1]
    have e1 := cmpI_zero.1 h1
    by_cases h2 : Vx.cmpI n n' = 0
    · rw [if_pos h2]
      have e2 := cmpI_zero.1 h2
      unfold Vx.cmpB
      rw [cmpL_zero cmpC_zero, ← str_eq, e1, e2]
      simp
    · rw [if_neg h2]
      exact ⟨fun h => absurd h h2, fun h => by injection h with _ h3 _; exact absurd (cmpI_zero.2 h3) h2⟩
  · rw [if_neg h1]
    exact ⟨fun h => absurd h h1, fun h => by injection h with h3 _ _; exact absurd (cmpI_zero.2 h3) h1⟩
set_option maxHeartbeats 1000000 in
theorem texts02_any (a b : ByteArray) (w : World) (ha : a.size ≤ 9223372036854775807) (hb : b.size ≤ 9223372036854775807) :
    Calls Tryd.prog 75 #[.string a, .string b] w fun e w' => e = .returned (.int .i64 (Vx.cmpB a.data.toList b.data.toList)) ∧ Below w.heap.size w w' := by
  obtain ⟨N, hN⟩ : ∃ N, N = Vx.cmpB (a.data.toList.drop 0) (b.data.toList.drop 0) := ⟨_, rfl⟩
  have hf : Vx.cmpB a.data.toList b.data.toList = N := by rw [hN]; simp
  rw [hf]; clear hf
  have HN := Lib.hid hN
  clear hN
  go_enter Tryd.func75, Tryd.ntmps75
  go_wp2
  go_loopw [5] (fun i wr => ∃ k : Nat, k ≤ a.size ∧ k ≤ b.size ∧ Hid (N = Vx.cmpB (a.data.toList.drop k) (b.data.toList.drop k)) ∧ i = .int .i64 k ∧ Below w.heap.size w wr) (fun i _ => a.size - (intOf i).toNat)
  case atStart => exact ⟨0, by omega, by omega, HN, rfl, Below.refl _ _⟩
  case round =>
    obtain ⟨k, hka, hkb, HK, rfl, hbw⟩ := hrel
    by_cases h1 : k < a.size
    · have d1 : decide ((k : Int) < (a.size : Int)) = true := by simp; omega
      by_cases h2 : k < b.size
      · have d2 : decide ((k : Int) < (b.size : Int)) = true := by simp; omega
        have i0 : (0 : Int) ≤ (k : Int) := by omega
        by_cases he : a[k] = b[k]
        · have hE := Lib.hid (HK.out.trans (cmpL_same (byte_get a k h1) (byte_get b k h2) (cmpI_zero.2 (by rw [he]))))
          have d3 : (((a[k].toNat : Nat) : Int) != ((b[k].toNat : Nat) : Int)) = false := by rw [he]; simp
          clear he
          go_wp2
          go_quiet (fail)
          go_wp2
          go_roundw
          case rel => exact ⟨k + 1, by omega, by omega, hE, by go_num, below_drewN hbw _⟩
          case measure => simp [intOf]; omega
        · have hne : a[k].toNat ≠ b[k].toNat := fun h => he (UInt8.toNat_inj.1 h)
          have hE := Lib.hid (HK.out.trans (cmpL_differ (byte_get a k h1) (byte_get b k h2) (f := Vx.cmpC) (fun h => by have := cmpI_zero.1 h; omega)))
          have d3 : (((a[k].toNat : Nat) : Int) != ((b[k].toNat : Nat) : Int)) = true := by simp; omega
          clear he hne
          go_wp2
          go_quiet (fail)
          go_wp2
          refine wp_region_held w.heap.size w (below_drewN hbw _) (by kernel_rfl) (by kernel_rfl) ?_
          repeat (go_big_quiet_step ((go_at_call 67; exact held_same _ (ints02_any _ _ _))))
          refine wpQuiet_nil ?_
          rintro _ ⟨⟨w5, h5⟩, rfl⟩
          go_wp2
          go_ret
          exact ⟨by rw [hE.out, wrap_u8, wrap_u8]; rfl, h5⟩
      · have d2 : decide ((k : Int) < (b.size : Int)) = false := by simp; omega
        have hE := Lib.hid (HK.out.trans (cmpL_end (by rw [size_len]; omega) (by rw [size_len]; omega) (Or.inr (by rw [size_len]; omega))))
        rw [size_len, size_len] at hE
        go_wp2_with (go_at_call 67; refine (ints02_any _ _ _).mono ?_; rintro e w' ⟨rfl, rfl⟩)
        go_ret
        exact ⟨by rw [hE.out]; rfl, hbw⟩
    · have d1 : decide ((k : Int) < (a.size : Int)) = false := by simp; omega
      have hE := Lib.hid (HK.out.trans (cmpL_end (by rw [size_len]; omega) (by rw [size_len]; omega) (Or.inl (by rw [size_len]; omega))))
      rw [size_len, size_len] at hE
      go_wp2_with (go_at_call 67; refine (ints02_any _ _ _).mono ?_; rintro e w' ⟨rfl, rfl⟩)
      go_ret
      exact ⟨by rw [hE.out]; rfl, hbw⟩
theorem below2 (w : World) (o o' : Obj) : Below w.heap.size w ((w.alloc o).alloc o') := ((Below.refl _ w).alloc (Nat.le_refl _) _).alloc (by simp) _
set_option maxHeartbeats 1000000 in
theorem compare02_any (t n t' n' : Int) (s s' : ByteArray) (w : World) (hs : s.size ≤ 9223372036854775807) (hs' : s'.size ≤ 9223372036854775807) :
    Calls Tryd.prog 66 #[.agg #[.int .i64 t, .int .i64 n, .string s], .agg #[.int .i64 t', .int .i64 n', .string s']] w fun e w' => e = .returned (.int .i64 (Vx.cmpV ⟨t, n, s.data.toList⟩ ⟨t', n', s'.data.toList⟩)) ∧ Below w.heap.size w w' := by
  by_cases h1 : t = t'
  · have d1 : (t != t') = false := by simp [h1]
    by_cases h2 : n = n'
    · have d2 : (n != n') = false := by simp [h2]
      have hE := Lib.hid (show Vx.cmpV ⟨t, n, s.data.toList⟩ ⟨t', n', s'.data.toList⟩ = Vx.cmpB s.data.toList s'.data.toList by
        unfold Vx.cmpV; rw [if_pos (cmpI_zero.2 h1), if_pos (cmpI_zero.2 h2)])
      clear h1 h2
      go_enter Tryd.func66, Tryd.ntmps66
      go_wp2_with (go_at_call 75; refine (texts02_any _ _ _ hs hs').mono ?_; rintro e w' ⟨rfl, hb⟩)
      go_ret
      exact ⟨by rw [hE.out]; rfl, ((below2 w _ _).trans (hb.mono (by simp; omega)))⟩
    · have d2 : (n != n') = true := by simp [h2]
      have hE := Lib.hid (show Vx.cmpV ⟨t, n, s.data.toList⟩ ⟨t', n', s'.data.toList⟩ = Vx.cmpI n n' by
        unfold Vx.cmpV; rw [if_pos (cmpI_zero.2 h1), if_neg (fun h => h2 (cmpI_zero.1 h))])
      clear h1 h2
      go_enter Tryd.func66, Tryd.ntmps66
      go_wp2_with (go_at_call 67; refine (ints02_any _ _ _).mono ?_; rintro e w' ⟨rfl, rfl⟩)
      go_ret
      exact ⟨by rw [hE.out]; rfl, (below2 w _ _)⟩
  · have d1 : (t != t') = true := by simp [h1]
    have hE := Lib.hid (show Vx.cmpV ⟨t, n, s.data.toList⟩ ⟨t', n', s'.data.toList⟩ = Vx.cmpI t t' by
      unfold Vx.cmpV; rw [if_neg (fun h => h1 (cmpI_zero.1 h))])
    clear h1
    go_enter Tryd.func66, Tryd.ntmps66
    go_wp2_with (go_at_call 67; refine (ints02_any _ _ _).mono ?_; rintro e w' ⟨rfl, rfl⟩)
    go_ret
    exact ⟨by rw [hE.out]; rfl, (below2 w _ _)⟩
set_option maxHeartbeats 1000000 in
theorem ctuple02_any (A B : Option Addr) (c d : Nat) (xs ys : List Qu.Vl3) (w : World) (hx : xs.length ≤ 281474976710656) (hy : ys.length ≤ 281474976710656) (hA : Str w A 3 (xs.map Qu.Vl3.fs)) (hB : Str w B 3 (ys.map Qu.Vl3.fs)) (fx : ∀ v ∈ xs, v.s.size ≤ 281474976710656) (fy : ∀ v ∈ ys, v.s.size ≤ 281474976710656) :
    Calls Tryd.prog 51 #[.slice A xs.length c, .slice B ys.length d] w fun e w' => e = .returned (.int .i64 (Vx.cmpL cmpW xs ys)) ∧ Below w.heap.size w w' := by
  obtain ⟨N, hN⟩ : ∃ N, N = Vx.cmpL cmpW (xs.drop 0) (ys.drop 0) := ⟨_, rfl⟩
  have hf : Vx.cmpL cmpW xs ys = N := by rw [hN]; simp
  rw [hf]; clear hf
  have HN := Lib.hid hN
  clear hN
  go_enter Tryd.func51, Tryd.ntmps51
  go_wp2
  go_loopw [5] (fun i wr => ∃ k : Nat, k ≤ xs.length ∧ k ≤ ys.length ∧ Hid (N = Vx.cmpL cmpW (xs.drop k) (ys.drop k)) ∧ i = .int .i64 k ∧ Below w.heap.size w wr) (fun i _ => xs.length - (intOf i).toNat)
  case atStart => exact ⟨0, by omega, by omega, HN, rfl, Below.refl _ _⟩
  case round =>
    obtain ⟨k, hka, hkb, HK, rfl, hbw⟩ := hrel
    by_cases h1 : k < xs.length
    · have d1 : decide ((k : Int) < (xs.length : Int)) = true := by simp; omega
      by_cases h2 : k < ys.length
      · have d2 : decide ((k : Int) < (ys.length : Int)) = true := by simp; omega
        obtain ⟨g, o, rfl, hg, a0, a1, a2⟩ := vl_cells hA (List.getElem?_eq_getElem h1)
        obtain ⟨g', o', rfl, hg', b0, b1, b2⟩ := vl_cells hB (List.getElem?_eq_getElem h2)
        have e1 := List.getElem?_eq_getElem h1
        have e2 := List.getElem?_eq_getElem h2
        have F1 := Lib.hid (fx _ (List.getElem_mem h1))
        have F2 := Lib.hid (fy _ (List.getElem_mem h2))
        generalize xs[k] = x at *
        generalize ys[k] = y at *
        have i0 : (0 : Int) ≤ (k : Int) := by omega
        have k1 : (k : Int) < (xs.length : Int) := by omega
        have k2 : (k : Int) < (ys.length : Int) := by omega
        have f0 : ∀ z : Held w.heap.size w, z.w.cell? ⟨g, o + k * 3, none⟩ = some (.int .i64 x.t) := fun z => z.cell hg a0
        have f1 : ∀ z : Held w.heap.size w, z.w.cell? ⟨g, o + k * 3 + 1, none⟩ = some (.int .i64 x.n) := fun z => z.cell hg a1
        have f2 : ∀ z : Held w.heap.size w, z.w.cell? ⟨g, o + k * 3 + 2, none⟩ = some (.string x.s) := fun z => z.cell hg a2
        have g0 : ∀ z : Held w.heap.size w, z.w.cell? ⟨g', o' + k * 3, none⟩ = some (.int .i64 y.t) := fun z => z.cell hg' b0
        have g1 : ∀ z : Held w.heap.size w, z.w.cell? ⟨g', o' + k * 3 + 1, none⟩ = some (.int .i64 y.n) := fun z => z.cell hg' b1
        have g2 : ∀ z : Held w.heap.size w, z.w.cell? ⟨g', o' + k * 3 + 2, none⟩ = some (.string y.s) := fun z => z.cell hg' b2
        clear a0 a1 a2 b0 b1 b2 hA hB
        have ht : (k : Int).toNat = k := by simp
        cases hz : (cmpW x y != 0)
        · have hz2 : (Vx.cmpV ⟨x.t, x.n, x.s.data.toList⟩ ⟨y.t, y.n, y.s.data.toList⟩ != 0) = false := hz
          have hE := Lib.hid (HK.out.trans (cmpL_same e1 e2 (by simpa using hz)))
          clear e1 e2
          go_wp2
          refine wp_region_held w.heap.size w hbw (by kernel_rfl) (by kernel_rfl) ?_
          repeat (go_big_quiet_step ((go_at_call 66; exact held_call _ (Nat.le_refl _) (compare02_any x.t x.n y.t y.n x.s y.s _ (by have := F1.out; omega) (by have := F2.out; omega)))))
          refine wpQuiet_nil ?_
          rintro _ ⟨⟨w5, h5⟩, rfl⟩
          clear f0 f1 f2 g0 g1 g2
          go_wp2
          go_roundw
          case rel => exact ⟨k + 1, by omega, by omega, hE, by go_num, h5⟩
          case measure => simp [intOf]; omega
        · have hz2 : (Vx.cmpV ⟨x.t, x.n, x.s.data.toList⟩ ⟨y.t, y.n, y.s.data.toList⟩ != 0) = true := hz
          have hE := Lib.hid (HK.out.trans (cmpL_differ e1 e2 (by simpa using hz)))
          clear e1 e2
          go_wp2
          refine wp_region_held w.heap.size w hbw (by kernel_rfl) (by kernel_rfl) ?_
          repeat (go_big_quiet_step ((go_at_call 66; exact held_call _ (Nat.le_refl _) (compare02_any x.t x.n y.t y.n x.s y.s _ (by have := F1.out; omega) (by have := F2.out; omega)))))
          refine wpQuiet_nil ?_
          rintro _ ⟨⟨w5, h5⟩, rfl⟩
          clear f0 f1 f2 g0 g1 g2
          go_wp2
          go_ret
          exact ⟨by rw [hE.out]; rfl, h5⟩
      · have d2 : decide ((k : Int) < (ys.length : Int)) = false := by simp; omega
        have hE := Lib.hid (HK.out.trans (cmpL_end (by omega) (by omega) (Or.inr (by omega))))
        go_wp2_with (go_at_call 67; refine (ints02_any _ _ _).mono ?_; rintro e w' ⟨rfl, rfl⟩)
        go_ret
        exact ⟨by rw [hE.out]; rfl, hbw⟩
    · have d1 : decide ((k : Int) < (xs.length : Int)) = false := by simp; omega
      have hE := Lib.hid (HK.out.trans (cmpL_end (by omega) (by omega) (Or.inl (by omega))))
      go_wp2_with (go_at_call 67; refine (ints02_any _ _ _).mono ?_; rintro e w' ⟨rfl, rfl⟩)
      go_ret
      exact ⟨by rw [hE.out]; rfl, hbw⟩
end Go.Proofs.YtoficnfpoeaccaaDoor
namespace Go.Proofs.YtoficnfpoeaccaaDoor
set_option linter.unusedVariables false
set_option linter.unusedSimpArgs false
open Go.RowKit
/-- The rows that are picked: each tuple of the right length once. -/
def Picks (L rows : List Rw) (tn : Nat) : Prop := (L.map Rw.args).Nodup ∧ (∀ a, a ∈ L.map Rw.args ↔ a ∈ goodOf rows tn) ∧ ∀ r ∈ L, r ∈ rows
theorem Picks.start (tn : Nat) (rows : List Rw) : Picks [] (rows.take 0) tn := ⟨List.nodup_nil, fun a => by simp [goodOf], fun r h => by cases h⟩
theorem own_hc {w : World} {B c n : Nat} {A : Option Addr} {R : List Rw} (h : w.ownsRow B 73 1 (.slice A n c) n (hcells R)) {k : Nat} {r : Rw} (hk : R[k]? = some r) : ∃ g, A = some ⟨g, 0, none⟩ ∧ g < w.heap.size ∧ w.cell? ⟨g, k, none⟩ = some (.slice r.aa r.args.length r.ac) := by
  obtain ⟨A', c', e, _, _, h0⟩ := own_cells h
  injection e with e1 _ _
  subst e1
  have hlt := (List.getElem?_eq_some_iff.1 hk).1
  rcases h0 with h0 | ⟨g, rfl, _, hg, hc⟩
  · have := h.1
    unfold hcells at this
    rw [List.length_map] at this
    omega
  · exact ⟨g, rfl, hg, hc k _ (by unfold hcells; rw [List.getElem?_map, hk]; rfl)⟩
theorem Str.below' {w W : World} {A : Option Addr} {k : Nat} {xs : List (List Value)} (h : Str w A k xs) (hb : Below w.heap.size w W) : Str W A k xs := h.below hb
theorem mem_more {rows : List Rw} {k : Nat} {r : Rw} (h : r ∈ rows.take k) : r ∈ rows.take (k + 1) := by
  rw [List.take_add_one]; exact List.mem_append_left _ h
/-- A row that is not fresh is passed over. -/
theorem Picks.skip {L rows : List Rw} {k tn m : Nat} {x : Rw} {fr : Bool} (h : Picks L (rows.take k) tn) (hx : rows[k]? = some x) (hf : decide (x.args.length = tn) = fr) (hq : (fr && (L.take m).all fun r => decide (r.args ≠ x.args)) = false) : Picks L (rows.take (k + 1)) tn := by
  refine ⟨h.1, fun a => ?_, fun r hr => mem_more (h.2.2 r hr)⟩
  rw [h.2.1 a]
  by_cases e : x.args.length = tn
  · rw [good_more hx e, List.mem_append, List.mem_singleton]
    refine ⟨Or.inl, fun h2 => h2.elim id fun e2 => ?_⟩
    rw [decide_eq_true e] at hf
    rw [← hf, Bool.true_and, List.all_eq_false] at hq
    obtain ⟨r, hr, hne⟩ := hq
    rw [e2, ← h.2.1]
    have : r.args = x.args := by simpa using hne
    rw [← this]
    exact List.mem_map.2 ⟨r, List.mem_of_mem_take hr, rfl⟩
  · rw [good_skip hx e]
/-- A fresh row is picked. -/
theorem Picks.more {L rows : List Rw} {k tn : Nat} {x : Rw} {fr : Bool} (h : Picks L (rows.take k) tn) (hx : rows[k]? = some x) (hf : decide (x.args.length = tn) = fr) (hq : (fr && L.all fun r => decide (r.args ≠ x.args)) = true) : Picks (L ++ [x]) (rows.take (k + 1)) tn := by
  rw [Bool.and_eq_true, List.all_eq_true] at hq
  rw [hq.1] at hf
  have e := of_decide_eq_true hf
  refine ⟨?_, fun a => ?_, fun r hr => ?_⟩
  · rw [List.map_append, List.nodup_append]
    refine ⟨h.1, by simp, fun a ha b hb => ?_⟩
    obtain ⟨r, hr, rfl⟩ := List.mem_map.1 ha
    have hb : b = x.args := by simpa using hb
    rw [hb]
    exact of_decide_eq_true (hq.2 r hr)
  · rw [good_more hx e, List.map_append, List.mem_append, List.mem_append, h.2.1 a]
    simp
  · rcases List.mem_append.1 hr with hr | hr
    · exact mem_more (h.2.2 r hr)
    · obtain rfl := List.mem_singleton.1 hr
      rw [take_more hx]; simp
set_option maxHeartbeats 2000000 in
set_option maxRecDepth 100000 in
theorem rows16_any (pm : Pm) (d : Da) (p : Nat) (pd : Pd) (w : World) (hpm : PmOk w pm) (hd : DaOk w d) (hl : Lit d) (hp : pm.preds[p]? = some pd) (hn : pm.preds.length ≤ 30) :
    Calls Tryd.prog 29 #[pm.v, d.v, .int .i64 (p : Int)] w fun e w' => (∃ (A : Option Addr) (c : Nat) (L : List Rw), e = .returned (.slice A L.length c) ∧ w'.ownsRow w.heap.size 73 1 (.slice A L.length c) L.length (hcells L) ∧ Picks L (rowsOf d pd p) pd.tn) ∧ Below w.heap.size w w' := by
  have HRK := Lib.hid (rowsOf_ok hd hl pd p).2
  obtain ⟨lt, fn, pa, pc, preds, ru⟩ := pm
  obtain ⟨ra, rc, rels, la, lc, lats⟩ := d
  obtain ⟨iI, hi0, hi1, hi2, hi3⟩ := info_parts vals_info
  have HP := Lib.hid (fun W (h : Below w.heap.size w W) => (hpm.preds).below h)
  have HD := Lib.hid (fun W (h : Below w.heap.size w W) => hd.below h)
  have HLT := Lib.hid hl
  have HPD := Lib.hid hp
  unfold Pm.v Da.v
  dsimp only at *
  have hw0 : Below w.heap.size w ((w.alloc (.cells #[.slice lt.a lt.n lt.c, .slice fn.a fn.n fn.c, .slice pa preds.length pc, .slice ru.a ru.n ru.c] 27)).alloc (.cells #[.slice ra rels.length rc, .slice la lats.length lc] 31)) := (below1 _ _).alloc (by simp) _
  have hbx : At ((w.alloc (.cells #[.slice lt.a lt.n lt.c, .slice fn.a fn.n fn.c, .slice pa preds.length pc, .slice ru.a ru.n ru.c] 27)).alloc (.cells #[.slice ra rels.length rc, .slice la lats.length lc] 31)) w.heap.size 27 #[.slice lt.a lt.n lt.c, .slice fn.a fn.n fn.c, .slice pa preds.length pc, .slice ru.a ru.n ru.c] := (At.new w _ _).alloc _
  have hby : At ((w.alloc (.cells #[.slice lt.a lt.n lt.c, .slice fn.a fn.n fn.c, .slice pa preds.length pc, .slice ru.a ru.n ru.c] 27)).alloc (.cells #[.slice ra rels.length rc, .slice la lats.length lc] 31)) (w.heap.size + 1) 31 #[.slice ra rels.length rc, .slice la lats.length lc] := At.newAt (by simp) _ _
  obtain ⟨gp, op, hpa, hgp, x1, x3⟩ := pd_cells (HP.out _ hw0) hp
  have HPA := Lib.hid hpa
  subst hpa
  have i0 : (0 : Int) ≤ (p : Int) := by omega
  have i1 : (p : Int) < (preds.length : Int) := by have := (List.getElem?_eq_some_iff.1 hp).1; omega
  have pz : decide ((p : Int) < 0) = false := by simp
  have pl : decide ((preds.length : Int) ≤ (p : Int)) = false := by simp; omega
  have pn : decide (preds.length ≤ p) = false := by simp; omega
  clear hpm hd hl hp
  by_cases hof : 0 ≤ pd.of
  · have t1 : decide (0 ≤ pd.of) = true := decide_eq_true hof
    have HOF := Lib.hid (show (0 ≤ pd.of) = True from eq_true hof)
    clear hof
    by_cases hp : p < lats.length
    · have t3 : decide ((p : Int) < (lats.length : Int)) = true := decide_eq_true (by omega)
      have n3 : decide (p < lats.length) = true := decide_eq_true hp
      obtain ⟨x, hx⟩ : ∃ x, lats[p]? = some x := ⟨_, List.getElem?_eq_getElem hp⟩
      have HRW := Lib.hid (show rowsOf ⟨ra, rc, rels, la, lc, lats⟩ pd p = x.rows by
        unfold rowsOf
        simp only [HOF.out, if_true, if_false]
        rw [hx]
        rfl)
      rw [HRW.out] at HRK ⊢
      have hm := List.mem_of_getElem? hx
      have hl60 := (HLT.out.r2 x hm).1
      have HLC := Lib.hid (fun W (h : Below w.heap.size w W) => re_cells (HD.out W h).lats hx)
      have HXR := Lib.hid (fun W (h : Below w.heap.size w W) => ((HD.out W h).eachL x hm).rows)
      have i2 : (p : Int) < (lats.length : Int) := by omega
      have HBX := Lib.hid hbx
      have HBY := Lib.hid hby
      have HW0 := Lib.hid hw0
      clear hx hm hp HPA
      go_enter Tryd.func29, Tryd.ntmps29
      go_wp2_with fail
      clear hbx hby hw0 hgp x1 x3
      go_loopw [7, 8] (fun v i wr => ∃ (k : Nat) (A : Option Addr) (c : Nat), k ≤ x.rows.length ∧ i = .int .i64 k ∧ v = .slice A k c ∧ wr.ownsRow w.heap.size 73 1 (.slice A k c) k (hcells (x.rows.take k)) ∧ At wr w.heap.size 27 #[.slice lt.a lt.n lt.c, .slice fn.a fn.n fn.c, .slice (some ⟨gp, op, none⟩) preds.length pc, .slice ru.a ru.n ru.c] ∧ At wr (w.heap.size + 1) 31 #[.slice ra rels.length rc, .slice la lats.length lc] ∧ Below w.heap.size w wr) (fun _ i _ => x.rows.length - (intOf i).toNat)
      case atStart => exact ⟨0, none, 0, by omega, rfl, rfl, ⟨by simp [hcells], Or.inl ⟨rfl, by simp [hcells]⟩⟩, HBX.out, HBY.out, HW0.out⟩
      case round =>
        obtain ⟨k, A1, c1, hk, rfl, rfl, ho, hbx, hby, hw⟩ := hrel
        have hsz := hw.size
        obtain ⟨gl, ol, hla, hgl, l0⟩ := HLC.out wr hw
        have b1 : wr.cell? ⟨w.heap.size + 1, 1, none⟩ = some (.slice la lats.length lc) := hby.cell 1
        have HLA := Lib.hid hla
        rw [hla] at b1
        clear hla
        by_cases h1 : k < x.rows.length
        · have d1 : decide ((k : Int) < (x.rows.length : Int)) = true := by simp; omega
          obtain ⟨r, hr⟩ : ∃ r, x.rows[k]? = some r := ⟨_, List.getElem?_eq_getElem h1⟩
          obtain ⟨gr, og, hga, hgr, r0, r1⟩ := rw_cells (HXR.out wr hw) hr
          have j0 : (0 : Int) ≤ (k : Int) := by omega
          have j1 : (k : Int) < (x.rows.length : Int) := by omega
          have HSN := Lib.hid (hcells_snoc hr)
          have HGA := Lib.hid hga
          rw [hga] at l0
          have HBX1 := Lib.hid hbx
          have HBY1 := Lib.hid hby
          clear hr hga hbx hby
          go_wp2_with (at_builtin; refine wpList_append_own _ rfl _ _ 85 rfl w.heap.size 73 iI (.slice none 0 0) 1 24 Tryd.underlying85 hi0 hi1 hi2 hi3 rfl (by decide) _ _ _ rfl (ho.alloc _) ⟨wr.heap.size, 0, none⟩ 1 1 [.slice r.aa r.args.length r.ac] rfl rfl ?c1 ?c2 ?c3 ?c4 ?c5 ?_)
          case c1 => exact At.news (xs := [.slice r.aa r.args.length r.ac]) (At.newAt (by simp) _ _)
          case c2 => exact one1 rfl
          case c3 => simp [maxLen]; omega
          case c4 => omega
          case c5 => simp; omega
          intro v3 w3 o3 g3 _
          obtain ⟨A3, c3, rfl⟩ := own_len o3
          replace o3 : w3.ownsRow w.heap.size 73 1 (.slice A3 (k + 1) c3) (k + 1) (hcells (x.rows.take (k + 1))) := by rw [HSN.out]; exact o3
          have hb3 := (hw.alloc hsz (.cells #[.slice r.aa r.args.length r.ac] 73)).grown g3 (by simp; omega) (fun q hq => by have := (own_lt ho hq).1; omega)
          have hal := ho.alloc (.cells #[.slice r.aa r.args.length r.ac] 73)
          have hbx3 := (HBX1.out.alloc _).grown g3 (own_far hal (HBX1.out.alloc _) (by decide))
          have hby3 := (HBY1.out.alloc _).grown g3 (own_far hal (HBY1.out.alloc _) (by decide))
          go_wp2_with fail
          go_roundw
          case rel => exact ⟨k + 1, A3, c3, by omega, by go_num, rfl, o3, hbx3, hby3, hb3⟩
          case measure => simp [intOf]; omega
        · have d1 : decide ((k : Int) < (x.rows.length : Int)) = false := by simp; omega
          obtain ⟨w2, hw2e⟩ : ∃ w2, w2 = wr := ⟨_, rfl⟩
          subst hw2e
          have HO := Lib.hid (show w2.ownsRow w.heap.size 73 1 (.slice A1 k c1) k (hcells x.rows) by
            have h := ho
            rw [List.take_of_length_le (by omega)] at h
            exact h)
          have hw2 := hw
          have HBX := Lib.hid hbx
          obtain rfl : k = x.rows.length := by omega
          clear ho hbx hby
          go_wp2_with fail
          have HALL := Lib.hid (fun W (h : Below w2.heap.size w2 W) => own_below HO.out h)
          have HBX2 := Lib.hid (fun W (h : Below w2.heap.size w2 W) => HBX.out.next h)
          have hs2 := hw2.size
          have HW2 := Lib.hid hw2
          clear HBX HO
          go_loopw [10, 11, 12, 13] (fun ov i _ _ wr => ∃ (k : Nat) (A : Option Addr) (c : Nat) (L : List Rw), k ≤ x.rows.length ∧ i = .int .i64 k ∧ ov = .slice A L.length c ∧ wr.ownsRow w2.heap.size 73 1 (.slice A L.length c) L.length (hcells L) ∧ Hid (Picks L ((x.rows).take k) pd.tn) ∧ L.length ≤ k ∧ Below w2.heap.size w2 wr) (fun _ i _ _ _ => x.rows.length - (intOf i).toNat)
          case atStart => exact ⟨0, none, 0, [], by omega, rfl, rfl, ⟨by simp [hcells], Or.inl ⟨rfl, by simp [hcells]⟩⟩, Lib.hid (Picks.start _ _), Nat.le_refl _, Below.refl _ _⟩
          case round =>
            obtain ⟨k, A, c, L, hk, rfl, rfl, ho, HPK, hLk, hw⟩ := hrel
            obtain ⟨wo, hwo⟩ : ∃ wo, wo = wr := ⟨_, rfl⟩
            subst hwo
            have hwo : Below w.heap.size w wo := HW2.out.trans (hw.mono hs2)
            have hso := hw.size
            by_cases h1 : k < x.rows.length
            · have d1 : decide ((k : Int) < (x.rows.length : Int)) = true := decide_eq_true (by omega)
              have i0 : (0 : Int) ≤ (k : Int) := by omega
              have i1 : (k : Int) < (x.rows.length : Int) := by omega
              obtain ⟨u, hu⟩ : ∃ u, (x.rows)[k]? = some u := ⟨_, List.getElem?_eq_getElem h1⟩
              have hu8 := HRK.out u (List.mem_of_getElem? hu)
              obtain ⟨ga, hga1, hga, y0⟩ := own_hc (HALL.out wo hw) hu
              have HXX := Lib.hid hu
              subst hga1
              obtain ⟨gp2, op2, hpa, hgp, x1, x3⟩ := pd_cells (HP.out _ hwo) HPD.out
              obtain ⟨rfl, rfl⟩ : gp = gp2 ∧ op = op2 := by injection hpa with h; injection h with h1 h2; exact ⟨h1, h2⟩
              have p2 := (HBX2.out wo hw).cell 2
              simp only [List.getElem?_toArray, List.getElem?_cons_zero, List.getElem?_cons_succ] at p2
              have f0 : ∀ z : Held wo.heap.size wo, z.w.cell? ⟨ga, k, none⟩ = some (.slice u.aa u.args.length u.ac) := fun z => z.cell hga y0
              have f1 : ∀ z : Held wo.heap.size wo, z.w.cell? ⟨w.heap.size, 2, none⟩ = some (.slice (some ⟨gp, op, none⟩) preds.length pc) := fun z => z.cell (HBX2.out wo hw).lt p2
              have f2 : ∀ z : Held wo.heap.size wo, z.w.cell? ⟨gp, op + p * 7 + 1, none⟩ = some (.slice pd.ta pd.tn pd.tc) := fun z => z.cell hgp x1
              clear hu x3 p2 x1 hpa
              obtain ⟨fr, hfr⟩ : ∃ fr, decide (u.args.length = pd.tn) = fr := ⟨_, rfl⟩
              have d2 : ((u.args.length : Int) == (pd.tn : Int)) = fr := by rw [← hfr, Bool.eq_iff_iff, beq_iff_eq, decide_eq_true_iff]; omega
              have HFR := Lib.hid hfr
              clear hfr
              go_wp2_with fail
              refine wp_region_held wo.heap.size wo (Below.refl _ _) (by kernel_rfl) (by kernel_rfl) ?_
              repeat (go_big_quiet_step (fail))
              refine wpQuiet_nil ?_
              rintro wt ⟨⟨_, bt⟩, rfl⟩
              have hbt : Below w2.heap.size w2 wt := hw.trans (bt.mono hso)
              have hot := own_below ho bt
              have hs2t := hbt.size
              clear f0 f1 f2 ho y0
              go_wp2_with fail
              go_loopw [12, 13] (fun fv j wr => ∃ (m : Nat), m ≤ L.length ∧ j = .int .i64 m ∧ fv = .bool (fr && (L.take m).all fun r => decide (r.args ≠ u.args)) ∧ Below wt.heap.size wt wr) (fun _ j _ => L.length - (intOf j).toNat)
              case atStart => exact ⟨0, by omega, rfl, by simp, Below.refl _ _⟩
              case round =>
                obtain ⟨m, hm, rfl, rfl, hwt⟩ := hrel
                have hww := hbt.trans (hwt.mono hs2t)
                have hwW : Below w.heap.size w wr := HW2.out.trans (hww.mono hs2)
                have hsw := hww.size
                obtain ⟨fq, hfq⟩ : ∃ fq, (fr && (L.take m).all fun r => decide (r.args ≠ u.args)) = fq := ⟨_, rfl⟩
                have HFQ := Lib.hid hfq
                rw [hfq]
                clear hfq
                have HOW := Lib.hid (own_below hot hwt)
                by_cases h2 : m < L.length
                · have d3 : decide ((m : Int) < (L.length : Int)) = true := decide_eq_true (by omega)
                  have j0 : (0 : Int) ≤ (m : Int) := by omega
                  have j1 : (m : Int) < (L.length : Int) := by omega
                  cases fq
                  · have HNO := Lib.hid (HPK.out.skip HXX.out (fr := fr) HFR.out (m := m) HFQ.out)
                    go_wp2_with fail
                    go_roundw
                    case rel => exact ⟨k + 1, A, c, L, by omega, by go_num, rfl, HOW.out, HNO, by omega, hww⟩
                    case measure => simp [intOf]; omega
                  · obtain ⟨y, hy⟩ : ∃ y, L[m]? = some y := ⟨_, List.getElem?_eq_getElem h2⟩
                    obtain ⟨gl, hgl1, hgl, z0⟩ := own_hc HOW.out hy
                    obtain ⟨ga2, hga2, hgw, y0⟩ := own_hc (HALL.out wr hww) HXX.out
                    obtain rfl : ga = ga2 := by injection hga2 with h; injection h
                    have HAL := Lib.hid hgl1
                    have HYY := Lib.hid hy
                    have hy8 := HRK.out y (List.mem_of_mem_take (HPK.out.2.2 y (List.mem_of_getElem? hy)))
                    have HCT := Lib.hid (fun W (h : Below w.heap.size w W) => ctuple02_any y.aa u.aa y.ac u.ac y.args u.args W (by omega) (by omega) (hy8.2.args.below h) (hu8.2.args.below h) (fun v hv => by have := (hy8.2.i64 v hv).2.2; omega) (fun v hv => by have := (hu8.2.i64 v hv).2.2; omega))
                    have f0 : ∀ z : Held wr.heap.size wr, z.w.cell? ⟨ga, k, none⟩ = some (.slice u.aa u.args.length u.ac) := fun z => z.cell hgw y0
                    have f1 : ∀ z : Held wr.heap.size wr, z.w.cell? ⟨gl, m, none⟩ = some (.slice y.aa y.args.length y.ac) := fun z => z.cell hgl z0
                    obtain ⟨zc, hzc⟩ : ∃ zc, Vx.cmpL cmpW y.args u.args = zc := ⟨_, rfl⟩
                    have HMO := Lib.hid (show (fr && (L.take (m + 1)).all fun r => decide (r.args ≠ u.args)) = (zc != 0) by
                      have h := HFQ.out
                      rw [take_more hy, List.all_append, ← Bool.and_assoc, h, Bool.true_and, List.all_cons, List.all_nil, Bool.and_true, ← hzc, Bool.eq_iff_iff, decide_eq_true_iff, bne_iff_ne, Ne, Ne, cmpL_zero cmpW_zero])
                    rw [hzc] at HCT
                    clear hzc hy z0 y0 hga2
                    subst hgl1
                    go_wp2_with fail
                    refine wp_region_held wr.heap.size wr (Below.refl _ _) (by kernel_rfl) (by kernel_rfl) ?_
                    repeat (go_big_quiet_step ((go_at_call 51; exact held_call _ (Nat.le_refl _) (HCT.out _ (hwW.trans (Held.ok _ |>.mono hwW.size))))))
                    refine wpQuiet_nil ?_
                    rintro _ ⟨⟨w5, h5⟩, rfl⟩
                    clear f0 f1
                    go_wp2_with fail
                    go_roundw
                    case rel => exact ⟨m + 1, by omega, by go_num, by rw [HMO.out], hwt.trans (h5.mono hwt.size)⟩
                    case measure => simp [intOf]; omega
                · have d3 : decide ((m : Int) < (L.length : Int)) = false := decide_eq_false (by omega)
                  obtain rfl : m = L.length := by omega
                  cases fq
                  · have HNO := Lib.hid (HPK.out.skip HXX.out (fr := fr) HFR.out (m := L.length) HFQ.out)
                    go_wp2_with fail
                    go_roundw
                    case rel => exact ⟨k + 1, A, c, L, by omega, by go_num, rfl, HOW.out, HNO, by omega, hww⟩
                    case measure => simp [intOf]; omega
                  · have HYES := Lib.hid (HPK.out.more HXX.out (fr := fr) HFR.out (by have h := HFQ.out; rw [List.take_of_length_le (Nat.le_refl _)] at h; exact h))
                    obtain ⟨ga2, hga2, hgw, y0⟩ := own_hc (HALL.out wr hww) HXX.out
                    obtain rfl : ga = ga2 := by injection hga2 with h; injection h
                    clear hga2
                    have ho := HOW.out
                    go_wp2_with (at_builtin; refine wpList_append_own _ rfl _ _ 85 rfl w2.heap.size 73 iI (.slice none 0 0) 1 24 Tryd.underlying85 hi0 hi1 hi2 hi3 rfl (by decide) _ _ _ rfl (ho.alloc _) ⟨wr.heap.size, 0, none⟩ 1 1 [.slice u.aa u.args.length u.ac] rfl rfl ?c1 ?c2 ?c3 ?c4 ?c5 ?_)
                    case c1 => exact At.news (xs := [.slice u.aa u.args.length u.ac]) (At.newAt (by simp) _ _)
                    case c2 => exact one1 rfl
                    case c3 => simp [maxLen]; omega
                    case c4 => omega
                    case c5 => simp; omega
                    intro v3 w3 o3 g3 _
                    obtain ⟨A3, c3, rfl⟩ := own_len o3
                    replace o3 : w3.ownsRow w2.heap.size 73 1 (.slice A3 (L ++ [u]).length c3) (L ++ [u]).length (hcells (L ++ [u])) := by rw [show hcells (L ++ [u]) = hcells L ++ [.slice u.aa u.args.length u.ac] by simp [hcells], List.length_append]; exact o3
                    have hb3 := (hww.alloc hsw (.cells #[.slice u.aa u.args.length u.ac] 73)).grown g3 (by simp; omega) (fun q hq => by have := (own_lt ho hq).1; omega)
                    go_wp2_with fail
                    go_roundw
                    case rel => exact ⟨k + 1, A3, c3, L ++ [u], by omega, by go_num, by rw [List.length_append]; rfl, o3, HYES, by rw [List.length_append]; simp; omega, hb3⟩
                    case measure => simp [intOf]; omega
            · have d1 : decide ((k : Int) < (x.rows.length : Int)) = false := decide_eq_false (by omega)
              have HPE := Lib.hid (show Picks L (x.rows) pd.tn by have h := HPK.out; rw [List.take_of_length_le (by first | omega | exact Nat.zero_le _)] at h; exact h)
              go_wp2_with fail
              go_ret
              exact ⟨⟨A, c, L, rfl, own_mono ho hs2, HPE.out⟩, hwo⟩
    · have t3 : decide ((p : Int) < (lats.length : Int)) = false := decide_eq_false (by omega)
      have n3 : decide (p < lats.length) = false := decide_eq_false hp
      have HRW := Lib.hid (show rowsOf ⟨ra, rc, rels, la, lc, lats⟩ pd p = [] by
        unfold rowsOf
        simp only [HOF.out, if_true, if_false]
        rw [List.getElem?_eq_none (by omega)]
        rfl)
      rw [HRW.out] at HRK ⊢
      have HBX := Lib.hid hbx
      have HBY := Lib.hid hby
      have HW0 := Lib.hid hw0
      clear hp HPA
      go_enter Tryd.func29, Tryd.ntmps29
      go_wp2_with fail
      clear hbx hby hw0 hgp x1 x3
      go_loopw [7, 8] (fun v i wr => i = .int .i64 0 ∧ v = .slice none 0 0 ∧ At wr w.heap.size 27 #[.slice lt.a lt.n lt.c, .slice fn.a fn.n fn.c, .slice (some ⟨gp, op, none⟩) preds.length pc, .slice ru.a ru.n ru.c] ∧ At wr (w.heap.size + 1) 31 #[.slice ra rels.length rc, .slice la lats.length lc] ∧ Below w.heap.size w wr) (fun _ i _ => 0)
      case atStart => exact ⟨rfl, rfl, HBX.out, HBY.out, HW0.out⟩
      case round =>
        obtain ⟨rfl, rfl, hbx, hby, hw⟩ := hrel
        have b1 : wr.cell? ⟨w.heap.size + 1, 1, none⟩ = some (.slice la lats.length lc) := hby.cell 1
        obtain ⟨w2, hw2e⟩ : ∃ w2, w2 = wr := ⟨_, rfl⟩
        subst hw2e
        have HO := Lib.hid (show w2.ownsRow w.heap.size 73 1 (.slice none 0 0) 0 (hcells []) from ⟨by simp [hcells], Or.inl ⟨rfl, by simp [hcells]⟩⟩)
        have hw2 := hw
        have HBX := Lib.hid hbx
        clear hbx hby
        go_wp2_with fail
        have HALL := Lib.hid (fun W (h : Below w2.heap.size w2 W) => own_below HO.out h)
        have HBX2 := Lib.hid (fun W (h : Below w2.heap.size w2 W) => HBX.out.next h)
        have hs2 := hw2.size
        have HW2 := Lib.hid hw2
        clear HBX HO
        go_loopw [10, 11, 12, 13] (fun ov i _ _ wr => ∃ (k : Nat) (A : Option Addr) (c : Nat) (L : List Rw), k ≤ 0 ∧ i = .int .i64 k ∧ ov = .slice A L.length c ∧ wr.ownsRow w2.heap.size 73 1 (.slice A L.length c) L.length (hcells L) ∧ Hid (Picks L ((([] : List Rw)).take k) pd.tn) ∧ L.length ≤ k ∧ Below w2.heap.size w2 wr) (fun _ i _ _ _ => 0 - (intOf i).toNat)
        case atStart => exact ⟨0, none, 0, [], by omega, rfl, rfl, ⟨by simp [hcells], Or.inl ⟨rfl, by simp [hcells]⟩⟩, Lib.hid (Picks.start _ _), Nat.le_refl _, Below.refl _ _⟩
        case round =>
          obtain ⟨k, A, c, L, hk, rfl, rfl, ho, HPK, hLk, hw⟩ := hrel
          obtain ⟨wo, hwo⟩ : ∃ wo, wo = wr := ⟨_, rfl⟩
          subst hwo
          have hwo : Below w.heap.size w wo := HW2.out.trans (hw.mono hs2)
          have hso := hw.size
          by_cases h1 : k < 0
          · exact absurd h1 (Nat.not_lt_zero _)
          · have d1 : decide ((k : Int) < (0 : Int)) = false := decide_eq_false (by omega)
            have HPE := Lib.hid (show Picks L (([] : List Rw)) pd.tn by have h := HPK.out; rw [List.take_of_length_le (by first | omega | exact Nat.zero_le _)] at h; exact h)
            go_wp2_with fail
            go_ret
            exact ⟨⟨A, c, L, rfl, own_mono ho hs2, HPE.out⟩, hwo⟩
  · have t1 : decide (0 ≤ pd.of) = false := decide_eq_false hof
    have HOF := Lib.hid (show (0 ≤ pd.of) = False from eq_false hof)
    clear hof
    by_cases hp : p < rels.length
    · have t3 : decide ((p : Int) < (rels.length : Int)) = true := decide_eq_true (by omega)
      have n3 : decide (p < rels.length) = true := decide_eq_true hp
      obtain ⟨x, hx⟩ : ∃ x, rels[p]? = some x := ⟨_, List.getElem?_eq_getElem hp⟩
      have HRW := Lib.hid (show rowsOf ⟨ra, rc, rels, la, lc, lats⟩ pd p = x.rows by
        unfold rowsOf
        simp only [HOF.out, if_true, if_false]
        rw [hx]
        rfl)
      rw [HRW.out] at HRK ⊢
      have hm := List.mem_of_getElem? hx
      have hl60 := (HLT.out.r1 x hm).1
      have HLC := Lib.hid (fun W (h : Below w.heap.size w W) => re_cells (HD.out W h).rels hx)
      have HXR := Lib.hid (fun W (h : Below w.heap.size w W) => ((HD.out W h).eachR x hm).rows)
      have i2 : (p : Int) < (rels.length : Int) := by omega
      have HBX := Lib.hid hbx
      have HBY := Lib.hid hby
      have HW0 := Lib.hid hw0
      clear hx hm hp HPA
      go_enter Tryd.func29, Tryd.ntmps29
      go_wp2_with fail
      clear hbx hby hw0 hgp x1 x3
      go_loopw [7, 9] (fun v i wr => ∃ (k : Nat) (A : Option Addr) (c : Nat), k ≤ x.rows.length ∧ i = .int .i64 k ∧ v = .slice A k c ∧ wr.ownsRow w.heap.size 73 1 (.slice A k c) k (hcells (x.rows.take k)) ∧ At wr w.heap.size 27 #[.slice lt.a lt.n lt.c, .slice fn.a fn.n fn.c, .slice (some ⟨gp, op, none⟩) preds.length pc, .slice ru.a ru.n ru.c] ∧ At wr (w.heap.size + 1) 31 #[.slice ra rels.length rc, .slice la lats.length lc] ∧ Below w.heap.size w wr) (fun _ i _ => x.rows.length - (intOf i).toNat)
      case atStart => exact ⟨0, none, 0, by omega, rfl, rfl, ⟨by simp [hcells], Or.inl ⟨rfl, by simp [hcells]⟩⟩, HBX.out, HBY.out, HW0.out⟩
      case round =>
        obtain ⟨k, A1, c1, hk, rfl, rfl, ho, hbx, hby, hw⟩ := hrel
        have hsz := hw.size
        obtain ⟨gl, ol, hla, hgl, l0⟩ := HLC.out wr hw
        have b1 : wr.cell? ⟨w.heap.size + 1, 0, none⟩ = some (.slice ra rels.length rc) := hby.cell 0
        have HLA := Lib.hid hla
        rw [hla] at b1
        clear hla
        by_cases h1 : k < x.rows.length
        · have d1 : decide ((k : Int) < (x.rows.length : Int)) = true := by simp; omega
          obtain ⟨r, hr⟩ : ∃ r, x.rows[k]? = some r := ⟨_, List.getElem?_eq_getElem h1⟩
          obtain ⟨gr, og, hga, hgr, r0, r1⟩ := rw_cells (HXR.out wr hw) hr
          have j0 : (0 : Int) ≤ (k : Int) := by omega
          have j1 : (k : Int) < (x.rows.length : Int) := by omega
          have HSN := Lib.hid (hcells_snoc hr)
          have HGA := Lib.hid hga
          rw [hga] at l0
          have HBX1 := Lib.hid hbx
          have HBY1 := Lib.hid hby
          clear hr hga hbx hby
          go_wp2_with (at_builtin; refine wpList_append_own _ rfl _ _ 85 rfl w.heap.size 73 iI (.slice none 0 0) 1 24 Tryd.underlying85 hi0 hi1 hi2 hi3 rfl (by decide) _ _ _ rfl (ho.alloc _) ⟨wr.heap.size, 0, none⟩ 1 1 [.slice r.aa r.args.length r.ac] rfl rfl ?c1 ?c2 ?c3 ?c4 ?c5 ?_)
          case c1 => exact At.news (xs := [.slice r.aa r.args.length r.ac]) (At.newAt (by simp) _ _)
          case c2 => exact one1 rfl
          case c3 => simp [maxLen]; omega
          case c4 => omega
          case c5 => simp; omega
          intro v3 w3 o3 g3 _
          obtain ⟨A3, c3, rfl⟩ := own_len o3
          replace o3 : w3.ownsRow w.heap.size 73 1 (.slice A3 (k + 1) c3) (k + 1) (hcells (x.rows.take (k + 1))) := by rw [HSN.out]; exact o3
          have hb3 := (hw.alloc hsz (.cells #[.slice r.aa r.args.length r.ac] 73)).grown g3 (by simp; omega) (fun q hq => by have := (own_lt ho hq).1; omega)
          have hal := ho.alloc (.cells #[.slice r.aa r.args.length r.ac] 73)
          have hbx3 := (HBX1.out.alloc _).grown g3 (own_far hal (HBX1.out.alloc _) (by decide))
          have hby3 := (HBY1.out.alloc _).grown g3 (own_far hal (HBY1.out.alloc _) (by decide))
          go_wp2_with fail
          go_roundw
          case rel => exact ⟨k + 1, A3, c3, by omega, by go_num, rfl, o3, hbx3, hby3, hb3⟩
          case measure => simp [intOf]; omega
        · have d1 : decide ((k : Int) < (x.rows.length : Int)) = false := by simp; omega
          obtain ⟨w2, hw2e⟩ : ∃ w2, w2 = wr := ⟨_, rfl⟩
          subst hw2e
          have HO := Lib.hid (show w2.ownsRow w.heap.size 73 1 (.slice A1 k c1) k (hcells x.rows) by
            have h := ho
            rw [List.take_of_length_le (by omega)] at h
            exact h)
          have hw2 := hw
          have HBX := Lib.hid hbx
          obtain rfl : k = x.rows.length := by omega
          clear ho hbx hby
          go_wp2_with fail
          have HALL := Lib.hid (fun W (h : Below w2.heap.size w2 W) => own_below HO.out h)
          have HBX2 := Lib.hid (fun W (h : Below w2.heap.size w2 W) => HBX.out.next h)
          have hs2 := hw2.size
          have HW2 := Lib.hid hw2
          clear HBX HO
          go_loopw [10, 11, 12, 13] (fun ov i _ _ wr => ∃ (k : Nat) (A : Option Addr) (c : Nat) (L : List Rw), k ≤ x.rows.length ∧ i = .int .i64 k ∧ ov = .slice A L.length c ∧ wr.ownsRow w2.heap.size 73 1 (.slice A L.length c) L.length (hcells L) ∧ Hid (Picks L ((x.rows).take k) pd.tn) ∧ L.length ≤ k ∧ Below w2.heap.size w2 wr) (fun _ i _ _ _ => x.rows.length - (intOf i).toNat)
          case atStart => exact ⟨0, none, 0, [], by omega, rfl, rfl, ⟨by simp [hcells], Or.inl ⟨rfl, by simp [hcells]⟩⟩, Lib.hid (Picks.start _ _), Nat.le_refl _, Below.refl _ _⟩
          case round =>
            obtain ⟨k, A, c, L, hk, rfl, rfl, ho, HPK, hLk, hw⟩ := hrel
            obtain ⟨wo, hwo⟩ : ∃ wo, wo = wr := ⟨_, rfl⟩
            subst hwo
            have hwo : Below w.heap.size w wo := HW2.out.trans (hw.mono hs2)
            have hso := hw.size
            by_cases h1 : k < x.rows.length
            · have d1 : decide ((k : Int) < (x.rows.length : Int)) = true := decide_eq_true (by omega)
              have i0 : (0 : Int) ≤ (k : Int) := by omega
              have i1 : (k : Int) < (x.rows.length : Int) := by omega
              obtain ⟨u, hu⟩ : ∃ u, (x.rows)[k]? = some u := ⟨_, List.getElem?_eq_getElem h1⟩
              have hu8 := HRK.out u (List.mem_of_getElem? hu)
              obtain ⟨ga, hga1, hga, y0⟩ := own_hc (HALL.out wo hw) hu
              have HXX := Lib.hid hu
              subst hga1
              obtain ⟨gp2, op2, hpa, hgp, x1, x3⟩ := pd_cells (HP.out _ hwo) HPD.out
              obtain ⟨rfl, rfl⟩ : gp = gp2 ∧ op = op2 := by injection hpa with h; injection h with h1 h2; exact ⟨h1, h2⟩
              have p2 := (HBX2.out wo hw).cell 2
              simp only [List.getElem?_toArray, List.getElem?_cons_zero, List.getElem?_cons_succ] at p2
              have f0 : ∀ z : Held wo.heap.size wo, z.w.cell? ⟨ga, k, none⟩ = some (.slice u.aa u.args.length u.ac) := fun z => z.cell hga y0
              have f1 : ∀ z : Held wo.heap.size wo, z.w.cell? ⟨w.heap.size, 2, none⟩ = some (.slice (some ⟨gp, op, none⟩) preds.length pc) := fun z => z.cell (HBX2.out wo hw).lt p2
              have f2 : ∀ z : Held wo.heap.size wo, z.w.cell? ⟨gp, op + p * 7 + 1, none⟩ = some (.slice pd.ta pd.tn pd.tc) := fun z => z.cell hgp x1
              clear hu x3 p2 x1 hpa
              obtain ⟨fr, hfr⟩ : ∃ fr, decide (u.args.length = pd.tn) = fr := ⟨_, rfl⟩
              have d2 : ((u.args.length : Int) == (pd.tn : Int)) = fr := by rw [← hfr, Bool.eq_iff_iff, beq_iff_eq, decide_eq_true_iff]; omega
              have HFR := Lib.hid hfr
              clear hfr
              go_wp2_with fail
              refine wp_region_held wo.heap.size wo (Below.refl _ _) (by kernel_rfl) (by kernel_rfl) ?_
              repeat (go_big_quiet_step (fail))
              refine wpQuiet_nil ?_
              rintro wt ⟨⟨_, bt⟩, rfl⟩
              have hbt : Below w2.heap.size w2 wt := hw.trans (bt.mono hso)
              have hot := own_below ho bt
              have hs2t := hbt.size
              clear f0 f1 f2 ho y0
              go_wp2_with fail
              go_loopw [12, 13] (fun fv j wr => ∃ (m : Nat), m ≤ L.length ∧ j = .int .i64 m ∧ fv = .bool (fr && (L.take m).all fun r => decide (r.args ≠ u.args)) ∧ Below wt.heap.size wt wr) (fun _ j _ => L.length - (intOf j).toNat)
              case atStart => exact ⟨0, by omega, rfl, by simp, Below.refl _ _⟩
              case round =>
                obtain ⟨m, hm, rfl, rfl, hwt⟩ := hrel
                have hww := hbt.trans (hwt.mono hs2t)
                have hwW : Below w.heap.size w wr := HW2.out.trans (hww.mono hs2)
                have hsw := hww.size
                obtain ⟨fq, hfq⟩ : ∃ fq, (fr && (L.take m).all fun r => decide (r.args ≠ u.args)) = fq := ⟨_, rfl⟩
                have HFQ := Lib.hid hfq
                rw [hfq]
                clear hfq
                have HOW := Lib.hid (own_below hot hwt)
                by_cases h2 : m < L.length
                · have d3 : decide ((m : Int) < (L.length : Int)) = true := decide_eq_true (by omega)
                  have j0 : (0 : Int) ≤ (m : Int) := by omega
                  have j1 : (m : Int) < (L.length : Int) := by omega
                  cases fq
                  · have HNO := Lib.hid (HPK.out.skip HXX.out (fr := fr) HFR.out (m := m) HFQ.out)
                    go_wp2_with fail
                    go_roundw
                    case rel => exact ⟨k + 1, A, c, L, by omega, by go_num, rfl, HOW.out, HNO, by omega, hww⟩
                    case measure => simp [intOf]; omega
                  · obtain ⟨y, hy⟩ : ∃ y, L[m]? = some y := ⟨_, List.getElem?_eq_getElem h2⟩
                    obtain ⟨gl, hgl1, hgl, z0⟩ := own_hc HOW.out hy
                    obtain ⟨ga2, hga2, hgw, y0⟩ := own_hc (HALL.out wr hww) HXX.out
                    obtain rfl : ga = ga2 := by injection hga2 with h; injection h
                    have HAL := Lib.hid hgl1
                    have HYY := Lib.hid hy
                    have hy8 := HRK.out y (List.mem_of_mem_take (HPK.out.2.2 y (List.mem_of_getElem? hy)))
                    have HCT := Lib.hid (fun W (h : Below w.heap.size w W) => ctuple02_any y.aa u.aa y.ac u.ac y.args u.args W (by omega) (by omega) (hy8.2.args.below h) (hu8.2.args.below h) (fun v hv => by have := (hy8.2.i64 v hv).2.2; omega) (fun v hv => by have := (hu8.2.i64 v hv).2.2; omega))
                    have f0 : ∀ z : Held wr.heap.size wr, z.w.cell? ⟨ga, k, none⟩ = some (.slice u.aa u.args.length u.ac) := fun z => z.cell hgw y0
                    have f1 : ∀ z : Held wr.heap.size wr, z.w.cell? ⟨gl, m, none⟩ = some (.slice y.aa y.args.length y.ac) := fun z => z.cell hgl z0
                    obtain ⟨zc, hzc⟩ : ∃ zc, Vx.cmpL cmpW y.args u.args = zc := ⟨_, rfl⟩
                    have HMO := Lib.hid (show (fr && (L.take (m + 1)).all fun r => decide (r.args ≠ u.args)) = (zc != 0) by
                      have h := HFQ.out
                      rw [take_more hy, List.all_append, ← Bool.and_assoc, h, Bool.true_and, List.all_cons, List.all_nil, Bool.and_true, ← hzc, Bool.eq_iff_iff, decide_eq_true_iff, bne_iff_ne, Ne, Ne, cmpL_zero cmpW_zero])
                    rw [hzc] at HCT
                    clear hzc hy z0 y0 hga2
                    subst hgl1
                    go_wp2_with fail
                    refine wp_region_held wr.heap.size wr (Below.refl _ _) (by kernel_rfl) (by kernel_rfl) ?_
                    repeat (go_big_quiet_step ((go_at_call 51; exact held_call _ (Nat.le_refl _) (HCT.out _ (hwW.trans (Held.ok _ |>.mono hwW.size))))))
                    refine wpQuiet_nil ?_
                    rintro _ ⟨⟨w5, h5⟩, rfl⟩
                    clear f0 f1
                    go_wp2_with fail
                    go_roundw
                    case rel => exact ⟨m + 1, by omega, by go_num, by rw [HMO.out], hwt.trans (h5.mono hwt.size)⟩
                    case measure => simp [intOf]; omega
                · have d3 : decide ((m : Int) < (L.length : Int)) = false := decide_eq_false (by omega)
                  obtain rfl : m = L.length := by omega
                  cases fq
                  · have HNO := Lib.hid (HPK.out.skip HXX.out (fr := fr) HFR.out (m := L.length) HFQ.out)
                    go_wp2_with fail
                    go_roundw
                    case rel => exact ⟨k + 1, A, c, L, by omega, by go_num, rfl, HOW.out, HNO, by omega, hww⟩
                    case measure => simp [intOf]; omega
                  · have HYES := Lib.hid (HPK.out.more HXX.out (fr := fr) HFR.out (by have h := HFQ.out; rw [List.take_of_length_le (Nat.le_refl _)] at h; exact h))
                    obtain ⟨ga2, hga2, hgw, y0⟩ := own_hc (HALL.out wr hww) HXX.out
                    obtain rfl : ga = ga2 := by injection hga2 with h; injection h
                    clear hga2
                    have ho := HOW.out
                    go_wp2_with (at_builtin; refine wpList_append_own _ rfl _ _ 85 rfl w2.heap.size 73 iI (.slice none 0 0) 1 24 Tryd.underlying85 hi0 hi1 hi2 hi3 rfl (by decide) _ _ _ rfl (ho.alloc _) ⟨wr.heap.size, 0, none⟩ 1 1 [.slice u.aa u.args.length u.ac] rfl rfl ?c1 ?c2 ?c3 ?c4 ?c5 ?_)
                    case c1 => exact At.news (xs := [.slice u.aa u.args.length u.ac]) (At.newAt (by simp) _ _)
                    case c2 => exact one1 rfl
                    case c3 => simp [maxLen]; omega
                    case c4 => omega
                    case c5 => simp; omega
                    intro v3 w3 o3 g3 _
                    obtain ⟨A3, c3, rfl⟩ := own_len o3
                    replace o3 : w3.ownsRow w2.heap.size 73 1 (.slice A3 (L ++ [u]).length c3) (L ++ [u]).length (hcells (L ++ [u])) := by rw [show hcells (L ++ [u]) = hcells L ++ [.slice u.aa u.args.length u.ac] by simp [hcells], List.length_append]; exact o3
                    have hb3 := (hww.alloc hsw (.cells #[.slice u.aa u.args.length u.ac] 73)).grown g3 (by simp; omega) (fun q hq => by have := (own_lt ho hq).1; omega)
                    go_wp2_with fail
                    go_roundw
                    case rel => exact ⟨k + 1, A3, c3, L ++ [u], by omega, by go_num, by rw [List.length_append]; rfl, o3, HYES, by rw [List.length_append]; simp; omega, hb3⟩
                    case measure => simp [intOf]; omega
            · have d1 : decide ((k : Int) < (x.rows.length : Int)) = false := decide_eq_false (by omega)
              have HPE := Lib.hid (show Picks L (x.rows) pd.tn by have h := HPK.out; rw [List.take_of_length_le (by first | omega | exact Nat.zero_le _)] at h; exact h)
              go_wp2_with fail
              go_ret
              exact ⟨⟨A, c, L, rfl, own_mono ho hs2, HPE.out⟩, hwo⟩
    · have t3 : decide ((p : Int) < (rels.length : Int)) = false := decide_eq_false (by omega)
      have n3 : decide (p < rels.length) = false := decide_eq_false hp
      have HRW := Lib.hid (show rowsOf ⟨ra, rc, rels, la, lc, lats⟩ pd p = [] by
        unfold rowsOf
        simp only [HOF.out, if_true, if_false]
        rw [List.getElem?_eq_none (by omega)]
        rfl)
      rw [HRW.out] at HRK ⊢
      have HBX := Lib.hid hbx
      have HBY := Lib.hid hby
      have HW0 := Lib.hid hw0
      clear hp HPA
      go_enter Tryd.func29, Tryd.ntmps29
      go_wp2_with fail
      clear hbx hby hw0 hgp x1 x3
      go_loopw [7, 9] (fun v i wr => i = .int .i64 0 ∧ v = .slice none 0 0 ∧ At wr w.heap.size 27 #[.slice lt.a lt.n lt.c, .slice fn.a fn.n fn.c, .slice (some ⟨gp, op, none⟩) preds.length pc, .slice ru.a ru.n ru.c] ∧ At wr (w.heap.size + 1) 31 #[.slice ra rels.length rc, .slice la lats.length lc] ∧ Below w.heap.size w wr) (fun _ i _ => 0)
      case atStart => exact ⟨rfl, rfl, HBX.out, HBY.out, HW0.out⟩
      case round =>
        obtain ⟨rfl, rfl, hbx, hby, hw⟩ := hrel
        have b1 : wr.cell? ⟨w.heap.size + 1, 0, none⟩ = some (.slice ra rels.length rc) := hby.cell 0
        obtain ⟨w2, hw2e⟩ : ∃ w2, w2 = wr := ⟨_, rfl⟩
        subst hw2e
        have HO := Lib.hid (show w2.ownsRow w.heap.size 73 1 (.slice none 0 0) 0 (hcells []) from ⟨by simp [hcells], Or.inl ⟨rfl, by simp [hcells]⟩⟩)
        have hw2 := hw
        have HBX := Lib.hid hbx
        clear hbx hby
        go_wp2_with fail
        have HALL := Lib.hid (fun W (h : Below w2.heap.size w2 W) => own_below HO.out h)
        have HBX2 := Lib.hid (fun W (h : Below w2.heap.size w2 W) => HBX.out.next h)
        have hs2 := hw2.size
        have HW2 := Lib.hid hw2
        clear HBX HO
        go_loopw [10, 11, 12, 13] (fun ov i _ _ wr => ∃ (k : Nat) (A : Option Addr) (c : Nat) (L : List Rw), k ≤ 0 ∧ i = .int .i64 k ∧ ov = .slice A L.length c ∧ wr.ownsRow w2.heap.size 73 1 (.slice A L.length c) L.length (hcells L) ∧ Hid (Picks L ((([] : List Rw)).take k) pd.tn) ∧ L.length ≤ k ∧ Below w2.heap.size w2 wr) (fun _ i _ _ _ => 0 - (intOf i).toNat)
        case atStart => exact ⟨0, none, 0, [], by omega, rfl, rfl, ⟨by simp [hcells], Or.inl ⟨rfl, by simp [hcells]⟩⟩, Lib.hid (Picks.start _ _), Nat.le_refl _, Below.refl _ _⟩
        case round =>
          obtain ⟨k, A, c, L, hk, rfl, rfl, ho, HPK, hLk, hw⟩ := hrel
          obtain ⟨wo, hwo⟩ : ∃ wo, wo = wr := ⟨_, rfl⟩
          subst hwo
          have hwo : Below w.heap.size w wo := HW2.out.trans (hw.mono hs2)
          have hso := hw.size
          by_cases h1 : k < 0
          · exact absurd h1 (Nat.not_lt_zero _)
          · have d1 : decide ((k : Int) < (0 : Int)) = false := decide_eq_false (by omega)
            have HPE := Lib.hid (show Picks L (([] : List Rw)) pd.tn by have h := HPK.out; rw [List.take_of_length_le (by first | omega | exact Nat.zero_le _)] at h; exact h)
            go_wp2_with fail
            go_ret
            exact ⟨⟨A, c, L, rfl, own_mono ho hs2, HPE.out⟩, hwo⟩
end Go.Proofs.YtoficnfpoeaccaaDoor
namespace Go.Proofs.YtoficnfpoeaccaaDoor
set_option linter.unusedVariables false
set_option linter.unusedSimpArgs false
open Go.RowKit
theorem nodup_count {α : Type} [DecidableEq α] {l g : List α} (hn : l.Nodup) (h : ∀ a, a ∈ l ↔ a ∈ g) : l.length = Ct.dcount g :=
  Nat.le_antisymm (List.Nodup.length_le_of_subset hn fun x hx => Ct.mem_dset.2 ((h x).1 hx)) (List.Nodup.length_le_of_subset (Ct.dset_nodup g) fun x hx => (h x).2 (Ct.mem_dset.1 hx))
theorem picks_len {L rows : List Rw} {tn : Nat} (h : Picks L rows tn) : L.length = Ct.dcount (goodOf rows tn) := by
  rw [← nodup_count h.1 h.2.1, List.length_map]
theorem picks_col {L rows : List Rw} {tn : Nat} (h : Picks L rows tn) (i : Nat) : Ct.dcount (Ct.col (L.map Rw.args) i) = Ct.dcount (Ct.col (goodOf rows tn) i) :=
  Ct.dcount_eq fun x => by
    unfold Ct.col
    rw [List.mem_filterMap, List.mem_filterMap]
    exact ⟨fun ⟨a, ha, e⟩ => ⟨a, (h.2.1 a).1 ha, e⟩, fun ⟨a, ha, e⟩ => ⟨a, (h.2.1 a).2 ha, e⟩⟩
theorem picks_at {L rows : List Rw} {tn : Nat} (h : Picks L rows tn) {r : Rw} (hr : r ∈ L) : r.args.length = tn := goodOf_len r.args ((h.2.1 r.args).1 (List.mem_map.2 ⟨r, hr, rfl⟩))
theorem colr_more {L : List Rw} {k c : Nat} {r : Rw} {x : Qu.Vl3} (h : L[k]? = some r) (hx : r.args[c]? = some x) : Ct.col ((L.take (k + 1)).map Rw.args) c = Ct.col ((L.take k).map Rw.args) c ++ [x] := by
  rw [take_more h, List.map_append, Ct.col_app]
  congr 1
  simp [Ct.col, hx]
theorem val_eq (x y : Qu.Vl3) (w : World) : (Op.equalIn 10000 62 (.agg #[.int .i64 x.t, .int .i64 x.n, .string x.s]) (.agg #[.int .i64 y.t, .int .i64 y.n, .string y.s])).run Tryd.prog w = .ok (decide (x = y)) w := by
  obtain ⟨o, a, b⟩ := x
  obtain ⟨o', a', b'⟩ := y
  have e : decide ((⟨o, a, b⟩ : Qu.Vl3) = ⟨o', a', b'⟩) = decide (o = o' ∧ a = a' ∧ b = b') := by
    rw [Bool.eq_iff_iff, decide_eq_true_eq, decide_eq_true_eq, Qu.Vl3.mk.injEq]
  rw [e]
  have hs := str_beq b b'
  by_cases h3 : b = b'
  · subst h3
    by_cases h1 : o = o' <;> by_cases h2 : a = a' <;> simp [h1, h2, go_sem, Tryd.underlying62]
  · rw [decide_eq_false h3] at hs
    by_cases h1 : o = o' <;> by_cases h2 : a = a' <;> simp [h1, h2, h3, hs, go_sem, Tryd.underlying62]
set_option maxHeartbeats 4000000 in
set_option maxRecDepth 100000 in
theorem stats16_any (pm : Pm) (d : Da) (pred : Int) (w : World) (hpm : PmOk w pm) (hd : DaOk w d) (hl : Lit d) (hn : pm.preds.length ≤ 30) (htn : ∀ x ∈ pm.preds, x.tn ≤ 2000000) :
    Calls Tryd.prog 15 #[pm.v, d.v, .int .i64 pred] w fun e w' => StatOut w.heap.size (statP pm d pred) e w' ∧ Below w.heap.size w w' := by
  obtain ⟨R, hR⟩ : ∃ R, statP pm d pred = R := ⟨_, rfl⟩
  rw [hR]
  have HTP := Lib.hid (fun W (h : Below w.heap.size w W) p pd (hp : pm.preds[p]? = some pd) => rows16_any pm d p pd W (hpm.below h) (hd.below h) hl hp hn)
  have HD := Lib.hid (fun W (h : Below w.heap.size w W) pd p => rowsOf_ok (hd.below h) hl pd p)
  have HP := Lib.hid (fun W (h : Below w.heap.size w W) => (hpm.preds).below h)
  have HTN := Lib.hid htn
  have HN := Lib.hid (@statP_neg pm d pred)
  have HO := Lib.hid (@statP_out pm d pred)
  have HI := Lib.hid (fun p pd (h : pm.preds[p]? = some pd) => statP_in (d := d) h)
  obtain ⟨iN, hn0, hn1, hn2, hn3⟩ := info_parts int_info
  obtain ⟨lt, fn, pa, pc, preds, ru⟩ := pm
  obtain ⟨ra, rc, rels, la, lc, lats⟩ := d
  unfold Pm.v Da.v at *
  dsimp only at *
  clear hpm hd hl htn
  have hw1 : Below w.heap.size w (((w.alloc (.cells #[.slice lt.a lt.n lt.c, .slice fn.a fn.n fn.c, .slice pa preds.length pc, .slice ru.a ru.n ru.c] 27)).alloc (.cells #[.slice ra rels.length rc, .slice la lats.length lc] 31)).alloc (.cells #[.int .i64 0, .slice none 0 0] 46)) := ((below1 _ _).alloc (by simp) _).alloc (by simp; omega) _
  have hR0 : At (((w.alloc (.cells #[.slice lt.a lt.n lt.c, .slice fn.a fn.n fn.c, .slice pa preds.length pc, .slice ru.a ru.n ru.c] 27)).alloc (.cells #[.slice ra rels.length rc, .slice la lats.length lc] 31)).alloc (.cells #[.int .i64 0, .slice none 0 0] 46)) (w.heap.size + 2) 46 #[.int .i64 0, .slice none 0 0] := At.newAt (by simp) _ _
  by_cases h0 : pred < 0
  · have t0 : decide (pred < 0) = true := decide_eq_true h0
    have HR := Lib.hid (hR.symm.trans (HN.out h0))
    clear h0 hR
    go_enter Tryd.func15, Tryd.ntmps15
    go_wp2_with fail
    refine bodyPost_ret (results_cell_row rfl _ _ (w.heap.size + 2) 46 _ (0, 0) _ rfl hR0 Tryd.underlying46 rfl (by kernel_rfl)) rfl ?_
    exact ⟨⟨⟨0, none, 0, []⟩, rfl, staOk_nil _, by rw [HR.out], by rw [HR.out], fun _ => rfl⟩, hw1⟩
  · have t0 : decide (pred < 0) = false := decide_eq_false h0
    by_cases h1 : (preds.length : Int) ≤ pred
    · have t1 : decide ((preds.length : Int) ≤ pred) = true := decide_eq_true h1
      have HR := Lib.hid (hR.symm.trans (HO.out h1))
      clear h0 h1 hR
      go_enter Tryd.func15, Tryd.ntmps15
      go_wp2_with fail
      refine bodyPost_ret (results_cell_row rfl _ _ (w.heap.size + 2) 46 _ (0, 0) _ rfl hR0 Tryd.underlying46 rfl (by kernel_rfl)) rfl ?_
      exact ⟨⟨⟨0, none, 0, []⟩, rfl, staOk_nil _, by rw [HR.out], by rw [HR.out], fun _ => rfl⟩, hw1⟩
    · obtain ⟨p, rfl⟩ : ∃ p : Nat, pred = (p : Int) := ⟨pred.toNat, by omega⟩
      have t1 : decide ((preds.length : Int) ≤ (p : Int)) = false := decide_eq_false h1
      have n1 : decide (preds.length ≤ p) = false := decide_eq_false (by omega)
      have hpl : p < preds.length := by omega
      obtain ⟨pd, hp⟩ : ∃ pd, preds[p]? = some pd := ⟨_, List.getElem?_eq_getElem hpl⟩
      have HR := Lib.hid (hR.symm.trans (HI.out p pd hp))
      have htn := HTN.out pd (List.mem_of_getElem? hp)
      have i0 : (0 : Int) ≤ (p : Int) := by omega
      have i1 : (p : Int) < (preds.length : Int) := by omega
      have HPX := Lib.hid (fun W (h : Below w.heap.size w W) => pd_cells (HP.out W h) hp)
      obtain ⟨rs, hrs⟩ : ∃ rs, rowsOf ⟨ra, rc, rels, la, lc, lats⟩ pd p = rs := ⟨_, rfl⟩
      have HTU := Lib.hid (fun W (h : Below w.heap.size w W) => HTP.out W h p pd hp)
      have HDR := Lib.hid (fun W (h : Below w.heap.size w W) => HD.out W h pd p)
      rw [hrs] at HR
      simp only [hrs] at HTU HDR
      have hrs60 : rs.length ≤ 60 := (HDR.out w (Below.refl _ _)).1
      have hbox : SBox (((w.alloc (.cells #[.slice lt.a lt.n lt.c, .slice fn.a fn.n fn.c, .slice pa preds.length pc, .slice ru.a ru.n ru.c] 27)).alloc (.cells #[.slice ra rels.length rc, .slice la lats.length lc] 31)).alloc (.cells #[.int .i64 0, .slice none 0 0] 46)) w.heap.size #[.slice lt.a lt.n lt.c, .slice fn.a fn.n fn.c, .slice pa preds.length pc, .slice ru.a ru.n ru.c] #[.slice ra rels.length rc, .slice la lats.length lc] := ⟨((At.new w _ _).alloc _).alloc _, (At.newAt (by simp) _ _).alloc _, hR0⟩
      clear HD hrs hR h0 h1 hpl hR0 HP HTP HN HO HI HTN hp
      go_enter Tryd.func15, Tryd.ntmps15
      go_wp2_with (go_at_call 29; refine (HTU.out _ hw1).mono ?_; rintro e w3 ⟨⟨A0, c0, L, rfl, hol, hpk⟩, hb3⟩)
      have hw3 : Below w.heap.size w w3 := hw1.trans (hb3.mono hw1.size)
      have hbx3 := hbox.next hb3
      have HPL := Lib.hid (picks_len hpk)
      have HPC := Lib.hid (picks_col hpk)
      have hLl : L.length ≤ 60 := by rw [picks_len hpk]; have := Ct.dcount_len (goodOf rs pd.tn); have := goodOf_le rs pd.tn; omega
      have HPA := Lib.hid (fun r (hr : r ∈ L) => picks_at hpk hr)
      have HRO := Lib.hid (fun W (h : Below w.heap.size w W) r (hr : r ∈ L) => ((HDR.out W h).2 r (hpk.2.2 r hr)).2)
      have HOL := Lib.hid (fun W (h : Below w3.heap.size w3 W) => own_below hol h)
      have hsz3 := hw3.size
      have hs0 := hbx3.r.lt
      have HBX := Lib.hid (fun W (h : Below w3.heap.size w3 W) => hbx3.next h)
      clear hbox hb3 hbx3 hw1 hol hpk
      obtain ⟨rn, hrn⟩ : ∃ rn, L.length = rn := ⟨_, rfl⟩
      have HRN := Lib.hid hrn
      have hrn60 : rn ≤ 60 := by omega
      have HW3 := Lib.hid hw3
      rw [hrn]
      clear hrn hw3
      go_loopw [9, 10, 11, 12, 13] (fun i _ _ _ _ wr => ∃ (k : Nat) (A : Option Addr) (c : Nat), k ≤ pd.tn ∧ i = .int .i64 k ∧ At wr w3.heap.size 46 #[.int .i64 (rn : Int), .slice A k c] ∧ wr.ownsRow w3.heap.size 3 1 (.slice A k c) k (ccells (goodOf rs pd.tn) k) ∧ Below w3.heap.size w3 wr) (fun i _ _ _ _ _ => pd.tn - (intOf i).toNat)
      case atStart => exact ⟨0, none, 0, by omega, rfl, At.new _ _ _, ⟨by simp [ccells], Or.inl ⟨rfl, by simp [ccells]⟩⟩, below1 _ _⟩
      case round =>
        obtain ⟨k, A, c, hk, rfl, hat, ho, hw⟩ := hrel
        obtain ⟨wo, hwo⟩ : ∃ wo, wo = wr := ⟨_, rfl⟩
        subst hwo
        have hwo : Below w.heap.size w wo := HW3.out.trans (hw.mono hsz3)
        have hso := hw.size
        obtain ⟨gp, op, hpa, hgp, x1, x3⟩ := HPX.out wo hwo
        have p2 := (HBX.out wo hw).p.cell 2
        simp only [List.getElem?_toArray, List.getElem?_cons_zero, List.getElem?_cons_succ] at p2
        rw [hpa] at p2
        have HPA2 := Lib.hid hpa
        clear hpa x3
        by_cases h1 : k < pd.tn
        · have d1 : decide ((k : Int) < (pd.tn : Int)) = true := decide_eq_true (by omega)
          have j0 : (0 : Int) ≤ (k : Int) := by omega
          have HAT := Lib.hid (fun W (h : Below wo.heap.size wo W) => hat.next h)
          have HOO := Lib.hid (fun W (h : Below wo.heap.size wo W) => own_below ho h)
          clear hat ho
          go_wp2_with fail
          go_loopw [10, 11, 12, 13] (fun nv i _ _ wr => ∃ (m : Nat), m ≤ rn ∧ i = .int .i64 m ∧ nv = .int .i64 ((Ct.dcount (Ct.col ((L.take m).map Rw.args) k) : Nat) : Int) ∧ Below wo.heap.size wo wr) (fun _ i _ _ _ => rn - (intOf i).toNat)
          case atStart => exact ⟨0, by omega, rfl, rfl, Below.refl _ _⟩
          case round =>
            clear p2 x1
            obtain ⟨m, hm, rfl, rfl, hbo⟩ := hrel
            obtain ⟨wm, hwm⟩ : ∃ wm, wm = wr := ⟨_, rfl⟩
            subst hwm
            have hwm : Below w3.heap.size w3 wm := hw.trans (hbo.mono hso)
            have hwW : Below w.heap.size w wm := HW3.out.trans (hwm.mono hsz3)
            obtain ⟨dn, hdn⟩ : ∃ dn, Ct.dcount (Ct.col ((L.take m).map Rw.args) k) = dn := ⟨_, rfl⟩
            have hdn60 : dn ≤ 60 := by
              rw [← hdn]
              have h1 := Ct.dcount_len (Ct.col ((L.take m).map Rw.args) k)
              have h2 : (Ct.col ((L.take m).map Rw.args) k).length ≤ ((L.take m).map Rw.args).length := List.length_filterMap_le _ _
              rw [List.length_map, List.length_take] at h2
              omega
            have HDN := Lib.hid hdn
            rw [hdn]
            clear hdn
            by_cases h2 : m < rn
            · have d2 : decide ((m : Int) < (rn : Int)) = true := decide_eq_true (by omega)
              obtain ⟨r, hr⟩ : ∃ r, L[m]? = some r := ⟨_, List.getElem?_eq_getElem (by have := HRN.out; omega)⟩
              obtain ⟨v, hv⟩ : ∃ v, r.args[k]? = some v := ⟨_, List.getElem?_eq_getElem (by rw [HPA.out r (List.mem_of_getElem? hr)]; exact h1)⟩
              have HRR := Lib.hid hr
              have HVV := Lib.hid hv
              have HCM := Lib.hid (colr_more hr hv)
              clear hr hv
              go_wp2_with fail
              go_loopw [12, 13] (fun fv j wr => ∃ (q : Nat), q ≤ m ∧ j = .int .i64 q ∧ fv = .bool (decide (v ∉ Ct.col ((L.take q).map Rw.args) k)) ∧ Below wm.heap.size wm wr) (fun _ j _ => m - (intOf j).toNat)
              case atStart => exact ⟨0, by omega, rfl, by simp [Ct.col], Below.refl _ _⟩
              case round =>
                obtain ⟨q, hq, rfl, rfl, hbm⟩ := hrel
                have hwq := hwm.trans (hbm.mono hwm.size)
                have hwQ : Below w.heap.size w wr := HW3.out.trans (hwq.mono hsz3)
                obtain ⟨fq, hfq⟩ : ∃ fq, decide (v ∉ Ct.col ((L.take q).map Rw.args) k) = fq := ⟨_, rfl⟩
                have HFQ := Lib.hid hfq
                rw [hfq]
                clear hfq
                by_cases h3 : q < m
                · have d3 : decide ((q : Int) < (m : Int)) = true := decide_eq_true (by omega)
                  have n3 : decide (q < m) = true := decide_eq_true h3
                  obtain ⟨y, hy⟩ : ∃ y, L[q]? = some y := ⟨_, List.getElem?_eq_getElem (by have := HRN.out; omega)⟩
                  obtain ⟨u, hu⟩ : ∃ u, y.args[k]? = some u := ⟨_, List.getElem?_eq_getElem (by rw [HPA.out y (List.mem_of_getElem? hy)]; exact h1)⟩
                  obtain ⟨ga, hga, hgl, z0⟩ := own_hc (HOL.out wr hwq) HRR.out
                  obtain ⟨ga2, hga2, _, z1⟩ := own_hc (HOL.out wr hwq) hy
                  obtain rfl : ga = ga2 := by rw [hga] at hga2; injection hga2 with h; injection h
                  obtain ⟨gr, og, hra, hgr, r0, r1, r2⟩ := vl_cells (HRO.out wr hwQ r (List.mem_of_getElem? HRR.out)).args HVV.out
                  obtain ⟨gy, oy, hya, hgy, y0, y1, y2⟩ := vl_cells (HRO.out wr hwQ y (List.mem_of_getElem? hy)).args hu
                  have HGA := Lib.hid hga
                  rw [hra] at z0
                  rw [hya] at z1
                  have l1 := HPA.out r (List.mem_of_getElem? HRR.out)
                  have l2 := HPA.out y (List.mem_of_getElem? hy)
                  rw [l1] at z0
                  rw [l2] at z1
                  have f0 : ∀ z : Held wr.heap.size wr, z.w.cell? ⟨ga, m, none⟩ = some (.slice (some ⟨gr, og, none⟩) pd.tn r.ac) := fun z => z.cell hgl z0
                  have f1 : ∀ z : Held wr.heap.size wr, z.w.cell? ⟨ga, q, none⟩ = some (.slice (some ⟨gy, oy, none⟩) pd.tn y.ac) := fun z => z.cell hgl z1
                  have f2 : ∀ z : Held wr.heap.size wr, z.w.cell? ⟨gr, og + k * 3, none⟩ = some (.int .i64 v.t) := fun z => z.cell hgr r0
                  have f3 : ∀ z : Held wr.heap.size wr, z.w.cell? ⟨gr, og + k * 3 + 1, none⟩ = some (.int .i64 v.n) := fun z => z.cell hgr r1
                  have f4 : ∀ z : Held wr.heap.size wr, z.w.cell? ⟨gr, og + k * 3 + 2, none⟩ = some (.string v.s) := fun z => z.cell hgr r2
                  have f5 : ∀ z : Held wr.heap.size wr, z.w.cell? ⟨gy, oy + k * 3, none⟩ = some (.int .i64 u.t) := fun z => z.cell hgy y0
                  have f6 : ∀ z : Held wr.heap.size wr, z.w.cell? ⟨gy, oy + k * 3 + 1, none⟩ = some (.int .i64 u.n) := fun z => z.cell hgy y1
                  have f7 : ∀ z : Held wr.heap.size wr, z.w.cell? ⟨gy, oy + k * 3 + 2, none⟩ = some (.string u.s) := fun z => z.cell hgy y2
                  obtain ⟨ez, hez⟩ : ∃ ez, decide (u = v) = ez := ⟨_, rfl⟩
                  have qe := fun (W : World) => val_eq u v W
                  rw [hez] at qe
                  have HNX := Lib.hid (show decide (v ∉ Ct.col ((L.take (q + 1)).map Rw.args) k) = (fq && !ez) by
                    rw [colr_more hy hu, ← HFQ.out, ← hez, Bool.eq_iff_iff, decide_eq_true_iff, Bool.and_eq_true, decide_eq_true_iff, List.mem_append, List.mem_singleton, not_or]
                    exact and_congr Iff.rfl (by rw [Bool.not_eq_true', decide_eq_false_iff_not]; exact ⟨fun h e => h e.symm, fun h e => h e.symm⟩))
                  have k0 : (0 : Int) ≤ (m : Int) := by omega
                  have k1 : (0 : Int) ≤ (q : Int) := by omega
                  have k2 : (m : Int) < (rn : Int) := by omega
                  have k3 : (q : Int) < (rn : Int) := by omega
                  have k4 : (k : Int) < (pd.tn : Int) := by omega
                  clear z0 z1 r0 r1 r2 y0 y1 y2 hy hu hga hga2 hra hya l1 l2 hez
                  obtain rfl := HGA.out
                  cases fq
                  · go_wp2_with fail
                    refine wp_region_held wr.heap.size wr (Below.refl _ _) (by kernel_rfl) (by kernel_rfl) ?_
                    repeat (go_big_quiet_step (fail))
                    refine wpQuiet_nil ?_
                    rintro wt ⟨⟨_, bt⟩, rfl⟩
                    go_wp2_with fail
                    go_roundw
                    case rel => exact ⟨q + 1, by omega, by go_num, by rw [HNX.out]; rfl, hbm.trans (bt.mono hbm.size)⟩
                    case measure => simp [intOf]; omega
                  · cases ez
                    · go_wp2_with fail
                      refine wp_region_held wr.heap.size wr (Below.refl _ _) (by kernel_rfl) (by kernel_rfl) ?_
                      repeat (go_big_quiet_step (fail))
                      refine wpQuiet_nil ?_
                      rintro wt ⟨⟨_, bt⟩, rfl⟩
                      go_wp2_with fail
                      go_roundw
                      case rel => exact ⟨q + 1, by omega, by go_num, by rw [HNX.out]; rfl, hbm.trans (bt.mono hbm.size)⟩
                      case measure => simp [intOf]; omega
                    · go_wp2_with fail
                      refine wp_region_held wr.heap.size wr (Below.refl _ _) (by kernel_rfl) (by kernel_rfl) ?_
                      repeat (go_big_quiet_step (fail))
                      refine wpQuiet_nil ?_
                      rintro wt ⟨⟨_, bt⟩, rfl⟩
                      go_wp2_with fail
                      go_roundw
                      case rel => exact ⟨q + 1, by omega, by go_num, by rw [HNX.out]; rfl, hbm.trans (bt.mono hbm.size)⟩
                      case measure => simp [intOf]; omega
                · have d3 : decide ((q : Int) < (m : Int)) = false := decide_eq_false (by omega)
                  have n3 : decide (q < m) = false := decide_eq_false h3
                  obtain rfl : q = m := by omega
                  have HNC := Lib.hid (show Ct.dcount (Ct.col ((L.take (q + 1)).map Rw.args) k) = if fq then dn + 1 else dn by
                    rw [HCM.out, Ct.dcount_snoc, HDN.out, ← HFQ.out]
                    by_cases e : v ∈ Ct.col ((L.take q).map Rw.args) k
                    · rw [if_pos e, if_neg (by simpa using e)]
                    · rw [if_neg e, if_pos (by simpa using e)])
                  cases fq
                  · go_wp2_with fail
                    go_roundw
                    case rel => exact ⟨q + 1, by omega, by go_num, by rw [HNC.out]; rfl, hbo.trans (hbm.mono hbo.size)⟩
                    case measure => simp [intOf]; omega
                  · go_wp2_with fail
                    go_roundw
                    case rel => exact ⟨q + 1, by omega, by go_num, by rw [HNC.out]; go_num, hbo.trans (hbm.mono hbo.size)⟩
                    case measure => simp [intOf]; omega
            · have d2 : decide ((m : Int) < (rn : Int)) = false := decide_eq_false (by omega)
              have HCS := Lib.hid (show ccells (goodOf rs pd.tn) (k + 1) = ccells (goodOf rs pd.tn) k ++ [.int .i64 (dn : Int)] by
                rw [ccells_snoc, ← HPC.out k, ← HDN.out, List.take_of_length_le (by have := HRN.out; omega)])
              have hat := HAT.out wm hbo
              have ho := HOO.out wm hbo
              have ya : wm.cell? ⟨w3.heap.size, 1, none⟩ = some (.slice A k c) := hat.cell 1
              have hat2 := hat.next (below1 wm (.cells #[.int .i64 (dn : Int)] 3))
              have ho2 := ho.alloc (.cells #[.int .i64 (dn : Int)] 3)
              have hsm := hwm.size
              go_wp2_with (at_builtin; refine wpList_append_own _ rfl _ _ 40 rfl w3.heap.size 3 iN (.int .i64 0) 1 8 Tryd.underlying40 hn0 hn1 hn2 hn3 rfl (by decide) _ _ _ rfl ho2 ⟨wm.heap.size, 0, none⟩ 1 1 [.int .i64 (dn : Int)] rfl rfl ?c1 ?c2 ?c3 ?c4 ?c5 ?_)
              case c1 => exact At.news (xs := [.int .i64 (dn : Int)]) (At.newAt (by simp) _ _)
              case c2 => exact one1 rfl
              case c3 => simp [maxLen]; omega
              case c4 => omega
              case c5 => simp; omega
              intro v5 w5 o5 g5 _
              obtain ⟨A5, c5, rfl⟩ := own_len o5
              rw [← HCS.out] at o5
              have hat5 := hat2.grown g5 (own_far ho2 hat2 (by decide))
              have yf5 : w5.frozen? ⟨w3.heap.size, 1, none⟩ = false := hat5.frozen 1
              have yc5 : w5.cell? ⟨w3.heap.size, 1, none⟩ = some (.slice A k c) := hat5.cell 1
              have hw5 : Below w3.heap.size w3 w5 := (hwm.alloc hsm (.cells #[.int .i64 (dn : Int)] 3)).grown g5 (by simp; omega) (fun q hq => (own_lt ho2 hq).1)
              have hlo := hat5.lt
              clear hat2 ho2 g5 hat ho ya
              go_wp2_with fail
              go_roundw
              case rel => exact ⟨k + 1, A5, c5, by omega, by go_num, hat5.put 1 _, own_putne (p := ⟨w3.heap.size, 1, none⟩) o5 (own_far o5 hat5 (by decide)) _, hw5.setCell (p := ⟨w3.heap.size, 1, none⟩) (Nat.le_refl _) _⟩
              case measure => simp [intOf]; omega
        · have d1 : decide ((k : Int) < (pd.tn : Int)) = false := decide_eq_false (by omega)
          obtain rfl : k = pd.tn := by omega
          have hbr := (HBX.out wo hw).r
          have ya : wo.cell? ⟨w3.heap.size, 0, none⟩ = some (.int .i64 (rn : Int)) := hat.cell 0
          have yb : wo.cell? ⟨w3.heap.size, 1, none⟩ = some (.slice A pd.tn c) := hat.cell 1
          have yf0 : wo.frozen? ⟨w.heap.size + 1 + 1, 0, none⟩ = false := hbr.frozen 0
          have yf1 : wo.frozen? ⟨w.heap.size + 1 + 1, 1, none⟩ = false := hbr.frozen 1
          have yl : w.heap.size + 1 + 1 < wo.heap.size := hbr.lt
          have yc0 : wo.cell? ⟨w.heap.size + 1 + 1, 0, none⟩ = some (.int .i64 0) := hbr.cell 0
          have yc1 : wo.cell? ⟨w.heap.size + 1 + 1, 1, none⟩ = some (.slice none 0 0) := hbr.cell 1
          have HBR := Lib.hid hbr
          have HOF := Lib.hid (own_far ho hbr (by decide))
          have HO := Lib.hid ho
          clear hat ho hbr
          go_wp2_with fail
          refine bodyPost_ret (results_cell_row rfl _ _ (w.heap.size + 2) 46 _ (0, 0) _ rfl ((HBR.out.put 0 (.int .i64 (rn : Int))).put 1 (.slice A pd.tn c)) Tryd.underlying46 rfl (by kernel_rfl)) rfl ?_
          have hb2 := (hwo.setCell (p := ⟨w.heap.size + 2, 0, none⟩) (by simp) (.int .i64 (rn : Int))).setCell (p := ⟨w.heap.size + 2, 1, none⟩) (by simp) (.slice A pd.tn c)
          have ho2 := own_putne (p := ⟨w.heap.size + 2, 1, none⟩) (own_putne (p := ⟨w.heap.size + 2, 0, none⟩) HO.out HOF.out (.int .i64 (rn : Int))) HOF.out (.slice A pd.tn c)
          obtain ⟨Gd, hGd⟩ : ∃ Gd, goodOf rs pd.tn = Gd := ⟨_, rfl⟩
          have hGl : Gd.length ≤ 60 := by
            rw [← hGd]
            have h2 := goodOf_le rs pd.tn
            omega
          have hrn2 : Ct.dcount Gd = rn := by rw [← hGd, ← HPL.out, HRN.out]
          rw [hGd] at ho2
          have HR2 := HR.out
          rw [hGd, hrn2] at HR2
          have hlen : ((List.range pd.tn).map fun i => ((Ct.dcount (Ct.col Gd i) : Nat) : Int)).length = pd.tn := by simp
          obtain ⟨hso2, hdc⟩ := sta_own (rn := (rn : Int)) (l := (List.range pd.tn).map fun i => ((Ct.dcount (Ct.col Gd i) : Nat) : Int)) ho2 hlen (by unfold ccells; rw [List.map_map]; rfl) (by unfold I64; omega) (fun x hx => by
            obtain ⟨i, _, rfl⟩ := List.mem_map.1 hx
            have := Ct.dcount_len (Ct.col Gd i)
            have := col_len Gd i
            unfold I64
            omega)
          refine ⟨⟨⟨(rn : Int), A, c, (List.range pd.tn).map fun i => ((Ct.dcount (Ct.col Gd i) : Nat) : Int)⟩, ?_, hso2, by rw [HR2], by rw [HR2], hdc⟩, hb2⟩
          rw [hlen]
          rfl
end Go.Proofs.YtoficnfpoeaccaaDoor
namespace Go.Proofs.YtoficnfpoeaccaaDoor
set_option linter.unusedVariables false
set_option linter.unusedSimpArgs false
open Go.RowKit
theorem bindL_at : ∀ (ts : List Tm) (B : Ko.Bd) (y : ByteArray), Ko.bindL B ts y = (B y || ts.any fun t => Ko.isVar t && decide (t.v = y))
  | [], B, y => by simp [Ko.bindL]
  | t :: ts, B, y => by
    show Ko.bindL (Ko.bindT B t) ts y = _
    rw [bindL_at ts, List.any_cons]
    unfold Ko.bindT
    rw [Bool.or_assoc]
theorem known_bindL (B : Ko.Bd) (ts : List Tm) (x : Tm) : Ko.known (Ko.bindL B ts) x = (Ko.known B x || ts.any fun t => decide (t.v = x.v)) := by
  unfold Ko.known
  rw [bindL_at]
  cases hv : Ko.isVar x
  · simp
  · have e : (ts.any fun t => Ko.isVar t && decide (t.v = x.v)) = ts.any fun t => decide (t.v = x.v) := by
      congr 1
      funext t
      by_cases e : t.v = x.v
      · have : Ko.isVar t = true := by unfold Ko.isVar at hv ⊢; rw [e]; exact hv
        rw [this]; simp
      · rw [decide_eq_false e, Bool.and_false]
    rw [e]
    simp
theorem scan_step {s : Sta} {ts : List Tm} {k : Nat} {x : Tm} (h : ts[k]? = some x) (B : Ko.Bd) (M : Nat) : Ko.scan s (ts.drop k) k (Ko.bindL B (ts.take k)) M = Ko.scan s (ts.drop (k + 1)) (k + 1) (Ko.bindL B (ts.take (k + 1))) (if Ko.known (Ko.bindL B (ts.take k)) x then Ko.up M (s.dist.getD k 0).toNat else M) := by
  obtain ⟨h1, rfl⟩ := List.getElem?_eq_some_iff.1 h
  rw [List.drop_eq_getElem_cons h1, take_more h]
  conv => lhs; unfold Ko.scan
  congr 1
  unfold Ko.bindL
  rw [List.foldl_append]
  rfl
set_option maxHeartbeats 2000000 in
set_option maxRecDepth 100000 in
theorem matches16_any (s : Sta) (t : Lt) (A : Option Addr) (c : Nat) (nm : List ByteArray) (w : World) (hs : StaOk w s) (ht : LtOk w t) (hA : NmAt w A nm) (hl : nm.length ≤ 1000000) (hd : s.dist.length = t.args.length) (hf : Ko.formed s = true) (h8 : t.args.length ≤ 8) :
    Calls Tryd.prog 37 #[s.v, t.v, .slice A nm.length c] w fun e w' => e = .returned (.int .i64 ((Ko.scan s t.args 0 (bdN nm) s.rows.toNat : Nat) : Int)) ∧ Below w.heap.size w w' := by
  have hrw : 0 ≤ s.rows ∧ s.rows ≤ 1000000 := by unfold Ko.formed at hf; rw [Bool.and_eq_true] at hf; simpa using hf.1
  have HDF := Lib.hid (show ∀ x ∈ s.dist, 0 ≤ x ∧ x ≤ 1000000 by unfold Ko.formed at hf; rw [Bool.and_eq_true, List.all_eq_true] at hf; simpa using hf.2)
  have HI := Lib.hid (fun x W (h : Below w.heap.size w W) => index_any A c nm x W (hA.below h) hl)
  have HDI := Lib.hid (fun W (h : Below w.heap.size w W) => hs.dist.below h)
  have HAR := Lib.hid (fun W (h : Below w.heap.size w W) => ht.args.below h)
  obtain ⟨R, hR⟩ : ∃ R, Ko.scan s t.args 0 (bdN nm) s.rows.toNat = R := ⟨_, rfl⟩
  have HST0 := Lib.hid (show Ko.scan s (t.args.drop 0) 0 (Ko.bindL (bdN nm) (t.args.take 0)) s.rows.toNat = R from hR)
  rw [hR]
  have HSS := Lib.hid (fun k x M (h : t.args[k]? = some x) => scan_step (s := s) h (bdN nm) M)
  obtain ⟨rows, da, dc, dist⟩ := s
  obtain ⟨kind, name, pred, aa, ac, args, bind, elem, least, op, pos⟩ := t
  unfold Sta.v Lt.v
  dsimp only at *
  obtain ⟨rn, rfl⟩ : ∃ rn : Nat, rows = (rn : Int) := ⟨rows.toNat, by omega⟩
  rw [Int.toNat_natCast] at HST0
  have HDL := Lib.hid hd
  clear hs ht hA hf hR hd
  have hw1 : Below w.heap.size w ((w.alloc (.cells #[.int .i64 (rn : Int), .slice da dist.length dc] 46)).alloc (.cells #[.int .i64 kind, .string name, .int .i64 pred, .slice aa args.length ac, .string bind, .string elem, .int .i64 least, .int .i64 op, .int .i64 pos] 60)) := (below1 _ _).alloc (by simp) _
  have hb0 : At ((w.alloc (.cells #[.int .i64 (rn : Int), .slice da dist.length dc] 46)).alloc (.cells #[.int .i64 kind, .string name, .int .i64 pred, .slice aa args.length ac, .string bind, .string elem, .int .i64 least, .int .i64 op, .int .i64 pos] 60)) w.heap.size 46 #[.int .i64 (rn : Int), .slice da dist.length dc] := (At.new _ _ _).alloc _
  have hb1 : At ((w.alloc (.cells #[.int .i64 (rn : Int), .slice da dist.length dc] 46)).alloc (.cells #[.int .i64 kind, .string name, .int .i64 pred, .slice aa args.length ac, .string bind, .string elem, .int .i64 least, .int .i64 op, .int .i64 pos] 60)) (w.heap.size + 1) 60 #[.int .i64 kind, .string name, .int .i64 pred, .slice aa args.length ac, .string bind, .string elem, .int .i64 least, .int .i64 op, .int .i64 pos] := At.newAt (by simp) _ _
  obtain ⟨w1, hw1e⟩ : ∃ w1, w1 = ((w.alloc (.cells #[.int .i64 (rn : Int), .slice da dist.length dc] 46)).alloc (.cells #[.int .i64 kind, .string name, .int .i64 pred, .slice aa args.length ac, .string bind, .string elem, .int .i64 least, .int .i64 op, .int .i64 pos] 60)) := ⟨_, rfl⟩
  rw [← hw1e] at hw1 hb0 hb1
  have HW1 := Lib.hid hw1
  have HBS := Lib.hid hb0
  have HBL := Lib.hid hb1
  have hs1 := hw1.size
  go_enter Tryd.func37, Tryd.ntmps37
  go_wp2_with fail
  rw [← hw1e]
  clear hw1e hw1 hb0 hb1
  go_loopw [7, 8, 9, 10] (fun mv i _ _ wr => ∃ (k M : Nat), k ≤ args.length ∧ i = .int .i64 k ∧ mv = .int .i64 (M : Int) ∧ M ≤ 1000000 ∧ Hid (Ko.scan ⟨(rn : Int), da, dc, dist⟩ (args.drop k) k (Ko.bindL (bdN nm) (args.take k)) M = R) ∧ Below w1.heap.size w1 wr) (fun _ i _ _ _ => args.length - (intOf i).toNat)
  case atStart => exact ⟨0, rn, by omega, rfl, rfl, by omega, HST0, Below.refl _ _⟩
  case round =>
    obtain ⟨k, M, hk, rfl, rfl, hM, HSC, hw⟩ := hrel
    obtain ⟨wo, hwo⟩ : ∃ wo, wo = wr := ⟨_, rfl⟩
    subst hwo
    have hwo : Below w.heap.size w wo := HW1.out.trans (hw.mono hs1)
    have q3 := (HBL.out.next hw).cell 3
    have p0 := (HBS.out.next hw).cell 0
    have p1 := (HBS.out.next hw).cell 1
    simp only [List.getElem?_toArray, List.getElem?_cons_zero, List.getElem?_cons_succ] at p0 p1 q3
    by_cases h1 : k < args.length
    · have d1 : decide ((k : Int) < (args.length : Int)) = true := decide_eq_true (by omega)
      obtain ⟨x, hx⟩ : ∃ x, args[k]? = some x := ⟨_, List.getElem?_eq_getElem h1⟩
      obtain ⟨ga, oa, haa, hga, y0, y1, y2, y3⟩ := tm_cells (HAR.out wo hwo) hx
      have i0 : (0 : Int) ≤ (k : Int) := by omega
      have i1 : (k : Int) < (args.length : Int) := by omega
      have HXX := Lib.hid hx
      have HST := Lib.hid ((HSS.out k x M hx).symm.trans HSC.out)
      have HAA := Lib.hid haa
      rw [haa] at q3
      have HV := Lib.hid (known_name (bdN nm) x)
      clear hx y1 y2 y3 haa
      by_cases hv : x.v.toList = []
      · have t1 : (x.v.toList == []) = true := by rw [hv]; rfl
        have HKN := Lib.hid (show Ko.known (bdN nm) x = true by rw [HV.out, decide_eq_true hv]; rfl)
        clear hv
        go_wp2_with fail
        have HKB := Lib.hid (show Ko.known (bdN nm) x = true from HKN.out)
        go_loopw [9, 10] (fun iv q wr => ∃ (m : Nat), m ≤ k ∧ q = .int .i64 m ∧ iv = .bool (true || (args.take m).any fun t => decide (t.v = x.v)) ∧ Below wo.heap.size wo wr) (fun _ q _ => k - (intOf q).toNat)
        case atStart => exact ⟨0, by omega, rfl, by simp, Below.refl _ _⟩
        case round =>
          clear p0 p1 q3 y0
          obtain ⟨m, hm, rfl, rfl, hbo⟩ := hrel
          have hwr := hw.trans (hbo.mono hw.size)
          have hwW : Below w.heap.size w wr := HW1.out.trans (hwr.mono hs1)
          obtain ⟨fq, hfq⟩ : ∃ fq, (true || (args.take m).any fun t => decide (t.v = x.v)) = fq := ⟨_, rfl⟩
          have HFQ := Lib.hid hfq
          rw [hfq]
          clear hfq
          have q3 := (HBL.out.next hwr).cell 3
          have p0 := (HBS.out.next hwr).cell 0
          have p1 := (HBS.out.next hwr).cell 1
          simp only [List.getElem?_toArray, List.getElem?_cons_zero, List.getElem?_cons_succ] at p0 p1 q3
          have hbl2 := (HBL.out.next hwr).lt
          by_cases h2 : m < k
          · have d2 : decide ((m : Int) < (k : Int)) = true := decide_eq_true (by omega)
            have n2 : decide (m < k) = true := decide_eq_true h2
            obtain ⟨y, hy⟩ : ∃ y, args[m]? = some y := ⟨_, List.getElem?_eq_getElem (by omega)⟩
            obtain ⟨ga2, oa2, haa2, hga2, z0, z1, z2, z3⟩ := tm_cells (HAR.out wr hwW) hy
            obtain ⟨ga3, oa3, haa3, hga3, y0, y1, y2, y3⟩ := tm_cells (HAR.out wr hwW) HXX.out
            obtain ⟨rfl, rfl⟩ : ga2 = ga3 ∧ oa2 = oa3 := by rw [haa2] at haa3; injection haa3 with h; injection h with h1 h2; exact ⟨h1, h2⟩
            have HA2 := Lib.hid haa2
            rw [haa2] at q3
            have j0 : (0 : Int) ≤ (m : Int) := by omega
            have j1 : (m : Int) < (args.length : Int) := by omega
            have f0 : ∀ z : Held wr.heap.size wr, z.w.cell? ⟨w.heap.size + 1, 3, none⟩ = some (.slice (some ⟨ga2, oa2, none⟩) args.length ac) := fun z => z.cell hbl2 q3
            have f1 : ∀ z : Held wr.heap.size wr, z.w.cell? ⟨ga2, oa2 + m * 4, none⟩ = some (.string y.v) := fun z => z.cell hga2 z0
            have f2 : ∀ z : Held wr.heap.size wr, z.w.cell? ⟨ga2, oa2 + k * 4, none⟩ = some (.string x.v) := fun z => z.cell hga2 y0
            obtain ⟨ez, hez⟩ : ∃ ez, decide (y.v = x.v) = ez := ⟨_, rfl⟩
            have qe : (y.v.toList == x.v.toList) = ez := by rw [str_beq, hez]
            have HNX := Lib.hid (show (true || (args.take (m + 1)).any fun t => decide (t.v = x.v)) = (fq || ez) by
              rw [take_more hy, List.any_append, ← Bool.or_assoc, HFQ.out, ← hez]; simp)
            clear z0 z1 z2 z3 y0 y1 y2 y3 hy haa2 haa3 hez p0 p1 q3
            cases fq
            · cases ez
              · go_wp2_with fail
                refine wp_region_held wr.heap.size wr (Below.refl _ _) (by kernel_rfl) (by kernel_rfl) ?_
                repeat (go_big_quiet_step (fail))
                refine wpQuiet_nil ?_
                rintro wt ⟨⟨_, bt⟩, rfl⟩
                go_wp2_with fail
                go_roundw
                case rel => exact ⟨m + 1, by omega, by go_num, by rw [HNX.out]; rfl, hbo.trans (bt.mono hbo.size)⟩
                case measure => simp [intOf]; omega
              · go_wp2_with fail
                refine wp_region_held wr.heap.size wr (Below.refl _ _) (by kernel_rfl) (by kernel_rfl) ?_
                repeat (go_big_quiet_step (fail))
                refine wpQuiet_nil ?_
                rintro wt ⟨⟨_, bt⟩, rfl⟩
                go_wp2_with fail
                go_roundw
                case rel => exact ⟨m + 1, by omega, by go_num, by rw [HNX.out]; rfl, hbo.trans (bt.mono hbo.size)⟩
                case measure => simp [intOf]; omega
            · go_wp2_with fail
              refine wp_region_held wr.heap.size wr (Below.refl _ _) (by kernel_rfl) (by kernel_rfl) ?_
              repeat (go_big_quiet_step (fail))
              refine wpQuiet_nil ?_
              rintro wt ⟨⟨_, bt⟩, rfl⟩
              go_wp2_with fail
              go_roundw
              case rel => exact ⟨m + 1, by omega, by go_num, by rw [HNX.out]; rfl, hbo.trans (bt.mono hbo.size)⟩
              case measure => simp [intOf]; omega
          · have d2 : decide ((m : Int) < (k : Int)) = false := decide_eq_false (by omega)
            have n2 : decide (m < k) = false := decide_eq_false h2
            obtain rfl : m = k := by omega
            have HKX := Lib.hid (show Ko.known (Ko.bindL (bdN nm) (args.take m)) x = fq by rw [known_bindL, HKB.out, HFQ.out])
            have hst := HST.out
            rw [HKX.out] at hst
            cases fq
            · rw [if_neg (by decide)] at hst
              have HNN := Lib.hid hst
              clear hst
              go_wp2_with fail
              go_roundw
              case rel => exact ⟨m + 1, M, by omega, by go_num, rfl, hM, Lib.hid HNN.out, hwr⟩
              case measure => simp [intOf]; omega
            · rw [if_pos rfl] at hst
              have HNN := Lib.hid hst
              obtain ⟨dv, hdv⟩ : ∃ dv, dist[m]? = some dv := ⟨_, List.getElem?_eq_getElem (by have := HDL.out; omega)⟩
              obtain ⟨gd, od, hda, hgd, dd⟩ := int_cells (HDI.out wr hwW) hdv
              have hd0 := HDF.out dv (List.mem_of_getElem? hdv)
              obtain ⟨dn, rfl⟩ : ∃ dn : Nat, dv = (dn : Int) := ⟨dv.toNat, by omega⟩
              have HDA := Lib.hid hda
              rw [hda] at p1
              have j0 : (0 : Int) ≤ (m : Int) := by omega
              have j1 : (m : Int) < (dist.length : Int) := by have := HDL.out; omega
              have HUP := Lib.hid (up16_any M dn wr (by omega) (by omega))
              have HGD := Lib.hid (show (dist.getD m 0).toNat = dn by rw [List.getD_eq_getElem?_getD, hdv]; rfl)
              have hul := Ko.up_le M dn
              clear hst hda hdv
              go_wp2_with (go_at_call 41; refine HUP.out.mono ?_; rintro e w2 ⟨rfl, rfl⟩)
              go_roundw
              case rel => exact ⟨m + 1, Ko.up M dn, by omega, by go_num, rfl, by omega, Lib.hid (by rw [← HGD.out]; exact HNN.out), hwr⟩
              case measure => simp [intOf]; omega
      · have t1 : (x.v.toList == []) = false := by simpa using hv
        have hV : Ko.known (bdN nm) x = hasN nm x.v := by rw [HV.out, decide_eq_false hv]; rfl
        clear hv
        cases hz : hasN nm x.v
        · have HKN := Lib.hid (hV.trans hz)
          have HZ := Lib.hid hz
          clear hz hV
          go_wp2_with (go_at_call 59; refine (HI.out x.v _ hwo).mono ?_; rintro e w2 ⟨⟨i, rfl, hi, hlo, hup⟩, rfl⟩; rw [HZ.out] at hi; have d2 : decide (0 ≤ i) = false := hi; clear hi)
          have HKB := Lib.hid (show Ko.known (bdN nm) x = false from HKN.out)
          go_loopw [9, 10] (fun iv q wr => ∃ (m : Nat), m ≤ k ∧ q = .int .i64 m ∧ iv = .bool (false || (args.take m).any fun t => decide (t.v = x.v)) ∧ Below wo.heap.size wo wr) (fun _ q _ => k - (intOf q).toNat)
          case atStart => exact ⟨0, by omega, rfl, by simp, Below.refl _ _⟩
          case round =>
            clear p0 p1 q3 y0
            obtain ⟨m, hm, rfl, rfl, hbo⟩ := hrel
            have hwr := hw.trans (hbo.mono hw.size)
            have hwW : Below w.heap.size w wr := HW1.out.trans (hwr.mono hs1)
            obtain ⟨fq, hfq⟩ : ∃ fq, (false || (args.take m).any fun t => decide (t.v = x.v)) = fq := ⟨_, rfl⟩
            have HFQ := Lib.hid hfq
            rw [hfq]
            clear hfq
            have q3 := (HBL.out.next hwr).cell 3
            have p0 := (HBS.out.next hwr).cell 0
            have p1 := (HBS.out.next hwr).cell 1
            simp only [List.getElem?_toArray, List.getElem?_cons_zero, List.getElem?_cons_succ] at p0 p1 q3
            have hbl2 := (HBL.out.next hwr).lt
            by_cases h2 : m < k
            · have d2 : decide ((m : Int) < (k : Int)) = true := decide_eq_true (by omega)
              have n2 : decide (m < k) = true := decide_eq_true h2
              obtain ⟨y, hy⟩ : ∃ y, args[m]? = some y := ⟨_, List.getElem?_eq_getElem (by omega)⟩
              obtain ⟨ga2, oa2, haa2, hga2, z0, z1, z2, z3⟩ := tm_cells (HAR.out wr hwW) hy
              obtain ⟨ga3, oa3, haa3, hga3, y0, y1, y2, y3⟩ := tm_cells (HAR.out wr hwW) HXX.out
              obtain ⟨rfl, rfl⟩ : ga2 = ga3 ∧ oa2 = oa3 := by rw [haa2] at haa3; injection haa3 with h; injection h with h1 h2; exact ⟨h1, h2⟩
              have HA2 := Lib.hid haa2
              rw [haa2] at q3
              have j0 : (0 : Int) ≤ (m : Int) := by omega
              have j1 : (m : Int) < (args.length : Int) := by omega
              have f0 : ∀ z : Held wr.heap.size wr, z.w.cell? ⟨w.heap.size + 1, 3, none⟩ = some (.slice (some ⟨ga2, oa2, none⟩) args.length ac) := fun z => z.cell hbl2 q3
              have f1 : ∀ z : Held wr.heap.size wr, z.w.cell? ⟨ga2, oa2 + m * 4, none⟩ = some (.string y.v) := fun z => z.cell hga2 z0
              have f2 : ∀ z : Held wr.heap.size wr, z.w.cell? ⟨ga2, oa2 + k * 4, none⟩ = some (.string x.v) := fun z => z.cell hga2 y0
              obtain ⟨ez, hez⟩ : ∃ ez, decide (y.v = x.v) = ez := ⟨_, rfl⟩
              have qe : (y.v.toList == x.v.toList) = ez := by rw [str_beq, hez]
              have HNX := Lib.hid (show (false || (args.take (m + 1)).any fun t => decide (t.v = x.v)) = (fq || ez) by
                rw [take_more hy, List.any_append, ← Bool.or_assoc, HFQ.out, ← hez]; simp)
              clear z0 z1 z2 z3 y0 y1 y2 y3 hy haa2 haa3 hez p0 p1 q3
              cases fq
              · cases ez
                · go_wp2_with fail
                  refine wp_region_held wr.heap.size wr (Below.refl _ _) (by kernel_rfl) (by kernel_rfl) ?_
                  repeat (go_big_quiet_step (fail))
                  refine wpQuiet_nil ?_
                  rintro wt ⟨⟨_, bt⟩, rfl⟩
                  go_wp2_with fail
                  go_roundw
                  case rel => exact ⟨m + 1, by omega, by go_num, by rw [HNX.out]; rfl, hbo.trans (bt.mono hbo.size)⟩
                  case measure => simp [intOf]; omega
                · go_wp2_with fail
                  refine wp_region_held wr.heap.size wr (Below.refl _ _) (by kernel_rfl) (by kernel_rfl) ?_
                  repeat (go_big_quiet_step (fail))
                  refine wpQuiet_nil ?_
                  rintro wt ⟨⟨_, bt⟩, rfl⟩
                  go_wp2_with fail
                  go_roundw
                  case rel => exact ⟨m + 1, by omega, by go_num, by rw [HNX.out]; rfl, hbo.trans (bt.mono hbo.size)⟩
                  case measure => simp [intOf]; omega
              · go_wp2_with fail
                refine wp_region_held wr.heap.size wr (Below.refl _ _) (by kernel_rfl) (by kernel_rfl) ?_
                repeat (go_big_quiet_step (fail))
                refine wpQuiet_nil ?_
                rintro wt ⟨⟨_, bt⟩, rfl⟩
                go_wp2_with fail
                go_roundw
                case rel => exact ⟨m + 1, by omega, by go_num, by rw [HNX.out]; rfl, hbo.trans (bt.mono hbo.size)⟩
                case measure => simp [intOf]; omega
            · have d2 : decide ((m : Int) < (k : Int)) = false := decide_eq_false (by omega)
              have n2 : decide (m < k) = false := decide_eq_false h2
              obtain rfl : m = k := by omega
              have HKX := Lib.hid (show Ko.known (Ko.bindL (bdN nm) (args.take m)) x = fq by rw [known_bindL, HKB.out, HFQ.out])
              have hst := HST.out
              rw [HKX.out] at hst
              cases fq
              · rw [if_neg (by decide)] at hst
                have HNN := Lib.hid hst
                clear hst
                go_wp2_with fail
                go_roundw
                case rel => exact ⟨m + 1, M, by omega, by go_num, rfl, hM, Lib.hid HNN.out, hwr⟩
                case measure => simp [intOf]; omega
              · rw [if_pos rfl] at hst
                have HNN := Lib.hid hst
                obtain ⟨dv, hdv⟩ : ∃ dv, dist[m]? = some dv := ⟨_, List.getElem?_eq_getElem (by have := HDL.out; omega)⟩
                obtain ⟨gd, od, hda, hgd, dd⟩ := int_cells (HDI.out wr hwW) hdv
                have hd0 := HDF.out dv (List.mem_of_getElem? hdv)
                obtain ⟨dn, rfl⟩ : ∃ dn : Nat, dv = (dn : Int) := ⟨dv.toNat, by omega⟩
                have HDA := Lib.hid hda
                rw [hda] at p1
                have j0 : (0 : Int) ≤ (m : Int) := by omega
                have j1 : (m : Int) < (dist.length : Int) := by have := HDL.out; omega
                have HUP := Lib.hid (up16_any M dn wr (by omega) (by omega))
                have HGD := Lib.hid (show (dist.getD m 0).toNat = dn by rw [List.getD_eq_getElem?_getD, hdv]; rfl)
                have hul := Ko.up_le M dn
                clear hst hda hdv
                go_wp2_with (go_at_call 41; refine HUP.out.mono ?_; rintro e w2 ⟨rfl, rfl⟩)
                go_roundw
                case rel => exact ⟨m + 1, Ko.up M dn, by omega, by go_num, rfl, by omega, Lib.hid (by rw [← HGD.out]; exact HNN.out), hwr⟩
                case measure => simp [intOf]; omega
        · have HKN := Lib.hid (hV.trans hz)
          have HZ := Lib.hid hz
          clear hz hV
          go_wp2_with (go_at_call 59; refine (HI.out x.v _ hwo).mono ?_; rintro e w2 ⟨⟨i, rfl, hi, hlo, hup⟩, rfl⟩; rw [HZ.out] at hi; have d2 : decide (0 ≤ i) = true := hi; clear hi)
          have HKB := Lib.hid (show Ko.known (bdN nm) x = true from HKN.out)
          go_loopw [9, 10] (fun iv q wr => ∃ (m : Nat), m ≤ k ∧ q = .int .i64 m ∧ iv = .bool (true || (args.take m).any fun t => decide (t.v = x.v)) ∧ Below wo.heap.size wo wr) (fun _ q _ => k - (intOf q).toNat)
          case atStart => exact ⟨0, by omega, rfl, by simp, Below.refl _ _⟩
          case round =>
            clear p0 p1 q3 y0
            obtain ⟨m, hm, rfl, rfl, hbo⟩ := hrel
            have hwr := hw.trans (hbo.mono hw.size)
            have hwW : Below w.heap.size w wr := HW1.out.trans (hwr.mono hs1)
            obtain ⟨fq, hfq⟩ : ∃ fq, (true || (args.take m).any fun t => decide (t.v = x.v)) = fq := ⟨_, rfl⟩
            have HFQ := Lib.hid hfq
            rw [hfq]
            clear hfq
            have q3 := (HBL.out.next hwr).cell 3
            have p0 := (HBS.out.next hwr).cell 0
            have p1 := (HBS.out.next hwr).cell 1
            simp only [List.getElem?_toArray, List.getElem?_cons_zero, List.getElem?_cons_succ] at p0 p1 q3
            have hbl2 := (HBL.out.next hwr).lt
            by_cases h2 : m < k
            · have d2 : decide ((m : Int) < (k : Int)) = true := decide_eq_true (by omega)
              have n2 : decide (m < k) = true := decide_eq_true h2
              obtain ⟨y, hy⟩ : ∃ y, args[m]? = some y := ⟨_, List.getElem?_eq_getElem (by omega)⟩
              obtain ⟨ga2, oa2, haa2, hga2, z0, z1, z2, z3⟩ := tm_cells (HAR.out wr hwW) hy
              obtain ⟨ga3, oa3, haa3, hga3, y0, y1, y2, y3⟩ := tm_cells (HAR.out wr hwW) HXX.out
              obtain ⟨rfl, rfl⟩ : ga2 = ga3 ∧ oa2 = oa3 := by rw [haa2] at haa3; injection haa3 with h; injection h with h1 h2; exact ⟨h1, h2⟩
              have HA2 := Lib.hid haa2
              rw [haa2] at q3
              have j0 : (0 : Int) ≤ (m : Int) := by omega
              have j1 : (m : Int) < (args.length : Int) := by omega
              have f0 : ∀ z : Held wr.heap.size wr, z.w.cell? ⟨w.heap.size + 1, 3, none⟩ = some (.slice (some ⟨ga2, oa2, none⟩) args.length ac) := fun z => z.cell hbl2 q3
              have f1 : ∀ z : Held wr.heap.size wr, z.w.cell? ⟨ga2, oa2 + m * 4, none⟩ = some (.string y.v) := fun z => z.cell hga2 z0
              have f2 : ∀ z : Held wr.heap.size wr, z.w.cell? ⟨ga2, oa2 + k * 4, none⟩ = some (.string x.v) := fun z => z.cell hga2 y0
              obtain ⟨ez, hez⟩ : ∃ ez, decide (y.v = x.v) = ez := ⟨_, rfl⟩
              have qe : (y.v.toList == x.v.toList) = ez := by rw [str_beq, hez]
              have HNX := Lib.hid (show (true || (args.take (m + 1)).any fun t => decide (t.v = x.v)) = (fq || ez) by
                rw [take_more hy, List.any_append, ← Bool.or_assoc, HFQ.out, ← hez]; simp)
              clear z0 z1 z2 z3 y0 y1 y2 y3 hy haa2 haa3 hez p0 p1 q3
              cases fq
              · cases ez
                · go_wp2_with fail
                  refine wp_region_held wr.heap.size wr (Below.refl _ _) (by kernel_rfl) (by kernel_rfl) ?_
                  repeat (go_big_quiet_step (fail))
                  refine wpQuiet_nil ?_
                  rintro wt ⟨⟨_, bt⟩, rfl⟩
                  go_wp2_with fail
                  go_roundw
                  case rel => exact ⟨m + 1, by omega, by go_num, by rw [HNX.out]; rfl, hbo.trans (bt.mono hbo.size)⟩
                  case measure => simp [intOf]; omega
                · go_wp2_with fail
                  refine wp_region_held wr.heap.size wr (Below.refl _ _) (by kernel_rfl) (by kernel_rfl) ?_
                  repeat (go_big_quiet_step (fail))
                  refine wpQuiet_nil ?_
                  rintro wt ⟨⟨_, bt⟩, rfl⟩
                  go_wp2_with fail
                  go_roundw
                  case rel => exact ⟨m + 1, by omega, by go_num, by rw [HNX.out]; rfl, hbo.trans (bt.mono hbo.size)⟩
                  case measure => simp [intOf]; omega
              · go_wp2_with fail
                refine wp_region_held wr.heap.size wr (Below.refl _ _) (by kernel_rfl) (by kernel_rfl) ?_
                repeat (go_big_quiet_step (fail))
                refine wpQuiet_nil ?_
                rintro wt ⟨⟨_, bt⟩, rfl⟩
                go_wp2_with fail
                go_roundw
                case rel => exact ⟨m + 1, by omega, by go_num, by rw [HNX.out]; rfl, hbo.trans (bt.mono hbo.size)⟩
                case measure => simp [intOf]; omega
            · have d2 : decide ((m : Int) < (k : Int)) = false := decide_eq_false (by omega)
              have n2 : decide (m < k) = false := decide_eq_false h2
              obtain rfl : m = k := by omega
              have HKX := Lib.hid (show Ko.known (Ko.bindL (bdN nm) (args.take m)) x = fq by rw [known_bindL, HKB.out, HFQ.out])
              have hst := HST.out
              rw [HKX.out] at hst
              cases fq
              · rw [if_neg (by decide)] at hst
                have HNN := Lib.hid hst
                clear hst
                go_wp2_with fail
                go_roundw
                case rel => exact ⟨m + 1, M, by omega, by go_num, rfl, hM, Lib.hid HNN.out, hwr⟩
                case measure => simp [intOf]; omega
              · rw [if_pos rfl] at hst
                have HNN := Lib.hid hst
                obtain ⟨dv, hdv⟩ : ∃ dv, dist[m]? = some dv := ⟨_, List.getElem?_eq_getElem (by have := HDL.out; omega)⟩
                obtain ⟨gd, od, hda, hgd, dd⟩ := int_cells (HDI.out wr hwW) hdv
                have hd0 := HDF.out dv (List.mem_of_getElem? hdv)
                obtain ⟨dn, rfl⟩ : ∃ dn : Nat, dv = (dn : Int) := ⟨dv.toNat, by omega⟩
                have HDA := Lib.hid hda
                rw [hda] at p1
                have j0 : (0 : Int) ≤ (m : Int) := by omega
                have j1 : (m : Int) < (dist.length : Int) := by have := HDL.out; omega
                have HUP := Lib.hid (up16_any M dn wr (by omega) (by omega))
                have HGD := Lib.hid (show (dist.getD m 0).toNat = dn by rw [List.getD_eq_getElem?_getD, hdv]; rfl)
                have hul := Ko.up_le M dn
                clear hst hda hdv
                go_wp2_with (go_at_call 41; refine HUP.out.mono ?_; rintro e w2 ⟨rfl, rfl⟩)
                go_roundw
                case rel => exact ⟨m + 1, Ko.up M dn, by omega, by go_num, rfl, by omega, Lib.hid (by rw [← HGD.out]; exact HNN.out), hwr⟩
                case measure => simp [intOf]; omega
    · have d1 : decide ((k : Int) < (args.length : Int)) = false := decide_eq_false (by omega)
      have HE := Lib.hid (show M = R by
        have h := HSC.out
        rw [List.drop_eq_nil_of_le (by omega)] at h
        exact h)
      go_wp2_with fail
      go_ret
      exact ⟨by rw [← HE.out]; rfl, hwo⟩
end Go.Proofs.YtoficnfpoeaccaaDoor
namespace Go.Proofs.YtoficnfpoeaccaaDoor
set_option linter.unusedVariables false
set_option linter.unusedSimpArgs false
open Go.RowKit
def NewLb (B : Nat) : Value → World → Prop := fun x W => ∃ b, x = .pointer (some ⟨b, 0, none⟩) ∧ B ≤ b ∧ At W b 60 #[.int .i64 0, .string ⟨#[]⟩, .int .i64 0, .slice none 0 0, .string ⟨#[]⟩, .string ⟨#[]⟩, .int .i64 0, .int .i64 0, .int .i64 0]
theorem newLb_on {J : World → Prop} (B : Nat) : Lasting J Onward (NewLb B) := fun x w w' _ hb ⟨b, e, h, h'⟩ => ⟨b, e, h, h'.next hb⟩
theorem lit_put9 {wo w' : World} {b : Nat} {x : Lt} (h : At w' b 60 #[.int .i64 0, .string ⟨#[]⟩, .int .i64 0, .slice none 0 0, .string ⟨#[]⟩, .string ⟨#[]⟩, .int .i64 0, .int .i64 0, .int .i64 0]) (hl : wo.heap.size ≤ b) (hb : Below wo.heap.size wo w') :
    At (((((((((w'.setCell ⟨b, 0, none⟩ (.int .i64 x.kind)).setCell ⟨b, 1, none⟩ (.string x.name)).setCell ⟨b, 2, none⟩ (.int .i64 x.pred)).setCell ⟨b, 3, none⟩ (.slice x.aa x.args.length x.ac)).setCell ⟨b, 4, none⟩ (.string x.bind)).setCell ⟨b, 5, none⟩ (.string x.elem)).setCell ⟨b, 6, none⟩ (.int .i64 x.least)).setCell ⟨b, 7, none⟩ (.int .i64 x.op)).setCell ⟨b, 8, none⟩ (.int .i64 x.pos)) b 60 x.fs.toArray ∧
    Below wo.heap.size wo (((((((((w'.setCell ⟨b, 0, none⟩ (.int .i64 x.kind)).setCell ⟨b, 1, none⟩ (.string x.name)).setCell ⟨b, 2, none⟩ (.int .i64 x.pred)).setCell ⟨b, 3, none⟩ (.slice x.aa x.args.length x.ac)).setCell ⟨b, 4, none⟩ (.string x.bind)).setCell ⟨b, 5, none⟩ (.string x.elem)).setCell ⟨b, 6, none⟩ (.int .i64 x.least)).setCell ⟨b, 7, none⟩ (.int .i64 x.op)).setCell ⟨b, 8, none⟩ (.int .i64 x.pos)) := by
  refine ⟨?_, ((((((((hb.setCell (p := ⟨b, 0, none⟩) hl _).setCell (p := ⟨b, 1, none⟩) hl _).setCell (p := ⟨b, 2, none⟩) hl _).setCell (p := ⟨b, 3, none⟩) hl _).setCell (p := ⟨b, 4, none⟩) hl _).setCell (p := ⟨b, 5, none⟩) hl _).setCell (p := ⟨b, 6, none⟩) hl _).setCell (p := ⟨b, 7, none⟩) hl _).setCell (p := ⟨b, 8, none⟩) hl _⟩
  have h9 := ((((((((h.put 0 (.int .i64 x.kind)).put 1 (.string x.name)).put 2 (.int .i64 x.pred)).put 3 (.slice x.aa x.args.length x.ac)).put 4 (.string x.bind)).put 5 (.string x.elem)).put 6 (.int .i64 x.least)).put 7 (.int .i64 x.op)).put 8 (.int .i64 x.pos)
  simp only [List.setIfInBounds_toArray, List.set_cons_zero, List.set_cons_succ] at h9
  exact h9
theorem fits_pos {ss : List Sta} {body : List Lt} (h : Ko.fits ss body = true) {l : Lt} (hl : l ∈ body) (hk : l.kind = 1 ∨ l.kind = 3) : ∃ (p : Nat) (s : Sta), l.pred = (p : Int) ∧ ss[p]? = some s ∧ Ko.formed s = true ∧ s.dist.length = l.args.length := by
  unfold Ko.fits at h
  rw [List.all_eq_true] at h
  have := h l hl
  unfold Ko.fitsL at this
  rw [decide_eq_false (by omega), Bool.false_or] at this
  cases hs : ss[l.pred.toNat]? with
  | none => rw [hs] at this; cases this
  | some s =>
    rw [hs] at this
    simp only [Bool.and_eq_true, decide_eq_true_eq] at this
    exact ⟨l.pred.toNat, s, by omega, hs, this.1.2, this.2⟩
theorem stepE_neg {ss : List Sta} {l : Lt} {B : Ko.Bd} {N C : Nat} (h : ¬ (l.kind = 1 ∨ l.kind = 3)) (hr : Ko.ready B l = true) : Ko.stepE ss l B ⟨N, C⟩ = ⟨if bindsP B l then N else Ko.up N 2, min (C + N) Ko.most⟩ := by
  have e : bindsP B l = !l.args.all (Ko.known B) := by
    unfold Ko.ready at hr
    rw [if_neg h] at hr
    unfold bindsP
    by_cases h5 : l.kind = 5 ∧ l.op = 1
    · rw [decide_eq_true h5.1, decide_eq_true h5.2]; rfl
    · rw [if_neg (fun q => h5 ⟨q.1, q.2.1⟩)] at hr
      rw [hr]
      simp
  unfold Ko.stepE
  rw [if_neg h, e]
  cases l.args.all (Ko.known B) <;> rfl
theorem scan16_le (s : Sta) : ∀ (ts : List Tm) (i : Nat) (B : Ko.Bd) (m : Nat), Ko.scan s ts i B m ≤ m
  | [], _, _, _ => Nat.le_refl _
  | t :: ts, i, B, m => by
    unfold Ko.scan
    refine Nat.le_trans (scan16_le s ts _ _ _) ?_
    split
    · exact Ko.up_le _ _
    · exact Nat.le_refl _
theorem max_cast (m : Nat) : max (m : Int) 1 = ((max m 1 : Nat) : Int) := by
  rcases Nat.le_total m 1 with h | h
  · rw [Nat.max_eq_right h, Int.max_eq_right (by omega)]; rfl
  · rw [Nat.max_eq_left h, Int.max_eq_left (by omega)]
set_option maxHeartbeats 4000000 in
set_option maxRecDepth 100000 in
theorem estimate16_any (SA : Option Addr) (sc : Nat) (ss : List Sta) (r : Rl) (A : Option Addr) (c : Nat) (bd : List ByteArray) (O : Option Addr) (oc : Nat) (order : List Int) (w : World)
    (hX : Ar w SA ss r A c bd O order) (hf : fewB ss r bd.length order.length = true) :
    Calls Tryd.prog 17 #[.slice SA ss.length sc, r.v, .slice A bd.length c, .slice O order.length oc] w fun e w' => e = .returned (.int .i64 (Ko.estimate ss r bd order)) ∧ Below w.heap.size w w' := by
  have hsm := sm_of hf hX.zb hX.zt
  have hb8 := hsm.hb8
  have hbd := hsm.hbd
  have hol := hsm.hol
  have H8 := Lib.hid hsm.h8
  have HSL := Lib.hid hsm.hsl
  have HX := Lib.hid (fun W (h : Below w.heap.size w W) => hX.below h)
  have HFI := Lib.hid (fun W (h : Below w.heap.size w W) => (@Ar.fits W SA sc ss r A c bd O order (HX.out W h) bd.length) hf)
  have HEV := Lib.hid (fun W (h : Below w.heap.size w W) => (@Ar.eval W SA ss r A c bd O oc order (HX.out W h)) hf)
  obtain ⟨iS, hs0, hs1, hs2, hs3⟩ := info_parts s_info
  have hw0 : Below w.heap.size w (w.alloc (.cells #[.string r.name, .int .i64 r.pred, .slice r.args.a r.args.n r.args.c, .int .i64 r.ek, .string r.en, .string r.ev, .int .i64 r.ei, .slice r.ba r.body.length r.bc, .int .i64 r.pos] 38)) := below1 _ _
  have hat0 : At (w.alloc (.cells #[.string r.name, .int .i64 r.pred, .slice r.args.a r.args.n r.args.c, .int .i64 r.ek, .string r.en, .string r.ev, .int .i64 r.ei, .slice r.ba r.body.length r.bc, .int .i64 r.pos] 38)) w.heap.size 38 (rcells r r.ba r.body.length r.bc) := At.new w _ _
  obtain ⟨e0, e1, e2, e3, e4, e5, e6, e7, e8⟩ := rcells_at hat0
  obtain ⟨E, hE⟩ : ∃ E, Ko.estimate ss r bd order = E := ⟨_, rfl⟩
  rw [hE]
  unfold Rl.v at HFI HEV ⊢
  clear hX hf hsm
  cases he : Ko.evaluable r.body bd order
  · rw [he] at HEV
    have HR := Lib.hid (show -1 = E by rw [← hE]; unfold Ko.estimate; rw [he]; rfl)
    clear he hE
    go_enter Tryd.func17, Tryd.ntmps17
    go_wp2_with (go_at_call 19; with_reducible refine (HEV.out _ hw0).mono ?_; rintro e w2 ⟨rfl, hb2⟩; have hw2 : Below w.heap.size w w2 := hw0.trans (hb2.mono hw0.size); have hat2 := hat0.next hb2; clear e0 e1 e2 e3 e4 e5 e6 e7 e8; obtain ⟨e0, e1, e2, e3, e4, e5, e6, e7, e8⟩ := rcells_at hat2)
    go_ret
    exact ⟨by rw [← HR.out]; rfl, hw2⟩
  · rw [he] at HEV
    cases hg : Ko.fits ss r.body
    · rw [hg] at HFI
      have HR := Lib.hid (show -1 = E by rw [← hE]; unfold Ko.estimate; rw [he, hg]; rfl)
      clear he hE hg
      go_enter Tryd.func17, Tryd.ntmps17
      go_wp2_with first | (go_at_call 18; with_reducible refine (HFI.out _ hw2).mono ?_; rintro e w3 ⟨rfl, hb3⟩; have hw3 : Below w.heap.size w w3 := hw2.trans (hb3.mono hw2.size); have hat3 := hat2.next hb3; clear e0 e1 e2 e3 e4 e5 e6 e7 e8; obtain ⟨e0, e1, e2, e3, e4, e5, e6, e7, e8⟩ := rcells_at hat3) | (go_at_call 19; with_reducible refine (HEV.out _ hw0).mono ?_; rintro e w2 ⟨rfl, hb2⟩; have hw2 : Below w.heap.size w w2 := hw0.trans (hb2.mono hw0.size); have hat2 := hat0.next hb2; clear e0 e1 e2 e3 e4 e5 e6 e7 e8; obtain ⟨e0, e1, e2, e3, e4, e5, e6, e7, e8⟩ := rcells_at hat2)
      go_ret
      exact ⟨by rw [← HR.out]; rfl, hw3⟩
    · rw [hg] at HFI
      obtain ⟨R, hRR⟩ : ∃ R, Ko.est ss r.body order (fun x => bd.contains x) ⟨1, 0⟩ = R := ⟨_, rfl⟩
      have HRE := Lib.hid (show (R : Int) = E by rw [← hE, ← hRR]; unfold Ko.estimate; rw [he, hg]; rfl)
      have hbx : (fun x => bd.contains x) = bdN bd := by funext x; exact (hasN_contains bd x).symm
      have HE0 := Lib.hid (show Ko.est ss r.body (order.drop 0) (bdN bd) ⟨1, 0⟩ = R by rw [← hbx]; exact hRR)
      have HR0 := Lib.hid (show Ko.runs r.body (order.drop 0) [] (bdN bd) = true by
        unfold Ko.evaluable at he
        rw [Bool.and_eq_true, hbx] at he
        exact he.2)
      have HRG := Lib.hid (runs_range HR0.out)
      have HG := Lib.hid hg
      clear he hE hg hRR hbx
      go_enter Tryd.func17, Tryd.ntmps17
      go_wp2_with first | (at_builtin; refine wpList_append_from rfl _ _ 39 rfl w.heap.size 9 iS (.string ⟨#[]⟩) 1 16 Tryd.underlying39 hs0 hs1 hs2 hs3 rfl (by decide) _ _ _ rfl (own_empty w3 9 1 w.heap.size hw3.size) A bd.length c (ncs bd) rfl (by simp) ?c1 ?c2 ?c3 ?c4 ?c5 ?c6 ?_) | (go_at_call 18; with_reducible refine (HFI.out _ hw2).mono ?_; rintro e w3 ⟨rfl, hb3⟩; have hw3 : Below w.heap.size w w3 := hw2.trans (hb3.mono hw2.size); have hat3 := hat2.next hb3; clear e0 e1 e2 e3 e4 e5 e6 e7 e8; obtain ⟨e0, e1, e2, e3, e4, e5, e6, e7, e8⟩ := rcells_at hat3) | (go_at_call 19; with_reducible refine (HEV.out _ hw0).mono ?_; rintro e w2 ⟨rfl, hb2⟩; have hw2 : Below w.heap.size w w2 := hw0.trans (hb2.mono hw0.size); have hat2 := hat0.next hb2; clear e0 e1 e2 e3 e4 e5 e6 e7 e8; obtain ⟨e0, e1, e2, e3, e4, e5, e6, e7, e8⟩ := rcells_at hat2)
      case c1 => exact ((HX.out w (Below.refl _ _)).nm).none (HX.out w (Below.refl _ _)).nil
      case c2 => exact ((HX.out _ (hw3.alloc hw3.size _)).nm).news
      case c3 => intro u hu; obtain ⟨x, _, rfl⟩ := List.mem_map.1 hu; rfl
      case c4 => simp [maxLen]; omega
      case c5 => omega
      case c6 => have := hw3.size; simp; omega
      intro v4 w4 o4 g4
      obtain ⟨A4, c4, rfl⟩ := own_len o4
      have ho3 := own_empty w3 9 1 w.heap.size hw3.size
      have hat4 := (hat3.alloc (.cells #[] 9)).grown g4 (own_far ho3 (hat3.alloc _) (by decide))
      have hw4 : Below w.heap.size w w4 := (hw3.alloc hw3.size (.cells #[] 9)).grown g4 (by have := hw3.size; simp; omega) (fun q hq => (own_lt ho3 hq).1)
      clear hb2 hb3 hat0 hat2 hat3 hw0 hw2 hw3 ho3 g4 e0 e1 e2 e3 e4 e5 e6 e7 e8
      go_wp2_with fail
      go_loopw [9, 10, 11, 12, 13, 14, 15] (fun nv cv bv i _ _ _ wr => ∃ (k N C : Nat) (A2 : Option Addr) (c2 : Nat) (nm : List ByteArray) (d : List Nat), k ≤ order.length ∧ i = .int .i64 k ∧ nv = .int .i64 (N : Int) ∧ cv = .int .i64 (C : Int) ∧ bv = .slice A2 nm.length c2 ∧ N ≤ 1000000000 ∧ C ≤ 1000000000 ∧ wr.ownsRow w.heap.size 9 1 (.slice A2 nm.length c2) nm.length (ncs nm) ∧ nm.length ≤ 20 + 8 * k ∧ Hid (Ko.est ss r.body (order.drop k) (bdN nm) ⟨N, C⟩ = R) ∧ Hid (Ko.runs r.body (order.drop k) d (bdN nm) = true) ∧ At wr w.heap.size 38 (rcells r r.ba r.body.length r.bc) ∧ Below w.heap.size w wr) (fun _ _ _ i _ _ _ _ => order.length - (intOf i).toNat)
      case atStart => exact ⟨0, 1, 0, A4, c4, bd, [], by omega, rfl, rfl, rfl, by simp, by omega, by omega, by simpa using o4, by omega, HE0, HR0, hat4, hw4⟩
      case round =>
        clear hat4 hw4 o4
        obtain ⟨k, N, C, A2, c2, nm, d, hk, rfl, rfl, rfl, rfl, hN, hC, ho, hnm, HEK, HRK, hat, hw⟩ := hrel
        obtain ⟨wo, hwo⟩ : ∃ wo, wo = wr := ⟨_, rfl⟩
        subst hwo
        have hwo := hw
        have hso := hw.size
        by_cases h1 : k < order.length
        · have d1 : decide ((k : Int) < (order.length : Int)) = true := decide_eq_true (by omega)
          obtain ⟨jz, hj0⟩ : ∃ j, order[k]? = some j := ⟨_, List.getElem?_eq_getElem h1⟩
          obtain ⟨j, rfl, hjl⟩ := HRG.out jz (by rw [List.drop_zero]; exact List.mem_of_getElem? hj0)
          obtain ⟨x, hx⟩ : ∃ x, r.body[j]? = some x := ⟨_, List.getElem?_eq_getElem hjl⟩
          have hrun := runs_in (d := d) (B := bdN nm) hj0 hx
          rw [HRK.out] at hrun
          replace hrun := hrun.symm
          simp only [Bool.and_eq_true] at hrun
          have HRUN := Lib.hid hrun.2
          have HRDY := Lib.hid hrun.1.2
          have HEST := Lib.hid ((est_step (ss := ss) (B := bdN nm) (e := ⟨N, C⟩) hj0 hx).symm.trans HEK.out)
          obtain ⟨go, oo, hoa, hgo, yo⟩ := int_cells (HX.out wo hw).od hj0
          subst hoa
          obtain ⟨gb, ob, hba, hgb, x0, x1, x2, x3, x4, x5, x6, x7, x8⟩ := lt_cells (HX.out wo hw).rl.body hx
          have HBA := Lib.hid hba
          have HXX := Lib.hid hx
          have HAT := Lib.hid hat
          have HOO := Lib.hid ho
          have hx8 := H8.out x (List.mem_of_getElem? hx)
          have i0 : (0 : Int) ≤ (k : Int) := by omega
          have i1 : (k : Int) < (order.length : Int) := by omega
          have i2 : (0 : Int) ≤ (j : Int) := by omega
          have i3 : (j : Int) < (r.body.length : Int) := by omega
          clear hj0 hx hba hrun hat ho
          go_wp2_with fail
          refine' wp_region_last 9 _ _ (Below wo.heap.size wo) (Onward) (Vl :: Vl :: Vl :: Vl :: Vl :: Vl :: Vl :: Vl :: NewLb wo.heap.size :: []) ?hF (by kernel_rfl) (by kernel_rfl) (by kernel_rfl) (by rfl) (by rfl) (by rfl) (by kernel_rfl) ((Below.refl _ _).drew) (lasting_cons (lasting_vl) (lasting_cons (lasting_vl) (lasting_cons (lasting_vl) (lasting_cons (lasting_vl) (lasting_cons (lasting_vl) (lasting_cons (lasting_vl) (lasting_cons (lasting_vl) (lasting_cons (lasting_vl) (lasting_cons (newLb_on _) (lasting_none)))))))))) ?hops ?hlast
          case hF => (intro v; simp only [over, Act.put, List.setIfInBounds_toArray, List.set_cons_zero, List.set_cons_succ, Nat.zero_add, Nat.reduceAdd]; exact rfl)
          case hops =>
            refine ⟨?_, ?_⟩
            · intro v w' hj hd hs K hK
              have hk := hK.out
              simp only [Act.put, List.setIfInBounds_toArray, List.set_cons_zero, List.set_cons_succ] at hk
              have HK := Lib.hid hk
              clear hd hs hk hK
              go_simp
              exact HK.out _ _ hj.out (Below.refl _ _) (show _ = _ from rfl)
            refine ⟨?_, ?_⟩
            · intro v w' hj hd hs K hK
              have t0 : v 0 = _ := hd.out 0 (by kernel_rfl)
              have hbr := HAT.out.next hj.out
              have e7x : w'.cell? ⟨w.heap.size, 7, none⟩ = some (.slice (some ⟨gb, ob, none⟩) r.body.length r.bc) := by have h := (rcells_at hbr).2.2.2.2.2.2.2.1; rw [HBA.out] at h; exact h
              have hk := hK.out
              simp only [t0, Act.put, List.setIfInBounds_toArray, List.set_cons_zero, List.set_cons_succ] at hk
              have HK := Lib.hid hk
              clear hd hs hk hK
              go_simp
              exact HK.out _ _ hj.out (Below.refl _ _) (show _ = _ from rfl)
            refine ⟨?_, ?_⟩
            · intro v w' hj hd hs K hK
              have hk := hK.out
              simp only [Act.put, List.setIfInBounds_toArray, List.set_cons_zero, List.set_cons_succ] at hk
              have HK := Lib.hid hk
              clear hd hs hk hK
              go_simp
              exact HK.out _ _ hj.out (Below.refl _ _) (show _ = _ from rfl)
            refine ⟨?_, ?_⟩
            · intro v w' hj hd hs K hK
              have hk := hK.out
              simp only [Act.put, List.setIfInBounds_toArray, List.set_cons_zero, List.set_cons_succ] at hk
              have HK := Lib.hid hk
              clear hd hs hk hK
              go_simp
              exact HK.out _ _ hj.out (Below.refl _ _) (show _ = _ from rfl)
            refine ⟨?_, ?_⟩
            · intro v w' hj hd hs K hK
              have t2 : v 2 = _ := hd.out 2 (by kernel_rfl)
              have t3 : v 3 = _ := hd.out 3 (by kernel_rfl)
              have hk := hK.out
              simp only [t2, t3, Act.put, List.setIfInBounds_toArray, List.set_cons_zero, List.set_cons_succ] at hk
              have HK := Lib.hid hk
              clear hd hs hk hK
              go_simp
              exact HK.out _ _ hj.out (Below.refl _ _) (show _ = _ from rfl)
            refine ⟨?_, ?_⟩
            · intro v w' hj hd hs K hK
              have t4 : v 4 = _ := hd.out 4 (by kernel_rfl)
              have yox := next_cell yo hj.out
              have hk := hK.out
              simp only [t4, Act.put, List.setIfInBounds_toArray, List.set_cons_zero, List.set_cons_succ] at hk
              have HK := Lib.hid hk
              clear hd hs hk hK
              go_simp
              exact HK.out _ _ hj.out (Below.refl _ _) (show _ = _ from rfl)
            refine ⟨?_, ?_⟩
            · intro v w' hj hd hs K hK
              have t1 : v 1 = _ := hd.out 1 (by kernel_rfl)
              have t5 : v 5 = _ := hd.out 5 (by kernel_rfl)
              have hk := hK.out
              simp only [t1, t5, Act.put, List.setIfInBounds_toArray, List.set_cons_zero, List.set_cons_succ] at hk
              have HK := Lib.hid hk
              clear hd hs hk hK
              go_simp
              exact HK.out _ _ hj.out (Below.refl _ _) (show _ = _ from rfl)
            refine ⟨?_, ?_⟩
            · intro v w' hj hd hs K hK
              have t6 : v 6 = _ := hd.out 6 (by kernel_rfl)
              have x0x := next_cell x0 hj.out
              have x1x := next_cell x1 hj.out
              have x2x := next_cell x2 hj.out
              have x3x := next_cell x3 hj.out
              have x4x := next_cell x4 hj.out
              have x5x := next_cell x5 hj.out
              have x6x := next_cell x6 hj.out
              have x7x := next_cell x7 hj.out
              have x8x := next_cell x8 hj.out
              have hk := hK.out
              simp only [t6, Act.put, List.setIfInBounds_toArray, List.set_cons_zero, List.set_cons_succ] at hk
              have HK := Lib.hid hk
              clear hd hs hk hK
              go_simp
              exact HK.out _ _ hj.out (Below.refl _ _) (show _ = _ from rfl)
            refine ⟨?_, ?_⟩
            · intro v w' hj hd hs K hK
              have hk := hK.out
              simp only [Act.put, List.setIfInBounds_toArray, List.set_cons_zero, List.set_cons_succ] at hk
              have HK := Lib.hid hk
              clear hd hs hk hK
              go_simp
              exact HK.out _ _ (hj.out.alloc hj.out.size _) (below1 _ _) ⟨_, rfl, hj.out.size, At.new _ _ _⟩
            trivial
          case hlast =>
            intro v w' hj hd K hK
            have t7 : v 7 = _ := hd.out 7 (of_decide_eq_true (by kernel_rfl))
            obtain ⟨b8, t8, l8, a8⟩ : NewLb wo.heap.size (v 8) w' := hd.out 8 (of_decide_eq_true (by kernel_rfl))
            have yf0 := a8.frozen 0
            have yf1 := a8.frozen 1
            have yf2 := a8.frozen 2
            have yf3 := a8.frozen 3
            have yf4 := a8.frozen 4
            have yf5 := a8.frozen 5
            have yf6 := a8.frozen 6
            have yf7 := a8.frozen 7
            have yf8 := a8.frozen 8
            have yc0 := a8.cell 0
            have yc1 := a8.cell 1
            have yc2 := a8.cell 2
            have yc3 := a8.cell 3
            have yc4 := a8.cell 4
            have yc5 := a8.cell 5
            have yc6 := a8.cell 6
            have yc7 := a8.cell 7
            have yc8 := a8.cell 8
            have yl := a8.lt
            simp only [List.getElem?_toArray, List.getElem?_cons_zero, List.getElem?_cons_succ] at yc0 yc1 yc2 yc3 yc4 yc5 yc6 yc7 yc8
            have hk := hK.out
            simp only [t7, t8, Act.put, List.setIfInBounds_toArray, List.set_cons_zero, List.set_cons_succ] at hk
            have HK := Lib.hid hk
            clear hd hk hK
            go_simp
            refine HK.out _ ?_
            obtain ⟨hatL, hbL⟩ := lit_put9 (x := x) a8 l8 hj.out
            generalize hw5 : (((((((((w'.setCell ⟨b8, 0, none⟩ (.int .i64 x.kind)).setCell ⟨b8, 1, none⟩ (.string x.name)).setCell ⟨b8, 2, none⟩ (.int .i64 x.pred)).setCell ⟨b8, 3, none⟩ (.slice x.aa x.args.length x.ac)).setCell ⟨b8, 4, none⟩ (.string x.bind)).setCell ⟨b8, 5, none⟩ (.string x.elem)).setCell ⟨b8, 6, none⟩ (.int .i64 x.least)).setCell ⟨b8, 7, none⟩ (.int .i64 x.op)).setCell ⟨b8, 8, none⟩ (.int .i64 x.pos)) = w5 at hatL hbL ⊢
            clear hw5 yf0 yf1 yf2 yf3 yf4 yf5 yf6 yf7 yf8 yc0 yc1 yc2 yc3 yc4 yc5 yc6 yc7 yc8 yl t8 a8 hj HK x0 x1 x2 x3 x4 x5 x6 x7 x8 yo
            have hw5 : Below w.heap.size w w5 := hwo.trans (hbL.mono hso)
            have zb0 : w5.cell? ⟨b8, 0, none⟩ = some (.int .i64 x.kind) := hatL.cell 0
            by_cases k1 : x.kind = 1
            · have c1 : (x.kind == 1) = true := by simpa using k1
              have hk13 : x.kind = 1 ∨ x.kind = 3 := Or.inl k1
              clear k1
              obtain ⟨p, s, hp, hs, hfm, hdl⟩ := fits_pos HG.out (List.mem_of_getElem? HXX.out) hk13
              have HSTP0 := Lib.hid (stepE_pos (ss := ss) (B := bdN nm) (N := N) (C := C) hk13 hp hs)
              have hpl := (List.getElem?_eq_some_iff.1 hs).1
              obtain ⟨gs, os, rfl, hgs, s0, s1⟩ := sta_cells (HX.out w5 hw5).env.s hs
              have HMT := Lib.hid (fun W (h : Below wo.heap.size wo W) => matches16_any s x A2 c2 nm W ((HX.out W (hwo.trans (h.mono hso))).env.o s (List.mem_of_getElem? hs)) ((HX.out W (hwo.trans (h.mono hso))).rl.each x (List.mem_of_getElem? HXX.out)) (own_names (own_below HOO.out h)) (by omega) hdl hfm hx8)
              have hrows : s.rows.toNat ≤ 1000000 := by have := Ko.formed_rows hfm; omega
              have hm0 : Ko.scan s x.args 0 (bdN nm) s.rows.toNat ≤ 1000000 := Nat.le_trans (scan16_le _ _ _ _ _) hrows
              obtain ⟨m, hm⟩ : ∃ m, Ko.scan s x.args 0 (bdN nm) s.rows.toNat = m := ⟨_, rfl⟩
              obtain ⟨mx, hmx⟩ : ∃ mx, max m 1 = mx := ⟨_, rfl⟩
              have hmx1 : max (m : Int) 1 = (mx : Int) := by rw [max_cast, hmx]
              rw [hm] at HMT HSTP0 hm0
              have hmxl : mx ≤ 1000000 := by omega
              rw [hmx] at HSTP0
              have HP2 := Lib.hid (fun W => product16_any N m W (by omega) (by omega))
              have HP1 := Lib.hid (fun W => product16_any N mx W (by omega) (by omega))
              obtain ⟨N2, hN2⟩ : ∃ N2, Ko.prod N m = N2 := ⟨_, rfl⟩
              obtain ⟨Q, hQ⟩ : ∃ Q, Ko.prod N mx = Q := ⟨_, rfl⟩
              have hN2l : N2 ≤ 1000000000 := by rw [← hN2]; exact prod_le _ _
              have hQl : Q ≤ 1000000000 := by rw [← hQ]; exact prod_le _ _
              have HSM := Lib.hid (fun W => sum16_any C Q W (by omega) (by omega))
              obtain ⟨C2, hC2⟩ : ∃ C2, min (C + Q) Ko.most = C2 := ⟨_, rfl⟩
              have hC2l : C2 ≤ 1000000000 := by rw [← hC2]; exact Nat.min_le_right _ _
              rw [hN2] at HP2 HSTP0
              rw [hQ] at HP1 HSTP0
              rw [hC2] at HSM HSTP0
              have HSTP := Lib.hid HSTP0.out
              have yb0 := hatL.cell 0; have yb1 := hatL.cell 1; have yb2 := hatL.cell 2; have yb3 := hatL.cell 3; have yb4 := hatL.cell 4; have yb5 := hatL.cell 5; have yb6 := hatL.cell 6; have yb7 := hatL.cell 7; have yb8 := hatL.cell 8
              simp only [Lt.fs, List.getElem?_toArray, List.getElem?_cons_zero, List.getElem?_cons_succ] at yb0 yb1 yb2 yb3 yb4 yb5 yb6 yb7 yb8
              rw [hp] at yb2
              have lb := hatL.lt
              have f0 : ∀ z : Held w5.heap.size w5, z.w.cell? ⟨b8, 0, none⟩ = some (.int .i64 x.kind) := fun z => z.cell lb yb0
              have f1 : ∀ z : Held w5.heap.size w5, z.w.cell? ⟨b8, 1, none⟩ = some (.string x.name) := fun z => z.cell lb yb1
              have f2 : ∀ z : Held w5.heap.size w5, z.w.cell? ⟨b8, 2, none⟩ = some (.int .i64 (p : Int)) := fun z => z.cell lb yb2
              have f3 : ∀ z : Held w5.heap.size w5, z.w.cell? ⟨b8, 3, none⟩ = some (.slice x.aa x.args.length x.ac) := fun z => z.cell lb yb3
              have f4 : ∀ z : Held w5.heap.size w5, z.w.cell? ⟨b8, 4, none⟩ = some (.string x.bind) := fun z => z.cell lb yb4
              have f5 : ∀ z : Held w5.heap.size w5, z.w.cell? ⟨b8, 5, none⟩ = some (.string x.elem) := fun z => z.cell lb yb5
              have f6 : ∀ z : Held w5.heap.size w5, z.w.cell? ⟨b8, 6, none⟩ = some (.int .i64 x.least) := fun z => z.cell lb yb6
              have f7 : ∀ z : Held w5.heap.size w5, z.w.cell? ⟨b8, 7, none⟩ = some (.int .i64 x.op) := fun z => z.cell lb yb7
              have f8 : ∀ z : Held w5.heap.size w5, z.w.cell? ⟨b8, 8, none⟩ = some (.int .i64 x.pos) := fun z => z.cell lb yb8
              have g0 : ∀ z : Held w5.heap.size w5, z.w.cell? ⟨gs, os + p * 2, none⟩ = some (.int .i64 s.rows) := fun z => z.cell hgs s0
              have g1 : ∀ z : Held w5.heap.size w5, z.w.cell? ⟨gs, os + p * 2 + 1, none⟩ = some (.slice s.da s.dist.length s.dc) := fun z => z.cell hgs s1
              have j0 : (0 : Int) ≤ (p : Int) := by omega
              have j1 : (p : Int) < (ss.length : Int) := by omega
              have HMT2 := Lib.hid (fun W (h : Below wo.heap.size wo W) => show Calls Tryd.prog 37 #[.agg #[.int .i64 s.rows, .slice s.da s.dist.length s.dc], .agg #[.int .i64 x.kind, .string x.name, .int .i64 (p : Int), .slice x.aa x.args.length x.ac, .string x.bind, .string x.elem, .int .i64 x.least, .int .i64 x.op, .int .i64 x.pos], .slice A2 nm.length c2] W fun e w' => e = .returned (.int .i64 (m : Int)) ∧ Below W.heap.size W w' by have h2 := HMT.out W h; unfold Sta.v Lt.v at h2; rw [hp] at h2; exact h2)
              clear HMT hs hfm hdl hm hmx hN2 hQ hC2 hp s0 s1 yb0 yb1 yb2 yb3 yb4 yb5 yb6 yb7 yb8 hk13
              go_wp2_with fail
              refine wp_region_held w5.heap.size w5 (Below.refl _ _) (by kernel_rfl) (by kernel_rfl) ?_
              repeat (go_big_quiet_step ((go_at_call 37; exact held_call _ (Nat.le_refl _) (HMT2.out _ (hbL.trans (Held.ok _ |>.mono hbL.size))))))
              refine wpQuiet_nil ?_
              rintro _ ⟨⟨w7, h7⟩, rfl⟩
              clear f0 f1 f2 f3 f4 f5 f6 f7 f8 g0 g1
              have hbw := hbL.trans (h7.mono hbL.size)
              have hatw := hatL.next h7
              go_wp2_with first
                | (go_at_call 39; with_reducible refine (HP2.out _).mono ?_; rintro e w8 ⟨rfl, rfl⟩)
                | (go_at_call 38; with_reducible refine (HSM.out _).mono ?_; rintro e w8 ⟨rfl, rfl⟩)
                | (go_at_call 39; with_reducible refine (HP1.out _).mono ?_; rintro e w8 ⟨rfl, rfl⟩)
              have HES := Lib.hid (show Ko.est ss r.body (order.drop (k + 1)) (Ko.bindL (bdN nm) x.args) ⟨N2, C2⟩ = R by rw [← HSTP.out]; exact HEST.out)
              go_loopw [11, 15] (fun bv q wr => ∃ (m : Nat) (A4 : Option Addr) (c4 : Nat) (nm4 : List ByteArray), m ≤ x.args.length ∧ q = .int .i64 m ∧ bv = .slice A4 nm4.length c4 ∧ wr.ownsRow w.heap.size 9 1 (.slice A4 nm4.length c4) nm4.length (ncs nm4) ∧ nm4.length ≤ nm.length + m ∧ Hid (bdN nm4 = Ko.bindL (bdN nm) (x.args.take m)) ∧ At wr b8 60 (x.fs.toArray) ∧ At wr w.heap.size 38 (rcells r r.ba r.body.length r.bc) ∧ Below w.heap.size w wr) (fun _ q _ => x.args.length - (intOf q).toNat)
              case atStart => exact ⟨0, A2, c2, nm, by omega, rfl, rfl, own_below HOO.out hbw, by omega, Lib.hid rfl, hatw, HAT.out.next hbw, hwo.trans (hbw.mono hwo.size)⟩
              case round =>
                clear hatw hbw
                obtain ⟨m, A4, c4, nm4, hm, rfl, rfl, ho, hn4, HB4, hat, har, hw4⟩ := hrel
                have q3 : wr.cell? ⟨b8, 3, none⟩ = some (.slice x.aa x.args.length x.ac) := hat.cell 3
                by_cases h2 : m < x.args.length
                · have d2 : decide ((m : Int) < (x.args.length : Int)) = true := decide_eq_true (by omega)
                  obtain ⟨t, ht⟩ : ∃ t, x.args[m]? = some t := ⟨_, List.getElem?_eq_getElem h2⟩
                  obtain ⟨ga, oa, haa, hga, y0, y1, y2, y3⟩ := tm_cells ((HX.out wr hw4).rl.each x (List.mem_of_getElem? HXX.out)).args ht
                  have HAA := Lib.hid haa
                  rw [haa] at q3
                  have j0 : (0 : Int) ≤ (m : Int) := by omega
                  have j1 : (m : Int) < (x.args.length : Int) := by omega
                  have HSN := Lib.hid (show Ko.bindL (bdN nm) (x.args.take (m + 1)) = Ko.bindT (Ko.bindL (bdN nm) (x.args.take m)) t by unfold Ko.bindL; rw [take_more ht, List.foldl_append]; rfl)
                  clear ht haa y1 y2 y3
                  by_cases hv : t.v.toList = []
                  · have t1 : (t.v.toList != []) = false := by rw [hv]; rfl
                    have t2 : (t.v.toList == []) = true := by rw [hv]; rfl
                    have HV := Lib.hid (show Ko.bindT (Ko.bindL (bdN nm) (x.args.take m)) t = Ko.bindL (bdN nm) (x.args.take m) by funext y; unfold Ko.bindT Ko.isVar; rw [Lib.toList_data] at hv; rw [decide_eq_false (fun e => e hv)]; simp)
                    clear hv
                    go_wp2_with fail
                    go_roundw
                    case rel => exact ⟨m + 1, A4, c4, nm4, by omega, by go_num, rfl, ho, by omega, Lib.hid (by rw [HSN.out, HV.out]; exact HB4.out), hat, har, hw4⟩
                    case measure => simp [intOf]; omega
                  · have t1 : (t.v.toList != []) = true := by simpa using hv
                    have t2 : (t.v.toList == []) = false := by simpa using hv
                    have HV := Lib.hid (show bdN (nm4 ++ [t.v]) = Ko.bindT (bdN nm4) t by
                      funext y
                      unfold Ko.bindT Ko.isVar
                      rw [Lib.toList_data] at hv
                      rw [decide_eq_true hv]
                      show hasN (nm4 ++ [t.v]) y = _
                      unfold hasN
                      rw [List.any_append]
                      simp
                      rfl)
                    clear hv
                    have hs4 := hw4.size
                    have l1 := hat.lt
                    go_wp2_with (at_builtin; refine wpList_append_own _ rfl _ _ 39 rfl w.heap.size 9 iS (.string ⟨#[]⟩) 1 16 Tryd.underlying39 hs0 hs1 hs2 hs3 rfl (by decide) _ _ _ rfl (ho.alloc _) ⟨wr.heap.size, 0, none⟩ 1 1 [.string t.v] rfl rfl ?c1 ?c2 ?c3 ?c4 ?c5 ?_)
                    case c1 => exact At.news (xs := [.string t.v]) (At.newAt (by simp) _ _)
                    case c2 => exact one1 rfl
                    case c3 => simp [maxLen]; omega
                    case c4 => omega
                    case c5 => simp; omega
                    intro v6 w6 o6 g6 _
                    obtain ⟨A6, c6, rfl⟩ := own_len o6
                    have hal := ho.alloc (.cells #[.string t.v] 9)
                    have hat6 := (hat.alloc (.cells #[.string t.v] 9)).grown g6 (own_far hal (hat.alloc _) (by decide))
                    have har6 := (har.alloc (.cells #[.string t.v] 9)).grown g6 (own_far hal (har.alloc _) (by decide))
                    have hw6 : Below w.heap.size w w6 := (hw4.alloc hs4 (.cells #[.string t.v] 9)).grown g6 (by simp; omega) (fun q hq => by have := (own_lt ho hq).1; omega)
                    go_wp2_with fail
                    go_roundw
                    case rel => exact ⟨m + 1, A6, c6, nm4 ++ [t.v], by omega, by go_num, by rw [List.length_append]; rfl, by rw [List.length_append]; unfold ncs; rw [List.map_append]; exact o6, by rw [List.length_append, List.length_singleton]; omega, Lib.hid (by rw [HV.out, HB4.out, HSN.out]), hat6, har6, hw6⟩
                    case measure => simp [intOf]; omega
                · have d2 : decide ((m : Int) < (x.args.length : Int)) = false := decide_eq_false (by omega)
                  have hb4 := HB4.out
                  rw [List.take_of_length_le (by omega)] at hb4
                  have HF := Lib.hid hb4
                  clear hb4
                  go_wp2_with fail
                  go_roundw
                  case rel => exact ⟨k + 1, N2, C2, A4, c4, nm4, d ++ [j], by omega, by go_num, rfl, rfl, rfl, by omega, by omega, ho, by omega, Lib.hid (by rw [HF.out]; exact HES.out), Lib.hid (by rw [HF.out]; exact HRUN.out), har, hw4⟩
                  case measure => simp [intOf]; omega
            · have c1 : (x.kind == 1) = false := by simpa using k1
              by_cases k3 : x.kind = 3
              · have c3 : (x.kind == 3) = true := by simpa using k3
                have hk13 : x.kind = 1 ∨ x.kind = 3 := Or.inr k3
                clear k1 k3
                obtain ⟨p, s, hp, hs, hfm, hdl⟩ := fits_pos HG.out (List.mem_of_getElem? HXX.out) hk13
                have HSTP0 := Lib.hid (stepE_pos (ss := ss) (B := bdN nm) (N := N) (C := C) hk13 hp hs)
                have hpl := (List.getElem?_eq_some_iff.1 hs).1
                obtain ⟨gs, os, rfl, hgs, s0, s1⟩ := sta_cells (HX.out w5 hw5).env.s hs
                have HMT := Lib.hid (fun W (h : Below wo.heap.size wo W) => matches16_any s x A2 c2 nm W ((HX.out W (hwo.trans (h.mono hso))).env.o s (List.mem_of_getElem? hs)) ((HX.out W (hwo.trans (h.mono hso))).rl.each x (List.mem_of_getElem? HXX.out)) (own_names (own_below HOO.out h)) (by omega) hdl hfm hx8)
                have hrows : s.rows.toNat ≤ 1000000 := by have := Ko.formed_rows hfm; omega
                have hm0 : Ko.scan s x.args 0 (bdN nm) s.rows.toNat ≤ 1000000 := Nat.le_trans (scan16_le _ _ _ _ _) hrows
                obtain ⟨m, hm⟩ : ∃ m, Ko.scan s x.args 0 (bdN nm) s.rows.toNat = m := ⟨_, rfl⟩
                obtain ⟨mx, hmx⟩ : ∃ mx, max m 1 = mx := ⟨_, rfl⟩
                have hmx1 : max (m : Int) 1 = (mx : Int) := by rw [max_cast, hmx]
                rw [hm] at HMT HSTP0 hm0
                have hmxl : mx ≤ 1000000 := by omega
                rw [hmx] at HSTP0
                have HP2 := Lib.hid (fun W => product16_any N m W (by omega) (by omega))
                have HP1 := Lib.hid (fun W => product16_any N mx W (by omega) (by omega))
                obtain ⟨N2, hN2⟩ : ∃ N2, Ko.prod N m = N2 := ⟨_, rfl⟩
                obtain ⟨Q, hQ⟩ : ∃ Q, Ko.prod N mx = Q := ⟨_, rfl⟩
                have hN2l : N2 ≤ 1000000000 := by rw [← hN2]; exact prod_le _ _
                have hQl : Q ≤ 1000000000 := by rw [← hQ]; exact prod_le _ _
                have HSM := Lib.hid (fun W => sum16_any C Q W (by omega) (by omega))
                obtain ⟨C2, hC2⟩ : ∃ C2, min (C + Q) Ko.most = C2 := ⟨_, rfl⟩
                have hC2l : C2 ≤ 1000000000 := by rw [← hC2]; exact Nat.min_le_right _ _
                rw [hN2] at HP2 HSTP0
                rw [hQ] at HP1 HSTP0
                rw [hC2] at HSM HSTP0
                have HSTP := Lib.hid HSTP0.out
                have yb0 := hatL.cell 0; have yb1 := hatL.cell 1; have yb2 := hatL.cell 2; have yb3 := hatL.cell 3; have yb4 := hatL.cell 4; have yb5 := hatL.cell 5; have yb6 := hatL.cell 6; have yb7 := hatL.cell 7; have yb8 := hatL.cell 8
                simp only [Lt.fs, List.getElem?_toArray, List.getElem?_cons_zero, List.getElem?_cons_succ] at yb0 yb1 yb2 yb3 yb4 yb5 yb6 yb7 yb8
                rw [hp] at yb2
                have lb := hatL.lt
                have f0 : ∀ z : Held w5.heap.size w5, z.w.cell? ⟨b8, 0, none⟩ = some (.int .i64 x.kind) := fun z => z.cell lb yb0
                have f1 : ∀ z : Held w5.heap.size w5, z.w.cell? ⟨b8, 1, none⟩ = some (.string x.name) := fun z => z.cell lb yb1
                have f2 : ∀ z : Held w5.heap.size w5, z.w.cell? ⟨b8, 2, none⟩ = some (.int .i64 (p : Int)) := fun z => z.cell lb yb2
                have f3 : ∀ z : Held w5.heap.size w5, z.w.cell? ⟨b8, 3, none⟩ = some (.slice x.aa x.args.length x.ac) := fun z => z.cell lb yb3
                have f4 : ∀ z : Held w5.heap.size w5, z.w.cell? ⟨b8, 4, none⟩ = some (.string x.bind) := fun z => z.cell lb yb4
                have f5 : ∀ z : Held w5.heap.size w5, z.w.cell? ⟨b8, 5, none⟩ = some (.string x.elem) := fun z => z.cell lb yb5
                have f6 : ∀ z : Held w5.heap.size w5, z.w.cell? ⟨b8, 6, none⟩ = some (.int .i64 x.least) := fun z => z.cell lb yb6
                have f7 : ∀ z : Held w5.heap.size w5, z.w.cell? ⟨b8, 7, none⟩ = some (.int .i64 x.op) := fun z => z.cell lb yb7
                have f8 : ∀ z : Held w5.heap.size w5, z.w.cell? ⟨b8, 8, none⟩ = some (.int .i64 x.pos) := fun z => z.cell lb yb8
                have g0 : ∀ z : Held w5.heap.size w5, z.w.cell? ⟨gs, os + p * 2, none⟩ = some (.int .i64 s.rows) := fun z => z.cell hgs s0
                have g1 : ∀ z : Held w5.heap.size w5, z.w.cell? ⟨gs, os + p * 2 + 1, none⟩ = some (.slice s.da s.dist.length s.dc) := fun z => z.cell hgs s1
                have j0 : (0 : Int) ≤ (p : Int) := by omega
                have j1 : (p : Int) < (ss.length : Int) := by omega
                have HMT2 := Lib.hid (fun W (h : Below wo.heap.size wo W) => show Calls Tryd.prog 37 #[.agg #[.int .i64 s.rows, .slice s.da s.dist.length s.dc], .agg #[.int .i64 x.kind, .string x.name, .int .i64 (p : Int), .slice x.aa x.args.length x.ac, .string x.bind, .string x.elem, .int .i64 x.least, .int .i64 x.op, .int .i64 x.pos], .slice A2 nm.length c2] W fun e w' => e = .returned (.int .i64 (m : Int)) ∧ Below W.heap.size W w' by have h2 := HMT.out W h; unfold Sta.v Lt.v at h2; rw [hp] at h2; exact h2)
                clear HMT hs hfm hdl hm hmx hN2 hQ hC2 hp s0 s1 yb0 yb1 yb2 yb3 yb4 yb5 yb6 yb7 yb8 hk13
                go_wp2_with fail
                refine wp_region_held w5.heap.size w5 (Below.refl _ _) (by kernel_rfl) (by kernel_rfl) ?_
                repeat (go_big_quiet_step ((go_at_call 37; exact held_call _ (Nat.le_refl _) (HMT2.out _ (hbL.trans (Held.ok _ |>.mono hbL.size))))))
                refine wpQuiet_nil ?_
                rintro _ ⟨⟨w7, h7⟩, rfl⟩
                clear f0 f1 f2 f3 f4 f5 f6 f7 f8 g0 g1
                have hbw := hbL.trans (h7.mono hbL.size)
                have hatw := hatL.next h7
                go_wp2_with first
                  | (go_at_call 39; with_reducible refine (HP2.out _).mono ?_; rintro e w8 ⟨rfl, rfl⟩)
                  | (go_at_call 38; with_reducible refine (HSM.out _).mono ?_; rintro e w8 ⟨rfl, rfl⟩)
                  | (go_at_call 39; with_reducible refine (HP1.out _).mono ?_; rintro e w8 ⟨rfl, rfl⟩)
                have HES := Lib.hid (show Ko.est ss r.body (order.drop (k + 1)) (Ko.bindL (bdN nm) x.args) ⟨N2, C2⟩ = R by rw [← HSTP.out]; exact HEST.out)
                go_loopw [11, 15] (fun bv q wr => ∃ (m : Nat) (A4 : Option Addr) (c4 : Nat) (nm4 : List ByteArray), m ≤ x.args.length ∧ q = .int .i64 m ∧ bv = .slice A4 nm4.length c4 ∧ wr.ownsRow w.heap.size 9 1 (.slice A4 nm4.length c4) nm4.length (ncs nm4) ∧ nm4.length ≤ nm.length + m ∧ Hid (bdN nm4 = Ko.bindL (bdN nm) (x.args.take m)) ∧ At wr b8 60 (x.fs.toArray) ∧ At wr w.heap.size 38 (rcells r r.ba r.body.length r.bc) ∧ Below w.heap.size w wr) (fun _ q _ => x.args.length - (intOf q).toNat)
                case atStart => exact ⟨0, A2, c2, nm, by omega, rfl, rfl, own_below HOO.out hbw, by omega, Lib.hid rfl, hatw, HAT.out.next hbw, hwo.trans (hbw.mono hwo.size)⟩
                case round =>
                  clear hatw hbw
                  obtain ⟨m, A4, c4, nm4, hm, rfl, rfl, ho, hn4, HB4, hat, har, hw4⟩ := hrel
                  have q3 : wr.cell? ⟨b8, 3, none⟩ = some (.slice x.aa x.args.length x.ac) := hat.cell 3
                  by_cases h2 : m < x.args.length
                  · have d2 : decide ((m : Int) < (x.args.length : Int)) = true := decide_eq_true (by omega)
                    obtain ⟨t, ht⟩ : ∃ t, x.args[m]? = some t := ⟨_, List.getElem?_eq_getElem h2⟩
                    obtain ⟨ga, oa, haa, hga, y0, y1, y2, y3⟩ := tm_cells ((HX.out wr hw4).rl.each x (List.mem_of_getElem? HXX.out)).args ht
                    have HAA := Lib.hid haa
                    rw [haa] at q3
                    have j0 : (0 : Int) ≤ (m : Int) := by omega
                    have j1 : (m : Int) < (x.args.length : Int) := by omega
                    have HSN := Lib.hid (show Ko.bindL (bdN nm) (x.args.take (m + 1)) = Ko.bindT (Ko.bindL (bdN nm) (x.args.take m)) t by unfold Ko.bindL; rw [take_more ht, List.foldl_append]; rfl)
                    clear ht haa y1 y2 y3
                    by_cases hv : t.v.toList = []
                    · have t1 : (t.v.toList != []) = false := by rw [hv]; rfl
                      have t2 : (t.v.toList == []) = true := by rw [hv]; rfl
                      have HV := Lib.hid (show Ko.bindT (Ko.bindL (bdN nm) (x.args.take m)) t = Ko.bindL (bdN nm) (x.args.take m) by funext y; unfold Ko.bindT Ko.isVar; rw [Lib.toList_data] at hv; rw [decide_eq_false (fun e => e hv)]; simp)
                      clear hv
                      go_wp2_with fail
                      go_roundw
                      case rel => exact ⟨m + 1, A4, c4, nm4, by omega, by go_num, rfl, ho, by omega, Lib.hid (by rw [HSN.out, HV.out]; exact HB4.out), hat, har, hw4⟩
                      case measure => simp [intOf]; omega
                    · have t1 : (t.v.toList != []) = true := by simpa using hv
                      have t2 : (t.v.toList == []) = false := by simpa using hv
                      have HV := Lib.hid (show bdN (nm4 ++ [t.v]) = Ko.bindT (bdN nm4) t by
                        funext y
                        unfold Ko.bindT Ko.isVar
                        rw [Lib.toList_data] at hv
                        rw [decide_eq_true hv]
                        show hasN (nm4 ++ [t.v]) y = _
                        unfold hasN
                        rw [List.any_append]
                        simp
                        rfl)
                      clear hv
                      have hs4 := hw4.size
                      have l1 := hat.lt
                      go_wp2_with (at_builtin; refine wpList_append_own _ rfl _ _ 39 rfl w.heap.size 9 iS (.string ⟨#[]⟩) 1 16 Tryd.underlying39 hs0 hs1 hs2 hs3 rfl (by decide) _ _ _ rfl (ho.alloc _) ⟨wr.heap.size, 0, none⟩ 1 1 [.string t.v] rfl rfl ?c1 ?c2 ?c3 ?c4 ?c5 ?_)
                      case c1 => exact At.news (xs := [.string t.v]) (At.newAt (by simp) _ _)
                      case c2 => exact one1 rfl
                      case c3 => simp [maxLen]; omega
                      case c4 => omega
                      case c5 => simp; omega
                      intro v6 w6 o6 g6 _
                      obtain ⟨A6, c6, rfl⟩ := own_len o6
                      have hal := ho.alloc (.cells #[.string t.v] 9)
                      have hat6 := (hat.alloc (.cells #[.string t.v] 9)).grown g6 (own_far hal (hat.alloc _) (by decide))
                      have har6 := (har.alloc (.cells #[.string t.v] 9)).grown g6 (own_far hal (har.alloc _) (by decide))
                      have hw6 : Below w.heap.size w w6 := (hw4.alloc hs4 (.cells #[.string t.v] 9)).grown g6 (by simp; omega) (fun q hq => by have := (own_lt ho hq).1; omega)
                      go_wp2_with fail
                      go_roundw
                      case rel => exact ⟨m + 1, A6, c6, nm4 ++ [t.v], by omega, by go_num, by rw [List.length_append]; rfl, by rw [List.length_append]; unfold ncs; rw [List.map_append]; exact o6, by rw [List.length_append, List.length_singleton]; omega, Lib.hid (by rw [HV.out, HB4.out, HSN.out]), hat6, har6, hw6⟩
                      case measure => simp [intOf]; omega
                  · have d2 : decide ((m : Int) < (x.args.length : Int)) = false := decide_eq_false (by omega)
                    have hb4 := HB4.out
                    rw [List.take_of_length_le (by omega)] at hb4
                    have HF := Lib.hid hb4
                    clear hb4
                    go_wp2_with fail
                    go_roundw
                    case rel => exact ⟨k + 1, N2, C2, A4, c4, nm4, d ++ [j], by omega, by go_num, rfl, rfl, rfl, by omega, by omega, ho, by omega, Lib.hid (by rw [HF.out]; exact HES.out), Lib.hid (by rw [HF.out]; exact HRUN.out), har, hw4⟩
                    case measure => simp [intOf]; omega
              · have c3 : (x.kind == 3) = false := by simpa using k3
                have hk13 : ¬ (x.kind = 1 ∨ x.kind = 3) := fun h => h.elim k1 k3
                clear k1 k3
                have HSTP0 := Lib.hid (stepE_neg (ss := ss) (N := N) (C := C) hk13 HRDY.out)
                have HSM := Lib.hid (fun W => sum16_any C N W (by omega) (by omega))
                obtain ⟨C2, hC2⟩ : ∃ C2, min (C + N) Ko.most = C2 := ⟨_, rfl⟩
                have hC2l : C2 ≤ 1000000000 := by rw [← hC2]; exact Nat.min_le_right _ _
                have HUP := Lib.hid (fun W => show Calls Tryd.prog 41 #[.int .i64 (N : Int), .int .i64 2] W _ from up16_any N 2 W (by omega) (by omega))
                have hup := Ko.up_le N 2
                have HBI := Lib.hid (fun W (h : Below wo.heap.size wo W) => show Calls Tryd.prog 40 #[.agg #[.int .i64 x.kind, .string x.name, .int .i64 x.pred, .slice x.aa x.args.length x.ac, .string x.bind, .string x.elem, .int .i64 x.least, .int .i64 x.op, .int .i64 x.pos], .slice A2 nm.length c2] W _ from binds_any A2 c2 nm x W (own_names (own_below HOO.out h)) (by omega) ((HX.out W (hwo.trans (h.mono hso))).rl.each x (List.mem_of_getElem? HXX.out)) (by omega))
                obtain ⟨bz, hbz⟩ : ∃ bz, bindsP (bdN nm) x = bz := ⟨_, rfl⟩
                rw [hbz] at HBI HSTP0
                rw [hC2] at HSM HSTP0
                have yb0 := hatL.cell 0; have yb1 := hatL.cell 1; have yb2 := hatL.cell 2; have yb3 := hatL.cell 3; have yb4 := hatL.cell 4; have yb5 := hatL.cell 5; have yb6 := hatL.cell 6; have yb7 := hatL.cell 7; have yb8 := hatL.cell 8
                simp only [Lt.fs, List.getElem?_toArray, List.getElem?_cons_zero, List.getElem?_cons_succ] at yb0 yb1 yb2 yb3 yb4 yb5 yb6 yb7 yb8
                clear hC2 hbz hk13
                cases bz
                · have HSTP := Lib.hid (show Ko.stepE ss x (bdN nm) ⟨N, C⟩ = ⟨Ko.up N 2, C2⟩ by rw [HSTP0.out, if_neg (by decide)])
                  clear HSTP0
                  go_wp2_with first
                    | (go_at_call 41; with_reducible refine (HUP.out _).mono ?_; rintro e w8 ⟨rfl, rfl⟩)
                    | (go_at_call 40; with_reducible refine (HBI.out _ hbL).mono ?_; rintro e w7 ⟨rfl, h7⟩)
                    | (go_at_call 38; with_reducible refine (HSM.out _).mono ?_; rintro e w8 ⟨rfl, rfl⟩)
                  have hbw := hbL.trans (h7.mono hbL.size)
                  have hatw := hatL.next h7
                  have hupl : Ko.up N 2 ≤ 1000000000 := by omega
                  obtain ⟨N2, hN2⟩ : ∃ N2, Ko.up N 2 = N2 := ⟨_, rfl⟩
                  rw [hN2] at HSTP hupl ⊢
                  clear hN2 hup yb0 yb1 yb2 yb3 yb4 yb5 yb6 yb7 yb8  
                  have HES := Lib.hid (show Ko.est ss r.body (order.drop (k + 1)) (Ko.bindL (bdN nm) x.args) ⟨N2, C2⟩ = R by rw [← HSTP.out]; exact HEST.out)
                  go_loopw [11, 15] (fun bv q wr => ∃ (m : Nat) (A4 : Option Addr) (c4 : Nat) (nm4 : List ByteArray), m ≤ x.args.length ∧ q = .int .i64 m ∧ bv = .slice A4 nm4.length c4 ∧ wr.ownsRow w.heap.size 9 1 (.slice A4 nm4.length c4) nm4.length (ncs nm4) ∧ nm4.length ≤ nm.length + m ∧ Hid (bdN nm4 = Ko.bindL (bdN nm) (x.args.take m)) ∧ At wr b8 60 (x.fs.toArray) ∧ At wr w.heap.size 38 (rcells r r.ba r.body.length r.bc) ∧ Below w.heap.size w wr) (fun _ q _ => x.args.length - (intOf q).toNat)
                  case atStart => exact ⟨0, A2, c2, nm, by omega, rfl, rfl, own_below HOO.out hbw, by omega, Lib.hid rfl, hatw, HAT.out.next hbw, hwo.trans (hbw.mono hwo.size)⟩
                  case round =>
                    clear hatw hbw
                    obtain ⟨m, A4, c4, nm4, hm, rfl, rfl, ho, hn4, HB4, hat, har, hw4⟩ := hrel
                    have q3 : wr.cell? ⟨b8, 3, none⟩ = some (.slice x.aa x.args.length x.ac) := hat.cell 3
                    by_cases h2 : m < x.args.length
                    · have d2 : decide ((m : Int) < (x.args.length : Int)) = true := decide_eq_true (by omega)
                      obtain ⟨t, ht⟩ : ∃ t, x.args[m]? = some t := ⟨_, List.getElem?_eq_getElem h2⟩
                      obtain ⟨ga, oa, haa, hga, y0, y1, y2, y3⟩ := tm_cells ((HX.out wr hw4).rl.each x (List.mem_of_getElem? HXX.out)).args ht
                      have HAA := Lib.hid haa
                      rw [haa] at q3
                      have j0 : (0 : Int) ≤ (m : Int) := by omega
                      have j1 : (m : Int) < (x.args.length : Int) := by omega
                      have HSN := Lib.hid (show Ko.bindL (bdN nm) (x.args.take (m + 1)) = Ko.bindT (Ko.bindL (bdN nm) (x.args.take m)) t by unfold Ko.bindL; rw [take_more ht, List.foldl_append]; rfl)
                      clear ht haa y1 y2 y3
                      by_cases hv : t.v.toList = []
                      · have t1 : (t.v.toList != []) = false := by rw [hv]; rfl
                        have t2 : (t.v.toList == []) = true := by rw [hv]; rfl
                        have HV := Lib.hid (show Ko.bindT (Ko.bindL (bdN nm) (x.args.take m)) t = Ko.bindL (bdN nm) (x.args.take m) by funext y; unfold Ko.bindT Ko.isVar; rw [Lib.toList_data] at hv; rw [decide_eq_false (fun e => e hv)]; simp)
                        clear hv
                        go_wp2_with fail
                        go_roundw
                        case rel => exact ⟨m + 1, A4, c4, nm4, by omega, by go_num, rfl, ho, by omega, Lib.hid (by rw [HSN.out, HV.out]; exact HB4.out), hat, har, hw4⟩
                        case measure => simp [intOf]; omega
                      · have t1 : (t.v.toList != []) = true := by simpa using hv
                        have t2 : (t.v.toList == []) = false := by simpa using hv
                        have HV := Lib.hid (show bdN (nm4 ++ [t.v]) = Ko.bindT (bdN nm4) t by
                          funext y
                          unfold Ko.bindT Ko.isVar
                          rw [Lib.toList_data] at hv
                          rw [decide_eq_true hv]
                          show hasN (nm4 ++ [t.v]) y = _
                          unfold hasN
                          rw [List.any_append]
                          simp
                          rfl)
                        clear hv
                        have hs4 := hw4.size
                        have l1 := hat.lt
                        go_wp2_with (at_builtin; refine wpList_append_own _ rfl _ _ 39 rfl w.heap.size 9 iS (.string ⟨#[]⟩) 1 16 Tryd.underlying39 hs0 hs1 hs2 hs3 rfl (by decide) _ _ _ rfl (ho.alloc _) ⟨wr.heap.size, 0, none⟩ 1 1 [.string t.v] rfl rfl ?c1 ?c2 ?c3 ?c4 ?c5 ?_)
                        case c1 => exact At.news (xs := [.string t.v]) (At.newAt (by simp) _ _)
                        case c2 => exact one1 rfl
                        case c3 => simp [maxLen]; omega
                        case c4 => omega
                        case c5 => simp; omega
                        intro v6 w6 o6 g6 _
                        obtain ⟨A6, c6, rfl⟩ := own_len o6
                        have hal := ho.alloc (.cells #[.string t.v] 9)
                        have hat6 := (hat.alloc (.cells #[.string t.v] 9)).grown g6 (own_far hal (hat.alloc _) (by decide))
                        have har6 := (har.alloc (.cells #[.string t.v] 9)).grown g6 (own_far hal (har.alloc _) (by decide))
                        have hw6 : Below w.heap.size w w6 := (hw4.alloc hs4 (.cells #[.string t.v] 9)).grown g6 (by simp; omega) (fun q hq => by have := (own_lt ho hq).1; omega)
                        go_wp2_with fail
                        go_roundw
                        case rel => exact ⟨m + 1, A6, c6, nm4 ++ [t.v], by omega, by go_num, by rw [List.length_append]; rfl, by rw [List.length_append]; unfold ncs; rw [List.map_append]; exact o6, by rw [List.length_append, List.length_singleton]; omega, Lib.hid (by rw [HV.out, HB4.out, HSN.out]), hat6, har6, hw6⟩
                        case measure => simp [intOf]; omega
                    · have d2 : decide ((m : Int) < (x.args.length : Int)) = false := decide_eq_false (by omega)
                      have hb4 := HB4.out
                      rw [List.take_of_length_le (by omega)] at hb4
                      have HF := Lib.hid hb4
                      clear hb4
                      go_wp2_with fail
                      go_roundw
                      case rel => exact ⟨k + 1, N2, C2, A4, c4, nm4, d ++ [j], by omega, by go_num, rfl, rfl, rfl, by omega, by omega, ho, by omega, Lib.hid (by rw [HF.out]; exact HES.out), Lib.hid (by rw [HF.out]; exact HRUN.out), har, hw4⟩
                      case measure => simp [intOf]; omega
                · have HSTP := Lib.hid (show Ko.stepE ss x (bdN nm) ⟨N, C⟩ = ⟨N, C2⟩ by rw [HSTP0.out, if_pos rfl])
                  clear HSTP0
                  go_wp2_with first
                    | (go_at_call 40; with_reducible refine (HBI.out _ hbL).mono ?_; rintro e w7 ⟨rfl, h7⟩)
                    | (go_at_call 38; with_reducible refine (HSM.out _).mono ?_; rintro e w8 ⟨rfl, rfl⟩)
                  have hbw := hbL.trans (h7.mono hbL.size)
                  have hatw := hatL.next h7
                  clear yb0 yb1 yb2 yb3 yb4 yb5 yb6 yb7 yb8  
                  have HES := Lib.hid (show Ko.est ss r.body (order.drop (k + 1)) (Ko.bindL (bdN nm) x.args) ⟨N, C2⟩ = R by rw [← HSTP.out]; exact HEST.out)
                  go_loopw [11, 15] (fun bv q wr => ∃ (m : Nat) (A4 : Option Addr) (c4 : Nat) (nm4 : List ByteArray), m ≤ x.args.length ∧ q = .int .i64 m ∧ bv = .slice A4 nm4.length c4 ∧ wr.ownsRow w.heap.size 9 1 (.slice A4 nm4.length c4) nm4.length (ncs nm4) ∧ nm4.length ≤ nm.length + m ∧ Hid (bdN nm4 = Ko.bindL (bdN nm) (x.args.take m)) ∧ At wr b8 60 (x.fs.toArray) ∧ At wr w.heap.size 38 (rcells r r.ba r.body.length r.bc) ∧ Below w.heap.size w wr) (fun _ q _ => x.args.length - (intOf q).toNat)
                  case atStart => exact ⟨0, A2, c2, nm, by omega, rfl, rfl, own_below HOO.out hbw, by omega, Lib.hid rfl, hatw, HAT.out.next hbw, hwo.trans (hbw.mono hwo.size)⟩
                  case round =>
                    clear hatw hbw
                    obtain ⟨m, A4, c4, nm4, hm, rfl, rfl, ho, hn4, HB4, hat, har, hw4⟩ := hrel
                    have q3 : wr.cell? ⟨b8, 3, none⟩ = some (.slice x.aa x.args.length x.ac) := hat.cell 3
                    by_cases h2 : m < x.args.length
                    · have d2 : decide ((m : Int) < (x.args.length : Int)) = true := decide_eq_true (by omega)
                      obtain ⟨t, ht⟩ : ∃ t, x.args[m]? = some t := ⟨_, List.getElem?_eq_getElem h2⟩
                      obtain ⟨ga, oa, haa, hga, y0, y1, y2, y3⟩ := tm_cells ((HX.out wr hw4).rl.each x (List.mem_of_getElem? HXX.out)).args ht
                      have HAA := Lib.hid haa
                      rw [haa] at q3
                      have j0 : (0 : Int) ≤ (m : Int) := by omega
                      have j1 : (m : Int) < (x.args.length : Int) := by omega
                      have HSN := Lib.hid (show Ko.bindL (bdN nm) (x.args.take (m + 1)) = Ko.bindT (Ko.bindL (bdN nm) (x.args.take m)) t by unfold Ko.bindL; rw [take_more ht, List.foldl_append]; rfl)
                      clear ht haa y1 y2 y3
                      by_cases hv : t.v.toList = []
                      · have t1 : (t.v.toList != []) = false := by rw [hv]; rfl
                        have t2 : (t.v.toList == []) = true := by rw [hv]; rfl
                        have HV := Lib.hid (show Ko.bindT (Ko.bindL (bdN nm) (x.args.take m)) t = Ko.bindL (bdN nm) (x.args.take m) by funext y; unfold Ko.bindT Ko.isVar; rw [Lib.toList_data] at hv; rw [decide_eq_false (fun e => e hv)]; simp)
                        clear hv
                        go_wp2_with fail
                        go_roundw
                        case rel => exact ⟨m + 1, A4, c4, nm4, by omega, by go_num, rfl, ho, by omega, Lib.hid (by rw [HSN.out, HV.out]; exact HB4.out), hat, har, hw4⟩
                        case measure => simp [intOf]; omega
                      · have t1 : (t.v.toList != []) = true := by simpa using hv
                        have t2 : (t.v.toList == []) = false := by simpa using hv
                        have HV := Lib.hid (show bdN (nm4 ++ [t.v]) = Ko.bindT (bdN nm4) t by
                          funext y
                          unfold Ko.bindT Ko.isVar
                          rw [Lib.toList_data] at hv
                          rw [decide_eq_true hv]
                          show hasN (nm4 ++ [t.v]) y = _
                          unfold hasN
                          rw [List.any_append]
                          simp
                          rfl)
                        clear hv
                        have hs4 := hw4.size
                        have l1 := hat.lt
                        go_wp2_with (at_builtin; refine wpList_append_own _ rfl _ _ 39 rfl w.heap.size 9 iS (.string ⟨#[]⟩) 1 16 Tryd.underlying39 hs0 hs1 hs2 hs3 rfl (by decide) _ _ _ rfl (ho.alloc _) ⟨wr.heap.size, 0, none⟩ 1 1 [.string t.v] rfl rfl ?c1 ?c2 ?c3 ?c4 ?c5 ?_)
                        case c1 => exact At.news (xs := [.string t.v]) (At.newAt (by simp) _ _)
                        case c2 => exact one1 rfl
                        case c3 => simp [maxLen]; omega
                        case c4 => omega
                        case c5 => simp; omega
                        intro v6 w6 o6 g6 _
                        obtain ⟨A6, c6, rfl⟩ := own_len o6
                        have hal := ho.alloc (.cells #[.string t.v] 9)
                        have hat6 := (hat.alloc (.cells #[.string t.v] 9)).grown g6 (own_far hal (hat.alloc _) (by decide))
                        have har6 := (har.alloc (.cells #[.string t.v] 9)).grown g6 (own_far hal (har.alloc _) (by decide))
                        have hw6 : Below w.heap.size w w6 := (hw4.alloc hs4 (.cells #[.string t.v] 9)).grown g6 (by simp; omega) (fun q hq => by have := (own_lt ho hq).1; omega)
                        go_wp2_with fail
                        go_roundw
                        case rel => exact ⟨m + 1, A6, c6, nm4 ++ [t.v], by omega, by go_num, by rw [List.length_append]; rfl, by rw [List.length_append]; unfold ncs; rw [List.map_append]; exact o6, by rw [List.length_append, List.length_singleton]; omega, Lib.hid (by rw [HV.out, HB4.out, HSN.out]), hat6, har6, hw6⟩
                        case measure => simp [intOf]; omega
                    · have d2 : decide ((m : Int) < (x.args.length : Int)) = false := decide_eq_false (by omega)
                      have hb4 := HB4.out
                      rw [List.take_of_length_le (by omega)] at hb4
                      have HF := Lib.hid hb4
                      clear hb4
                      go_wp2_with fail
                      go_roundw
                      case rel => exact ⟨k + 1, N, C2, A4, c4, nm4, d ++ [j], by omega, by go_num, rfl, rfl, rfl, by omega, by omega, ho, by omega, Lib.hid (by rw [HF.out]; exact HES.out), Lib.hid (by rw [HF.out]; exact HRUN.out), har, hw4⟩
                      case measure => simp [intOf]; omega
        · have d1 : decide ((k : Int) < (order.length : Int)) = false := decide_eq_false (by omega)
          have HE := Lib.hid (show C = R by
            have h := HEK.out
            rw [List.drop_eq_nil_of_le (by omega)] at h
            exact h)
          go_wp2_with fail
          go_ret
          exact ⟨by rw [← HRE.out, ← HE.out]; rfl, hw⟩
end Go.Proofs.YtoficnfpoeaccaaDoor
namespace Go.Proofs.YtoficnfpoeaccaaDoor
set_option linter.unusedVariables false
set_option linter.unusedSimpArgs false
open Go.RowKit
set_option maxRecDepth 100000 in
theorem intsB_any (A B : Option Addr) (c d : Nat) (a b : List Int) (w : World) (hA : Str w A 1 (a.map fun x => [.int .i64 x])) (hB : Str w B 1 (b.map fun x => [.int .i64 x])) (hl : a.length ≤ 2000000) :
    Calls Tryd.prog 25 #[.slice A a.length c, .slice B b.length d] w fun e w' => e = .returned (.bool (decide (a = b))) ∧ Below w.heap.size w w' := by
  have HA := Lib.hid hA
  have HB := Lib.hid hB
  clear hA hB
  by_cases hn : a.length = b.length
  · have t1 : (((a.length : Int) == (b.length : Int)) = true) := by simp [hn]
    have t2 : (((a.length : Int) != (b.length : Int)) = false) := by simp [hn]
    have HN := Lib.hid hn
    clear hn
    go_enter Tryd.func25, Tryd.ntmps25
    go_wp2_with fail
    go_loopw [5] (fun i wr => ∃ k q : Nat, k ≤ a.length ∧ i = .int .i64 k ∧ Hid (a.take k = b.take k) ∧ wr = w.drewN q) (fun i _ => a.length - (intOf i).toNat)
    case atStart => exact ⟨0, 0, by omega, rfl, Lib.hid rfl, rfl⟩
    case round =>
      obtain ⟨k, q, hk, rfl, HK, rfl⟩ := hrel
      by_cases h1 : k < a.length
      · have d1 : decide ((k : Int) < (a.length : Int)) = true := by simp; omega
        obtain ⟨x, hx⟩ : ∃ x, a[k]? = some x := ⟨_, List.getElem?_eq_getElem h1⟩
        obtain ⟨y, hy⟩ : ∃ y, b[k]? = some y := ⟨_, List.getElem?_eq_getElem (by have := HN.out; omega)⟩
        obtain ⟨g, o, rfl, hg, c0⟩ := int_cells HA.out hx
        obtain ⟨g2, o2, rfl, hg2, c1⟩ := int_cells HB.out hy
        have i0 : (0 : Int) ≤ (k : Int) := by omega
        have i1 : (k : Int) < (a.length : Int) := by omega
        have i2 : (k : Int) < (b.length : Int) := by have := HN.out; omega
        by_cases h2 : x = y
        · have n1 : (x == y) = true := by simpa using h2
          have n2 : (x != y) = false := by simpa using h2
          have HM := Lib.hid (show a.take (k + 1) = b.take (k + 1) by rw [List.take_add_one, List.take_add_one, HK.out, hx, hy, h2])
          clear hx hy h2
          go_wp2_with fail
          go_quiet (fail)
          go_wp2_with fail
          go_roundw
          case rel => exact ⟨k + 1, _, by omega, by go_num, HM, rfl⟩
          case measure => simp [intOf]; omega
        · have n1 : (x == y) = false := by simpa using h2
          have n2 : (x != y) = true := by simpa using h2
          have HR := Lib.hid (show decide (a = b) = false from decide_eq_false fun h => by
            rw [h, hy] at hx
            exact h2 (Option.some.inj hx).symm)
          clear hx hy h2
          go_wp2_with fail
          go_quiet (fail)
          go_wp2_with fail
          go_ret
          exact ⟨by rw [HR.out]; rfl, below_drewN (below_drewN (Below.refl _ _) _) _⟩
      · have d1 : decide ((k : Int) < (a.length : Int)) = false := by simp; omega
        have HR := Lib.hid (show decide (a = b) = true from decide_eq_true (by
          have h := HK.out
          rw [List.take_of_length_le (by omega), List.take_of_length_le (by have := HN.out; omega)] at h
          exact h))
        go_wp2_with fail
        go_ret
        exact ⟨by rw [HR.out]; rfl, below_drewN (Below.refl _ _) _⟩
  · have HR := Lib.hid (show decide (a = b) = false from decide_eq_false fun h => hn (by rw [h]))
    have t1 : (((a.length : Int) == (b.length : Int)) = false) := by simpa using fun h => hn (by omega)
    have t2 : (((a.length : Int) != (b.length : Int)) = true) := by simpa using fun h => hn (by omega)
    clear hn
    go_enter Tryd.func25, Tryd.ntmps25
    go_wp2_with fail
    go_ret
    exact ⟨by rw [HR.out]; rfl, Below.refl _ _⟩
set_option maxRecDepth 100000 in
theorem sameB_any (s t : Sta) (w : World) (hs : StaOk w s) (ht : StaOk w t) (hl : s.dist.length ≤ 2000000) :
    Calls Tryd.prog 13 #[s.v, t.v] w fun e w' => e = .returned (.bool (decide (s.rows = t.rows ∧ s.dist = t.dist))) ∧ Below w.heap.size w w' := by
  obtain ⟨ra, da, dc, l⟩ := s
  obtain ⟨rb, db, dd, m⟩ := t
  have HI := Lib.hid (fun W (h : Below w.heap.size w W) => intsB_any da db dc dd l m W (hs.dist.below h) (ht.dist.below h) hl)
  unfold Sta.v
  dsimp only at *
  clear hs ht
  have hb2 : Below w.heap.size w ((w.alloc (.cells #[.int .i64 ra, .slice da l.length dc] 46)).alloc (.cells #[.int .i64 rb, .slice db m.length dd] 46)) := (below1 w _).alloc (by simp) _
  by_cases h : ra = rb
  · have r0 : (ra == rb) = true := by simpa using h
    have HR := Lib.hid (show decide (ra = rb ∧ l = m) = decide (l = m) by rw [Bool.decide_and, decide_eq_true h]; rfl)
    clear h
    go_enter Tryd.func13, Tryd.ntmps13
    go_wp2_with (go_at_call 25; refine (HI.out _ hb2).mono ?_; rintro e w3 ⟨rfl, hb3⟩)
    go_ret
    exact ⟨by rw [HR.out]; rfl, hb2.trans (hb3.mono hb2.size)⟩
  · have r0 : (ra == rb) = false := by simpa using h
    have HR := Lib.hid (show decide (ra = rb ∧ l = m) = false by rw [Bool.decide_and, decide_eq_false h]; rfl)
    clear h
    go_enter Tryd.func13, Tryd.ntmps13
    go_wp2_with fail
    go_ret
    exact ⟨by rw [HR.out]; rfl, hb2⟩
def StaIs (R : Int × List Int) : Value → World → Prop := fun x W => ∃ s : Sta, x = .agg #[.int .i64 s.rows, .slice s.da s.dist.length s.dc] ∧ StaOk W s ∧ Hid (s.rows = R.1) ∧ Hid (s.dist = R.2)
theorem staIs_on {J : World → Prop} (R : Int × List Int) : Lasting J Onward (StaIs R) := fun x w w' _ hb ⟨s, e, h, h1, h2⟩ => ⟨s, e, h.below hb, h1, h2⟩
/-- The boxes of the law. -/
structure MBox (w : World) (N : Nat) (PC DC RC : Array Value) : Prop where
  p : At w N 27 PC
  d : At w (N + 1) 31 DC
  r : At w (N + 1 + 1) 38 RC
theorem MBox.next {w w' : World} {N : Nat} {PC DC RC : Array Value} (h : MBox w N PC DC RC) (hb : Below w.heap.size w w') : MBox w' N PC DC RC := ⟨h.p.next hb, h.d.next hb, h.r.next hb⟩
theorem statP_len (pm : Pm) (d : Da) (pred : Int) (htn : ∀ x ∈ pm.preds, x.tn ≤ 2000000) : (statP pm d pred).2.length ≤ 2000000 := by
  unfold statP
  split
  · simp
  · cases h : pm.preds[pred.toNat]? with
    | none => simp
    | some pd =>
      have := htn pd (List.mem_of_getElem? h)
      simpa using this
set_option maxHeartbeats 4000000 in
set_option maxRecDepth 100000 in
theorem matches_law (pm : Pm) (d : Da) (pred : Int) (SA : Option Addr) (sc : Nat) (ss : List Sta) (r : Rl) (A : Option Addr) (c : Nat) (bd : List ByteArray) (O : Option Addr) (oc : Nat) (order : List Int) (w : World) (hT : Tabs w) (hpm : PmOk w pm) (hd : DaOk w d) (htn : ∀ x ∈ pm.preds, x.tn ≤ 2000000)
    (hX : Ar w SA ss r A c bd O order) :
    Calls Tryd.prog 3 #[pm.v, d.v, .int .i64 pred, .slice SA ss.length sc, r.v, .slice A bd.length c, .slice O order.length oc] w fun e w' => e = .returned (.bool true) ∧ Below w.heap.size w w' := by
  have HX := Lib.hid (fun W (h : Below w.heap.size w W) => hX.below h)
  have HH := Lib.hid (fun W (h : Below w.heap.size w W) => head_any W (hT.next h))
  have HLI := Lib.hid (fun W (h : Below w.heap.size w W) => little_any d W (hd.below h))
  have HSTA := Lib.hid (fun W (h : Below w.heap.size w W) hl hn => stats_any pm d pred W (hpm.below h) (hd.below h) hl hn (hT.next h) htn)
  have HSTB := Lib.hid (fun W (h : Below w.heap.size w W) hl hn => stats16_any pm d pred W (hpm.below h) (hd.below h) hl hn htn)
  have HLO := Lib.hid (@lit_of d)
  have HSL := Lib.hid (statP_len pm d pred htn)
  obtain ⟨R, hRR⟩ : ∃ R, statP pm d pred = R := ⟨_, rfl⟩
  rw [hRR] at HSL
  simp only [hRR] at HSTA HSTB
  clear hRR
  obtain ⟨lt, fn, pa, pc, preds, ru⟩ := pm
  obtain ⟨ra, rc, rels, la, lc, lats⟩ := d
  have HFEW := Lib.hid (fun W (h : Below w.heap.size w W) => (HX.out W h).few (sc := sc) (oc := oc) A bd.length c)
  have HESA := Lib.hid (fun W (h : Below w.heap.size w W) => @Ar.est W SA sc ss r A c bd O oc order (HX.out W h))
  have HESB := Lib.hid (fun W (h : Below w.heap.size w W) => estimate16_any SA sc ss r A c bd O oc order W (HX.out W h))
  unfold Rl.v at HFEW HESA HESB ⊢
  unfold Pm.v Da.v at *
  dsimp only at *
  clear hpm hd hT htn hX
  have hw1 : Below w.heap.size w (((w.alloc (.cells #[.slice lt.a lt.n lt.c, .slice fn.a fn.n fn.c, .slice pa preds.length pc, .slice ru.a ru.n ru.c] 27)).alloc (.cells #[.slice ra rels.length rc, .slice la lats.length lc] 31)).alloc (.cells #[.string r.name, .int .i64 r.pred, .slice r.args.a r.args.n r.args.c, .int .i64 r.ek, .string r.en, .string r.ev, .int .i64 r.ei, .slice r.ba r.body.length r.bc, .int .i64 r.pos] 38)) := ((below1 _ _).alloc (by simp) _).alloc (by simp; omega) _
  have hbx1 : MBox (((w.alloc (.cells #[.slice lt.a lt.n lt.c, .slice fn.a fn.n fn.c, .slice pa preds.length pc, .slice ru.a ru.n ru.c] 27)).alloc (.cells #[.slice ra rels.length rc, .slice la lats.length lc] 31)).alloc (.cells #[.string r.name, .int .i64 r.pred, .slice r.args.a r.args.n r.args.c, .int .i64 r.ek, .string r.en, .string r.ev, .int .i64 r.ei, .slice r.ba r.body.length r.bc, .int .i64 r.pos] 38)) w.heap.size #[.slice lt.a lt.n lt.c, .slice fn.a fn.n fn.c, .slice pa preds.length pc, .slice ru.a ru.n ru.c] #[.slice ra rels.length rc, .slice la lats.length lc] #[.string r.name, .int .i64 r.pred, .slice r.args.a r.args.n r.args.c, .int .i64 r.ek, .string r.en, .string r.ev, .int .i64 r.ei, .slice r.ba r.body.length r.bc, .int .i64 r.pos] := ⟨((At.new w _ _).alloc _).alloc _, (At.newAt (by simp) _ _).alloc _, At.newAt (by simp) _ _⟩
  by_cases h30 : 30 < preds.length
  · have d0 : decide ((30 : Int) < (preds.length : Int)) = true := by simp; omega
    have n0 : decide (30 < preds.length) = true := decide_eq_true h30
    clear h30
    go_enter Tryd.func3, Tryd.ntmps3
    go_wp2_with first | (go_at_call 10; with_reducible refine (HH.out _ hw1).mono ?_; rintro e w2 ⟨rfl, hb2⟩; have hw2 : Below w.heap.size w w2 := hw1.trans (hb2.mono hw1.size); have hq2' := hbx1.next hb2; have hbx2 := hq2'; clear hq2'; skip; have p0 := (hbx2.p).cell 0; have p1 := (hbx2.p).cell 1; have p2 := (hbx2.p).cell 2; have p3 := (hbx2.p).cell 3; have q0 := (hbx2.d).cell 0; have q1 := (hbx2.d).cell 1; have e0 := (hbx2.r).cell 0; have e1 := (hbx2.r).cell 1; have e2 := (hbx2.r).cell 2; have e3 := (hbx2.r).cell 3; have e4 := (hbx2.r).cell 4; have e5 := (hbx2.r).cell 5; have e6 := (hbx2.r).cell 6; have e7 := (hbx2.r).cell 7; have e8 := (hbx2.r).cell 8; simp only [List.getElem?_toArray, List.getElem?_cons_zero, List.getElem?_cons_succ] at p0 p1 p2 p3 q0 q1 e0 e1 e2 e3 e4 e5 e6 e7 e8)
    go_ret
    exact ⟨rfl, hw2⟩
  · have d0 : decide ((30 : Int) < (preds.length : Int)) = false := by simp; omega
    have n0 : decide (30 < preds.length) = false := decide_eq_false h30
    have hpl : preds.length ≤ 30 := by omega
    clear h30
    cases hli : litB ⟨ra, rc, rels, la, lc, lats⟩
    · rw [hli] at HLI
      clear hli
      go_enter Tryd.func3, Tryd.ntmps3
      go_wp2_with first | (go_at_call 11; with_reducible refine (HLI.out _ hw2).mono ?_; rintro e w3 ⟨rfl, hb3⟩; have hw3 : Below w.heap.size w w3 := hw2.trans (hb3.mono hw2.size); have hq3' := hbx2.next hb3; have hbx3 := hq3'; clear hq3'; clear p0 p1 p2 p3 q0 q1 e0 e1 e2 e3 e4 e5 e6 e7 e8; have p0 := (hbx3.p).cell 0; have p1 := (hbx3.p).cell 1; have p2 := (hbx3.p).cell 2; have p3 := (hbx3.p).cell 3; have q0 := (hbx3.d).cell 0; have q1 := (hbx3.d).cell 1; have e0 := (hbx3.r).cell 0; have e1 := (hbx3.r).cell 1; have e2 := (hbx3.r).cell 2; have e3 := (hbx3.r).cell 3; have e4 := (hbx3.r).cell 4; have e5 := (hbx3.r).cell 5; have e6 := (hbx3.r).cell 6; have e7 := (hbx3.r).cell 7; have e8 := (hbx3.r).cell 8; simp only [List.getElem?_toArray, List.getElem?_cons_zero, List.getElem?_cons_succ] at p0 p1 p2 p3 q0 q1 e0 e1 e2 e3 e4 e5 e6 e7 e8) | (go_at_call 10; with_reducible refine (HH.out _ hw1).mono ?_; rintro e w2 ⟨rfl, hb2⟩; have hw2 : Below w.heap.size w w2 := hw1.trans (hb2.mono hw1.size); have hq2' := hbx1.next hb2; have hbx2 := hq2'; clear hq2'; skip; have p0 := (hbx2.p).cell 0; have p1 := (hbx2.p).cell 1; have p2 := (hbx2.p).cell 2; have p3 := (hbx2.p).cell 3; have q0 := (hbx2.d).cell 0; have q1 := (hbx2.d).cell 1; have e0 := (hbx2.r).cell 0; have e1 := (hbx2.r).cell 1; have e2 := (hbx2.r).cell 2; have e3 := (hbx2.r).cell 3; have e4 := (hbx2.r).cell 4; have e5 := (hbx2.r).cell 5; have e6 := (hbx2.r).cell 6; have e7 := (hbx2.r).cell 7; have e8 := (hbx2.r).cell 8; simp only [List.getElem?_toArray, List.getElem?_cons_zero, List.getElem?_cons_succ] at p0 p1 p2 p3 q0 q1 e0 e1 e2 e3 e4 e5 e6 e7 e8)
      go_ret
      exact ⟨rfl, hw3⟩
    · rw [hli] at HLI
      have hL := HLO.out hli
      have HST := Lib.hid (fun W h => HSTA.out W h hL hpl)
      have HST6 := Lib.hid (fun W h => HSTB.out W h hL hpl)
      have HSAME := Lib.hid (fun (s t : Sta) (W : World) (h1 : StaOk W s) (h2 : StaOk W t) (hR : s.dist = R.2) (hr : s.rows = t.rows) (hd : s.dist = t.dist) => show Calls Tryd.prog 13 #[.agg #[.int .i64 s.rows, .slice s.da s.dist.length s.dc], .agg #[.int .i64 t.rows, .slice t.da t.dist.length t.dc]] W fun e w' => e = .returned (.bool true) ∧ Below W.heap.size W w' by
        have h := sameB_any s t W h1 h2 (by rw [hR]; exact HSL.out)
        rw [decide_eq_true ⟨hr, hd⟩] at h
        exact h)
      cases hf : fewB ss r bd.length order.length
      · rw [hf] at HFEW
        clear hf hli
        go_enter Tryd.func3, Tryd.ntmps3
        go_wp2_with first | (go_at_call 12; with_reducible refine (HFEW.out _ hw3).mono ?_; rintro e w4 ⟨rfl, hb4⟩; have hw4 : Below w.heap.size w w4 := hw3.trans (hb4.mono hw3.size); have hq4' := hbx3.next hb4; have hbx4 := hq4'; clear hq4'; clear p0 p1 p2 p3 q0 q1 e0 e1 e2 e3 e4 e5 e6 e7 e8; have p0 := (hbx4.p).cell 0; have p1 := (hbx4.p).cell 1; have p2 := (hbx4.p).cell 2; have p3 := (hbx4.p).cell 3; have q0 := (hbx4.d).cell 0; have q1 := (hbx4.d).cell 1; have e0 := (hbx4.r).cell 0; have e1 := (hbx4.r).cell 1; have e2 := (hbx4.r).cell 2; have e3 := (hbx4.r).cell 3; have e4 := (hbx4.r).cell 4; have e5 := (hbx4.r).cell 5; have e6 := (hbx4.r).cell 6; have e7 := (hbx4.r).cell 7; have e8 := (hbx4.r).cell 8; simp only [List.getElem?_toArray, List.getElem?_cons_zero, List.getElem?_cons_succ] at p0 p1 p2 p3 q0 q1 e0 e1 e2 e3 e4 e5 e6 e7 e8) | (go_at_call 11; with_reducible refine (HLI.out _ hw2).mono ?_; rintro e w3 ⟨rfl, hb3⟩; have hw3 : Below w.heap.size w w3 := hw2.trans (hb3.mono hw2.size); have hq3' := hbx2.next hb3; have hbx3 := hq3'; clear hq3'; clear p0 p1 p2 p3 q0 q1 e0 e1 e2 e3 e4 e5 e6 e7 e8; have p0 := (hbx3.p).cell 0; have p1 := (hbx3.p).cell 1; have p2 := (hbx3.p).cell 2; have p3 := (hbx3.p).cell 3; have q0 := (hbx3.d).cell 0; have q1 := (hbx3.d).cell 1; have e0 := (hbx3.r).cell 0; have e1 := (hbx3.r).cell 1; have e2 := (hbx3.r).cell 2; have e3 := (hbx3.r).cell 3; have e4 := (hbx3.r).cell 4; have e5 := (hbx3.r).cell 5; have e6 := (hbx3.r).cell 6; have e7 := (hbx3.r).cell 7; have e8 := (hbx3.r).cell 8; simp only [List.getElem?_toArray, List.getElem?_cons_zero, List.getElem?_cons_succ] at p0 p1 p2 p3 q0 q1 e0 e1 e2 e3 e4 e5 e6 e7 e8) | (go_at_call 10; with_reducible refine (HH.out _ hw1).mono ?_; rintro e w2 ⟨rfl, hb2⟩; have hw2 : Below w.heap.size w w2 := hw1.trans (hb2.mono hw1.size); have hq2' := hbx1.next hb2; have hbx2 := hq2'; clear hq2'; skip; have p0 := (hbx2.p).cell 0; have p1 := (hbx2.p).cell 1; have p2 := (hbx2.p).cell 2; have p3 := (hbx2.p).cell 3; have q0 := (hbx2.d).cell 0; have q1 := (hbx2.d).cell 1; have e0 := (hbx2.r).cell 0; have e1 := (hbx2.r).cell 1; have e2 := (hbx2.r).cell 2; have e3 := (hbx2.r).cell 3; have e4 := (hbx2.r).cell 4; have e5 := (hbx2.r).cell 5; have e6 := (hbx2.r).cell 6; have e7 := (hbx2.r).cell 7; have e8 := (hbx2.r).cell 8; simp only [List.getElem?_toArray, List.getElem?_cons_zero, List.getElem?_cons_succ] at p0 p1 p2 p3 q0 q1 e0 e1 e2 e3 e4 e5 e6 e7 e8)
        go_ret
        exact ⟨rfl, hw4⟩
      · rw [hf] at HFEW
        have HES := Lib.hid (fun W h => HESA.out W h hf)
        have HES6 := Lib.hid (fun W h => HESB.out W h hf)
        obtain ⟨E, hE⟩ : ∃ E, Ko.estimate ss r bd order = E := ⟨_, rfl⟩
        rw [hE] at HES HES6
        clear hf hli hE HESA HESB HSTA HSTB
        go_enter Tryd.func3, Tryd.ntmps3
        go_wp2_with first | (go_at_call 12; with_reducible refine (HFEW.out _ hw3).mono ?_; rintro e w4 ⟨rfl, hb4⟩; have hw4 : Below w.heap.size w w4 := hw3.trans (hb4.mono hw3.size); have hq4' := hbx3.next hb4; have hbx4 := hq4'; clear hq4'; clear p0 p1 p2 p3 q0 q1 e0 e1 e2 e3 e4 e5 e6 e7 e8; have p0 := (hbx4.p).cell 0; have p1 := (hbx4.p).cell 1; have p2 := (hbx4.p).cell 2; have p3 := (hbx4.p).cell 3; have q0 := (hbx4.d).cell 0; have q1 := (hbx4.d).cell 1; have e0 := (hbx4.r).cell 0; have e1 := (hbx4.r).cell 1; have e2 := (hbx4.r).cell 2; have e3 := (hbx4.r).cell 3; have e4 := (hbx4.r).cell 4; have e5 := (hbx4.r).cell 5; have e6 := (hbx4.r).cell 6; have e7 := (hbx4.r).cell 7; have e8 := (hbx4.r).cell 8; simp only [List.getElem?_toArray, List.getElem?_cons_zero, List.getElem?_cons_succ] at p0 p1 p2 p3 q0 q1 e0 e1 e2 e3 e4 e5 e6 e7 e8) | (go_at_call 11; with_reducible refine (HLI.out _ hw2).mono ?_; rintro e w3 ⟨rfl, hb3⟩; have hw3 : Below w.heap.size w w3 := hw2.trans (hb3.mono hw2.size); have hq3' := hbx2.next hb3; have hbx3 := hq3'; clear hq3'; clear p0 p1 p2 p3 q0 q1 e0 e1 e2 e3 e4 e5 e6 e7 e8; have p0 := (hbx3.p).cell 0; have p1 := (hbx3.p).cell 1; have p2 := (hbx3.p).cell 2; have p3 := (hbx3.p).cell 3; have q0 := (hbx3.d).cell 0; have q1 := (hbx3.d).cell 1; have e0 := (hbx3.r).cell 0; have e1 := (hbx3.r).cell 1; have e2 := (hbx3.r).cell 2; have e3 := (hbx3.r).cell 3; have e4 := (hbx3.r).cell 4; have e5 := (hbx3.r).cell 5; have e6 := (hbx3.r).cell 6; have e7 := (hbx3.r).cell 7; have e8 := (hbx3.r).cell 8; simp only [List.getElem?_toArray, List.getElem?_cons_zero, List.getElem?_cons_succ] at p0 p1 p2 p3 q0 q1 e0 e1 e2 e3 e4 e5 e6 e7 e8) | (go_at_call 10; with_reducible refine (HH.out _ hw1).mono ?_; rintro e w2 ⟨rfl, hb2⟩; have hw2 : Below w.heap.size w w2 := hw1.trans (hb2.mono hw1.size); have hq2' := hbx1.next hb2; have hbx2 := hq2'; clear hq2'; skip; have p0 := (hbx2.p).cell 0; have p1 := (hbx2.p).cell 1; have p2 := (hbx2.p).cell 2; have p3 := (hbx2.p).cell 3; have q0 := (hbx2.d).cell 0; have q1 := (hbx2.d).cell 1; have e0 := (hbx2.r).cell 0; have e1 := (hbx2.r).cell 1; have e2 := (hbx2.r).cell 2; have e3 := (hbx2.r).cell 3; have e4 := (hbx2.r).cell 4; have e5 := (hbx2.r).cell 5; have e6 := (hbx2.r).cell 6; have e7 := (hbx2.r).cell 7; have e8 := (hbx2.r).cell 8; simp only [List.getElem?_toArray, List.getElem?_cons_zero, List.getElem?_cons_succ] at p0 p1 p2 p3 q0 q1 e0 e1 e2 e3 e4 e5 e6 e7 e8)
        clear p0 p1 p2 p3 q0 q1 e0 e1 e2 e3 e4 e5 e6 e7 e8
        refine' wp_region_each _ (Below w4.heap.size w4) (Onward) (Vl :: Vl :: Vl :: Vl :: Vl :: StaIs R :: Vl :: Vl :: Vl :: StaIs R :: Vl :: Vl :: Vl :: Vl :: Vl :: Vl :: Vl :: Vl :: Vl :: Vl :: Vl :: Vl :: Vl :: Vl :: Vl :: Vl :: []) ?hF (by kernel_rfl) (by kernel_rfl) (by kernel_rfl) ((Below.refl _ _).drew) (lasting_cons (lasting_vl) (lasting_cons (lasting_vl) (lasting_cons (lasting_vl) (lasting_cons (lasting_vl) (lasting_cons (lasting_vl) (lasting_cons (staIs_on _) (lasting_cons (lasting_vl) (lasting_cons (lasting_vl) (lasting_cons (lasting_vl) (lasting_cons (staIs_on _) (lasting_cons (lasting_vl) (lasting_cons (lasting_vl) (lasting_cons (lasting_vl) (lasting_cons (lasting_vl) (lasting_cons (lasting_vl) (lasting_cons (lasting_vl) (lasting_cons (lasting_vl) (lasting_cons (lasting_vl) (lasting_cons (lasting_vl) (lasting_cons (lasting_vl) (lasting_cons (lasting_vl) (lasting_cons (lasting_vl) (lasting_cons (lasting_vl) (lasting_cons (lasting_vl) (lasting_cons (lasting_vl) (lasting_cons (lasting_vl) (lasting_none))))))))))))))))))))))))))) ?hops ?hend
        case hF => (intro v; simp only [over, Act.put, List.setIfInBounds_toArray, List.set_cons_zero, List.set_cons_succ, Nat.zero_add, Nat.reduceAdd]; exact rfl)
        case hops =>
          refine ⟨?_, ?_⟩
          · intro v w' hj hd hs K hK
            have hk := hK.out
            simp only [Act.put, List.setIfInBounds_toArray, List.set_cons_zero, List.set_cons_succ] at hk
            have HK := Lib.hid hk
            clear hd hs hk hK
            go_simp
            exact HK.out _ _ hj.out (Below.refl _ _) (show _ = _ from rfl)
          refine ⟨?_, ?_⟩
          · intro v w' hj hd hs K hK
            have t0 : v 0 = _ := hd.out 0 (by kernel_rfl)
            have hk := hK.out
            simp only [t0, Act.put, List.setIfInBounds_toArray, List.set_cons_zero, List.set_cons_succ] at hk
            have HK := Lib.hid hk
            clear hd hs hk hK
            go_simp
            exact HK.out _ _ hj.out (Below.refl _ _) (show _ = _ from rfl)
          refine ⟨?_, ?_⟩
          · intro v w' hj hd hs K hK
            have t1 : v 1 = _ := hd.out 1 (by kernel_rfl)
            have hbj := hbx4.next hj.out
            have p0 := (hbj.p).cell 0
            have p1 := (hbj.p).cell 1
            have p2 := (hbj.p).cell 2
            have p3 := (hbj.p).cell 3
            have q0 := (hbj.d).cell 0
            have q1 := (hbj.d).cell 1
            have e0 := (hbj.r).cell 0
            have e1 := (hbj.r).cell 1
            have e2 := (hbj.r).cell 2
            have e3 := (hbj.r).cell 3
            have e4 := (hbj.r).cell 4
            have e5 := (hbj.r).cell 5
            have e6 := (hbj.r).cell 6
            have e7 := (hbj.r).cell 7
            have e8 := (hbj.r).cell 8
            simp only [List.getElem?_toArray, List.getElem?_cons_zero, List.getElem?_cons_succ] at p0 p1 p2 p3 q0 q1 e0 e1 e2 e3 e4 e5 e6 e7 e8
            have hk := hK.out
            simp only [t1, Act.put, List.setIfInBounds_toArray, List.set_cons_zero, List.set_cons_succ] at hk
            have HK := Lib.hid hk
            clear hd hs hk hK
            go_simp
            exact HK.out _ _ hj.out (Below.refl _ _) (show _ = _ from rfl)
          refine ⟨?_, ?_⟩
          · intro v w' hj hd hs K hK
            have t1 : v 1 = _ := hd.out 1 (by kernel_rfl)
            have hbj := hbx4.next hj.out
            have p0 := (hbj.p).cell 0
            have p1 := (hbj.p).cell 1
            have p2 := (hbj.p).cell 2
            have p3 := (hbj.p).cell 3
            have q0 := (hbj.d).cell 0
            have q1 := (hbj.d).cell 1
            have e0 := (hbj.r).cell 0
            have e1 := (hbj.r).cell 1
            have e2 := (hbj.r).cell 2
            have e3 := (hbj.r).cell 3
            have e4 := (hbj.r).cell 4
            have e5 := (hbj.r).cell 5
            have e6 := (hbj.r).cell 6
            have e7 := (hbj.r).cell 7
            have e8 := (hbj.r).cell 8
            simp only [List.getElem?_toArray, List.getElem?_cons_zero, List.getElem?_cons_succ] at p0 p1 p2 p3 q0 q1 e0 e1 e2 e3 e4 e5 e6 e7 e8
            have hk := hK.out
            simp only [t1, Act.put, List.setIfInBounds_toArray, List.set_cons_zero, List.set_cons_succ] at hk
            have HK := Lib.hid hk
            clear hd hs hk hK
            go_simp
            exact HK.out _ _ hj.out (Below.refl _ _) (show _ = _ from rfl)
          refine ⟨?_, ?_⟩
          · intro v w' hj hd hs K hK
            have t1 : v 1 = _ := hd.out 1 (by kernel_rfl)
            have hk := hK.out
            simp only [t1, Act.put, List.setIfInBounds_toArray, List.set_cons_zero, List.set_cons_succ] at hk
            have HK := Lib.hid hk
            clear hd hs hk hK
            go_simp
            exact HK.out _ _ hj.out (Below.refl _ _) (show _ = _ from rfl)
          refine ⟨?_, ?_⟩
          · intro v w' hj hd hs K hK
            have t1 : v 1 = _ := hd.out 1 (by kernel_rfl)
            have t2 : v 2 = _ := hd.out 2 (by kernel_rfl)
            have t3 : v 3 = _ := hd.out 3 (by kernel_rfl)
            have t4 : v 4 = _ := hd.out 4 (by kernel_rfl)
            have hk := hK.out
            simp only [t1, t2, t3, t4, Act.put, List.setIfInBounds_toArray, List.set_cons_zero, List.set_cons_succ] at hk
            have HK := Lib.hid hk
            clear hd hs hk hK
            go_simp
            refine (HST.out w' (hw4.trans (hj.out.mono hw4.size))).mono ?_
            rintro e w9 ⟨⟨s, rfl, hso, hr, hdd, _⟩, hb9⟩
            exact HK.out _ _ (hj.out.trans (hb9.mono hj.out.size)) hb9 ⟨s, rfl, hso, Lib.hid hr, Lib.hid hdd⟩
          refine ⟨?_, ?_⟩
          · intro v w' hj hd hs K hK
            have t1 : v 1 = _ := hd.out 1 (by kernel_rfl)
            have hbj := hbx4.next hj.out
            have p0 := (hbj.p).cell 0
            have p1 := (hbj.p).cell 1
            have p2 := (hbj.p).cell 2
            have p3 := (hbj.p).cell 3
            have q0 := (hbj.d).cell 0
            have q1 := (hbj.d).cell 1
            have e0 := (hbj.r).cell 0
            have e1 := (hbj.r).cell 1
            have e2 := (hbj.r).cell 2
            have e3 := (hbj.r).cell 3
            have e4 := (hbj.r).cell 4
            have e5 := (hbj.r).cell 5
            have e6 := (hbj.r).cell 6
            have e7 := (hbj.r).cell 7
            have e8 := (hbj.r).cell 8
            simp only [List.getElem?_toArray, List.getElem?_cons_zero, List.getElem?_cons_succ] at p0 p1 p2 p3 q0 q1 e0 e1 e2 e3 e4 e5 e6 e7 e8
            have hk := hK.out
            simp only [t1, Act.put, List.setIfInBounds_toArray, List.set_cons_zero, List.set_cons_succ] at hk
            have HK := Lib.hid hk
            clear hd hs hk hK
            go_simp
            exact HK.out _ _ hj.out (Below.refl _ _) (show _ = _ from rfl)
          refine ⟨?_, ?_⟩
          · intro v w' hj hd hs K hK
            have t1 : v 1 = _ := hd.out 1 (by kernel_rfl)
            have hbj := hbx4.next hj.out
            have p0 := (hbj.p).cell 0
            have p1 := (hbj.p).cell 1
            have p2 := (hbj.p).cell 2
            have p3 := (hbj.p).cell 3
            have q0 := (hbj.d).cell 0
            have q1 := (hbj.d).cell 1
            have e0 := (hbj.r).cell 0
            have e1 := (hbj.r).cell 1
            have e2 := (hbj.r).cell 2
            have e3 := (hbj.r).cell 3
            have e4 := (hbj.r).cell 4
            have e5 := (hbj.r).cell 5
            have e6 := (hbj.r).cell 6
            have e7 := (hbj.r).cell 7
            have e8 := (hbj.r).cell 8
            simp only [List.getElem?_toArray, List.getElem?_cons_zero, List.getElem?_cons_succ] at p0 p1 p2 p3 q0 q1 e0 e1 e2 e3 e4 e5 e6 e7 e8
            have hk := hK.out
            simp only [t1, Act.put, List.setIfInBounds_toArray, List.set_cons_zero, List.set_cons_succ] at hk
            have HK := Lib.hid hk
            clear hd hs hk hK
            go_simp
            exact HK.out _ _ hj.out (Below.refl _ _) (show _ = _ from rfl)
          refine ⟨?_, ?_⟩
          · intro v w' hj hd hs K hK
            have t1 : v 1 = _ := hd.out 1 (by kernel_rfl)
            have hk := hK.out
            simp only [t1, Act.put, List.setIfInBounds_toArray, List.set_cons_zero, List.set_cons_succ] at hk
            have HK := Lib.hid hk
            clear hd hs hk hK
            go_simp
            exact HK.out _ _ hj.out (Below.refl _ _) (show _ = _ from rfl)
          refine ⟨?_, ?_⟩
          · intro v w' hj hd hs K hK
            have t1 : v 1 = _ := hd.out 1 (by kernel_rfl)
            have t6 : v 6 = _ := hd.out 6 (by kernel_rfl)
            have t7 : v 7 = _ := hd.out 7 (by kernel_rfl)
            have t8 : v 8 = _ := hd.out 8 (by kernel_rfl)
            have hk := hK.out
            simp only [t1, t6, t7, t8, Act.put, List.setIfInBounds_toArray, List.set_cons_zero, List.set_cons_succ] at hk
            have HK := Lib.hid hk
            clear hd hs hk hK
            go_simp
            refine (HST6.out w' (hw4.trans (hj.out.mono hw4.size))).mono ?_
            rintro e w9 ⟨⟨s, rfl, hso, hr, hdd, _⟩, hb9⟩
            exact HK.out _ _ (hj.out.trans (hb9.mono hj.out.size)) hb9 ⟨s, rfl, hso, Lib.hid hr, Lib.hid hdd⟩
          refine ⟨?_, ?_⟩
          · intro v w' hj hd hs K hK
            have t1 : v 1 = _ := hd.out 1 (by kernel_rfl)
            obtain ⟨s5, t5, o5, r5, d5⟩ : StaIs R (v 5) w' := hd.out 5 (by kernel_rfl)
            obtain ⟨s9, t9, o9, r9, d9⟩ : StaIs R (v 9) w' := hd.out 9 (by kernel_rfl)
            have hk := hK.out
            simp only [t1, t5, t9, Act.put, List.setIfInBounds_toArray, List.set_cons_zero, List.set_cons_succ] at hk
            have HK := Lib.hid hk
            clear hd hs hk hK
            go_simp
            refine (HSAME.out s5 s9 w' o5 o9 d5.out (r5.out.trans r9.out.symm) (d5.out.trans d9.out.symm)).mono ?_
            rintro e w9 ⟨rfl, hb9⟩
            exact HK.out _ _ (hj.out.trans (hb9.mono hj.out.size)) hb9 (show _ = _ from rfl)
          refine ⟨?_, ?_⟩
          · intro v w' hj hd hs K hK
            have t1 : v 1 = _ := hd.out 1 (by kernel_rfl)
            have t10 : v 10 = _ := hd.out 10 (by kernel_rfl)
            have hk := hK.out
            simp only [t1, t10, Act.put, List.setIfInBounds_toArray, List.set_cons_zero, List.set_cons_succ] at hk
            have HK := Lib.hid hk
            clear hd hs hk hK
            go_simp
            exact HK.out _ _ hj.out (Below.refl _ _) (show _ = _ from rfl)
          refine ⟨?_, ?_⟩
          · intro v w' hj hd hs K hK
            have t11 : v 11 = _ := hd.out 11 (by kernel_rfl)
            have hk := hK.out
            simp only [t11, Act.put, List.setIfInBounds_toArray, List.set_cons_zero, List.set_cons_succ] at hk
            have HK := Lib.hid hk
            clear hd hs hk hK
            go_simp
            exact HK.out _ _ hj.out (Below.refl _ _) (show _ = _ from rfl)
          refine ⟨?_, ?_⟩
          · intro v w' hj hd hs K hK
            have t12 : v 12 = _ := hd.out 12 (by kernel_rfl)
            have hk := hK.out
            simp only [t12, Act.put, List.setIfInBounds_toArray, List.set_cons_zero, List.set_cons_succ] at hk
            have HK := Lib.hid hk
            clear hd hs hk hK
            go_simp
            exact HK.out _ _ hj.out (Below.refl _ _) (show _ = _ from rfl)
          refine ⟨?_, ?_⟩
          · intro v w' hj hd hs K hK
            have t12 : v 12 = _ := hd.out 12 (by kernel_rfl)
            have hbj := hbx4.next hj.out
            have p0 := (hbj.p).cell 0
            have p1 := (hbj.p).cell 1
            have p2 := (hbj.p).cell 2
            have p3 := (hbj.p).cell 3
            have q0 := (hbj.d).cell 0
            have q1 := (hbj.d).cell 1
            have e0 := (hbj.r).cell 0
            have e1 := (hbj.r).cell 1
            have e2 := (hbj.r).cell 2
            have e3 := (hbj.r).cell 3
            have e4 := (hbj.r).cell 4
            have e5 := (hbj.r).cell 5
            have e6 := (hbj.r).cell 6
            have e7 := (hbj.r).cell 7
            have e8 := (hbj.r).cell 8
            simp only [List.getElem?_toArray, List.getElem?_cons_zero, List.getElem?_cons_succ] at p0 p1 p2 p3 q0 q1 e0 e1 e2 e3 e4 e5 e6 e7 e8
            have hk := hK.out
            simp only [t12, Act.put, List.setIfInBounds_toArray, List.set_cons_zero, List.set_cons_succ] at hk
            have HK := Lib.hid hk
            clear hd hs hk hK
            go_simp
            exact HK.out _ _ hj.out (Below.refl _ _) (show _ = _ from rfl)
          refine ⟨?_, ?_⟩
          · intro v w' hj hd hs K hK
            have t12 : v 12 = _ := hd.out 12 (by kernel_rfl)
            have hk := hK.out
            simp only [t12, Act.put, List.setIfInBounds_toArray, List.set_cons_zero, List.set_cons_succ] at hk
            have HK := Lib.hid hk
            clear hd hs hk hK
            go_simp
            exact HK.out _ _ hj.out (Below.refl _ _) (show _ = _ from rfl)
          refine ⟨?_, ?_⟩
          · intro v w' hj hd hs K hK
            have t12 : v 12 = _ := hd.out 12 (by kernel_rfl)
            have hk := hK.out
            simp only [t12, Act.put, List.setIfInBounds_toArray, List.set_cons_zero, List.set_cons_succ] at hk
            have HK := Lib.hid hk
            clear hd hs hk hK
            go_simp
            exact HK.out _ _ hj.out (Below.refl _ _) (show _ = _ from rfl)
          refine ⟨?_, ?_⟩
          · intro v w' hj hd hs K hK
            have t12 : v 12 = _ := hd.out 12 (by kernel_rfl)
            have t13 : v 13 = _ := hd.out 13 (by kernel_rfl)
            have t14 : v 14 = _ := hd.out 14 (by kernel_rfl)
            have t15 : v 15 = _ := hd.out 15 (by kernel_rfl)
            have t16 : v 16 = _ := hd.out 16 (by kernel_rfl)
            have hk := hK.out
            simp only [t12, t13, t14, t15, t16, Act.put, List.setIfInBounds_toArray, List.set_cons_zero, List.set_cons_succ] at hk
            have HK := Lib.hid hk
            clear hd hs hk hK
            go_simp
            refine (HES.out w' (hw4.trans (hj.out.mono hw4.size))).mono ?_
            rintro e w9 ⟨rfl, hb9⟩
            exact HK.out _ _ (hj.out.trans (hb9.mono hj.out.size)) hb9 (show _ = _ from rfl)
          refine ⟨?_, ?_⟩
          · intro v w' hj hd hs K hK
            have t12 : v 12 = _ := hd.out 12 (by kernel_rfl)
            have hk := hK.out
            simp only [t12, Act.put, List.setIfInBounds_toArray, List.set_cons_zero, List.set_cons_succ] at hk
            have HK := Lib.hid hk
            clear hd hs hk hK
            go_simp
            exact HK.out _ _ hj.out (Below.refl _ _) (show _ = _ from rfl)
          refine ⟨?_, ?_⟩
          · intro v w' hj hd hs K hK
            have t12 : v 12 = _ := hd.out 12 (by kernel_rfl)
            have hbj := hbx4.next hj.out
            have p0 := (hbj.p).cell 0
            have p1 := (hbj.p).cell 1
            have p2 := (hbj.p).cell 2
            have p3 := (hbj.p).cell 3
            have q0 := (hbj.d).cell 0
            have q1 := (hbj.d).cell 1
            have e0 := (hbj.r).cell 0
            have e1 := (hbj.r).cell 1
            have e2 := (hbj.r).cell 2
            have e3 := (hbj.r).cell 3
            have e4 := (hbj.r).cell 4
            have e5 := (hbj.r).cell 5
            have e6 := (hbj.r).cell 6
            have e7 := (hbj.r).cell 7
            have e8 := (hbj.r).cell 8
            simp only [List.getElem?_toArray, List.getElem?_cons_zero, List.getElem?_cons_succ] at p0 p1 p2 p3 q0 q1 e0 e1 e2 e3 e4 e5 e6 e7 e8
            have hk := hK.out
            simp only [t12, Act.put, List.setIfInBounds_toArray, List.set_cons_zero, List.set_cons_succ] at hk
            have HK := Lib.hid hk
            clear hd hs hk hK
            go_simp
            exact HK.out _ _ hj.out (Below.refl _ _) (show _ = _ from rfl)
          refine ⟨?_, ?_⟩
          · intro v w' hj hd hs K hK
            have t12 : v 12 = _ := hd.out 12 (by kernel_rfl)
            have hk := hK.out
            simp only [t12, Act.put, List.setIfInBounds_toArray, List.set_cons_zero, List.set_cons_succ] at hk
            have HK := Lib.hid hk
            clear hd hs hk hK
            go_simp
            exact HK.out _ _ hj.out (Below.refl _ _) (show _ = _ from rfl)
          refine ⟨?_, ?_⟩
          · intro v w' hj hd hs K hK
            have t12 : v 12 = _ := hd.out 12 (by kernel_rfl)
            have hk := hK.out
            simp only [t12, Act.put, List.setIfInBounds_toArray, List.set_cons_zero, List.set_cons_succ] at hk
            have HK := Lib.hid hk
            clear hd hs hk hK
            go_simp
            exact HK.out _ _ hj.out (Below.refl _ _) (show _ = _ from rfl)
          refine ⟨?_, ?_⟩
          · intro v w' hj hd hs K hK
            have t12 : v 12 = _ := hd.out 12 (by kernel_rfl)
            have t18 : v 18 = _ := hd.out 18 (by kernel_rfl)
            have t19 : v 19 = _ := hd.out 19 (by kernel_rfl)
            have t20 : v 20 = _ := hd.out 20 (by kernel_rfl)
            have t21 : v 21 = _ := hd.out 21 (by kernel_rfl)
            have hk := hK.out
            simp only [t12, t18, t19, t20, t21, Act.put, List.setIfInBounds_toArray, List.set_cons_zero, List.set_cons_succ] at hk
            have HK := Lib.hid hk
            clear hd hs hk hK
            go_simp
            refine (HES6.out w' (hw4.trans (hj.out.mono hw4.size))).mono ?_
            rintro e w9 ⟨rfl, hb9⟩
            exact HK.out _ _ (hj.out.trans (hb9.mono hj.out.size)) hb9 (show _ = _ from rfl)
          refine ⟨?_, ?_⟩
          · intro v w' hj hd hs K hK
            have t12 : v 12 = _ := hd.out 12 (by kernel_rfl)
            have t17 : v 17 = _ := hd.out 17 (by kernel_rfl)
            have t22 : v 22 = _ := hd.out 22 (by kernel_rfl)
            have hk := hK.out
            simp only [t12, t17, t22, Act.put, List.setIfInBounds_toArray, List.set_cons_zero, List.set_cons_succ] at hk
            have HK := Lib.hid hk
            clear hd hs hk hK
            go_simp
            exact HK.out _ _ hj.out (Below.refl _ _) (show _ = _ from rfl)
          refine ⟨?_, ?_⟩
          · intro v w' hj hd hs K hK
            have t12 : v 12 = _ := hd.out 12 (by kernel_rfl)
            have t23 : v 23 = _ := hd.out 23 (by kernel_rfl)
            have hk := hK.out
            simp only [t12, t23, Act.put, List.setIfInBounds_toArray, List.set_cons_zero, List.set_cons_succ] at hk
            have HK := Lib.hid hk
            clear hd hs hk hK
            go_simp
            exact HK.out _ _ hj.out (Below.refl _ _) (show _ = _ from rfl)
          refine ⟨?_, ?_⟩
          · intro v w' hj hd hs K hK
            have t24 : v 24 = _ := hd.out 24 (by kernel_rfl)
            have hk := hK.out
            simp only [t24, Act.put, List.setIfInBounds_toArray, List.set_cons_zero, List.set_cons_succ] at hk
            have HK := Lib.hid hk
            clear hd hs hk hK
            go_simp
            exact HK.out _ _ hj.out (Below.refl _ _) (show _ = _ from rfl)
          trivial
        case hend =>
          intro v w12 hj hd
          have t25 : v 25 = _ := hd.out 25 (of_decide_eq_true (by kernel_rfl))
          simp only [t25]
          have hb12 := hj.out
          clear hj hd t25
          go_wp2_with fail
          go_ret
          exact ⟨rfl, hw4.trans (hb12.mono hw4.size)⟩
end Go.Proofs.YtoficnfpoeaccaaDoor
