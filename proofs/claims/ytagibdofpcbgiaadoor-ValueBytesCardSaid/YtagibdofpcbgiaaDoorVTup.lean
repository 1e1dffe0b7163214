/- The walks of the comparisons of tuples. -/
import Derived.Test.YtagibdofpcbgiaaDoorVVal
namespace Go.Proofs.YtagibdofpcbgiaaDoor
set_option linter.unusedVariables false
set_option linter.unusedSimpArgs false
open Go.RowKit
/-- A slice's cells hold these values. -/
def Tup (w : World) (A : Option Addr) (l : List Vx.V) : Prop :=
  l ≠ [] → ∃ g o, A = some ⟨g, o, none⟩ ∧ g < w.heap.size ∧ ∀ (k : Nat) (v : Vx.V), l[k]? = some v → w.cell? ⟨g, o + k * 3, none⟩ = some (.int .i64 v.t) ∧ w.cell? ⟨g, o + k * 3 + 1, none⟩ = some (.int .i64 v.n) ∧ w.cell? ⟨g, o + k * 3 + 2, none⟩ = some (.string ⟨v.s.toArray⟩)
theorem Tup.below {w w' : World} {A : Option Addr} {l : List Vx.V} (h : Tup w A l) (hb : Below w.heap.size w w') : Tup w' A l := fun hn => by
  obtain ⟨g, o, e, hg, hc⟩ := h hn
  refine ⟨g, o, e, Nat.lt_of_lt_of_le hg hb.size, fun k v hv => ?_⟩
  obtain ⟨a, b, c⟩ := hc k v hv
  exact ⟨(hb.cell (p := ⟨g, o + k * 3, none⟩) hg).trans a, (hb.cell (p := ⟨g, o + k * 3 + 1, none⟩) hg).trans b, (hb.cell (p := ⟨g, o + k * 3 + 2, none⟩) hg).trans c⟩
theorem Tup.at {w : World} {A : Option Addr} {l : List Vx.V} (h : Tup w A l) {k : Nat} (hk : k < l.length) :
    ∃ g o, A = some ⟨g, o, none⟩ ∧ g < w.heap.size ∧ w.cell? ⟨g, o + k * 3, none⟩ = some (.int .i64 l[k].t) ∧ w.cell? ⟨g, o + k * 3 + 1, none⟩ = some (.int .i64 l[k].n) ∧ w.cell? ⟨g, o + k * 3 + 2, none⟩ = some (.string ⟨l[k].s.toArray⟩) := by
  obtain ⟨g, o, e, hg, hc⟩ := h (by intro h; rw [h] at hk; simp at hk)
  exact ⟨g, o, e, hg, hc _ _ (List.getElem?_eq_getElem hk)⟩
/-- The strings of a tuple are no longer than this. -/
def Fits (l : List Vx.V) : Prop := ∀ v ∈ l, v.s.length ≤ 281474976710656
theorem size_mk (l : List UInt8) : (⟨l.toArray⟩ : ByteArray).size = l.length := by rw [← size_len]
theorem vcompare_any (v v' : Vx.V) (w : World) (h : v.s.length ≤ 281474976710656) (h' : v'.s.length ≤ 281474976710656) :
    Calls Tryd.prog 13 #[.agg #[.int .i64 v.t, .int .i64 v.n, .string ⟨v.s.toArray⟩], .agg #[.int .i64 v'.t, .int .i64 v'.n, .string ⟨v'.s.toArray⟩]] w fun e w' => e = .returned (.int .i64 (Vx.cmpV v v')) ∧ Below w.heap.size w w' :=
  compare_any v.t v.n v'.t v'.n ⟨v.s.toArray⟩ ⟨v'.s.toArray⟩ w (by rw [size_mk]; exact h) (by rw [size_mk]; exact h')
theorem vrcompare_any (v v' : Vx.V) (w : World) (h : v.s.length ≤ 281474976710656) (h' : v'.s.length ≤ 281474976710656) :
    Calls Tryd.prog 14 #[.agg #[.int .i64 v.t, .int .i64 v.n, .string ⟨v.s.toArray⟩], .agg #[.int .i64 v'.t, .int .i64 v'.n, .string ⟨v'.s.toArray⟩]] w fun e w' => e = .returned (.int .i64 (Vx.cmpV v v')) ∧ Below w.heap.size w w' :=
  rcompare_any v.t v.n v'.t v'.n ⟨v.s.toArray⟩ ⟨v'.s.toArray⟩ w (by rw [size_mk]; omega) (by rw [size_mk]; omega)
set_option maxHeartbeats 1000000 in
theorem rctuple_any (A B : Option Addr) (c d : Nat) (xs ys : List Vx.V) (w : World) (hx : xs.length ≤ 281474976710656) (hy : ys.length ≤ 281474976710656) (hA : Tup w A xs) (hB : Tup w B ys) (fx : Fits xs) (fy : Fits ys) :
    Calls Tryd.prog 16 #[.slice A xs.length c, .slice B ys.length d] w fun e w' => e = .returned (.int .i64 (Vx.cmpT xs ys)) ∧ Below w.heap.size w w' := by
  obtain ⟨N, hN⟩ : ∃ N, N = Vx.cmpT (xs.drop 0) (ys.drop 0) := ⟨_, rfl⟩
  have hf : Vx.cmpT xs ys = N := by rw [hN]; simp
  rw [hf]; clear hf
  have HN := Lib.hid hN
  clear hN
  go_enter Tryd.func16, Tryd.ntmps16
  go_wp2
  go_loopw [5] (fun i wr => ∃ k : Nat, k ≤ xs.length ∧ k ≤ ys.length ∧ Hid (N = Vx.cmpT (xs.drop k) (ys.drop k)) ∧ i = .int .i64 k ∧ Below w.heap.size w wr) (fun i _ => xs.length - (intOf i).toNat)
  case atStart => exact ⟨0, by omega, by omega, HN, rfl, Below.refl _ _⟩
  case round =>
    obtain ⟨k, hka, hkb, HK, rfl, hbw⟩ := hrel
    by_cases h1 : k < xs.length
    · have d1 : decide ((k : Int) < (xs.length : Int)) = true := by simp; omega
      by_cases h2 : k < ys.length
      · have d2 : decide ((k : Int) < (ys.length : Int)) = true := by simp; omega
        obtain ⟨g, o, rfl, hg, a0, a1, a2⟩ := hA.at h1
        obtain ⟨g', o', rfl, hg', b0, b1, b2⟩ := hB.at h2
        have e1 := List.getElem?_eq_getElem h1
        have e2 := List.getElem?_eq_getElem h2
        have F1 := Lib.hid (fx _ (List.getElem_mem h1))
        have F2 := Lib.hid (fy _ (List.getElem_mem h2))
        generalize xs[k] = x at *
        generalize ys[k] = y at *
        have i0 : (0 : Int) ≤ (k : Int) := by omega
        have k1 : (k : Int) < (xs.length : Int) := by omega
        have k2 : (k : Int) < (ys.length : Int) := by omega
        have f0 : ∀ z : Held w.heap.size w, z.w.cell? ⟨g, o + k * 3, none⟩ = some (.int .i64 x.t) := fun z => z.cell hg a0
        have f1 : ∀ z : Held w.heap.size w, z.w.cell? ⟨g, o + k * 3 + 1, none⟩ = some (.int .i64 x.n) := fun z => z.cell hg a1
        have f2 : ∀ z : Held w.heap.size w, z.w.cell? ⟨g, o + k * 3 + 2, none⟩ = some (.string ⟨x.s.toArray⟩) := fun z => z.cell hg a2
        have g0 : ∀ z : Held w.heap.size w, z.w.cell? ⟨g', o' + k * 3, none⟩ = some (.int .i64 y.t) := fun z => z.cell hg' b0
        have g1 : ∀ z : Held w.heap.size w, z.w.cell? ⟨g', o' + k * 3 + 1, none⟩ = some (.int .i64 y.n) := fun z => z.cell hg' b1
        have g2 : ∀ z : Held w.heap.size w, z.w.cell? ⟨g', o' + k * 3 + 2, none⟩ = some (.string ⟨y.s.toArray⟩) := fun z => z.cell hg' b2
        clear a0 a1 a2 b0 b1 b2 hA hB
        have ht : (k : Int).toNat = k := by simp
        cases hz : (Vx.cmpV x y != 0)
        · have hE := Lib.hid (HK.out.trans (cmpL_same e1 e2 (by simpa using hz)))
          clear e1 e2
          go_wp2
          refine wp_region_held w.heap.size w hbw (by kernel_rfl) (by kernel_rfl) ?_
          repeat (go_big_quiet_step ((go_at_call 14; exact held_call _ (Nat.le_refl _) (vrcompare_any x y _ F1.out F2.out))))
          refine wpQuiet_nil ?_
          rintro _ ⟨⟨w5, h5⟩, rfl⟩
          clear f0 f1 f2 g0 g1 g2
          go_wp2
          go_roundw
          case rel => exact ⟨k + 1, by omega, by omega, hE, by go_num, h5⟩
          case measure => simp [intOf]; omega
        · have hE := Lib.hid (HK.out.trans (cmpL_differ e1 e2 (by simpa using hz)))
          clear e1 e2
          go_wp2
          refine wp_region_held w.heap.size w hbw (by kernel_rfl) (by kernel_rfl) ?_
          repeat (go_big_quiet_step ((go_at_call 14; exact held_call _ (Nat.le_refl _) (vrcompare_any x y _ F1.out F2.out))))
          refine wpQuiet_nil ?_
          rintro _ ⟨⟨w5, h5⟩, rfl⟩
          clear f0 f1 f2 g0 g1 g2
          go_wp2
          go_ret
          exact ⟨by rw [hE.out]; rfl, h5⟩
      · have d2 : decide ((k : Int) < (ys.length : Int)) = false := by simp; omega
        have hE := Lib.hid (HK.out.trans (cmpL_end (by omega) (by omega) (Or.inr (by omega))))
        go_wp2_with (go_at_call 37; refine (ints_any _ _ _).mono ?_; rintro e w' ⟨rfl, rfl⟩)
        go_ret
        exact ⟨by rw [hE.out]; rfl, hbw⟩
    · have d1 : decide ((k : Int) < (xs.length : Int)) = false := by simp; omega
      have hE := Lib.hid (HK.out.trans (cmpL_end (by omega) (by omega) (Or.inl (by omega))))
      go_wp2_with (go_at_call 37; refine (ints_any _ _ _).mono ?_; rintro e w' ⟨rfl, rfl⟩)
      go_ret
      exact ⟨by rw [hE.out]; rfl, hbw⟩
set_option maxHeartbeats 1000000 in
theorem listsv_any (A B : Option Addr) (c d : Nat) (xs ys : List Vx.V) (w : World) (hx : xs.length ≤ 281474976710656) (hy : ys.length ≤ 281474976710656) (hA : Tup w A xs) (hB : Tup w B ys) (fx : Fits xs) (fy : Fits ys) :
    Calls Tryd.prog 39 #[.slice A xs.length c, .slice B ys.length d, .func (.func 13) #[] #[]] w fun e w' => e = .returned (.int .i64 (Vx.cmpT xs ys)) ∧ Below w.heap.size w w' := by
  obtain ⟨N, hN⟩ : ∃ N, N = Vx.cmpT (xs.drop 0) (ys.drop 0) := ⟨_, rfl⟩
  have hf : Vx.cmpT xs ys = N := by rw [hN]; simp
  rw [hf]; clear hf
  have HN := Lib.hid hN
  clear hN
  go_enter Tryd.func39, Tryd.ntmps39
  go_wp2
  go_loopw [12] (fun i wr => ∃ k : Nat, k ≤ xs.length ∧ k ≤ ys.length ∧ Hid (N = Vx.cmpT (xs.drop k) (ys.drop k)) ∧ i = .int .i64 k ∧ Below w.heap.size w wr) (fun i _ => xs.length - (intOf i).toNat)
  case atStart => exact ⟨0, by omega, by omega, HN, rfl, Below.refl _ _⟩
  case round =>
    obtain ⟨k, hka, hkb, HK, rfl, hbw⟩ := hrel
    by_cases h1 : k < xs.length
    · have d1 : decide ((k : Int) < (xs.length : Int)) = true := by simp; omega
      obtain ⟨g, o, rfl, hg, a0, a1, a2⟩ := (hA.below hbw).at h1
      by_cases h2 : k < ys.length
      · have d2 : ((k : Int) == (ys.length : Int)) = false := beq_eq_false_iff_ne.2 (by omega)
        obtain ⟨g', o', rfl, hg', b0, b1, b2⟩ := (hB.below hbw).at h2
        have e1 := List.getElem?_eq_getElem h1
        have e2 := List.getElem?_eq_getElem h2
        have F1 := Lib.hid (fx _ (List.getElem_mem h1))
        have F2 := Lib.hid (fy _ (List.getElem_mem h2))
        generalize xs[k] = x at *
        generalize ys[k] = y at *
        have i0 : (0 : Int) ≤ (k : Int) := by omega
        have k2 : (k : Int) < (ys.length : Int) := by omega
        have ht : (k : Int).toNat = k := by simp
        obtain ⟨W1, hW1⟩ : ∃ W1, W1 = wr.alloc (.cells #[.int .i64 x.t, .int .i64 x.n, .string ⟨x.s.toArray⟩] 23) := ⟨_, rfl⟩
        have hb1 : Below w.heap.size w W1 := by rw [hW1]; exact hbw.alloc hbw.size _
        have hb2 : Below wr.heap.size wr W1 := by rw [hW1]; exact (Below.refl _ _).alloc (Nat.le_refl _) _
        have hz1 : W1.heap.size = wr.heap.size + 1 := by rw [hW1]; simp
        have at1 : At W1 wr.heap.size 23 #[.int .i64 x.t, .int .i64 x.n, .string ⟨x.s.toArray⟩] := by rw [hW1]; exact At.new _ _ _
        have f0 : ∀ z : Held W1.heap.size W1, z.w.cell? ⟨wr.heap.size, 0, none⟩ = some (.int .i64 x.t) := fun z => z.cell (by show wr.heap.size < _; omega) ((at1.cell 0).trans rfl)
        have f1 : ∀ z : Held W1.heap.size W1, z.w.cell? ⟨wr.heap.size, 1, none⟩ = some (.int .i64 x.n) := fun z => z.cell (by show wr.heap.size < _; omega) ((at1.cell 1).trans rfl)
        have f2 : ∀ z : Held W1.heap.size W1, z.w.cell? ⟨wr.heap.size, 2, none⟩ = some (.string ⟨x.s.toArray⟩) := fun z => z.cell (by show wr.heap.size < _; omega) ((at1.cell 2).trans rfl)
        have g0 : ∀ z : Held W1.heap.size W1, z.w.cell? ⟨g', o' + k * 3, none⟩ = some (.int .i64 y.t) := fun z => z.cell (by show g' < _; omega) ((hb2.cell (p := ⟨g', o' + k * 3, none⟩) hg').trans b0)
        have g1 : ∀ z : Held W1.heap.size W1, z.w.cell? ⟨g', o' + k * 3 + 1, none⟩ = some (.int .i64 y.n) := fun z => z.cell (by show g' < _; omega) ((hb2.cell (p := ⟨g', o' + k * 3 + 1, none⟩) hg').trans b1)
        have g2 : ∀ z : Held W1.heap.size W1, z.w.cell? ⟨g', o' + k * 3 + 2, none⟩ = some (.string ⟨y.s.toArray⟩) := fun z => z.cell (by show g' < _; omega) ((hb2.cell (p := ⟨g', o' + k * 3 + 2, none⟩) hg').trans b2)
        have hbs : w.heap.size ≤ W1.heap.size := hb1.size
        have HW1 := Lib.hid hW1
        clear at1 hz1 hb2 hW1
        cases hz : (Vx.cmpV x y != 0)
        · have hE := Lib.hid (HK.out.trans (cmpL_same e1 e2 (by simpa using hz)))
          clear e1 e2
          go_wp2
          rw [← HW1.out]
          clear a0 a1 a2 b0 b1 b2 hA hB
          refine wp_region_held W1.heap.size W1 (Below.refl _ _) (by kernel_rfl) (by kernel_rfl) ?_
          repeat (go_big_quiet_step ((go_at_call 13; exact held_call _ (Nat.le_refl _) (vcompare_any x y _ F1.out F2.out))))
          refine wpQuiet_nil ?_
          rintro _ ⟨⟨w5, h5⟩, rfl⟩
          clear f0 f1 f2 g0 g1 g2
          go_wp2
          go_roundw
          case rel => exact ⟨k + 1, by omega, by omega, hE, by go_num, hb1.trans (h5.mono hbs)⟩
          case measure => simp [intOf]; omega
        · have hE := Lib.hid (HK.out.trans (cmpL_differ e1 e2 (by simpa using hz)))
          clear e1 e2
          go_wp2
          rw [← HW1.out]
          clear a0 a1 a2 b0 b1 b2 hA hB
          refine wp_region_held W1.heap.size W1 (Below.refl _ _) (by kernel_rfl) (by kernel_rfl) ?_
          repeat (go_big_quiet_step ((go_at_call 13; exact held_call _ (Nat.le_refl _) (vcompare_any x y _ F1.out F2.out))))
          refine wpQuiet_nil ?_
          rintro _ ⟨⟨w5, h5⟩, rfl⟩
          clear f0 f1 f2 g0 g1 g2
          go_wp2
          go_ret
          exact ⟨by rw [hE.out]; rfl, hb1.trans (h5.mono hbs)⟩
      · have d2 : ((k : Int) == (ys.length : Int)) = true := by rw [beq_iff_eq]; omega
        have hE := Lib.hid (HK.out.trans (cmpL_end (by omega) (by omega) (Or.inr (by omega))))
        go_wp2
        go_ret
        exact ⟨by rw [hE.out]; unfold Vx.cmpI; rw [if_neg (by omega), if_pos (by omega)]; rfl, hbw.alloc hbw.size _⟩
    · have d1 : decide ((k : Int) < (xs.length : Int)) = false := by simp; omega
      have hE := Lib.hid (HK.out.trans (cmpL_end (by omega) (by omega) (Or.inl (by omega))))
      go_wp2_with (go_at_call 33; refine (cmpi_any _ _ _).mono ?_; rintro e w' ⟨rfl, rfl⟩)
      go_ret
      exact ⟨by rw [hE.out]; rfl, hbw⟩
theorem ctuple_any (A B : Option Addr) (c d : Nat) (xs ys : List Vx.V) (w : World) (hx : xs.length ≤ 281474976710656) (hy : ys.length ≤ 281474976710656) (hA : Tup w A xs) (hB : Tup w B ys) (fx : Fits xs) (fy : Fits ys) :
    Calls Tryd.prog 15 #[.slice A xs.length c, .slice B ys.length d] w fun e w' => e = .returned (.int .i64 (Vx.cmpT xs ys)) ∧ Below w.heap.size w w' := by
  go_enter Tryd.func15, Tryd.ntmps15
  go_wp2_with (go_at_call 39; refine (listsv_any A B c d xs ys _ hx hy hA hB fx fy).mono ?_; rintro e w' ⟨rfl, hb⟩)
  go_ret
  exact ⟨rfl, hb⟩
theorem same_any (A B : Option Addr) (c d : Nat) (xs ys : List Vx.V) (w : World) (hx : xs.length ≤ 281474976710656) (hy : ys.length ≤ 281474976710656) (hA : Tup w A xs) (hB : Tup w B ys) (fx : Fits xs) (fy : Fits ys) :
    Calls Tryd.prog 23 #[.slice A xs.length c, .slice B ys.length d] w fun e w' => e = .returned (.bool (Vx.cmpT xs ys == 0)) ∧ Below w.heap.size w w' := by
  go_enter Tryd.func23, Tryd.ntmps23
  go_wp2_with (go_at_call 16; refine (rctuple_any A B c d xs ys _ hx hy hA hB fx fy).mono ?_; rintro e w' ⟨rfl, hb⟩)
  go_ret
  exact ⟨rfl, hb⟩
def sameB : List UInt8 → List UInt8 → Bool
  | [], [] => true
  | a :: x, b :: y => a == b && sameB x y
  | _, _ => false
theorem sameB_eq : ∀ x y : List UInt8, sameB x y = (x == y)
  | [], [] => rfl
  | a :: x, b :: y => by simp [sameB, sameB_eq x y]
  | [], b :: y => rfl
  | a :: x, [] => rfl
theorem sameB_len : ∀ x y : List UInt8, x.length ≠ y.length → sameB x y = false := fun x y h => by
  rw [sameB_eq]; simp; intro e; exact h (by rw [e])
set_option maxHeartbeats 1000000 in
theorem samebytes_any (A B : Option Addr) (c d : Nat) (xs ys : List UInt8) (w : World) (hx : xs.length ≤ 281474976710656) (hy : ys.length ≤ 281474976710656) (hA : Bytes w A xs) (hB : Bytes w B ys) :
    Calls Tryd.prog 24 #[.slice A xs.length c, .slice B ys.length d] w fun e w' => e = .returned (.bool (sameB xs ys)) ∧ Below w.heap.size w w' := by
  by_cases hl : xs.length = ys.length
  · have d0 : ((xs.length : Int) != (ys.length : Int)) = false := by simp; omega
    obtain ⟨N, hN⟩ : ∃ N, N = sameB (xs.drop 0) (ys.drop 0) := ⟨_, rfl⟩
    have hf : sameB xs ys = N := by rw [hN]; simp
    rw [hf]; clear hf
    have HN := Lib.hid hN
    clear hN
    go_enter Tryd.func24, Tryd.ntmps24
    go_wp2
    go_loopw [5] (fun i wr => ∃ k q : Nat, k ≤ xs.length ∧ Hid (N = sameB (xs.drop k) (ys.drop k)) ∧ i = .int .i64 k ∧ wr = w.drewN q) (fun i _ => xs.length - (intOf i).toNat)
    case atStart => exact ⟨0, 0, by omega, HN, rfl, rfl⟩
    case round =>
      obtain ⟨k, q, hka, HK, rfl, rfl⟩ := hrel
      by_cases h1 : k < xs.length
      · have d1 : decide ((k : Int) < (xs.length : Int)) = true := by simp; omega
        have h2 : k < ys.length := by omega
        obtain ⟨g, o, rfl, hg, hc⟩ := hA (by intro h; rw [h] at h1; simp at h1)
        have c1 := hc k _ (List.getElem?_eq_getElem h1)
        obtain ⟨g', o', rfl, hg', hc'⟩ := hB (by intro h; rw [h] at h2; simp at h2)
        have c2 := hc' k _ (List.getElem?_eq_getElem h2)
        have e1 := List.drop_eq_getElem_cons h1
        have e2 := List.drop_eq_getElem_cons h2
        have k2 : (k : Int) < (ys.length : Int) := by omega
        generalize xs[k] = x at *
        generalize ys[k] = y at *
        clear hc hc' hA hB
        by_cases he : x = y
        · subst he
          have hE := Lib.hid (HK.out.trans (show sameB (xs.drop k) (ys.drop k) = sameB (xs.drop (k + 1)) (ys.drop (k + 1)) by rw [e1, e2]; simp [sameB]))
          have d3 : (((x.toNat : Nat) : Int) != ((x.toNat : Nat) : Int)) = false := by simp
          clear e1 e2
          go_wp2
          go_quiet (fail)
          go_wp2
          go_roundw
          case rel => exact ⟨k + 1, _, by omega, hE, by go_num, rfl⟩
          case measure => simp [intOf]; omega
        · have hE := Lib.hid (HK.out.trans (show sameB (xs.drop k) (ys.drop k) = false by rw [e1, e2]; simp [sameB, he]))
          have d3 : (((x.toNat : Nat) : Int) != ((y.toNat : Nat) : Int)) = true := by
            have : ¬ x.toNat = y.toNat := fun h => he (UInt8.toNat_inj.1 h)
            simp; omega
          clear e1 e2
          go_wp2
          go_quiet (fail)
          go_wp2
          go_ret
          exact ⟨by rw [hE.out]; rfl, below_drewN (below_drewN (Below.refl _ _) _) _⟩
      · have d1 : decide ((k : Int) < (xs.length : Int)) = false := by simp; omega
        have hE := Lib.hid (HK.out.trans (show sameB (xs.drop k) (ys.drop k) = true by rw [List.drop_eq_nil_of_le (by omega), List.drop_eq_nil_of_le (by omega)]; rfl))
        go_wp2
        go_ret
        exact ⟨by rw [hE.out]; rfl, below_drewN (Below.refl _ _) _⟩
  · have d0 : ((xs.length : Int) != (ys.length : Int)) = true := by simp; omega
    rw [sameB_len _ _ hl]
    go_enter Tryd.func24, Tryd.ntmps24
    go_wp2
    go_ret
    exact ⟨rfl, Below.refl _ _⟩
end Go.Proofs.YtagibdofpcbgiaaDoor
