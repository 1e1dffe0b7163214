/- The walk of the law ValueOrder. -/
import Derived.Test.YtagibdofpcbgiaaDoorVLaw2
namespace Go.Proofs.YtagibdofpcbgiaaDoor.valueOrder
set_option linter.unusedVariables false
set_option linter.unusedSimpArgs false
open Go.RowKit Go.Shelf
/-- A value as the machine has it. -/
abbrev agg (v : Vx.V) : Value := .agg #[.int .i64 v.t, .int .i64 v.n, .string ⟨v.s.toArray⟩]
set_option maxHeartbeats 4000000 in
set_option maxRecDepth 100000 in
theorem law_walk (a b c : Vx.V) (w : World) (hy : Laid w) (ha : a.s.length ≤ 281474976710656) (hb : b.s.length ≤ 281474976710656) (hc : c.s.length ≤ 281474976710656) :
    Calls Tryd.prog 4 #[.agg #[.int .i64 a.t, .int .i64 a.n, .string ⟨a.s.toArray⟩], .agg #[.int .i64 b.t, .int .i64 b.n, .string ⟨b.s.toArray⟩], .agg #[.int .i64 c.t, .int .i64 c.n, .string ⟨c.s.toArray⟩]] w fun e w' => e = .returned (.bool true) ∧ Below w.heap.size w w' := by
  obtain ⟨W, hW⟩ : ∃ W, W = ((w.alloc (.cells #[.int .i64 a.t, .int .i64 a.n, .string ⟨a.s.toArray⟩] 23)).alloc (.cells #[.int .i64 b.t, .int .i64 b.n, .string ⟨b.s.toArray⟩] 23)).alloc (.cells #[.int .i64 c.t, .int .i64 c.n, .string ⟨c.s.toArray⟩] 23) := ⟨_, rfl⟩
  have gA : At W w.heap.size 23 #[.int .i64 a.t, .int .i64 a.n, .string ⟨a.s.toArray⟩] := by rw [hW]; exact ((At.new _ _ _).alloc _).alloc _
  have gB : At W (w.heap.size + 1) 23 #[.int .i64 b.t, .int .i64 b.n, .string ⟨b.s.toArray⟩] := by rw [hW]; exact (At.newAt (by simp) _ _).alloc _
  have gC : At W (w.heap.size + 2) 23 #[.int .i64 c.t, .int .i64 c.n, .string ⟨c.s.toArray⟩] := by rw [hW]; exact At.newAt (by simp) _ _
  have bW : Below w.heap.size w W := by rw [hW]; exact (((Below.refl _ _).alloc (Nat.le_refl _) _).alloc (by simp) _).alloc (by simp; omega) _
  have HW := Lib.hid hW
  clear hW
  go_enter Tryd.func4, Tryd.ntmps4
  go_wp2_with fail
  rw [← HW.out]
  refine (head_any _ (hy.next bW)).mono ?_
  rintro e w1 ⟨rfl, b1⟩
  have gA1 := gA.next b1; have gB1 := gB.next b1; have gC1 := gC.next b1
  have bw1 := bW.trans (b1.mono bW.size)
  have y1 := hy.next bw1
  have a0 := gA1.cell 0; have a1 := gA1.cell 1; have a2 := gA1.cell 2
  have c0 := gB1.cell 0; have c1 := gB1.cell 1; have c2 := gB1.cell 2
  simp at a0 a1 a2 c0 c1 c2
  clear gA gB gC bW b1
  go_wp2_with fail
  obtain ⟨Y, hY⟩ : ∃ Y, Y = Vx.cmpV b c := ⟨_, rfl⟩
  obtain ⟨Z, hZ⟩ : ∃ Z, Z = Vx.cmpV a c := ⟨_, rfl⟩
  have HY := Lib.hid hY; have HZ := Lib.hid hZ
  have hsteps := cmpV_cmp.steps a b c
  rw [← hY, ← hZ] at hsteps
  have hanti := cmpV_cmp.anti a b
  have hzero := cmpV_cmp.zero a b
  have hzc := cmpV_cmp.rng a c
  rw [← hZ] at hzc
  clear hY hZ
  obtain ⟨X, hX⟩ : ∃ X, Vx.cmpV a b = X := ⟨_, rfl⟩
  have hxc := cmpV_cmp.rng a b
  rw [hX] at hsteps hanti hzero hxc
  have HX := Lib.hid hX
  have HS := Lib.hid hsteps; have HZE := Lib.hid hzero; have HZC := Lib.hid hzc
  have HXC := Lib.hid hxc
  have HAN := Lib.hid hanti
  clear hX hsteps hanti hzero hxc hzc
  refine (cmp_val a b _ _ ha hb HX.out).mono ?_
  rintro e w2 ⟨rfl, b2⟩
  have gA2 := gA1.next b2; have gB2 := gB1.next b2; have gC2 := gC1.next b2
  have bw2 := bw1.trans (b2.mono bw1.size)
  clear a0 a1 a2 c0 c1 c2
  have a0 := gB2.cell 0; have a1 := gB2.cell 1; have a2 := gB2.cell 2
  have c0 := gC2.cell 0; have c1 := gC2.cell 1; have c2 := gC2.cell 2
  simp at a0 a1 a2 c0 c1 c2
  go_wp2_with fail
  refine (cmp_val b c Y _ hb hc HY.out.symm).mono ?_
  rintro e w3 ⟨rfl, b3⟩
  have gA3 := gA2.next b3; have gB3 := gB2.next b3; have gC3 := gC2.next b3
  have bw3 := bw2.trans (b3.mono bw2.size)
  clear a0 a1 a2 c0 c1 c2
  have a0 := gA3.cell 0; have a1 := gA3.cell 1; have a2 := gA3.cell 2
  have c0 := gC3.cell 0; have c1 := gC3.cell 1; have c2 := gC3.cell 2
  simp at a0 a1 a2 c0 c1 c2
  go_wp2_with fail
  refine (cmp_val a c Z _ ha hc HZ.out.symm).mono ?_
  rintro e w4 ⟨rfl, b4⟩
  have gA4 := gA3.next b4; have gB4 := gB3.next b4
  have bw4 := bw3.trans (b4.mono bw3.size)
  clear a0 a1 a2 c0 c1 c2 gA1 gB1 gC1 gA2 gB2 gC2 gA3 gB3 gC3
  have y4 := hy.next bw4
  have YW := Lib.hid y4.words
  clear y4
  have hcases : (X = 0 ∧ a = b ∧ Y = Z) ∨ (X = 1 ∧ a ≠ b) ∨ (X = -1 ∧ a ≠ b ∧ Y ≤ 0 ∧ Z = -1) ∨ (X = -1 ∧ a ≠ b ∧ 0 < Y) := by
    have h1 := HXC.out; have h2 := HZE.out; have h3 := HS.out; have h4 := HZC.out
    rcases h1 with rfl | rfl | rfl
    · right; right
      by_cases hy : Y ≤ 0
      · left; have := h3 (by omega) hy; exact ⟨rfl, fun e => by have := h2.2 e; omega, hy, by omega⟩
      · right; exact ⟨rfl, fun e => by have := h2.2 e; omega, by omega⟩
    · left
      have e := h2.1 rfl
      exact ⟨rfl, e, by rw [HY.out, HZ.out, e]⟩
    · right; left; exact ⟨rfl, fun e => by have := h2.2 e; omega⟩
  have hii : ∀ (_ : Vx.valid a = true) (_ : Vx.valid b = true) (_ : a.t = 1) (_ : b.t = 1), decide (a.n < b.n) = decide (X < 0) := fun h1 h2 h3 h4 => by
    have := cmp_int_int h1 h2 h3 h4
    rw [HX.out] at this
    rw [decide_eq_decide]; exact this.symm
  have his : ∀ (_ : a.t = 1) (_ : b.t = 2), X = -1 := fun h1 h2 => by rw [← HX.out]; exact cmp_int_sym h1 h2
  have HII := Lib.hid hii; have HIS := Lib.hid his
  clear hii his
  have hne : a ≠ b → (a.t ≠ b.t) ∨ (a.t = b.t ∧ a.n ≠ b.n) ∨ (a.t = b.t ∧ a.n = b.n ∧ a.s ≠ b.s) := fun h => by
    by_cases h1 : a.t = b.t
    · by_cases h2 : a.n = b.n
      · right; right; refine ⟨h1, h2, fun h3 => h ?_⟩
        obtain ⟨_, _, _⟩ := a; obtain ⟨_, _, _⟩ := b; simp at h1 h2 h3 ⊢; exact ⟨h1, h2, h3⟩
      · right; left; exact ⟨h1, h2⟩
    · left; exact h1
  have hv : Vx.valid b = true → b.t = 1 ∨ b.t = 2 := valid_type
  have HVT := Lib.hid hv
  have CBA := Lib.hid (fun W => cmp_val b a _ W hb ha HAN.out)
  have VA := Lib.hid (fun v W h (e : Vx.valid a = v) => valid_val a v W h ha e)
  have VB := Lib.hid (fun v W h (e : Vx.valid b = v) => valid_val b v W h hb e)
  clear hv HX HS HZE HZC HXC HAN HY HZ
  obtain ⟨tc, nc, sc⟩ := c
  obtain ⟨ta, na, sa⟩ := a
  obtain ⟨tb, nb, sb⟩ := b
  simp only [Vx.V.mk.injEq, ne_eq] at *
  have hsplit : ∃ b1 b2 b3 : Bool, decide (Y ≤ 0) = b1 ∧ decide (0 < Z) = b2 ∧ (Z == 0) = b3 := ⟨_, _, _, rfl, rfl, rfl⟩
  obtain ⟨b1, b2, b3, p1, p2, p3⟩ := hsplit
  have hgo : (X = 0 ∧ (ta = tb ∧ na = nb ∧ sa = sb) ∧ ((b1 = true ∧ b2 = false ∧ b3 = false) ∨ (b1 = true ∧ b2 = false ∧ Y = 0 ∧ Z = 0) ∨ b1 = false)) ∨ (X = 1 ∧ (¬ta = tb ∨ ta = tb ∧ ¬na = nb ∨ ta = tb ∧ na = nb ∧ ¬sa = sb)) ∨ (X = -1 ∧ (¬ta = tb ∨ ta = tb ∧ ¬na = nb ∨ ta = tb ∧ na = nb ∧ ¬sa = sb) ∧ ((b1 = true ∧ b2 = false ∧ b3 = false) ∨ b1 = false)) := by
    rcases hcases with ⟨h, h', rfl⟩ | ⟨h, h'⟩ | ⟨h, h', h1, h2⟩ | ⟨h, h', h1⟩
    · left
      refine ⟨h, h', ?_⟩
      rcases Int.lt_trichotomy Y 0 with h | h | h
      · left; refine ⟨by rw [← p1]; simp; omega, by rw [← p2]; simp; omega, by rw [← p3]; simp; omega⟩
      · right; left; refine ⟨by rw [← p1]; simp; omega, by rw [← p2]; simp; omega, h, h⟩
      · right; right; rw [← p1]; simp; omega
    · right; left; exact ⟨h, hne h'⟩
    · right; right; refine ⟨h, hne h', Or.inl ⟨by rw [← p1]; simp; omega, by rw [← p2]; simp; omega, by rw [← p3]; simp; omega⟩⟩
    · right; right; refine ⟨h, hne h', Or.inr (by rw [← p1]; simp; omega)⟩
  clear hcases hne
  rcases hgo with ⟨rfl, ⟨rfl, rfl, rfl⟩, (⟨rfl, rfl, rfl⟩ | ⟨rfl, rfl, rfl, rfl⟩ | rfl)⟩ | ⟨rfl, (h | ⟨rfl, h⟩ | ⟨rfl, rfl, h⟩)⟩ | ⟨rfl, (h | ⟨rfl, h⟩ | ⟨rfl, rfl, h⟩), (⟨rfl, rfl, rfl⟩ | rfl)⟩
  all_goals
    have a0 := gA4.cell 0; have a1 := gA4.cell 1; have a2 := gA4.cell 2
    have c0 := gB4.cell 0; have c1 := gB4.cell 1; have c2 := gB4.cell 2
    simp at a0 a1 a2 c0 c1 c2
    go_wp2_with fail
    refine (CBA.out _).mono ?_
    rintro e w5 ⟨rfl, b5⟩
    have gA5 := gA4.next b5; have gB5 := gB4.next b5
    have bw5 := bw4.trans (b5.mono bw4.size)
    have Y5 := Lib.hid (YW.out.next b5)
    clear a0 a1 a2 c0 c1 c2 gA4 gB4 YW b5
    have a0 := gA5.cell 0; have a1 := gA5.cell 1; have a2 := gA5.cell 2
    have c0 := gB5.cell 0; have c1 := gB5.cell 1; have c2 := gB5.cell 2
    simp at a0 a1 a2 c0 c1 c2
    go_wp2_with fail
    cases va : Vx.valid ⟨ta, na, sa⟩
    · refine (VA.out false _ Y5.out va).mono ?_
      rintro e w6 ⟨rfl, b6⟩
      clear va
      go_wp2_with fail
      go_ret
      exact ⟨rfl, bw5.trans (b6.mono bw5.size)⟩
    · refine (VA.out true _ Y5.out va).mono ?_
      rintro e w6 ⟨rfl, b6⟩
      have gA6 := gA5.next b6; have gB6 := gB5.next b6
      have bw6 := bw5.trans (b6.mono bw5.size)
      have Y6 := Lib.hid (Y5.out.next b6)
      clear a0 a1 a2 c0 c1 c2 gA5 gB5 Y5 b6
      have a0 := gA6.cell 0; have a1 := gA6.cell 1; have a2 := gA6.cell 2
      have c0 := gB6.cell 0; have c1 := gB6.cell 1; have c2 := gB6.cell 2
      simp at a0 a1 a2 c0 c1 c2
      have HVA := Lib.hid va
      clear va
      go_wp2_with fail
      have hvb := VB.out
      have hvt := HVT.out
      have hii := HII.out HVA.out
      have his := HIS.out
      clear VB HVT HII HIS VA CBA
      generalize hvv : Vx.valid _ = vb at hvb hvt hii
      cases vb
      · refine (hvb false _ Y6.out rfl).mono ?_
        rintro e w7 ⟨rfl, b7⟩
        clear hvb hvt hii his hvv
        go_wp2_with fail
        go_ret
        exact ⟨rfl, bw6.trans (b7.mono bw6.size)⟩
      · refine (hvb true _ Y6.out rfl).mono ?_
        rintro e w7 ⟨rfl, b7⟩
        have gA7 := gA6.next b7; have gB7 := gB6.next b7
        have bw7 := bw6.trans (b7.mono bw6.size)
        clear a0 a1 a2 c0 c1 c2 gA6 gB6 Y6 b7
        have a0 := gA7.cell 0; have a1 := gA7.cell 1; have a2 := gA7.cell 2
        have c0 := gB7.cell 0; have c1 := gB7.cell 1; have c2 := gB7.cell 2
        simp at a0 a1 a2 c0 c1 c2
        have ht := hvt rfl
        have hi := hii rfl
        clear hvb hvt hii hvv
        by_cases hta : ta = 1
        · subst hta
          have q1 : ((1 : Int) == 1) = true := rfl
          rcases ht with ht | ht
          · have hj := hi rfl ht
            first | subst ht | skip
            clear hi his
            first
              | (exfalso; simp at hj; done)
              | (simp only [show decide ((-1 : Int) < 0) = true from rfl, show decide ((0 : Int) < 0) = false from rfl, show decide ((1 : Int) < 0) = false from rfl] at hj
                 go_wp2_with fail
                 all_goals
                   go_ret
                   exact ⟨by simp, bw7⟩)
          · first
              | exact absurd (his rfl ht) (by decide)
              | exact absurd ht (by decide)
              | (subst ht
                 clear hi his
                 go_wp2_with fail
                 go_ret
                 exact ⟨rfl, bw7⟩)
        · have q1 : (ta == 1) = false := beq_eq_false_iff_ne.2 hta
          clear hta ht hi his
          go_wp2_with fail
          go_ret
          exact ⟨rfl, bw7⟩
end Go.Proofs.YtagibdofpcbgiaaDoor.valueOrder
