/- The walk of the law ValueTexts. -/
import Derived.Test.YtagibdofpcbgiaaDoorVLaw2
namespace Go.Proofs.YtagibdofpcbgiaaDoor
open Go.RowKit Go.Shelf
theorem bytes_ext {a b : ByteArray} (h : a.data.toList = b.data.toList) : a = b := ByteArray.ext (Array.toList_inj.1 h)
theorem str_ne {a b : ByteArray} (h : ¬ a = b) : (a.toList == b.toList) = false := by
  rw [Lib.toList_data, Lib.toList_data, beq_eq_false_iff_ne]; exact fun e => h (bytes_ext e)
theorem valid_b (t n : Int) (s : ByteArray) (b : Bool) (w : World) (hw : Words w) (h : s.size ≤ 281474976710656) (hb : Vx.valid ⟨t, n, s.data.toList⟩ = b) :
    Calls Tryd.prog 11 #[.agg #[.int .i64 t, .int .i64 n, .string s]] w fun e w' => e = .returned (.bool b) ∧ Below w.heap.size w w' := by
  subst hb; exact valid_any t n s w hw h
theorem text_b (t n : Int) (s r : ByteArray) (w : World) (hw : Laid w) (h : s.size ≤ 281474976710656) (hr : Vx.text ⟨t, n, s.data.toList⟩ = r.data.toList) :
    Calls Tryd.prog 17 #[.agg #[.int .i64 t, .int .i64 n, .string s]] w fun e w' => e = .returned (.string r) ∧ Below w.heap.size w w' := by
  have := text_any t n s w hw h
  rw [hr, str_mk] at this
  exact this
theorem parse_b (s r : ByteArray) (t n e : Int) (w : World) (hw : Laid w) (hs : s.size ≤ 281474976710656) (h : Vx.parse s.data.toList = (⟨t, n, r.data.toList⟩, e)) :
    Calls Tryd.prog 19 #[.string s] w fun e' w' => e' = .returned (.tuple #[.agg #[.int .i64 t, .int .i64 n, .string r], .int .i64 e]) ∧ Below w.heap.size w w' := by
  have := vparse_any s w hw hs
  rw [h] at this
  simp only [str_mk] at this
  exact this
theorem text_len {v : Vx.V} (h : v.s.length ≤ 281474976710656) : (Vx.text v).length ≤ 281474976710656 := by
  unfold Vx.text
  split
  · split
    · rename_i hv ht
      have := valid_int (t := v.t) (n := v.n) (l := v.s) hv ht
      rw [itoa_dec _ this.1, dec_shape _ (by omega)]
      split
      · simp
      · split
        · simp
        · split <;> simp
    · exact h
  · simp
end Go.Proofs.YtagibdofpcbgiaaDoor
namespace Go.Proofs.YtagibdofpcbgiaaDoor.valueTexts
set_option linter.unusedVariables false
set_option linter.unusedSimpArgs false
open Go.RowKit Go.Shelf
set_option maxHeartbeats 8000000 in
set_option maxRecDepth 100000 in
theorem law_walk (ta na : Int) (sa : ByteArray) (tb nb : Int) (sb : ByteArray) (s : ByteArray) (w : World) (hy : Laid w) (ha : sa.size ≤ 281474976710656) (hb : sb.size ≤ 281474976710656) (hs : s.size ≤ 281474976710656) :
    Calls Tryd.prog 6 #[.agg #[.int .i64 ta, .int .i64 na, .string sa], .agg #[.int .i64 tb, .int .i64 nb, .string sb], .string s] w fun e w' => e = .returned (.bool true) ∧ Below w.heap.size w w' := by
  obtain ⟨W, hW⟩ : ∃ W, W = (w.alloc (.cells #[.int .i64 ta, .int .i64 na, .string sa] 23)).alloc (.cells #[.int .i64 tb, .int .i64 nb, .string sb] 23) := ⟨_, rfl⟩
  have gA : At W w.heap.size 23 #[.int .i64 ta, .int .i64 na, .string sa] := by rw [hW]; exact (At.new _ _ _).alloc _
  have gB : At W (w.heap.size + 1) 23 #[.int .i64 tb, .int .i64 nb, .string sb] := by rw [hW]; exact At.newAt (by simp) _ _
  have bW : Below w.heap.size w W := by rw [hW]; exact ((Below.refl _ _).alloc (Nat.le_refl _) _).alloc (by simp) _
  have HW := Lib.hid hW
  clear hW
  have LY := Lib.hid (fun W (h : Below w.heap.size w W) => hy.next h)
  go_enter Tryd.func6, Tryd.ntmps6
  go_wp2_with fail
  rw [← HW.out]
  refine (head_any _ (hy.next bW)).mono ?_
  rintro e w1 ⟨rfl, b1⟩
  have gA1 := gA.next b1; have gB1 := gB.next b1
  have bw1 := bW.trans (b1.mono bW.size)
  have a2 : w1.cell? ⟨w.heap.size, 2, none⟩ = some (.string sa) := gA1.cell 2
  have c2 : w1.cell? ⟨w.heap.size + 1, 2, none⟩ = some (.string sb) := gB1.cell 2
  clear gA gB bW b1 hy
  cases k1 : decide ((2000 : Int) < (sa.size : Int)) <;> cases k2 : decide ((2000 : Int) < (sb.size : Int)) <;> cases k3 : decide ((2000 : Int) < (s.size : Int))
  all_goals first | (go_wp2_with fail; go_ret; exact ⟨rfl, bw1⟩) | skip
  have a0 : w1.cell? ⟨w.heap.size, 0, none⟩ = some (.int .i64 ta) := gA1.cell 0
  have a1 : w1.cell? ⟨w.heap.size, 1, none⟩ = some (.int .i64 na) := gA1.cell 1
  go_wp2_with fail
  obtain ⟨RA, hRA⟩ : ∃ RA : ByteArray, Vx.text ⟨ta, na, sa.data.toList⟩ = RA.data.toList := ⟨⟨(Vx.text ⟨ta, na, sa.data.toList⟩).toArray⟩, rfl⟩
  have hRAs : RA.size ≤ 281474976710656 := by rw [← size_len, ← hRA]; exact text_len (by show sa.data.toList.length ≤ _; rw [size_len]; exact ha)
  have HRA := Lib.hid hRA
  refine (text_b ta na sa RA _ (LY.out _ bw1) ha hRA).mono ?_
  rintro e w2 ⟨rfl, b2⟩
  have gA2 := gA1.next b2; have gB2 := gB1.next b2
  have bw2 := bw1.trans (b2.mono bw1.size)
  clear a0 a1 a2 c2 gA1 gB1 b2 k1 k2 k3 hRA
  go_wp2_with fail
  cases va : Vx.valid ⟨ta, na, sa.data.toList⟩
  · have hRE : RA.data.toList = [] := by rw [← HRA.out]; exact text_none va
    have hP : Vx.parse RA.data.toList = (⟨0, 0, (⟨#[]⟩ : ByteArray).data.toList⟩, 270) := by rw [hRE]; exact parse_nil
    obtain rfl : RA = ⟨#[]⟩ := bytes_ext hRE
    have HVA := Lib.hid va
    refine (parse_b _ ⟨#[]⟩ 0 0 270 _ (LY.out _ bw2) hRAs hP).mono ?_
    rintro e w3 ⟨rfl, b3⟩
    have gA3 := (gA2.next b3).alloc (.cells #[.int .i64 0, .int .i64 0, .string ⟨#[]⟩] 23)
    have gB3 := (gB2.next b3).alloc (.cells #[.int .i64 0, .int .i64 0, .string ⟨#[]⟩] 23)
    have bw3' := bw2.trans (b3.mono bw2.size)
    have bw3 := bw3'.alloc bw3'.size (.cells #[.int .i64 0, .int .i64 0, .string ⟨#[]⟩] 23)
    clear gA2 gB2 b3 bw3' hRE hP va hRAs
    have a0 := gA3.cell 0; have a1 := gA3.cell 1; have a2 := gA3.cell 2
    simp at a0 a1 a2
    go_wp2_with fail
    have VF := Lib.hid (fun W (h : Below w.heap.size w W) => valid_b ta na sa false W (LY.out W h).words ha HVA.out)
    refine (VF.out _ bw3).mono ?_
    rintro e w4 ⟨rfl, b4'⟩
    have gA4 := gA3.next b4'
    have bw4 := bw3.trans (b4'.mono bw3.size)
    clear a0 a1 a2 gA3 gB3 b4'
    have a0 := gA4.cell 0; have a1 := gA4.cell 1; have a2 := gA4.cell 2
    simp at a0 a1 a2
    go_wp2_with fail
    refine (VF.out _ bw4).mono ?_
    rintro e w5 ⟨rfl, b5'⟩
    have gA5 := gA4.next b5'
    have bw5 := bw4.trans (b5'.mono bw4.size)
    clear a0 a1 a2 gA4 b5'
    have a0 := gA5.cell 0; have a1 := gA5.cell 1; have a2 := gA5.cell 2
    simp at a0 a1 a2
    go_wp2_with fail
    refine (text_b ta na sa ⟨#[]⟩ _ (LY.out _ bw5) ha HRA.out).mono ?_
    rintro e w6 ⟨rfl, b6'⟩
    have gA6 := gA5.next b6'
    have bw6 := bw5.trans (b6'.mono bw5.size)
    clear a0 a1 a2 gA5 b6'
    go_wp2_with fail
    obtain ⟨f0, f1, f2⟩ := held3 gA6
    have VFz : ∀ z : Held w6.heap.size w6, _ := fun z => VF.out z.w (bw6.trans (z.ok.mono bw6.size))
    refine wp_region_held w6.heap.size w6 (Below.refl _ _) (by kernel_rfl) (by kernel_rfl) ?_
    repeat (go_big_quiet_step ((go_at_call 11; with_reducible exact held_call _ (Nat.le_refl _) (VFz _))))
    refine wpQuiet_nil ?_
    rintro w7 ⟨⟨_, b7'⟩, rfl⟩
    have bw7 := bw6.trans (b7'.mono bw6.size)
    clear f0 f1 f2 gA6 VF VFz b7'
    go_wp2_with fail
    rcases parse_two s.data.toList with hp | hp
    · obtain ⟨⟨⟨tw, nw, lw⟩, ew⟩, hpe⟩ : ∃ q, Vx.parse s.data.toList = q := ⟨_, rfl⟩
      rw [hpe] at hp
      simp only at hp
      subst hp
      obtain ⟨hvw, htw⟩ := text_parse hpe
      obtain ⟨RW, hRW⟩ : ∃ RW : ByteArray, lw = RW.data.toList := ⟨⟨lw.toArray⟩, rfl⟩
      rw [hRW] at hpe hvw htw
      have hwl : RW.size ≤ 281474976710656 := by have := valid_len hvw; simp only at this; rw [size_len] at this; omega
      have HVW := Lib.hid hvw; have HTW := Lib.hid htw
      refine (parse_b s RW tw nw 0 _ (LY.out _ bw7) hs hpe).mono ?_
      rintro e wt1 ⟨rfl, bt1'⟩
      have gt1 := At.new wt1 23 #[.int .i64 tw, .int .i64 nw, .string RW]
      have bt1 := (bw7.trans (bt1'.mono bw7.size))
      have bt2 := bt1.alloc bt1.size (.cells #[.int .i64 tw, .int .i64 nw, .string RW] 23)
      clear hpe hRW hvw htw bt1'
      go_wp2_with fail
      refine (valid_b tw nw RW true _ (LY.out _ bt2).words hwl HVW.out).mono ?_
      rintro e wt3 ⟨rfl, bt3'⟩
      have gt3 := gt1.next bt3'
      have bt3 := bt2.trans (bt3'.mono bt2.size)
      clear gt1 bt3'
      have t0 := gt3.cell 0; have t1 := gt3.cell 1; have t2 := gt3.cell 2
      simp at t0 t1 t2
      go_wp2_with fail
      refine (text_b tw nw RW s _ (LY.out _ bt3) hwl HTW.out).mono ?_
      rintro e wt4 ⟨rfl, bt4'⟩
      have bt4 := bt3.trans (bt4'.mono bt3.size)
      clear t0 t1 t2 gt3 bt4'
      go_wp2_with fail
      go_ret
      exact ⟨rfl, bt4⟩
    · refine (parse_b s ⟨#[]⟩ 0 0 270 _ (LY.out _ bw7) hs hp).mono ?_
      rintro e wt1 ⟨rfl, bt1'⟩
      have bt1 := (bw7.trans (bt1'.mono bw7.size))
      clear bt1' hp
      go_wp2_with fail
      go_ret
      exact ⟨rfl, bt1.alloc bt1.size _⟩
  · have hP : Vx.parse RA.data.toList = (⟨ta, na, sa.data.toList⟩, 0) := by rw [← HRA.out]; exact parse_text va
    have HVA := Lib.hid va
    refine (parse_b _ sa ta na 0 _ (LY.out _ bw2) hRAs hP).mono ?_
    rintro e w3 ⟨rfl, b3⟩
    have gA3 := (gA2.next b3).alloc (.cells #[.int .i64 ta, .int .i64 na, .string sa] 23)
    have gB3 := (gB2.next b3).alloc (.cells #[.int .i64 ta, .int .i64 na, .string sa] 23)
    have gV3 := At.new w3 23 #[.int .i64 ta, .int .i64 na, .string sa]
    have bw3' := bw2.trans (b3.mono bw2.size)
    have bw3 := bw3'.alloc bw3'.size (.cells #[.int .i64 ta, .int .i64 na, .string sa] 23)
    clear gA2 gB2 b3 bw3' hP va hRAs
    have a0 := gA3.cell 0; have a1 := gA3.cell 1; have a2 := gA3.cell 2
    simp at a0 a1 a2
    have VF := Lib.hid (fun W (h : Below w.heap.size w W) => valid_b ta na sa true W (LY.out W h).words ha HVA.out)
    have TF := Lib.hid (fun W (h : Below w.heap.size w W) => text_b ta na sa RA W (LY.out W h) ha HRA.out)
    go_wp2_with fail
    refine (VF.out _ bw3).mono ?_
    rintro e w4 ⟨rfl, b4'⟩
    have gA4 := gA3.next b4'; have gB4 := gB3.next b4'; have gV4 := gV3.next b4'
    have bw4 := bw3.trans (b4'.mono bw3.size)
    clear a0 a1 a2 gA3 gB3 gV3 b4'
    have a0 := gA4.cell 0; have a1 := gA4.cell 1; have a2 := gA4.cell 2
    have c0 := gV4.cell 0; have c1 := gV4.cell 1; have c2 := gV4.cell 2
    simp at a0 a1 a2 c0 c1 c2
    go_wp2_with fail
    refine (VF.out _ bw4).mono ?_
    rintro e w6 ⟨rfl, b5'⟩
    have gA6 := gA4.next b5'; have gB6 := gB4.next b5'
    have bw6 := bw4.trans (b5'.mono bw4.size)
    clear a0 a1 a2 c0 c1 c2 gA4 gB4 gV4 b5'
    go_wp2_with fail
    obtain ⟨f0, f1, f2⟩ := held3 gA6
    obtain ⟨h0, h1, h2⟩ := held3 gB6
    have VFz : ∀ z : Held w6.heap.size w6, _ := fun z => VF.out z.w (bw6.trans (z.ok.mono bw6.size))
    have TFz : ∀ z : Held w6.heap.size w6, _ := fun z => TF.out z.w (bw6.trans (z.ok.mono bw6.size))
    cases vb : Vx.valid ⟨tb, nb, sb.data.toList⟩
    · have VGz : ∀ z : Held w6.heap.size w6, _ := fun z => valid_b tb nb sb false z.w (LY.out z.w (bw6.trans (z.ok.mono bw6.size))).words hb vb
      clear vb
      refine wp_region_held w6.heap.size w6 (Below.refl _ _) (by kernel_rfl) (by kernel_rfl) ?_
      repeat (go_big_quiet_step ((go_at_call 11; with_reducible first | exact held_call _ (Nat.le_refl _) (VFz _) | exact held_call _ (Nat.le_refl _) (VGz _))))
      refine wpQuiet_nil ?_
      rintro w7 ⟨⟨_, b7'⟩, rfl⟩
      have bw7 := bw6.trans (b7'.mono bw6.size)
      clear f0 f1 f2 h0 h1 h2 gA6 gB6 VF TF VFz TFz VGz b7'
      go_wp2_with fail
      rcases parse_two s.data.toList with hp | hp
      · obtain ⟨⟨⟨tw, nw, lw⟩, ew⟩, hpe⟩ : ∃ q, Vx.parse s.data.toList = q := ⟨_, rfl⟩
        rw [hpe] at hp
        simp only at hp
        subst hp
        obtain ⟨hvw, htw⟩ := text_parse hpe
        obtain ⟨RW, hRW⟩ : ∃ RW : ByteArray, lw = RW.data.toList := ⟨⟨lw.toArray⟩, rfl⟩
        rw [hRW] at hpe hvw htw
        have hwl : RW.size ≤ 281474976710656 := by have := valid_len hvw; simp only at this; rw [size_len] at this; omega
        have HVW := Lib.hid hvw; have HTW := Lib.hid htw
        refine (parse_b s RW tw nw 0 _ (LY.out _ bw7) hs hpe).mono ?_
        rintro e wt1 ⟨rfl, bt1'⟩
        have gt1 := At.new wt1 23 #[.int .i64 tw, .int .i64 nw, .string RW]
        have bt1 := (bw7.trans (bt1'.mono bw7.size))
        have bt2 := bt1.alloc bt1.size (.cells #[.int .i64 tw, .int .i64 nw, .string RW] 23)
        clear hpe hRW hvw htw bt1'
        go_wp2_with fail
        refine (valid_b tw nw RW true _ (LY.out _ bt2).words hwl HVW.out).mono ?_
        rintro e wt3 ⟨rfl, bt3'⟩
        have gt3 := gt1.next bt3'
        have bt3 := bt2.trans (bt3'.mono bt2.size)
        clear gt1 bt3'
        have t0 := gt3.cell 0; have t1 := gt3.cell 1; have t2 := gt3.cell 2
        simp at t0 t1 t2
        go_wp2_with fail
        refine (text_b tw nw RW s _ (LY.out _ bt3) hwl HTW.out).mono ?_
        rintro e wt4 ⟨rfl, bt4'⟩
        have bt4 := bt3.trans (bt4'.mono bt3.size)
        clear t0 t1 t2 gt3 bt4'
        go_wp2_with fail
        go_ret
        exact ⟨rfl, bt4⟩
      · refine (parse_b s ⟨#[]⟩ 0 0 270 _ (LY.out _ bw7) hs hp).mono ?_
        rintro e wt1 ⟨rfl, bt1'⟩
        have bt1 := (bw7.trans (bt1'.mono bw7.size))
        clear bt1' hp
        go_wp2_with fail
        go_ret
        exact ⟨rfl, bt1.alloc bt1.size _⟩
    · have VGz : ∀ z : Held w6.heap.size w6, _ := fun z => valid_b tb nb sb true z.w (LY.out z.w (bw6.trans (z.ok.mono bw6.size))).words hb vb
      obtain ⟨RB, hRB⟩ : ∃ RB : ByteArray, Vx.text ⟨tb, nb, sb.data.toList⟩ = RB.data.toList := ⟨⟨(Vx.text ⟨tb, nb, sb.data.toList⟩).toArray⟩, rfl⟩
      have TGz : ∀ z : Held w6.heap.size w6, _ := fun z => text_b tb nb sb RB z.w (LY.out z.w (bw6.trans (z.ok.mono bw6.size))) hb hRB
      have hinj := text_inj HVA.out vb
      rw [HRA.out, hRB] at hinj
      have hgo : (ta = tb ∧ na = nb ∧ sa = sb ∧ RA = RB) ∨ ((¬ RA = RB) ∧ (¬ta = tb ∨ ta = tb ∧ ¬na = nb ∨ ta = tb ∧ na = nb ∧ ¬sa = sb)) := by
        by_cases e1 : ta = tb
        · by_cases e2 : na = nb
          · by_cases e3 : sa = sb
            · left; subst e1; subst e2; subst e3; exact ⟨rfl, rfl, rfl, bytes_ext (hinj.2 rfl)⟩
            · right; exact ⟨fun h => by have := hinj.1 (by rw [h]); injection this with _ _ h3; exact e3 (bytes_ext h3), Or.inr (Or.inr ⟨e1, e2, e3⟩)⟩
          · right; exact ⟨fun h => by have := hinj.1 (by rw [h]); injection this with _ h3 _; exact e2 h3, Or.inr (Or.inl ⟨e1, e2⟩)⟩
        · right; exact ⟨fun h => by have := hinj.1 (by rw [h]); injection this with h3 _ _; exact e1 h3, Or.inl e1⟩
      clear hinj vb hRB
      rcases hgo with ⟨rfl, rfl, rfl, rfl⟩ | ⟨hr, (h | ⟨rfl, h⟩ | ⟨rfl, rfl, h⟩)⟩
      all_goals
        first | (have hr1 := str_ne hr) | skip
        first | (have hr2 := str_ne h) | skip
        refine wp_region_held w6.heap.size w6 (Below.refl _ _) (by kernel_rfl) (by kernel_rfl) ?_
        repeat (go_big_quiet_step ((first
          | (go_at_call 11; with_reducible first | exact held_call _ (Nat.le_refl _) (VFz _) | exact held_call _ (Nat.le_refl _) (VGz _))
          | (go_at_call 17; with_reducible first | exact held_call _ (Nat.le_refl _) (TFz _) | exact held_call _ (Nat.le_refl _) (TGz _)))))
        refine wpQuiet_nil ?_
        rintro w7 ⟨⟨_, b7'⟩, rfl⟩
        have bw7 := bw6.trans (b7'.mono bw6.size)
        clear f0 f1 f2 h0 h1 h2 gA6 gB6 VF TF VFz TFz VGz TGz b7'
        first | clear h hr | skip
        first | clear hr1 | skip
        first | clear hr2 | skip
        go_wp2_with fail
        rcases parse_two s.data.toList with hp | hp
        · obtain ⟨⟨⟨tw, nw, lw⟩, ew⟩, hpe⟩ : ∃ q, Vx.parse s.data.toList = q := ⟨_, rfl⟩
          rw [hpe] at hp
          simp only at hp
          subst hp
          obtain ⟨hvw, htw⟩ := text_parse hpe
          obtain ⟨RW, hRW⟩ : ∃ RW : ByteArray, lw = RW.data.toList := ⟨⟨lw.toArray⟩, rfl⟩
          rw [hRW] at hpe hvw htw
          have hwl : RW.size ≤ 281474976710656 := by have := valid_len hvw; simp only at this; rw [size_len] at this; omega
          have HVW := Lib.hid hvw; have HTW := Lib.hid htw
          refine (parse_b s RW tw nw 0 _ (LY.out _ bw7) hs hpe).mono ?_
          rintro e wt1 ⟨rfl, bt1'⟩
          have gt1 := At.new wt1 23 #[.int .i64 tw, .int .i64 nw, .string RW]
          have bt1 := (bw7.trans (bt1'.mono bw7.size))
          have bt2 := bt1.alloc bt1.size (.cells #[.int .i64 tw, .int .i64 nw, .string RW] 23)
          clear hpe hRW hvw htw bt1'
          go_wp2_with fail
          refine (valid_b tw nw RW true _ (LY.out _ bt2).words hwl HVW.out).mono ?_
          rintro e wt3 ⟨rfl, bt3'⟩
          have gt3 := gt1.next bt3'
          have bt3 := bt2.trans (bt3'.mono bt2.size)
          clear gt1 bt3'
          have t0 := gt3.cell 0; have t1 := gt3.cell 1; have t2 := gt3.cell 2
          simp at t0 t1 t2
          go_wp2_with fail
          refine (text_b tw nw RW s _ (LY.out _ bt3) hwl HTW.out).mono ?_
          rintro e wt4 ⟨rfl, bt4'⟩
          have bt4 := bt3.trans (bt4'.mono bt3.size)
          clear t0 t1 t2 gt3 bt4'
          go_wp2_with fail
          go_ret
          exact ⟨rfl, bt4⟩
        · refine (parse_b s ⟨#[]⟩ 0 0 270 _ (LY.out _ bw7) hs hp).mono ?_
          rintro e wt1 ⟨rfl, bt1'⟩
          have bt1 := (bw7.trans (bt1'.mono bw7.size))
          clear bt1' hp
          go_wp2_with fail
          go_ret
          exact ⟨rfl, bt1.alloc bt1.size _⟩
end Go.Proofs.YtagibdofpcbgiaaDoor.valueTexts
