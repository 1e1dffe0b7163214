/- The walk of Parse of value. -/
import Derived.Test.YtagibdofpcbgiaaDoorVPar
namespace Go.Proofs.YtagibdofpcbgiaaDoor
set_option linter.unusedVariables false
set_option linter.unusedSimpArgs false
open Go.RowKit Go.Shelf
theorem atoi_good (s : ByteArray) (v : Int) (w : World) (hs : s.size ≤ 281474976710656) (h : Lib.atoiAll s.data.toList = .ok v) :
    Calls Tryd.prog 42 #[.string s] w fun e w' => e = .returned (.tuple #[.int .i64 v, .nilIface]) ∧ Below w.heap.size w w' := by
  refine (Tryd.strconv_Atoi_ok s (by omega) v h w).mono ?_
  rintro e w' ⟨h, rfl | ⟨t, rfl⟩⟩
  · exact ⟨h, Below.refl _ _⟩
  · exact ⟨h, Lib.bytesWorld_below _ _ _⟩
theorem atoi_bad (s : ByteArray) (w : World) (hw : Laid w) (hs : s.size ≤ 281474976710656) (h : ∀ v, Lib.atoiAll s.data.toList ≠ .ok v) :
    Calls Tryd.prog 42 #[.string s] w fun e w' => ∃ x T p, e = .returned (.tuple #[.int .i64 x, .iface T p]) ∧ Below w.heap.size w w' := by
  rcases h1 : Lib.atoiAll s.data.toList with v | _ | _
  · exact absurd h1 (h v)
  · obtain ⟨tp, p, hv⟩ := hw.syn
    refine (Tryd.strconv_Atoi_syntax_var s hs h1 tp p w hv).mono ?_
    rintro e w' ⟨N, he, _, _, hb⟩
    exact ⟨_, _, _, he, hb⟩
  · obtain ⟨tp, p, hv⟩ := hw.rng
    refine (Tryd.strconv_Atoi_range_var s hs h1 tp p w hv).mono ?_
    rintro e w' ⟨N, he, _, _, hb⟩
    exact ⟨_, _, _, he, hb⟩
def zeroCells : Array Value := #[.int .i64 0, .int .i64 0, .string ⟨#[]⟩]
theorem frozen3 {w : World} {g : Nat} {t : TypeId} {cs : Array Value} (h : At w g t cs) : w.frozen? ⟨g, 0, none⟩ = false ∧ w.frozen? ⟨g, 1, none⟩ = false ∧ w.frozen? ⟨g, 2, none⟩ = false := ⟨h.frozen 0, h.frozen 1, h.frozen 2⟩
set_option maxHeartbeats 1000000 in
set_option maxRecDepth 100000 in
theorem vparse_any (s : ByteArray) (w : World) (hw : Laid w) (hs : s.size ≤ 281474976710656) :
    Calls Tryd.prog 19 #[.string s] w fun e w' => e = .returned (.tuple #[.agg #[.int .i64 (Vx.parse s.data.toList).1.t, .int .i64 (Vx.parse s.data.toList).1.n, .string ⟨(Vx.parse s.data.toList).1.s.toArray⟩], .int .i64 (Vx.parse s.data.toList).2]) ∧ Below w.heap.size w w' := by
  have hl : ∀ W, Below w.heap.size w W → Laid W := fun W hb => hw.next hb
  have hw0 := hl _ (below1 w (.cells #[.int .i64 0, .int .i64 0, .string ⟨#[]⟩] 23))
  cases h1 : Vx.symbol s.data.toList
  · have H1 := Lib.hid h1
    go_enter Tryd.func19, Tryd.ntmps19
    go_wp2_with (fail)
    refine (symbol_any _ _ hw0.words hs).mono ?_
    rintro e w1 ⟨rfl, hb⟩
    rw [H1.out]
    have hbelow : Below w.heap.size w w1 := (below1 w _).trans (hb.mono (below1 w _).size)
    have hA : At w1 w.heap.size 23 #[.int .i64 0, .int .i64 0, .string ⟨#[]⟩] := (At.new w _ _).below hb (by simp)
    have hlt := hA.lt
    clear hb hw0
    by_cases hg : ∃ v, Lib.atoiAll s.data.toList = .ok v
    · obtain ⟨v, hv⟩ := hg
      have HV := Lib.hid hv
      clear hv h1
      go_wp2_with (fail)
      refine (atoi_good s v _ hs HV.out).mono ?_
      rintro e w2 ⟨rfl, hb2⟩
      have hbelow2 := hbelow.trans (hb2.mono hbelow.size)
      have hA2 := hA.below hb2 hlt
      have hA3 := hA2.alloc (.cells #[.int .i64 1, .int .i64 v, .string ⟨#[]⟩] 23)
      have hB3 := At.new w2 23 #[.int .i64 1, .int .i64 v, .string ⟨#[]⟩]
      have hbelow3 := hbelow2.alloc hbelow2.size (.cells #[.int .i64 1, .int .i64 v, .string ⟨#[]⟩] 23)
      have hz3 : (w2.alloc (.cells #[.int .i64 1, .int .i64 v, .string ⟨#[]⟩] 23)).heap.size = w2.heap.size + 1 := by simp
      have hlt2 := hA2.lt
      have hne : s.data.toList ≠ [] := fun e => by have := HV.out; rw [e] at this; simp [Lib.atoiAll] at this
      have d0 : s.toList.isEmpty = false := by rw [isEmpty_eq, Bool.eq_false_iff]; intro h; exact hne (List.isEmpty_iff.1 h)
      have b0 := hB3.cell 0; have b1 := hB3.cell 1; have b2 := hB3.cell 2
      cases d1 : (Vx.text ⟨1, v, []⟩ == s.toList)
      · have hE := Lib.hid (show Vx.parse s.data.toList = (⟨0, 0, []⟩, 270) by
          unfold Vx.parse
          rw [H1.out]
          cases hn : Vx.num s.data.toList with
          | none => rfl
          | some n =>
            obtain ⟨e1, e2, _⟩ := num_ok hn
            obtain rfl : v = (n : Int) := by have := HV.out.symm.trans e1; simpa using this
            rw [e2, Lib.toList_data] at d1
            simp at d1)
        clear hne hA2 hA
        go_wp2_with (fail)
        refine (text_any 1 v ⟨#[]⟩ _ (hl _ hbelow3) (by decide)).mono ?_
        rintro e w4 ⟨rfl, hb4⟩
        have hA4 := hA3.below hb4 (by rw [hz3]; omega)
        have hbelow4 := hbelow3.trans (hb4.mono hbelow3.size)
        have c0 := hA4.cell 0; have c1 := hA4.cell 1; have c2 := hA4.cell 2
        have f0 := hA4.frozen 0; have f1 := hA4.frozen 1; have f2 := hA4.frozen 2
        clear b0 b1 b2
        go_wp2_with (fail)
        refine bodyPost_ret (results_cell_row_tmp rfl _ _ w.heap.size 23 _ (0, 0) _ rfl (((hA4.put 0 _).put 1 _).put 2 _) Tryd.underlying23 rfl (by kernel_rfl)) rfl ?_
        refine ⟨by rw [hE.out]; rfl, ?_⟩
        exact ((hbelow4.setCell (by simp) _).setCell (by simp) _).setCell (by simp) _
      · have hE := Lib.hid (show Vx.parse s.data.toList = (⟨1, v, []⟩, 0) by
          unfold Vx.parse
          rw [H1.out]
          rw [Lib.toList_data, beq_iff_eq] at d1
          obtain ⟨e1, e2⟩ := parse_ok HV.out d1 hne
          rw [e2]
          show ((⟨1, ((v.toNat : Nat) : Int), []⟩ : Vx.V), (0 : Int)) = _
          rw [Int.toNat_of_nonneg e1])
        clear hne hA2 hA
        go_wp2_with (fail)
        refine (text_any 1 v ⟨#[]⟩ _ (hl _ hbelow3) (by decide)).mono ?_
        rintro e w4 ⟨rfl, hb4⟩
        have hA4 := hA3.below hb4 (by rw [hz3]; omega)
        have hB4 := hB3.below hb4 (by rw [hz3]; omega)
        have hbelow4 := hbelow3.trans (hb4.mono hbelow3.size)
        have c0 := hA4.cell 0; have c1 := hA4.cell 1; have c2 := hA4.cell 2
        have f0 := hA4.frozen 0; have f1 := hA4.frozen 1; have f2 := hA4.frozen 2
        have g0 := hB4.cell 0; have g1 := hB4.cell 1; have g2 := hB4.cell 2
        clear b0 b1 b2
        go_wp2_with (fail)
        refine bodyPost_ret (results_cell_row_tmp rfl _ _ w.heap.size 23 _ (0, 0) _ rfl (((hA4.put 0 _).put 1 _).put 2 _) Tryd.underlying23 rfl (by kernel_rfl)) rfl ?_
        refine ⟨by rw [hE.out]; rfl, ?_⟩
        exact ((hbelow4.setCell (by simp) _).setCell (by simp) _).setCell (by simp) _
    · have HG := Lib.hid (fun v e => hg ⟨v, e⟩ : ∀ v, Lib.atoiAll s.data.toList ≠ .ok v)
      have hE := Lib.hid (show Vx.parse s.data.toList = (⟨0, 0, []⟩, 270) by
        unfold Vx.parse
        rw [h1]
        cases hn : Vx.num s.data.toList with
        | none => rfl
        | some n => exact absurd (num_ok hn).1 (HG.out _))
      clear hg h1
      go_wp2_with (fail)
      refine (atoi_bad s _ (hl _ hbelow) hs HG.out).mono ?_
      rintro e w2 ⟨x, T, p, rfl, hb2⟩
      have hbelow2 := hbelow.trans (hb2.mono hbelow.size)
      have hA2 := hA.below hb2 hlt
      have hA3 := hA2.alloc (.cells #[.int .i64 1, .int .i64 x, .string ⟨#[]⟩] 23)
      have c0 := hA3.cell 0; have c1 := hA3.cell 1; have c2 := hA3.cell 2
      have f0 := hA3.frozen 0; have f1 := hA3.frozen 1; have f2 := hA3.frozen 2
      go_wp2_with (fail)
      refine bodyPost_ret (results_cell_row_tmp rfl _ _ w.heap.size 23 _ (0, 0) _ rfl (((hA3.put 0 _).put 1 _).put 2 _) Tryd.underlying23 rfl (by kernel_rfl)) rfl ?_
      refine ⟨by rw [hE.out]; rfl, ?_⟩
      exact (((hbelow2.alloc hbelow2.size _).setCell (by simp) _).setCell (by simp) _).setCell (by simp) _
  · have H1 := Lib.hid h1
    have hE := Lib.hid (show Vx.parse s.data.toList = (⟨2, 0, s.data.toList⟩, 0) by unfold Vx.parse; rw [h1]; rfl)
    clear h1
    go_enter Tryd.func19, Tryd.ntmps19
    go_wp2_with (fail)
    refine (symbol_any _ _ hw0.words hs).mono ?_
    rintro e w1 ⟨rfl, hb⟩
    rw [H1.out]
    have hbelow : Below w.heap.size w w1 := (below1 w _).trans (hb.mono (below1 w _).size)
    have hA : At w1 w.heap.size 23 #[.int .i64 0, .int .i64 0, .string ⟨#[]⟩] := (At.new w _ _).below hb (by simp)
    have c0 := hA.cell 0; have c1 := hA.cell 1; have c2 := hA.cell 2
    have f0 := hA.frozen 0; have f1 := hA.frozen 1; have f2 := hA.frozen 2
    clear hb hw0
    go_wp2_with (fail)
    refine bodyPost_ret (results_cell_row_tmp rfl _ _ w.heap.size 23 _ (0, 0) _ rfl (((hA.put 0 _).put 1 _).put 2 _) Tryd.underlying23 rfl (by kernel_rfl)) rfl ?_
    refine ⟨by rw [hE.out]; rfl, ?_⟩
    exact ((hbelow.setCell (by simp) _).setCell (by simp) _).setCell (by simp) _
end Go.Proofs.YtagibdofpcbgiaaDoor
