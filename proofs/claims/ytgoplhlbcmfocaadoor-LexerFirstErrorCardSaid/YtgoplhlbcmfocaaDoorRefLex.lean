/- The walk of the reference's Lex: the same tokens, error and offset of the plain law. -/
import Derived.Test.YtgoplhlbcmfocaaDoorRefNext
namespace Go.Proofs.YtgoplhlbcmfocaaDoor
set_option linter.unusedVariables false
set_option linter.unusedSimpArgs false
open Go.RowKit
theorem rnext_at (s : ByteArray) (p k n : Nat) (w : World) (hs : s.size ≤ 9223372036854775807) (hk : (Lx.next (s.data.toList.drop p)).1 = k) (hn : (Lx.next (s.data.toList.drop p)).2 = n) :
    Calls Tryd.prog 23 #[.string (s.extract p s.size)] w fun e w' => e = .returned (.tuple #[.int .i64 k, .int .i64 n]) ∧ Below w.heap.size w w' := by
  have h := rnext_any (s.extract p s.size) w (by rw [← size_len, ext_drop, List.length_drop, size_len]; omega)
  rw [ext_drop, hk, hn] at h
  exact h
theorem rgap_at (s : ByteArray) (p : Int) (q g : Nat) (w : World) (hpq : p = q) (hp : q ≤ s.size) (hs : s.size ≤ 9223372036854775807) (hG : g = Lx.gapG false (s.data.toList.drop q)) :
    Calls Tryd.prog 22 #[.string s, .int .i64 p] w fun e w' => e = .returned (.int .i64 (g : Int)) ∧ w = w' := by
  subst hpq; subst hG; exact rgap_any s q w hp hs
theorem ext_mid (s : ByteArray) (p n : Nat) : (s.extract p (p + n)).data.toList = (s.data.toList.drop p).take n := by rw [Lib.extract_data]; congr 1; omega
set_option maxHeartbeats 1000000 in
set_option maxRecDepth 100000 in
theorem rlex_walk (s : ByteArray) (w : World) (hs : s.size ≤ 8000) :
    Calls Tryd.prog 13 #[.string s] w fun e w' => (∃ v, e = .returned (.tuple #[v, .int .i64 (Lx.lex s.data.toList).2.1, .int .i64 (Lx.lex s.data.toList).2.2]) ∧ w'.ownsRow w.heap.size 30 3 v (Lx.lex s.data.toList).1.length (tokCells (Lx.lex s.data.toList).1)) ∧ Below w.heap.size w w' := by
  obtain ⟨i0, hi, hz0, hz1, hz2⟩ := info_parts tok_info
  have HL := Lib.hid (show s.data.toList.length ≤ 8000 by rw [size_len]; exact hs)
  have HS := Lib.hid (size_len s)
  obtain ⟨g0, hg0'⟩ : ∃ g0, g0 = Lx.gapG false (s.data.toList.drop 0) := ⟨_, rfl⟩
  have hg0 := Lx.gapG_le false s.data.toList
  have hst := ScanAt.start s.data.toList
  rw [HS.out] at hg0
  rw [show Lx.gapG false s.data.toList = g0 by rw [hg0']; simp] at hg0 hst
  have HG0 := Lib.hid hg0'
  have HST := Lib.hid hst
  clear hg0' hst
  have h8 : decide ((8000 : Int) < (s.size : Int)) = false := by simp; omega
  go_enter Tryd.func13, Tryd.ntmps13
  go_wp2_with fail
  refine (rgap_at s 0 0 g0 w rfl (by omega) (by omega) HG0.out).mono ?_
  rintro e w' ⟨rfl, rfl⟩
  go_wp2_with fail
  go_loopw [5, 6] (fun v i wr => ∃ (p : Nat) (ds : List Lx.Tok), p ≤ s.size ∧ i = .int .i64 p ∧ ds.length ≤ 3000 ∧ wr.ownsRow w.heap.size 30 3 v ds.length (tokCells ds) ∧ Hid (ScanAt s.data.toList ds p) ∧ Below w.heap.size w wr) (fun _ i _ => s.size - (intOf i).toNat)
  case atStart => exact ⟨g0, [], hg0, by simp, by simp, World.ownsRow_nil _ _ _ _, HST, Below.refl _ _⟩
  case round =>
    obtain ⟨p, ds, hp, rfl, hd, hown, HSc, hbw⟩ := hrel
    obtain ⟨a, c, rfl⟩ := own_len hown
    by_cases hlt : p < s.size
    · by_cases h3 : ds.length = 3000
      · have HR := Lib.hid (lex_limit HSc.out HL.out (by rw [HS.out]; exact hlt) h3)
        have h3' : ((ds.length : Int) == 3000) = true := by rw [h3]; rfl
        have H3 := Lib.hid h3; clear h3
        go_wp2
        go_ret3
        exact ⟨⟨.slice none 0 0, by rw [HR.out]; rfl, by rw [HR.out]; exact World.ownsRow_nil _ _ _ _⟩, hbw⟩
      · have h3' : ((ds.length : Int) == 3000) = false := beq_eq_false_iff_ne.2 (by omega)
        obtain ⟨k, hk⟩ : ∃ k : Nat, (Lx.next (s.data.toList.drop p)).1 = k := ⟨_, rfl⟩
        obtain ⟨n, hn⟩ : ∃ n : Nat, (Lx.next (s.data.toList.drop p)).2 = n := ⟨_, rfl⟩
        have HK := Lib.hid hk
        have HN := Lib.hid hn
        clear hk hn
        by_cases hk0 : k = 0
        · have HR := Lib.hid (lex_bad HSc.out HL.out (by rw [HS.out]; exact hlt) (by omega) (HK.out.trans hk0))
          have hk0' : (((k : Nat) : Int) == 0) = true := by rw [hk0]; rfl
          have HK0 := Lib.hid hk0; clear hk0
          go_wp2_with (go_at_call 23; refine (rnext_at s p k n _ (by omega) HK.out HN.out).mono ?_; rintro e w1 ⟨rfl, hb1⟩)
          go_ret3
          exact ⟨⟨.slice none 0 0, by rw [HR.out]; rfl, by rw [HR.out]; exact World.ownsRow_nil _ _ _ _⟩, hbw.trans (hb1.mono hbw.size)⟩
        · have hk0' : (((k : Nat) : Int) == 0) = false := beq_eq_false_iff_ne.2 (by omega)
          have hk1 : (Lx.next (s.data.toList.drop p)).1 ≠ 0 := by rw [HK.out]; exact hk0
          have hnl := next_len _ hk1
          rw [HN.out, List.length_drop, HS.out] at hnl
          obtain ⟨hn1, hn2⟩ := hnl
          obtain ⟨g, hg⟩ : ∃ g, g = Lx.gapG false (s.data.toList.drop (p + n)) := ⟨_, rfl⟩
          have hG1 : p + n + g ≤ s.size := by have := Lx.gapG_le false (s.data.toList.drop (p + n)); rw [List.length_drop, HS.out] at this; omega
          have HG := Lib.hid hg
          have HM := Lib.hid (ScanAt.more (G := p + n + g) HSc.out (by rw [HS.out]; exact hlt) hk1 HN.out (by rw [hg]))
          clear hk1 hg
          obtain ⟨t, ht⟩ : ∃ t : ByteArray, t = s.extract p (p + n) := ⟨_, rfl⟩
          have HT := Lib.hid ht
          have HTL := Lib.hid (show t.data.toList = (s.data.toList.drop p).take n by rw [ht, ext_mid])
          clear ht
          go_wp2_with (first
            | (go_at_call 23; refine (rnext_at s p k n _ (by omega) HK.out HN.out).mono ?_; rintro e w1 ⟨rfl, hb1⟩; have hown1 := own_below hown hb1)
            | (at_builtin; refine wpList_append_lies _ rfl (.tmp 32) (.tmp 42) 24 rfl w.heap.size 30 i0 _ 3 32 Tryd.underlying24 hi hz0 hz1 hz2 rfl (by omega) (.slice a ds.length c) ds.length (tokCells ds) rfl (hown1.alloc _) ⟨w1.heap.size, 0, none⟩ 1 1 [.int .i64 k, .string (s.extract p (p + n)), .int .i64 p] rfl rfl (At.news (At.new _ _ _)) (one3 rfl rfl rfl) (by omega) (by unfold maxLen; omega) (by omega) (by have := hbw.size; have := hb1.size; simp; omega) (w1.heap.size + 1) (by simp) ?_; intro g' cap w2 hown2 hgrow hat hlt2)
            | (go_at_call 22; refine (rgap_at s _ (p + n) g _ (by omega) (by omega) (by omega) HG.out).mono ?_; rintro e w' ⟨rfl, rfl⟩))
          have hbw2 : Below w.heap.size w w2 := ((hbw.trans (hb1.mono hbw.size)).alloc (by have := hbw.size; have := hb1.size; omega) _).grown hgrow (by have := hbw.size; have := hb1.size; simp; omega) (fun g hg => (own_lt hown1 hg).1)
          go_roundw
          case rel => exact ⟨p + n + g, ds ++ [⟨k, t.data.toList, p⟩], hG1, by go_num, by simp; omega, own_app hown2 (by simp) (by rw [str_mk, HT.out]), Lib.hid (by rw [HTL.out]; have := HM.out; rw [HK.out] at this; exact this), hbw2⟩
          case measure => simp [intOf]; omega
    · obtain rfl : p = s.size := by omega
      have HR := Lib.hid (lex_ok (by rw [HS.out]; exact HSc.out) HL.out hd)
      go_wp2
      go_ret3
      exact ⟨⟨_, by rw [HR.out]; rfl, by rw [HR.out]; exact hown⟩, hbw⟩
end Go.Proofs.YtgoplhlbcmfocaaDoor
