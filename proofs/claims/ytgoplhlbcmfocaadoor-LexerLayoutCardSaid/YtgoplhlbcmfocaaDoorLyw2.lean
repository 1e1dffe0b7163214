/- The walk of LexerLayout, the joining and the rest. -/
import Derived.Test.YtgoplhlbcmfocaaDoorLyw
namespace Go.Proofs.YtgoplhlbcmfocaaDoor.lexerLayout
set_option linter.unusedVariables false
set_option linter.unusedSimpArgs false
open Go.RowKit
open lexerFirstError (app_data app_size)
set_option maxHeartbeats 4000000 in
set_option maxRecDepth 100000 in
theorem law_walk (s : ByteArray) (ga : Option Addr) (glen gcap : Nat) (zs : List Int) (w : World) (hy : Syms w) (hm : s.size ≤ 9223372036854775807) (hrow : IsRow .u8 w ga glen gcap zs) :
    Calls Tryd.prog 5 #[.string s, .slice ga glen gcap] w fun e w' => e = .returned (.bool true) ∧ Below w.heap.size w w' := by
  have hl := hy.lt
  obtain ⟨hgl, hby⟩ := bytes_of hrow
  clear hrow
  obtain ⟨i0, hi, hz0, hz1, hz2⟩ := info_parts int_info
  by_cases h81 : s.size ≤ 8100
  · have d1 : decide ((s.size : Int) ≤ 8100) = true := by simp; omega
    by_cases he : (Lx.lex s.data.toList).2.1 = 0
    · have hmax := (Lx.lex_get he).2.1
      have HOWN := Lib.hid (fun k hk => @Lx.own_of s.data.toList he k hk)
      have HLAY := Lib.hid (fun h => Lx.lex_lay he (gp glen zs) (gp_closed glen zs) h)
      have HE := Lib.hid he
      clear he
      go_enter Tryd.func5, Tryd.ntmps5
      go_wp2_with fail
      refine (head_any _ hy).mono ?_
      rintro e w1 ⟨rfl, b1⟩
      have y1 := hy.below b1 hl
      go_wp2_with fail
      refine (small_any _ true _ hm d1).mono ?_
      rintro e w' ⟨rfl, rfl⟩
      go_wp2_with fail
      refine (lex_any _ _ y1 hm).mono ?_
      rintro e w2 ⟨A2, c2, rfl, o2, b2⟩
      rw [HE.out]
      have y2 := y1.below b2 y1.lt
      obtain ⟨er, her⟩ : ∃ er, er = (Lx.lex s.data.toList).2.2 := ⟨_, rfl⟩
      rw [← her]; clear her
      obtain ⟨ts, hts⟩ : ∃ ts, ts = (Lx.lex s.data.toList).1 := ⟨_, rfl⟩
      rw [← hts] at o2 hmax HOWN HLAY ⊢
      clear hts HE
      have hr2 := Reads3.own o2
      clear o2
      have bw2 := b1.trans (b2.mono b1.size)
      go_wp2_with fail
      refine (gaps_any _).mono ?_
      rintro e w3 ⟨rfl, hw3⟩
      have b3 : Below w2.heap.size w2 w3 := by rw [← hw3]; exact (Below.refl _ _).alloc (Nat.le_refl _) _
      have hA : At w3 w2.heap.size 9 gapsA := by rw [← hw3]; exact At.new _ _ _
      clear hw3
      have hr := hr2.below b3
      have bw3 := bw2.trans (b3.mono bw2.size)
      have hAlt := hA.lt
      go_wp2_with fail
      go_loopw [10, 11, 12] (fun t v i wr => ∃ (k : Nat) (T : ByteArray), k ≤ ts.length ∧ i = .int .i64 k ∧ t = .string T ∧ T.size ≤ k * 30 ∧ Hid (T.data.toList = Lx.layT (gp glen zs) 0 (ts.take k)) ∧ wr.ownsRow w3.heap.size 3 1 v k (posCells (Lx.rep (gp glen zs) 0 0 (ts.take k))) ∧ Below w3.heap.size w3 wr) (fun _ _ i _ => ts.length - (intOf i).toNat)
      case atStart => exact ⟨0, ⟨#[]⟩, by omega, rfl, rfl, by decide, Lib.hid rfl, World.ownsRow_nil _ _ _ _, Below.refl _ _⟩
      case round =>
        obtain ⟨k, T, hk, rfl, rfl, hTs, HT, hown, hbr⟩ := hrel
        obtain ⟨va, vc, rfl⟩ := own_len hown
        by_cases hlt : k < ts.length
        · obtain ⟨g, o, rfl, hg0, z0, z1, z2⟩ := hr.tok hlt
          have c1 := (hbr.cell (p := ⟨g, o + k * 3 + 1, none⟩) hg0).trans z1
          have hgr : g < wr.heap.size := Nat.lt_of_lt_of_le hg0 hbr.size
          obtain ⟨n, hn⟩ : ∃ n, n = num glen zs k := ⟨_, rfl⟩
          obtain ⟨G, hG⟩ : ∃ G : ByteArray, G = ⟨(Lx.gapsL.getD (n % 6) []).toArray⟩ := ⟨_, rfl⟩
          have cg : wr.cell? ⟨w2.heap.size, n % 6, none⟩ = some (.string G) := by
            have := (hA.below hbr hAlt).cell (n % 6)
            rw [gapsA_get _ (Nat.mod_lt _ (by omega)), ← hG] at this; exact this
          have hGl : G.data.toList = gp glen zs k := by rw [hG]; unfold gp; rw [← hn]
          have hGs : G.size ≤ 14 := by rw [← size_len, hGl]; exact (gp_closed glen zs k).2.1
          obtain ⟨X, hX⟩ : ∃ X : ByteArray, X = ⟨ts[k].text.toArray⟩ := ⟨_, rfl⟩
          have hXl : X.data.toList = ts[k].text := by rw [hX]
          have hXs : X.size ≤ 16 := by rw [← size_len, hXl]; exact (HOWN.out k hlt).2.2
          rw [← hX] at c1 z1
          have hst := lay_step (len := glen) (zs := zs) hlt HT.out hGl hXl
          have HST := Lib.hid hst
          have HTG := Lib.hid (app_size T G)
          have HTX := Lib.hid (app_size (T ++ G) X)
          have hb1 : (T ++ G).size ≤ 100000 := by have := HTG.out; omega
          clear hst hX hXl hG hGl z0 z2
          by_cases hkg : k < glen
          · obtain ⟨gg, go, rfl, hgg, hgc, hgv⟩ := hby k hkg
            have cz : wr.cell? ⟨gg, go + k, none⟩ = some (.int .u8 ((zs.getD k 0).toNat : Int)) := ((bw3.trans (hbr.mono bw3.size)).cell (p := ⟨gg, go + k, none⟩) hgg).trans hgc
            have hnn : n = (zs.getD k 0).toNat := by rw [hn]; unfold num; rw [if_pos hkg]
            rw [← hnn] at cz hgv
            clear hnn hn hgc
            go_wp2_with (at_builtin; refine wpList_append_lies _ rfl (.tmp 58) (.tmp 61) 35 rfl w3.heap.size 3 i0 _ 1 8 Tryd.underlying35 hi hz0 hz1 hz2 rfl (by omega) (.slice va k vc) k (posCells (Lx.rep (gp glen zs) 0 0 (ts.take k))) rfl (hown.alloc _) ⟨wr.heap.size, 0, none⟩ 1 1 [.int .i64 ((T.size : Int) + (G.size : Int))] rfl rfl (At.news (At.new _ _ _)) (one1 rfl) (by omega) (by unfold maxLen; omega) (by omega) (by have := hbr.size; simp; omega) (wr.heap.size + 1) (by simp) ?_; intro g' cap w5 hown5 hgrow hat hlt5; have hbr5 : Below w3.heap.size w3 w5 := (hbr.alloc hbr.size _).grown hgrow (by have := hbr.size; simp; omega) (fun x hx => (own_lt hown hx).1); have c1 := (hbr5.cell (p := ⟨g, o + k * 3 + 1, none⟩) hg0).trans z1)
            go_roundw
            case rel => exact ⟨k + 1, T ++ G ++ X, by omega, by go_num, rfl, by have := HTG.out; have := HTX.out; omega, Lib.hid HST.out.1, by rw [HST.out.2]; exact hown5, hbr5⟩
            case measure => simp [intOf]; omega
          · have hnn : n = k := by rw [hn]; unfold num; rw [if_neg hkg]
            rw [hnn] at cg
            clear hnn hn
            go_wp2_with (at_builtin; refine wpList_append_lies _ rfl (.tmp 58) (.tmp 61) 35 rfl w3.heap.size 3 i0 _ 1 8 Tryd.underlying35 hi hz0 hz1 hz2 rfl (by omega) (.slice va k vc) k (posCells (Lx.rep (gp glen zs) 0 0 (ts.take k))) rfl (hown.alloc _) ⟨wr.heap.size, 0, none⟩ 1 1 [.int .i64 ((T.size : Int) + (G.size : Int))] rfl rfl (At.news (At.new _ _ _)) (one1 rfl) (by omega) (by unfold maxLen; omega) (by omega) (by have := hbr.size; simp; omega) (wr.heap.size + 1) (by simp) ?_; intro g' cap w5 hown5 hgrow hat hlt5; have hbr5 : Below w3.heap.size w3 w5 := (hbr.alloc hbr.size _).grown hgrow (by have := hbr.size; simp; omega) (fun x hx => (own_lt hown hx).1); have c1 := (hbr5.cell (p := ⟨g, o + k * 3 + 1, none⟩) hg0).trans z1)
            go_roundw
            case rel => exact ⟨k + 1, T ++ G ++ X, by omega, by go_num, rfl, by have := HTG.out; have := HTX.out; omega, Lib.hid HST.out.1, by rw [HST.out.2]; exact hown5, hbr5⟩
            case measure => simp [intOf]; omega
        · obtain rfl : k = ts.length := by omega
          have hall : ts.take ts.length = ts := List.take_of_length_le (Nat.le_refl _)
          rw [hall] at hown
          have HT2 := Lib.hid (show T.data.toList = Lx.layT (gp glen zs) 0 ts by have := HT.out; rw [hall] at this; exact this)
          have bwr := bw3.trans (hbr.mono bw3.size)
          clear hall HT
          by_cases h80 : T.size ≤ 8000
          · have d3 : decide ((8000 : Int) < (T.size : Int)) = false := by simp; omega
            obtain ⟨us, hus⟩ : ∃ us, us = Lx.rep (gp glen zs) 0 0 ts := ⟨_, rfl⟩
            have hlay := HLAY.out (by rw [← HT2.out, size_len]; exact h80)
            have HLX := Lib.hid (show Lx.lex T.data.toList = (us, 0, -1) by rw [HT2.out, hus]; exact hlay)
            have HUL := Lib.hid (show us.length = ts.length by rw [hus, Lx.rep_length])
            have HRG := Lib.hid (show ∀ (k : Nat) (h1 : k < ts.length) (h2 : k < us.length), ts[k].kind = us[k].kind ∧ ts[k].text = us[k].text by rw [hus]; exact fun k h1 h2 => Lx.rep_get _ ts 0 0 k h1 h2)
            rw [← hus] at hown
            clear hus hlay HLAY HT2
            go_wp2_with fail
            refine (lex_val _ (y2.below (b3.trans (hbr.mono b3.size)) y2.lt) (by omega) HLX.out).mono ?_
            rintro e w6 ⟨A6, c6, rfl, o6, b6⟩
            have r6 := Reads3.own o6
            have hrr := (hr.below hbr).below b6
            have hown6 := own_below hown b6
            go_wp2_with fail
            refine (alike_eq A2 A6 c2 c6 ts us w6 (by omega) HUL.out hrr r6 HRG.out).mono ?_
            rintro e w7 ⟨rfl, b7⟩
            have r7 := r6.below b7
            have hown7 := own_below hown6 b7
            have bw7 := (bwr.trans (b6.mono bwr.size)).trans (b7.mono (Nat.le_trans bwr.size b6.size))
            have hul := HUL.out
            have hle1 : us.length ≤ ts.length := by omega
            have hle2 : ts.length ≤ us.length := by omega
            clear hul
            go_wp2_with fail
            go_loopw [17] (fun i wr => ∃ k : Nat, k ≤ us.length ∧ i = .int .i64 k ∧ Below w7.heap.size w7 wr) (fun i _ => us.length - (intOf i).toNat)
            case atStart => exact ⟨0, by omega, rfl, Below.refl _ _⟩
            case round =>
              obtain ⟨k, hk, rfl, hbx⟩ := hrel
              by_cases hlt : k < us.length
              · obtain ⟨g, o, rfl, hg0, z0, z1, z2⟩ := r7.tok hlt
                obtain ⟨q, rfl, hq0, hqc⟩ := own_read1 hown7 (by omega)
                have v1 := (hbx.cell (p := ⟨g, o + k * 3 + 2, none⟩) hg0).trans z2
                have v2 := (hbx.cell (p := ⟨q, k, none⟩) hq0).trans (hqc k (.int .i64 us[k].pos) (by unfold posCells; rw [List.getElem?_map, List.getElem?_eq_getElem hlt]; rfl))
                clear z0 z1 z2 hqc
                generalize us[k].pos = p at *
                go_wp2
                go_quiet (fail)
                go_wp2
                go_roundw
                case rel => exact ⟨k + 1, by omega, by go_num, below_drewN hbx _⟩
                case measure => simp [intOf]; omega
              · obtain rfl : k = us.length := by omega
                go_wp2
                go_ret
                exact ⟨rfl, bw7.trans (hbx.mono bw7.size)⟩
          · have d3 : decide ((8000 : Int) < (T.size : Int)) = true := by simp; omega
            go_wp2
            go_ret
            exact ⟨rfl, bwr⟩
    · obtain ⟨hnil, her⟩ := lex_err he
      have hne : (((Lx.lex s.data.toList).2.1) != 0) = true := by simp [he]
      clear he hnil her
      go_enter Tryd.func5, Tryd.ntmps5
      go_wp2_with fail
      refine (head_any _ hy).mono ?_
      rintro e w1 ⟨rfl, b1⟩
      have y1 := hy.below b1 hl
      go_wp2_with fail
      refine (small_any _ true _ hm d1).mono ?_
      rintro e w' ⟨rfl, rfl⟩
      go_wp2_with fail
      refine (lex_any _ _ y1 hm).mono ?_
      rintro e w2 ⟨A2, c2, rfl, o2, b2⟩
      clear o2
      generalize Lx.lex s.data.toList = L at *
      obtain ⟨ts, er, n⟩ := L
      dsimp only at *
      go_wp2
      go_ret
      exact ⟨rfl, b1.trans (b2.mono b1.size)⟩
  · have d1 : decide ((s.size : Int) ≤ 8100) = false := by simp; omega
    go_enter Tryd.func5, Tryd.ntmps5
    go_wp2_with fail
    refine (head_any _ hy).mono ?_
    rintro e w1 ⟨rfl, b1⟩
    go_wp2_with fail
    refine (small_any _ false _ hm d1).mono ?_
    rintro e w' ⟨rfl, rfl⟩
    go_wp2
    go_ret
    exact ⟨rfl, b1⟩
end Go.Proofs.YtgoplhlbcmfocaaDoor.lexerLayout
