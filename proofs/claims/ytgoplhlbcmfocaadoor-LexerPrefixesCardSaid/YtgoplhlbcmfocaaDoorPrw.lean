/- The walk of LexerPrefixes. -/
import Derived.Test.YtgoplhlbcmfocaaDoorLawGap
import Derived.Test.YtgoplhlbcmfocaaDoorPlain5
import Derived.ProofKit
import Derived.OpenShut
namespace Go.Proofs.YtgoplhlbcmfocaaDoor.lexerPrefixes
set_option linter.unusedVariables false
set_option linter.unusedSimpArgs false
open Go.RowKit
theorem own_cap {w : World} {B : Nat} {e : TypeId} {size n c : Nat} {A : Option Addr} {xs : List Value} (h : w.ownsRow B e size (.slice A n c) n xs) : n ≤ c := by
  rcases h.2 with ⟨h1, h2⟩ | ⟨g', cap, cur, h1, _, _, h2, _⟩
  · omega
  · simp only [Value.slice.injEq, true_and] at h1; omega
theorem tokCells_take (ts : List Lx.Tok) (n : Nat) (hn : n ≤ ts.length) : ∀ (j : Nat) (u : Value), (tokCells (ts.take n))[j]? = some u → (tokCells ts)[j]? = some u := by
  intro j u hu
  have e : tokCells ts = tokCells (ts.take n) ++ tokCells (ts.drop n) := by
    unfold tokCells; rw [← List.flatMap_append, List.take_append_drop]
  rw [e, List.getElem?_append_left (List.getElem?_eq_some_iff.1 hu).1]; exact hu
theorem same_at (A A' : Option Addr) (c c' n : Nat) (ts : List Lx.Tok) (w : World) (hn : n = ts.length) (hl : ts.length ≤ 1000000) (h : Reads3 w A ts.length (tokCells ts)) (h' : Reads3 w A' ts.length (tokCells ts)) :
    Calls Tryd.prog 14 #[.slice A ts.length c, .slice A' n c'] w fun e w' => e = .returned (.bool true) ∧ Below w.heap.size w w' := by
  subst hn; exact same_eq A A' c c' ts w hl h h'
set_option maxHeartbeats 4000000 in
set_option maxRecDepth 100000 in
theorem law_walk (s : ByteArray) (a : Int) (w : World) (hy : Syms w) (hs : s.size ≤ 9223372036854775807) (ha : (Lit.int .u16 a).wf = true) :
    Calls Tryd.prog 9 #[.string s, .int .u16 a] w fun e w' => e = .returned (.bool true) ∧ Below w.heap.size w w' := by
  have hl := hy.lt
  obtain ⟨ha0, ha1⟩ : 0 ≤ a ∧ a ≤ 65535 := bounds_u16 ha
  obtain ⟨m, rfl⟩ := Int.eq_ofNat_of_zero_le ha0
  clear ha ha0
  by_cases h81 : s.size ≤ 8100
  · have d1 : decide ((s.size : Int) ≤ 8100) = true := by simp; omega
    by_cases he : (Lx.lex s.data.toList).2.1 = 0
    · by_cases hnil : (Lx.lex s.data.toList).1.length = 0
      · have HE := Lib.hid he; have HN := Lib.hid hnil
        clear he hnil
        go_enter Tryd.func9, Tryd.ntmps9
        go_wp2_with fail
        refine (head_any _ hy).mono ?_
        rintro e w1 ⟨rfl, b1⟩
        have y1 := hy.below b1 hl
        go_wp2_with fail
        refine (small_any _ true _ hs d1).mono ?_
        rintro e w' ⟨rfl, rfl⟩
        go_wp2_with fail
        refine (lex_any _ _ y1 hs).mono ?_
        rintro e w2 ⟨A2, c2, rfl, o2, b2⟩
        rw [HE.out, HN.out]
        clear o2
        go_wp2
        go_ret
        exact ⟨rfl, b1.trans (b2.mono b1.size)⟩
      · have hpos : 0 < (Lx.lex s.data.toList).1.length := by omega
        obtain ⟨i, hi⟩ : ∃ i, i = m % (Lx.lex s.data.toList).1.length := ⟨_, rfl⟩
        have hilt : i < (Lx.lex s.data.toList).1.length := by rw [hi]; exact Nat.mod_lt _ hpos
        have hpre := Lx.lex_prefix he hilt
        have htk := ((Lx.lex_get he).2.2.2.1 i hilt).2.1
        have hmax := (Lx.lex_get he).2.1
        rw [size_len] at htk
        have HE := Lib.hid he
        clear he hnil
        go_enter Tryd.func9, Tryd.ntmps9
        have HI := Lib.hid hi; have HP := Lib.hid hpre
        clear hi hpre
        go_wp2_with fail
        refine (head_any _ hy).mono ?_
        rintro e w1 ⟨rfl, b1⟩
        have y1 := hy.below b1 hl
        go_wp2_with fail
        refine (small_any _ true _ hs d1).mono ?_
        rintro e w' ⟨rfl, rfl⟩
        go_wp2_with fail
        refine (lex_any _ _ y1 hs).mono ?_
        rintro e w2 ⟨A2, c2, rfl, o2, b2⟩
        rw [HE.out]
        obtain ⟨er, her⟩ : ∃ er, er = (Lx.lex s.data.toList).2.2 := ⟨_, rfl⟩
        rw [← her]; clear her
        obtain ⟨ts, hts⟩ : ∃ ts, ts = (Lx.lex s.data.toList).1 := ⟨_, rfl⟩
        have hilt' : i < ts.length := by rw [hts]; exact hilt
        have htk' : ts[i].pos + ts[i].text.length ≤ s.size := by simpa [hts] using htk
        have hpre' : Lx.lex (s.data.toList.take (ts[i].pos + ts[i].text.length)) = (ts.take (i + 1), 0, -1) := by have := HP.out; simpa [hts] using this
        rw [← hts] at o2 hpos hmax HI ⊢
        clear HP htk hilt hts HE
        have hr := Reads3.own o2
        have hcap := own_cap o2
        obtain ⟨g, o, rfl, hg0, z0, z1, z2⟩ := hr.tok hilt'
        have hsz : (⟨ts[i].text.toArray⟩ : ByteArray).size = ts[i].text.length := by rw [← size_len]
        rw [← hsz] at htk' hpre'
        have HPR := Lib.hid hpre'
        clear hsz hpre'
        generalize ts[i].pos = p at *
        generalize (⟨ts[i].text.toArray⟩ : ByteArray) = t at *
        have e0 : ((ts.length : Int) == 0) = false := beq_eq_false_iff_ne.2 (by omega)
        go_wp2_with fail
        have hrem : ((m : Int) % (ts.length : Int)) = ((i : Nat) : Int) := by rw [HI.out]; simp
        rw [hrem]
        clear hrem
        go_quiet (fail)
        have d4 : decide ((s.size : Int) < (p : Int) + (t.size : Int)) = false := by simp; omega
        have y2 := y1.below b2 y1.lt
        have HX := Lib.hid (show (s.extract 0 (p + t.size)).size ≤ 9223372036854775807 by rw [← size_len, ext_take, List.length_take, size_len]; omega)
        obtain ⟨us, hus⟩ : ∃ us, us = ts.take (i + 1) := ⟨_, rfl⟩
        have HL := Lib.hid (show Lx.lex (s.extract 0 (p + t.size)).data.toList = (us, 0, -1) by rw [ext_take, hus]; exact HPR.out)
        have HUL := Lib.hid (show i + 1 = us.length by rw [hus, List.length_take]; omega)
        have HUS := Lib.hid hus
        clear hus
        go_wp2_with fail
        refine (lex_val _ (show Syms (w2.drewN nq) from y2) HX.out HL.out).mono ?_
        rintro e w3 ⟨A3, c3, rfl, o3, b3⟩
        have q3 := Reads3.own o3
        have q2 : Reads3 w3 (some ⟨g, o, none⟩) us.length (tokCells us) := fun _ => by
          obtain ⟨g', o', e, _, hc⟩ := hr (by omega)
          simp only [Option.some.injEq, Addr.mk.injEq] at e
          obtain ⟨rfl, rfl, _⟩ := e
          refine ⟨g, o, rfl, Nat.lt_of_lt_of_le hg0 b3.size, fun j u hu => ?_⟩
          exact (b3.cell (p := ⟨g, o + j, none⟩) hg0).trans (hc j u (tokCells_take ts (i + 1) (by omega) j u (by rw [← HUS.out]; exact hu)))
        clear o3
        go_wp2_with fail
        refine (same_at _ _ _ _ (i + 1) us _ HUL.out (by have := HUL.out; omega) q3 q2).mono ?_
        rintro e w4 ⟨rfl, b4⟩
        go_wp2
        go_ret
        have b12 := b1.trans (b2.mono b1.size)
        exact ⟨rfl, ((below_drewN b12 nq).trans (b3.mono b12.size)).trans (b4.mono (Nat.le_trans b12.size b3.size))⟩
    · obtain ⟨hnil, her⟩ := lex_err he
      have hne : (((Lx.lex s.data.toList).2.1) != 0) = true := by simp [he]
      clear he hnil her
      go_enter Tryd.func9, Tryd.ntmps9
      go_wp2_with fail
      refine (head_any _ hy).mono ?_
      rintro e w1 ⟨rfl, b1⟩
      have y1 := hy.below b1 hl
      go_wp2_with fail
      refine (small_any _ true _ hs d1).mono ?_
      rintro e w' ⟨rfl, rfl⟩
      go_wp2_with fail
      refine (lex_any _ _ y1 hs).mono ?_
      rintro e w2 ⟨A2, c2, rfl, o2, b2⟩
      clear o2
      generalize Lx.lex s.data.toList = L at *
      obtain ⟨ts, er, n⟩ := L
      dsimp only at *
      go_wp2
      go_ret
      exact ⟨rfl, b1.trans (b2.mono b1.size)⟩
  · have d1 : decide ((s.size : Int) ≤ 8100) = false := by simp; omega
    go_enter Tryd.func9, Tryd.ntmps9
    go_wp2_with fail
    refine (head_any _ hy).mono ?_
    rintro e w1 ⟨rfl, b1⟩
    go_wp2_with fail
    refine (small_any _ false _ hs d1).mono ?_
    rintro e w' ⟨rfl, rfl⟩
    go_wp2
    go_ret
    exact ⟨rfl, b1⟩
end Go.Proofs.YtgoplhlbcmfocaaDoor.lexerPrefixes
