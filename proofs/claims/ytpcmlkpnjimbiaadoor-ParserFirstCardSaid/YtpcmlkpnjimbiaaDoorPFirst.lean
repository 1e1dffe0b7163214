/- The walk of ParserFirst. -/
import Derived.Test.YtpcmlkpnjimbiaaDoorPFst0
import Derived.Test.YtpcmlkpnjimbiaaDoorPHeadW
import Derived.Test.YtpcmlkpnjimbiaaDoorRefLex
import Derived.Test.YtpcmlkpnjimbiaaDoorPReg
import Derived.ProofKit
import Derived.OpenShut
namespace Go.Proofs.YtpcmlkpnjimbiaaDoor
set_option linter.unusedVariables false
set_option linter.unusedSimpArgs false
open Go.RowKit
theorem rlex_val {s : ByteArray} {ts : List Lx.Tok} {er n : Int} (w : World) (hm : s.size ≤ 9223372036854775807) (h : Lx.lex s.data.toList = (ts, er, n)) :
    Calls Tryd.prog 9 #[.string s] w fun e w' => ∃ (A : Option Addr) (c : Nat), e = .returned (.tuple #[.slice A ts.length c, .int .i64 er, .int .i64 n]) ∧ w'.ownsRow w.heap.size 41 3 (.slice A ts.length c) ts.length (tokCells ts) ∧ Below w.heap.size w w' := by
  have := rlex_any s w hm
  unfold Lexed at this
  rw [h] at this
  exact this
namespace parserFirst
set_option maxHeartbeats 4000000 in
set_option maxRecDepth 100000 in
theorem law_walk (s : ByteArray) (w : World) (h : Env w) (hs : s.size ≤ 9223372036854775807) :
    Calls Tryd.prog 6 #[.string s] w fun e w' => e = .returned (.bool true) ∧ Below w.heap.size w w' := by
  have HH := Lib.hid (phead_any w h)
  have HENV := Lib.hid h
  clear h
  by_cases h81 : s.size ≤ 9000
  · have d1 : decide ((9000 : Int) < (s.size : Int)) = false := by simp; omega
    obtain ⟨L, hL⟩ : ∃ L, Lx.lex s.data.toList = L := ⟨_, rfl⟩
    obtain ⟨ts, er, po⟩ := L
    have HL := Lib.hid hL
    by_cases he : er = 0
    · subst he
      obtain ⟨ds, hds⟩ : ∃ ds, parseD s.data.toList = ds := ⟨_, rfl⟩
      have HDS := Lib.hid hds
      clear hL hds
      cases ds with
      | nil =>
        go_enter Tryd.func6, Tryd.ntmps6
        go_wp2_with (go_at_call 8; refine (HH.out).mono ?_; rintro e w1 ⟨rfl, b1⟩; clear HH)
        have HRL := Lib.hid (fun (_ : Nat) => rlex_val w1 hs HL.out)
        go_wp2_with (go_at_call 9; refine (HRL.out 0).mono ?_; rintro e w2 ⟨A, c, rfl, o2, b2⟩; clear HRL)
        have b12 := b1.trans (b2.mono b1.size)
        clear o2
        have HP := Lib.hid (fun (_ : Nat) => parse_env s w2 (HENV.out.below b12) (by omega))
        go_wp2_with (go_at_call 11; refine (HP.out 0).mono ?_; rintro e w3 ⟨hb3, l1, f1, p1, r1, d1', rfl, hP1, hD1⟩; rw [HDS.out] at hD1; obtain ⟨dA, dC, rfl⟩ := TRow.slice hD1; obtain ⟨lA, lC, rfl⟩ := hP1.lats.slice; obtain ⟨fA, fC, rfl⟩ := hP1.funs.slice; obtain ⟨pA, pC, rfl⟩ := hP1.preds.slice; obtain ⟨rA, rC, rfl⟩ := hP1.rules.slice; clear hP1 HP)
        go_ret
        exact ⟨rfl, (b12.trans (hb3.mono b12.size)).alloc (Nat.le_trans b12.size hb3.size) _⟩
      | cons d ds =>
        obtain ⟨d0, da⟩ := d
        have hfst := parseD_first HL.out HDS.out
        have HF := Lib.hid hfst
        clear hfst
        go_enter Tryd.func6, Tryd.ntmps6
        go_wp2_with (go_at_call 8; refine (HH.out).mono ?_; rintro e w1 ⟨rfl, b1⟩; clear HH)
        have HRL := Lib.hid (fun (_ : Nat) => rlex_val w1 hs HL.out)
        go_wp2_with (go_at_call 9; refine (HRL.out 0).mono ?_; rintro e w2 ⟨A, c, rfl, o2, b2⟩; clear HRL)
        have b12 := b1.trans (b2.mono b1.size)
        have HP := Lib.hid (fun (_ : Nat) => parse_env s w2 (HENV.out.below b12) (by omega))
        go_wp2_with (go_at_call 11; refine (HP.out 0).mono ?_; rintro e w3 ⟨hb3, l1, f1, p1, r1, d1', rfl, hP1, hD1⟩; rw [HDS.out] at hD1; obtain ⟨lA, lC, rfl⟩ := hP1.lats.slice; obtain ⟨fA, fC, rfl⟩ := hP1.funs.slice; obtain ⟨pA, pC, rfl⟩ := hP1.preds.slice; obtain ⟨rA, rC, rfl⟩ := hP1.rules.slice; clear hP1 HP; have hd0 := hD1.at (k := 0) rfl; obtain ⟨dg, dof, dC, rfl, hdg, c0, c1⟩ := hd0; clear hD1)
        have hts : ts.length ≤ 3000 := by
          have := (Lx.lex_get (s := s.data.toList) (by rw [HL.out])).2.1
          rw [HL.out] at this
          exact this
        have b4 := below1 w3 (.cells #[.slice lA (parseP s.data.toList).lats.length lC, .slice fA (parseP s.data.toList).funs.length fC, .slice pA (parseP s.data.toList).preds.length pC, .slice rA (parseP s.data.toList).rules.length rC] 34)
        generalize w3.alloc _ = w4 at b4 ⊢
        have q0 : w4.cell? ⟨dg, dof, none⟩ = some (.int .i64 d0) := by have := next_cell c0 b4; simpa using this
        have q1 : w4.cell? ⟨dg, dof + 1, none⟩ = some (.int .i64 da) := by have := next_cell c1 b4; simpa using this
        have hdg4 : dg < w4.heap.size := Nat.lt_of_lt_of_le hdg b4.size
        have hR := ((Reads3.own o2).below hb3).below b4
        have b4w := (b12.trans (hb3.mono b12.size)).trans (b4.mono (Nat.le_trans b12.size hb3.size))
        clear o2 b2 b12 b1 hb3 b4 c0 c1 hdg HL HDS
        rcases HF.out with ⟨k0, t, hk0, hd, hne, hle, l', hp⟩ | ⟨hd, hne⟩
        · injection hd with e1 e2
          subst e1; subst e2
          rw [size_len] at hle
          have hk1 : k0 < ts.length := (List.getElem?_eq_some_iff.1 hk0).1
          have HK := Lib.hid hk0
          have HNE := Lib.hid hne
          have HPR := Lib.hid hp
          have HRR := Lib.hid hR
          clear HF hk0 hne hp hR
          go_loopw [9] (fun i wr => ∃ (k nq : Nat), k ≤ k0 ∧ i = .int .i64 k ∧ wr = w4.drewN nq) (fun i _ => ts.length - (intOf i).toNat)
          case atStart => exact ⟨0, 0, by omega, rfl, rfl⟩
          case round =>
            obtain ⟨k, nq, hk, rfl, rfl⟩ := hrel
            have hlt : k < ts.length := by omega
            have dl : decide ((k : Int) < (ts.length : Int)) = true := by simp; omega
            obtain ⟨g, o, rfl, hg, z0, z1, z2⟩ := HRR.out.tok hlt
            by_cases hkk : k = k0
            · have htk : ts[k] = t := by
                have := HK.out
                rw [← hkk, List.getElem?_eq_getElem hlt] at this
                exact Option.some.inj this
              rw [htk] at z0 z1 z2
              have hsz : (⟨t.text.toArray⟩ : ByteArray).size = t.text.length := by rw [← size_len]
              have hle' : t.pos + (⟨t.text.toArray⟩ : ByteArray).size ≤ s.size := by rw [hsz]; exact hle
              have HPX := Lib.hid (show parseD (s.extract 0 (t.pos + (⟨t.text.toArray⟩ : ByteArray).size)).data.toList = (50, (t.pos : Int)) :: l' by rw [ext_take, hsz]; exact HPR.out)
              clear hsz htk hkk hle HPR HNE HK
              generalize (⟨t.text.toArray⟩ : ByteArray) = tt at *
              generalize t.pos = P at *
              obtain ⟨N, hN⟩ : ∃ N : Nat, N = P + tt.size := ⟨_, rfl⟩
              have hwr : IntKind.i64.wrap ((P : Int) + (tt.size : Int)) = (N : Int) := by rw [IntWalk.i64_in _ (by omega)]; omega
              rw [← hN] at HPX hle'
              have n1 : (N : Int) ≤ (s.size : Int) := by omega
              have n0 : (0 : Int) ≤ (N : Int) := by omega
              clear hN
              have hq := fun W => diag_same 50 (P : Int) W
              have HPP := Lib.hid (fun (W : World) (hW : Below w4.heap.size w4 W) => parse_env (s.extract 0 N) W (HENV.out.below (b4w.trans (hW.mono b4w.size))) (by rw [← size_len, ext_take, List.length_take, size_len]; omega))
              go_wp2_with fail
              go_quiet (fail)
              go_wp2_with fail
              refine' wp_region_each _ (Below w4.heap.size w4) (RP) (Vl :: Vl :: Vl :: Vl :: Vl :: Vl :: Vl :: Vl :: Vl :: Vl :: Vl :: Vl :: Vl :: Vl :: PsT (parseP (s.extract 0 N).data.toList) ((50, (P : Int)) :: l') :: PsT (parseP (s.extract 0 N).data.toList) ((50, (P : Int)) :: l') :: PaT (parseP (s.extract 0 N).data.toList) :: DsT ((50, (P : Int)) :: l') :: BxT w4.heap.size :: Free :: DsT ((50, (P : Int)) :: l') :: []) ?hF (by kernel_rfl) (by kernel_rfl) (by kernel_rfl) ((below_drewN (below_drewN (Below.refl _ _) _) _).drew) (lasting_cons (lasting_vl) (lasting_cons (lasting_vl) (lasting_cons (lasting_vl) (lasting_cons (lasting_vl) (lasting_cons (lasting_vl) (lasting_cons (lasting_vl) (lasting_cons (lasting_vl) (lasting_cons (lasting_vl) (lasting_cons (lasting_vl) (lasting_cons (lasting_vl) (lasting_cons (lasting_vl) (lasting_cons (lasting_vl) (lasting_cons (lasting_vl) (lasting_cons (lasting_vl) (lasting_cons (psT_on _ _) (lasting_cons (psT_on _ _) (lasting_cons (paT_on _) (lasting_cons (dsT_on _) (lasting_cons (bxT_on _) (lasting_cons (lasting_free) (lasting_cons (dsT_on _) (lasting_none)))))))))))))))))))))) ?hops ?hend
              case hF => (intro v; simp only [over, Act.put, List.setIfInBounds_toArray, List.set_cons_zero, List.set_cons_succ, Nat.zero_add, Nat.reduceAdd]; exact rfl)
              case hops =>
                refine ⟨?_, ?_⟩
                · intro v w' hj hd hs K hK
                  have hk := hK.out
                  simp only [Act.put, List.setIfInBounds_toArray, List.set_cons_zero, List.set_cons_succ] at hk
                  have HK := Lib.hid hk
                  clear hd hs hk hK
                  go_simp
                  exact HK.out _ _ hj.out (RP.refl _) (show _ = _ from rfl)
                refine ⟨?_, ?_⟩
                · intro v w' hj hd hs K hK
                  have hk := hK.out
                  simp only [Act.put, List.setIfInBounds_toArray, List.set_cons_zero, List.set_cons_succ] at hk
                  have HK := Lib.hid hk
                  clear hd hs hk hK
                  go_simp
                  exact HK.out _ _ hj.out (RP.refl _) (show _ = _ from rfl)
                refine ⟨?_, ?_⟩
                · intro v w' hj hd hs K hK
                  have hk := hK.out
                  simp only [Act.put, List.setIfInBounds_toArray, List.set_cons_zero, List.set_cons_succ] at hk
                  have HK := Lib.hid hk
                  clear hd hs hk hK
                  go_simp
                  exact HK.out _ _ hj.out (RP.refl _) (show _ = _ from rfl)
                refine ⟨?_, ?_⟩
                · intro v w' hj hd hs K hK
                  have t1 : v 1 = _ := hd.out 1 (by kernel_rfl)
                  have t2 : v 2 = _ := hd.out 2 (by kernel_rfl)
                  have hk := hK.out
                  simp only [t1, t2, Act.put, List.setIfInBounds_toArray, List.set_cons_zero, List.set_cons_succ] at hk
                  have HK := Lib.hid hk
                  clear hd hs hk hK
                  go_simp
                  exact HK.out _ _ hj.out (RP.refl _) (show _ = _ from rfl)
                refine ⟨?_, ?_⟩
                · intro v w' hj hd hs K hK
                  have t3 : v 3 = _ := hd.out 3 (by kernel_rfl)
                  have hk := hK.out
                  simp only [t3, Act.put, List.setIfInBounds_toArray, List.set_cons_zero, List.set_cons_succ] at hk
                  have HK := Lib.hid hk
                  clear hd hs hk hK
                  go_simp
                  exact HK.out _ _ hj.out (RP.refl _) (show _ = _ from rfl)
                refine ⟨?_, ?_⟩
                · intro v w' hj hd hs K hK
                  have t4 : v 4 = _ := hd.out 4 (by kernel_rfl)
                  have zz := next_cell z2 hj.out
                  have hk := hK.out
                  simp only [t4, Act.put, List.setIfInBounds_toArray, List.set_cons_zero, List.set_cons_succ] at hk
                  have HK := Lib.hid hk
                  clear hd hs hk hK
                  go_simp
                  exact HK.out _ _ hj.out (RP.refl _) (show _ = _ from rfl)
                refine ⟨?_, ?_⟩
                · intro v w' hj hd hs K hK
                  have hk := hK.out
                  simp only [Act.put, List.setIfInBounds_toArray, List.set_cons_zero, List.set_cons_succ] at hk
                  have HK := Lib.hid hk
                  clear hd hs hk hK
                  go_simp
                  exact HK.out _ _ hj.out (RP.refl _) (show _ = _ from rfl)
                refine ⟨?_, ?_⟩
                · intro v w' hj hd hs K hK
                  have hk := hK.out
                  simp only [Act.put, List.setIfInBounds_toArray, List.set_cons_zero, List.set_cons_succ] at hk
                  have HK := Lib.hid hk
                  clear hd hs hk hK
                  go_simp
                  exact HK.out _ _ hj.out (RP.refl _) (show _ = _ from rfl)
                refine ⟨?_, ?_⟩
                · intro v w' hj hd hs K hK
                  have t6 : v 6 = _ := hd.out 6 (by kernel_rfl)
                  have t7 : v 7 = _ := hd.out 7 (by kernel_rfl)
                  have hk := hK.out
                  simp only [t6, t7, Act.put, List.setIfInBounds_toArray, List.set_cons_zero, List.set_cons_succ] at hk
                  have HK := Lib.hid hk
                  clear hd hs hk hK
                  go_simp
                  exact HK.out _ _ hj.out (RP.refl _) (show _ = _ from rfl)
                refine ⟨?_, ?_⟩
                · intro v w' hj hd hs K hK
                  have t8 : v 8 = _ := hd.out 8 (by kernel_rfl)
                  have hk := hK.out
                  simp only [t8, Act.put, List.setIfInBounds_toArray, List.set_cons_zero, List.set_cons_succ] at hk
                  have HK := Lib.hid hk
                  clear hd hs hk hK
                  go_simp
                  exact HK.out _ _ hj.out (RP.refl _) (show _ = _ from rfl)
                refine ⟨?_, ?_⟩
                · intro v w' hj hd hs K hK
                  have t9 : v 9 = _ := hd.out 9 (by kernel_rfl)
                  have zz := next_cell z1 hj.out
                  have hk := hK.out
                  simp only [t9, Act.put, List.setIfInBounds_toArray, List.set_cons_zero, List.set_cons_succ] at hk
                  have HK := Lib.hid hk
                  clear hd hs hk hK
                  go_simp
                  exact HK.out _ _ hj.out (RP.refl _) (show _ = _ from rfl)
                refine ⟨?_, ?_⟩
                · intro v w' hj hd hs K hK
                  have t10 : v 10 = _ := hd.out 10 (by kernel_rfl)
                  have hk := hK.out
                  simp only [t10, Act.put, List.setIfInBounds_toArray, List.set_cons_zero, List.set_cons_succ] at hk
                  have HK := Lib.hid hk
                  clear hd hs hk hK
                  go_simp
                  exact HK.out _ _ hj.out (RP.refl _) (show _ = _ from rfl)
                refine ⟨?_, ?_⟩
                · intro v w' hj hd hs K hK
                  have t5 : v 5 = _ := hd.out 5 (by kernel_rfl)
                  have t11 : v 11 = _ := hd.out 11 (by kernel_rfl)
                  have hk := hK.out
                  simp only [t5, t11, Act.put, List.setIfInBounds_toArray, List.set_cons_zero, List.set_cons_succ] at hk
                  have HK := Lib.hid hk
                  clear hd hs hk hK
                  go_simp
                  exact HK.out _ _ hj.out (RP.refl _) (show _ = _ from rfl)
                refine ⟨?_, ?_⟩
                · intro v w' hj hd hs K hK
                  have t0 : v 0 = _ := hd.out 0 (by kernel_rfl)
                  have t12 : v 12 = _ := hd.out 12 (by kernel_rfl)
                  have hk := hK.out
                  simp only [t0, t12, Act.put, List.setIfInBounds_toArray, List.set_cons_zero, List.set_cons_succ] at hk
                  have HK := Lib.hid hk
                  clear hd hs hk hK
                  go_simp
                  exact HK.out _ _ hj.out (RP.refl _) (show _ = _ from rfl)
                refine ⟨?_, ?_⟩
                · intro v w' hj hd hs K hK
                  have t13 : v 13 = _ := hd.out 13 (by kernel_rfl)
                  have hk := hK.out
                  simp only [t13, Act.put, List.setIfInBounds_toArray, List.set_cons_zero, List.set_cons_succ] at hk
                  have HK := Lib.hid hk
                  clear hd hs hk hK
                  go_simp
                  refine (HPP.out w' hj.out).mono ?_
                  rintro e w5 ⟨hb5, l2, f2, p2, r2, d2, rfl, hP2, hD2⟩
                  rw [HPX.out] at hD2
                  exact HK.out _ _ (hj.out.trans (hb5.mono hj.out.size)) (RP.below hb5) ⟨_, _, _, _, _, rfl, hP2, hD2⟩
                refine ⟨?_, ?_⟩
                · intro v w' hj hd hs K hK
                  obtain ⟨l14, f14, p14, r14, dd14, t14, hpp14, hdd14⟩ : PsT (parseP (s.extract 0 N).data.toList) ((50, (P : Int)) :: l') (v 14) w' := hd.out 14 (by kernel_rfl)
                  have hk := hK.out
                  simp only [t14, Act.put, List.setIfInBounds_toArray, List.set_cons_zero, List.set_cons_succ] at hk
                  have HK := Lib.hid hk
                  clear hd hs hk hK
                  go_simp
                  exact HK.out _ _ hj.out (RP.refl _) ⟨_, _, _, _, _, rfl, hpp14, hdd14⟩
                refine ⟨?_, ?_⟩
                · intro v w' hj hd hs K hK
                  obtain ⟨l15, f15, p15, r15, dd15, t15, hpp15, hdd15⟩ : PsT (parseP (s.extract 0 N).data.toList) ((50, (P : Int)) :: l') (v 15) w' := hd.out 15 (by kernel_rfl)
                  have hk := hK.out
                  simp only [t15, Act.put, List.setIfInBounds_toArray, List.set_cons_zero, List.set_cons_succ] at hk
                  have HK := Lib.hid hk
                  clear hd hs hk hK
                  go_simp
                  exact HK.out _ _ hj.out (RP.refl _) ⟨_, _, _, _, rfl, hpp15⟩
                refine ⟨?_, ?_⟩
                · intro v w' hj hd hs K hK
                  obtain ⟨l15, f15, p15, r15, dd15, t15, hpp15, hdd15⟩ : PsT (parseP (s.extract 0 N).data.toList) ((50, (P : Int)) :: l') (v 15) w' := hd.out 15 (by kernel_rfl)
                  have hk := hK.out
                  simp only [t15, Act.put, List.setIfInBounds_toArray, List.set_cons_zero, List.set_cons_succ] at hk
                  have HK := Lib.hid hk
                  clear hd hs hk hK
                  go_simp
                  exact HK.out _ _ hj.out (RP.refl _) hdd15
                refine ⟨?_, ?_⟩
                · intro v w' hj hd hs K hK
                  have hk := hK.out
                  simp only [Act.put, List.setIfInBounds_toArray, List.set_cons_zero, List.set_cons_succ] at hk
                  have HK := Lib.hid hk
                  clear hd hs hk hK
                  go_simp
                  exact HK.out _ _ (hj.out.alloc hj.out.size _) (RP.below (below1 _ _)) ⟨_, rfl, hj.out.size, _, _, _, _, At.new _ _ _⟩
                refine ⟨?_, ?_⟩
                · intro v w' hj hd hs K hK
                  obtain ⟨l16, f16, p16, r16, t16, hpp16⟩ : PaT (parseP (s.extract 0 N).data.toList) (v 16) w' := hd.out 16 (by kernel_rfl)
                  obtain ⟨b18, t18, bl18, y0, y1, y2, y3, a18⟩ : BxT w4.heap.size (v 18) w' := hd.out 18 (by kernel_rfl)
                  obtain ⟨la, lc, rfl⟩ := hpp16.lats.slice
                  obtain ⟨fa, fc, rfl⟩ := hpp16.funs.slice
                  obtain ⟨pa, pc, rfl⟩ := hpp16.preds.slice
                  obtain ⟨ra, rc, rfl⟩ := hpp16.rules.slice
                  have yf0 := a18.frozen 0
                  have yf1 := a18.frozen 1
                  have yf2 := a18.frozen 2
                  have yf3 := a18.frozen 3
                  have yc0 := a18.cell 0
                  have yc1 := a18.cell 1
                  have yc2 := a18.cell 2
                  have yc3 := a18.cell 3
                  have yl := a18.lt
                  simp only [List.getElem?_toArray, List.getElem?_cons_zero, List.getElem?_cons_succ] at yc0 yc1 yc2 yc3
                  clear hpp16
                  generalize parseP (s.extract 0 N).data.toList = PP at *
                  have hk := hK.out
                  simp only [t16, t18, Act.put, List.setIfInBounds_toArray, List.set_cons_zero, List.set_cons_succ] at hk
                  have HK := Lib.hid hk
                  clear hd hs hk hK
                  go_simp
                  obtain ⟨_, k2, k3⟩ := pg_put4 (.slice la PP.lats.length lc) (.slice fa PP.funs.length fc) (.slice pa PP.preds.length pc) (.slice ra PP.rules.length rc) a18 bl18 hj.out
                  exact HK.out undef _ k2 k3 trivial
                refine ⟨?_, ?_⟩
                · intro v w' hj hd hs K hK
                  have hdd17 : DsT ((50, (P : Int)) :: l') (v 17) w' := hd.out 17 (by kernel_rfl); obtain ⟨dA17, dC17, t17⟩ := TRow.slice hdd17
                  have hk := hK.out
                  simp only [t17, Act.put, List.setIfInBounds_toArray, List.set_cons_zero, List.set_cons_succ] at hk
                  have HK := Lib.hid hk
                  clear hd hs hk hK
                  go_simp
                  exact HK.out _ _ hj.out (RP.refl _) (by have h := hdd17; rw [t17] at h; exact h)
                trivial
              case hend =>
                intro v w7 hj hd
                have hdd : DsT ((50, (P : Int)) :: l') (v 20) w7 := hd.out 20 (of_decide_eq_true (by kernel_rfl))
                have hd2 := DgR.at hdd (k := 0) rfl
                obtain ⟨eg, eo, ec, t20, heg, u0, u1⟩ := hd2
                have hb7 := b4w.trans (hj.out.mono b4w.size)
                replace u0 : w7.cell? ⟨eg, eo, none⟩ = some (.int .i64 50) := by simpa using u0
                replace u1 : w7.cell? ⟨eg, eo + 1, none⟩ = some (.int .i64 (P : Int)) := by simpa using u1
                have r0 := next_cell q0 hj.out
                have r1 := next_cell q1 hj.out
                have hdg7 : dg < w7.heap.size := Nat.lt_of_lt_of_le hdg4 hj.out.size
                simp only [t20]
                clear hj hd hdd t20 q0 q1 z0 z1 z2 hg
                go_wp2_with fail
                go_quiet (fail)
                go_wp2_with fail
                go_ret
                exact ⟨rfl, below_drewN hb7 _⟩
            · have ht1 : (((ts[k].pos : Nat) : Int) == ((t.pos : Nat) : Int)) = false := beq_eq_false_iff_ne.2 (by have := HNE.out k ts[k] (by omega) (List.getElem?_eq_getElem hlt); omega)
              generalize ts[k].pos = P at *
              generalize ts[k].kind = K at *
              go_wp2_with fail
              go_quiet (fail)
              go_wp2_with fail
              go_roundw
              case rel => exact ⟨k + 1, _, by omega, by go_num, rfl⟩
              case measure => simp [intOf]; omega
        · injection hd with e1 e2
          subst e1; subst e2
          have HNE := Lib.hid hne
          have HRR := Lib.hid hR
          rw [size_len] at q1
          clear HF hne hR
          go_loopw [9] (fun i wr => ∃ (k nq : Nat), k ≤ ts.length ∧ i = .int .i64 k ∧ wr = w4.drewN nq) (fun i _ => ts.length - (intOf i).toNat)
          case atStart => exact ⟨0, 0, by omega, rfl, rfl⟩
          case round =>
            obtain ⟨k, nq, hk, rfl, rfl⟩ := hrel
            by_cases hlt : k < ts.length
            · have dl : decide ((k : Int) < (ts.length : Int)) = true := by simp; omega
              obtain ⟨g, o, rfl, hg, z0, z1, z2⟩ := HRR.out.tok hlt
              have ht1 : (((ts[k].pos : Nat) : Int) == ((s.size : Nat) : Int)) = false := beq_eq_false_iff_ne.2 (by have := HNE.out k ts[k] (List.getElem?_eq_getElem hlt); rw [size_len] at this; omega)
              generalize ts[k].pos = P at *
              generalize ts[k].kind = K at *
              go_wp2_with fail
              go_quiet (fail)
              go_wp2_with fail
              go_roundw
              case rel => exact ⟨k + 1, _, by omega, by go_num, rfl⟩
              case measure => simp [intOf]; omega
            · have dl : decide ((k : Int) < (ts.length : Int)) = false := by simp; omega
              go_wp2_with fail
              go_ret
              exact ⟨rfl, below_drewN b4w _⟩
    · have hds : parseD s.data.toList = [(er, po)] := by
        unfold parseD
        rw [hL]
        exact if_neg he
      have HDS := Lib.hid hds
      have t1 : (er != 0) = true := by simp [he]
      have t2 : (er == 0) = false := by simp [he]
      clear hL hds he
      go_enter Tryd.func6, Tryd.ntmps6
      go_wp2_with (go_at_call 8; refine (HH.out).mono ?_; rintro e w1 ⟨rfl, b1⟩; clear HH)
      have HRL := Lib.hid (fun (_ : Nat) => rlex_val w1 hs HL.out)
      go_wp2_with (go_at_call 9; refine (HRL.out 0).mono ?_; rintro e w2 ⟨A, c, rfl, o2, b2⟩; clear HRL)
      have b12 := b1.trans (b2.mono b1.size)
      have HP := Lib.hid (fun (_ : Nat) => parse_env s w2 (HENV.out.below b12) (by omega))
      clear o2
      go_wp2_with (go_at_call 11; refine (HP.out 0).mono ?_; rintro e w3 ⟨hb3, l1, f1, p1, r1, d1', rfl, hP1, hD1⟩; rw [HDS.out] at hD1; obtain ⟨lA, lC, rfl⟩ := hP1.lats.slice; obtain ⟨fA, fC, rfl⟩ := hP1.funs.slice; obtain ⟨pA, pC, rfl⟩ := hP1.preds.slice; obtain ⟨rA, rC, rfl⟩ := hP1.rules.slice; clear hP1 HP; have hd0 := hD1.at (k := 0) rfl; obtain ⟨dg, dof, dC, rfl, hdg, c0, c1⟩ := hd0; clear hD1; replace c0 : w3.cell? ⟨dg, dof, none⟩ = some (.int .i64 er) := by simpa using c0)
      go_ret
      exact ⟨rfl, (b12.trans (hb3.mono b12.size)).alloc (Nat.le_trans b12.size hb3.size) _⟩
  · have d1 : decide ((9000 : Int) < (s.size : Int)) = true := by simp; omega
    go_enter Tryd.func6, Tryd.ntmps6
    go_wp2_with (go_at_call 8; refine (HH.out).mono ?_; rintro e w1 ⟨rfl, b1⟩; clear HH)
    go_ret
    exact ⟨rfl, b1⟩
end parserFirst
end Go.Proofs.YtpcmlkpnjimbiaaDoor
