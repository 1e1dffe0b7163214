/- The walk of ParserLayout. -/
import Derived.Test.YtpcmlkpnjimbiaaDoorPLay1
import Derived.Test.YtpcmlkpnjimbiaaDoorPLay0
import Derived.Test.YtpcmlkpnjimbiaaDoorPMoved
import Derived.Test.YtpcmlkpnjimbiaaDoorPHeadW
import Derived.Test.YtpcmlkpnjimbiaaDoorRefLex
import Derived.Test.YtpcmlkpnjimbiaaDoorPEq3
import Derived.Test.YtpcmlkpnjimbiaaDoorPDiags
import Derived.Test.YtpcmlkpnjimbiaaDoorPBnd
import Derived.Test.YtpcmlkpnjimbiaaDoorInv4
namespace Go.Proofs.YtpcmlkpnjimbiaaDoor
set_option linter.unusedVariables false
set_option linter.unusedSimpArgs false
open Go.RowKit
namespace parserLayout
def AgT (Q : Ap.Pg) : Value → World → Prop := fun x W => ∃ l f p r, x = .agg #[l, f, p, r] ∧ PgR W l f p r Q
theorem agT_on {J : World → Prop} (Q : Ap.Pg) : Lasting J Onward (AgT Q) := fun x w w' _ hb ⟨l, f, p, r, e, h⟩ => ⟨l, f, p, r, e, h.next hb⟩
theorem rlex_t {s : ByteArray} (w : World) (hm : s.size ≤ 9223372036854775807) :
  Calls Tryd.prog 9 #[.string s] w fun e w' => ∃ (A : Option Addr) (c : Nat) (m : Int), e = .returned (.tuple #[.slice A (Lx.lex s.data.toList).1.length c, .int .i64 (Lx.lex s.data.toList).2.1, .int .i64 m]) ∧ TkR w' (.slice A (Lx.lex s.data.toList).1.length c) (Lx.lex s.data.toList).1 ∧ Below w.heap.size w w' := by
 refine (rlex_any s w hm).mono ?_
 intro e w' h
 unfold Lexed at h
 obtain ⟨A, c, h1, h2, h3⟩ := h
 exact ⟨A, c, _, h1, TRow.of_own h2, h3⟩
theorem same_fit {P : Ap.Pg} (hF : Ap.Fit 900000 P) (l f p r l' f' p' r' : Value) (w : World) (h : PgR w l f p r P) (h' : PgR w l' f' p' r' P) :
  Calls Tryd.prog 12 #[.agg #[l, f, p, r], .agg #[l', f', p', r']] w fun e w' => e = .returned (.bool true) ∧ Below w.heap.size w w' :=
 pg_same P l f p r l' f' p' r' w (by have := hF.lens; omega) hF.lats hF.funs hF.preds (fun x hx => ⟨by have := (hF.rules x hx).1; omega, (hF.rules x hx).2⟩) h h'
set_option maxHeartbeats 8000000 in
set_option maxRecDepth 100000 in
theorem law_walk (s : ByteArray) (ga : Option Addr) (glen gcap : Nat) (zs : List Int) (w : World) (h : Env w) (hs : s.size ≤ 9223372036854775807) (hrow : IsRow .u8 w ga glen gcap zs) :
  Calls Tryd.prog 3 #[.string s, .slice ga glen gcap] w fun e w' => e = .returned (.bool true) ∧ Below w.heap.size w w' := by
 obtain ⟨hgl, hby⟩ := bytes_of hrow
 clear hrow
 have HBY := Lib.hid hby
 have HGL := Lib.hid hgl
 clear hby hgl
 have HH := Lib.hid (phead_any w h)
 have HENV := Lib.hid h
 clear h
 obtain ⟨ts, hts⟩ : ∃ ts, (Lx.lex s.data.toList).1 = ts := ⟨_, rfl⟩
 obtain ⟨er, her⟩ : ∃ er, (Lx.lex s.data.toList).2.1 = er := ⟨_, rfl⟩
 obtain ⟨ds, hds⟩ : ∃ ds, parseD s.data.toList = ds := ⟨_, rfl⟩
 obtain ⟨Q, hQ⟩ : ∃ Q, parseP s.data.toList = Q := ⟨_, rfl⟩
 have HTS := Lib.hid hts
 have HER := Lib.hid her
 have HDS := Lib.hid hds
 have HQ := Lib.hid hQ
 clear hts her hds hQ
 go_enter Tryd.func3, Tryd.ntmps3
 go_wp2_with (go_at_call 8; refine (HH.out).mono ?_; rintro e w1 ⟨rfl, bb⟩; clear HH)
 ·go_ret
  exact ⟨rfl, bb⟩
 ·have hlen : (s.size : Int) ≤ 9000 := by assumption
  have hs9 : s.size ≤ 9000 := by omega
  have HLX := Lib.hid (fun (_ : Nat) => rlex_t (s := s) w1 hs)
  rw [HTS.out, HER.out] at HLX
  go_wp2_with (go_at_call 9; refine (HLX.out 0).mono ?_; rintro e w2 ⟨LA1, lc1, lm1, rfl, ht2, hb2⟩; replace bb := bb.trans (hb2.mono bb.size); clear HLX)
  ·go_ret
   exact ⟨rfl, bb⟩
  ·have er0 : er = 0 := by simpa using (show (er != 0) = false by assumption)
   have he : (Lx.lex s.data.toList).2.1 = 0 := by rw [HER.out]; exact er0
   have hmax := lex_lens he
   rw [HTS.out] at hmax
   have h16 : ∀ t ∈ ts, t.text.length ≤ 16 := by
    rw [← HTS.out]
    intro t ht
    obtain ⟨k, hk, rfl⟩ := List.getElem_of_mem ht
    exact (Lx.own_of he hk).2.2
   have HSP := Lib.hid (spread_any ts _ ga glen gcap zs w2 hmax h16 HGL.out ht2 (HBY.out.below bb))
   have HE := Lib.hid he
   have HT2 := Lib.hid ht2
   clear h16 er0 he ht2
   go_wp2_with (go_at_call 10; refine HSP.out.mono ?_; rintro e w3 ⟨S, rfl, hS1, hS2, hb3⟩; replace bb := bb.trans (hb3.mono bb.size); have HS2 := Lib.hid hS2; clear hS2 HSP)
   ·go_ret
    exact ⟨rfl, bb⟩
   ·have hS8 : (S.size : Int) ≤ 8000 := by assumption
    obtain ⟨hx, hP, hDl, hD⟩ := parse_lay HE.out (gp glen zs) (gp_shut glen zs) (S := S.data.toList) (by rw [HTS.out]; exact HS2.out) (by rw [size_len]; omega)
    obtain ⟨us, hus⟩ : ∃ us, (Lx.lex S.data.toList).1 = us := ⟨_, rfl⟩
    have hul : us.length = ts.length := by rw [← hus, hx, HTS.out]; exact Lx.rep_length _ _ _ _
    have hu0 : (Lx.lex S.data.toList).2.1 = 0 := by rw [hx]
    obtain ⟨dg, hdg⟩ : ∃ dg, parseD S.data.toList = dg := ⟨_, rfl⟩
    rw [HTS.out, hus, HQ.out] at hP
    rw [HDS.out, hdg] at hDl
    rw [HTS.out, hus, HDS.out, hdg, size_len] at hD
    obtain ⟨QM, hQM⟩ : ∃ QM, Q.to (mvTo ts us) = QM := ⟨_, rfl⟩
    rw [hQM] at hP
    have hfq : Ap.Fit 4000 Q := by rw [← HQ.out]; exact parse_fit _
    have hfm : Ap.Fit 4000 QM := by rw [← hP]; exact parse_fit _
    have hdl := (parse_diags HE.out).1
    rw [HDS.out] at hdl
    have HUS := Lib.hid hus
    have HUL := Lib.hid hul
    have HU0 := Lib.hid hu0
    have HDG := Lib.hid hdg
    have HP := Lib.hid hP
    have HDL := Lib.hid hDl
    have HD := Lib.hid hD
    have HQM := Lib.hid hQM
    have HFQ := Lib.hid hfq
    have HFM := Lib.hid hfm
    clear hx hus hul hu0 hdg hP hDl hD hQM hfq hfm
    have HLX := Lib.hid (fun (_ : Nat) => rlex_t (s := S) w3 (by omega))
    rw [HUS.out, HU0.out, HUL.out] at HLX
    go_wp2_with (go_at_call 9; refine (HLX.out 0).mono ?_; rintro e w4 ⟨LA2, lc2, lm2, rfl, ht4, hb4⟩; replace bb := bb.trans (hb4.mono bb.size); clear HLX)
    have HT4 := Lib.hid ht4
    have HB4 := Lib.hid (hb3.trans (hb4.mono hb3.size))
    clear ht4 hb4 hb3
    have HC := Lib.hid (fun (_ : Nat) => parse_env s w4 (HENV.out.below bb) (by omega))
    go_wp2_with (go_at_call 11; refine (HC.out 0).mono ?_; rintro e w5 ⟨hbw5, lw5, fw5, pw5, rw5, dw5, rfl, hPw5, hDw5⟩; rw [HQ.out] at hPw5; rw [HDS.out] at hDw5; obtain ⟨qaA, qaC, rfl⟩ := hPw5.lats.slice; obtain ⟨qbA, qbC, rfl⟩ := hPw5.funs.slice; obtain ⟨qcA, qcC, rfl⟩ := hPw5.preds.slice; obtain ⟨qdA, qdC, rfl⟩ := hPw5.rules.slice; obtain ⟨qeA, qeC, qev⟩ := TRow.slice hDw5; subst qev; replace bb := bb.trans (hbw5.mono bb.size); clear HC)
    have x13 := At.new w5 34 #[.slice qaA Q.lats.length qaC, .slice qbA Q.funs.length qbC, .slice qcA Q.preds.length qcC, .slice qdA Q.rules.length qdC]
    have hc := below1 w5 (.cells #[.slice qaA Q.lats.length qaC, .slice qbA Q.funs.length qbC, .slice qcA Q.preds.length qcC, .slice qdA Q.rules.length qdC] 34)
    generalize hwb : w5.alloc (.cells #[.slice qaA Q.lats.length qaC, .slice qbA Q.funs.length qbC, .slice qcA Q.preds.length qcC, .slice qdA Q.rules.length qdC] 34) = w5b at x13 hc ⊢
    clear hwb
    replace bb := bb.trans (hc.mono bb.size)
    have HB5 := Lib.hid (hbw5.trans (hc.mono hbw5.size)); have HPA := Lib.hid (hPw5.next hc); have HX13 := Lib.hid x13; have HDA := Lib.hid (TRow.below hDw5 hc); clear x13 hPw5 hDw5 hc hbw5
    have HC := Lib.hid (fun (_ : Nat) => parse_env S w5b (HENV.out.below bb) (by omega))
    go_wp2_with (go_at_call 11; refine (HC.out 0).mono ?_; rintro e w6 ⟨hbw6, lw6, fw6, pw6, rw6, dw6, rfl, hPw6, hDw6⟩; rw [HP.out] at hPw6; rw [HDG.out] at hDw6; obtain ⟨raA, raC, rfl⟩ := hPw6.lats.slice; obtain ⟨rbA, rbC, rfl⟩ := hPw6.funs.slice; obtain ⟨rcA, rcC, rfl⟩ := hPw6.preds.slice; obtain ⟨rdA, rdC, rfl⟩ := hPw6.rules.slice; obtain ⟨reA, reC, qev⟩ := TRow.slice hDw6; rw [← HDL.out] at qev; subst qev; replace bb := bb.trans (hbw6.mono bb.size); clear HC)
    have x15 := At.new w6 34 #[.slice raA QM.lats.length raC, .slice rbA QM.funs.length rbC, .slice rcA QM.preds.length rcC, .slice rdA QM.rules.length rdC]
    have hc := below1 w6 (.cells #[.slice raA QM.lats.length raC, .slice rbA QM.funs.length rbC, .slice rcA QM.preds.length rcC, .slice rdA QM.rules.length rdC] 34)
    generalize hwb : w6.alloc (.cells #[.slice raA QM.lats.length raC, .slice rbA QM.funs.length rbC, .slice rcA QM.preds.length rcC, .slice rdA QM.rules.length rdC] 34) = wz at x15 hc ⊢
    clear hwb
    replace bb := bb.trans (hc.mono bb.size)
    have hb6 := hbw6.trans (hc.mono hbw6.size)
    have hpb := hPw6.next hc
    have hdb := TRow.below hDw6 hc
    have hpa := HPA.out.next hb6
    have hda := TRow.below HDA.out hb6
    have x13 := HX13.out.next hb6
    have hb46 := HB5.out.trans (hb6.mono HB5.out.size)
    have ht4 := TRow.below HT4.out hb46
    have ht2 := TRow.below HT2.out (HB4.out.trans (hb46.mono HB4.out.size))
    have HMV : Hid (∀ W, Below wz.heap.size wz W → Calls Tryd.prog 13 #[.agg #[.slice qaA Q.lats.length qaC, .slice qbA Q.funs.length qbC, .slice qcA Q.preds.length qcC, .slice qdA Q.rules.length qdC], .slice LA1 ts.length lc1, .slice LA2 ts.length lc2] W fun e w' => ∃ l' f' p' r', e = .returned (.agg #[l', f', p', r']) ∧ PgR w' l' f' p' r' QM ∧ Below W.heap.size W w') :=
     Lib.hid fun W hb => (moved_any Q _ _ _ _ _ _ ts us W (HFQ.out.mono (by omega)) ⟨by omega, by have := HUL.out; omega⟩ (hpa.next hb) (TRow.below ht2 hb) (TRow.below ht4 hb)).mono (by
      rintro e w' ⟨l, f, p, r, rfl, hm⟩
      exact ⟨l, f, p, r, rfl, by rw [← HQM.out]; exact hm.pg, hm.low⟩)
    have HSM := Lib.hid (fun (l f p r : Value) (W : World) (hb : Below wz.heap.size wz W) (hp : PgR W l f p r QM) => same_fit (P := QM) (HFM.out.mono (by omega)) l f p r _ _ _ _ W hp (hpb.next hb))
    have ua0 := x13.cell 0
    have ua1 := x13.cell 1
    have ua2 := x13.cell 2
    have ua3 := x13.cell 3
    have ub0 := x15.cell 0
    have ub1 := x15.cell 1
    have ub2 := x15.cell 2
    have ub3 := x15.cell 3
    simp only [List.getElem?_toArray, List.getElem?_cons_zero, List.getElem?_cons_succ] at ua0 ua1 ua2 ua3 ub0 ub1 ub2 ub3
    have HDA2 := Lib.hid hda
    have HDB2 := Lib.hid hdb
    have HT22 := Lib.hid ht2
    have HT42 := Lib.hid ht4
    have HBB := Lib.hid bb
    obtain ⟨wr, hwr⟩ : ∃ wr, wr = wz := ⟨_, rfl⟩
    subst hwr
    clear x13 x15 hpa hpb hda hdb ht2 ht4 hb46 hb6 hbw6 hPw6 hDw6 hc bb HT2 HT4 HDA HX13 HPA
    go_wp2_with fail
    refine' wp_region_each _ (Below wr.heap.size wr) (Onward) (Vl :: Vl :: Vl :: Vl :: Vl :: Vl :: Vl :: Vl :: Vl :: Vl :: Vl :: Vl :: Vl :: Vl :: Vl :: Vl :: Vl :: Vl :: Vl :: Vl :: AgT QM :: Vl :: Vl :: Vl :: Vl :: []) ?hF (by kernel_rfl) (by kernel_rfl) (by kernel_rfl) ((Below.refl _ _).drew) (lasting_cons (lasting_vl) (lasting_cons (lasting_vl) (lasting_cons (lasting_vl) (lasting_cons (lasting_vl) (lasting_cons (lasting_vl) (lasting_cons (lasting_vl) (lasting_cons (lasting_vl) (lasting_cons (lasting_vl) (lasting_cons (lasting_vl) (lasting_cons (lasting_vl) (lasting_cons (lasting_vl) (lasting_cons (lasting_vl) (lasting_cons (lasting_vl) (lasting_cons (lasting_vl) (lasting_cons (lasting_vl) (lasting_cons (lasting_vl) (lasting_cons (lasting_vl) (lasting_cons (lasting_vl) (lasting_cons (lasting_vl) (lasting_cons (lasting_vl) (lasting_cons (agT_on _) (lasting_cons (lasting_vl) (lasting_cons (lasting_vl) (lasting_cons (lasting_vl) (lasting_cons (lasting_vl) (lasting_none)))))))))))))))))))))))))) ?hops ?hend
    case hF => (intro v; simp only [over, Act.put, List.setIfInBounds_toArray, List.set_cons_zero, List.set_cons_succ, Nat.zero_add, Nat.reduceAdd]; exact rfl)
    case hops =>
     refine ⟨?_, ?_⟩
     ·intro v w' hj hd hs K hK
      have hk := hK.out
      simp only [Act.put, List.setIfInBounds_toArray, List.set_cons_zero, List.set_cons_succ] at hk
      have HK := Lib.hid hk
      clear hd hs hk hK
      go_simp
      exact HK.out _ _ hj.out (Below.refl _ _) (show _ = _ from rfl)
     refine ⟨?_, ?_⟩
     ·intro v w' hj hd hs K hK
      have t0 : v 0 = _ := hd.out 0 (by kernel_rfl)
      have hk := hK.out
      simp only [t0, Act.put, List.setIfInBounds_toArray, List.set_cons_zero, List.set_cons_succ] at hk
      have HK := Lib.hid hk
      clear hd hs hk hK
      go_simp
      exact HK.out _ _ hj.out (Below.refl _ _) (show _ = _ from rfl)
     refine ⟨?_, ?_⟩
     ·intro v w' hj hd hs K hK
      have t1 : v 1 = _ := hd.out 1 (by kernel_rfl)
      have hk := hK.out
      simp only [t1, Act.put, List.setIfInBounds_toArray, List.set_cons_zero, List.set_cons_succ] at hk
      have HK := Lib.hid hk
      clear hd hs hk hK
      go_simp
      exact HK.out _ _ hj.out (Below.refl _ _) (show _ = _ from rfl)
     refine ⟨?_, ?_⟩
     ·intro v w' hj hd hs K hK
      have t2 : v 2 = _ := hd.out 2 (by kernel_rfl)
      have hk := hK.out
      simp only [t2, Act.put, List.setIfInBounds_toArray, List.set_cons_zero, List.set_cons_succ] at hk
      have HK := Lib.hid hk
      clear hd hs hk hK
      go_simp
      exact HK.out _ _ hj.out (Below.refl _ _) (show _ = _ from rfl)
     refine ⟨?_, ?_⟩
     ·intro v w' hj hd hs K hK
      have t2 : v 2 = _ := hd.out 2 (by kernel_rfl)
      have t3 : v 3 = _ := hd.out 3 (by kernel_rfl)
      have hk := hK.out
      simp only [t2, t3, Act.put, List.setIfInBounds_toArray, List.set_cons_zero, List.set_cons_succ] at hk
      have HK := Lib.hid hk
      clear hd hs hk hK
      go_simp
      exact HK.out _ _ hj.out (Below.refl _ _) (show _ = _ from rfl)
     refine ⟨?_, ?_⟩
     ·intro v w' hj hd hs K hK
      have t2 : v 2 = _ := hd.out 2 (by kernel_rfl)
      have hk := hK.out
      simp only [t2, Act.put, List.setIfInBounds_toArray, List.set_cons_zero, List.set_cons_succ] at hk
      have HK := Lib.hid hk
      clear hd hs hk hK
      go_simp
      exact HK.out _ _ hj.out (Below.refl _ _) (show _ = _ from rfl)
     refine ⟨?_, ?_⟩
     ·intro v w' hj hd hs K hK
      have t2 : v 2 = _ := hd.out 2 (by kernel_rfl)
      have t5 : v 5 = _ := hd.out 5 (by kernel_rfl)
      have hk := hK.out
      simp only [t2, t5, Act.put, List.setIfInBounds_toArray, List.set_cons_zero, List.set_cons_succ] at hk
      have HK := Lib.hid hk
      clear hd hs hk hK
      go_simp
      exact HK.out _ _ hj.out (Below.refl _ _) (show _ = _ from rfl)
     refine ⟨?_, ?_⟩
     ·intro v w' hj hd hs K hK
      have t2 : v 2 = _ := hd.out 2 (by kernel_rfl)
      have t4 : v 4 = _ := hd.out 4 (by kernel_rfl)
      have t6 : v 6 = _ := hd.out 6 (by kernel_rfl)
      have hk := hK.out
      simp only [t2, t4, t6, Act.put, List.setIfInBounds_toArray, List.set_cons_zero, List.set_cons_succ] at hk
      have HK := Lib.hid hk
      clear hd hs hk hK
      go_simp
      exact HK.out _ _ hj.out (Below.refl _ _) (show _ = _ from rfl)
     refine ⟨?_, ?_⟩
     ·intro v w' hj hd hs K hK
      have t2 : v 2 = _ := hd.out 2 (by kernel_rfl)
      have t7 : v 7 = _ := hd.out 7 (by kernel_rfl)
      have hk := hK.out
      simp only [t2, t7, Act.put, List.setIfInBounds_toArray, List.set_cons_zero, List.set_cons_succ] at hk
      have HK := Lib.hid hk
      clear hd hs hk hK
      go_simp
      exact HK.out _ _ hj.out (Below.refl _ _) (show _ = _ from rfl)
     refine ⟨?_, ?_⟩
     ·intro v w' hj hd hs K hK
      have t8 : v 8 = _ := hd.out 8 (by kernel_rfl)
      have hk := hK.out
      simp only [t8, Act.put, List.setIfInBounds_toArray, List.set_cons_zero, List.set_cons_succ] at hk
      have HK := Lib.hid hk
      clear hd hs hk hK
      go_simp
      exact HK.out _ _ hj.out (Below.refl _ _) (show _ = _ from rfl)
     refine ⟨?_, ?_⟩
     ·intro v w' hj hd hs K hK
      have t9 : v 9 = _ := hd.out 9 (by kernel_rfl)
      have hk := hK.out
      simp only [t9, Act.put, List.setIfInBounds_toArray, List.set_cons_zero, List.set_cons_succ] at hk
      have HK := Lib.hid hk
      clear hd hs hk hK
      go_simp
      exact HK.out _ _ hj.out (Below.refl _ _) (show _ = _ from rfl)
     refine ⟨?_, ?_⟩
     ·intro v w' hj hd hs K hK
      have t9 : v 9 = _ := hd.out 9 (by kernel_rfl)
      have t10 : v 10 = _ := hd.out 10 (by kernel_rfl)
      have hk := hK.out
      simp only [t9, t10, Act.put, List.setIfInBounds_toArray, List.set_cons_zero, List.set_cons_succ] at hk
      have HK := Lib.hid hk
      clear hd hs hk hK
      go_simp
      exact HK.out _ _ hj.out (Below.refl _ _) (show _ = _ from rfl)
     refine ⟨?_, ?_⟩
     ·intro v w' hj hd hs K hK
      have t9 : v 9 = _ := hd.out 9 (by kernel_rfl)
      have hk := hK.out
      simp only [t9, Act.put, List.setIfInBounds_toArray, List.set_cons_zero, List.set_cons_succ] at hk
      have HK := Lib.hid hk
      clear hd hs hk hK
      go_simp
      exact HK.out _ _ hj.out (Below.refl _ _) (show _ = _ from rfl)
     refine ⟨?_, ?_⟩
     ·intro v w' hj hd hs K hK
      have t9 : v 9 = _ := hd.out 9 (by kernel_rfl)
      have t12 : v 12 = _ := hd.out 12 (by kernel_rfl)
      have hk := hK.out
      simp only [t9, t12, Act.put, List.setIfInBounds_toArray, List.set_cons_zero, List.set_cons_succ] at hk
      have HK := Lib.hid hk
      clear hd hs hk hK
      go_simp
      exact HK.out _ _ hj.out (Below.refl _ _) (show _ = _ from rfl)
     refine ⟨?_, ?_⟩
     ·intro v w' hj hd hs K hK
      have t9 : v 9 = _ := hd.out 9 (by kernel_rfl)
      have t11 : v 11 = _ := hd.out 11 (by kernel_rfl)
      have t13 : v 13 = _ := hd.out 13 (by kernel_rfl)
      have hk := hK.out
      simp only [t9, t11, t13, Act.put, List.setIfInBounds_toArray, List.set_cons_zero, List.set_cons_succ] at hk
      have HK := Lib.hid hk
      clear hd hs hk hK
      go_simp
      exact HK.out _ _ hj.out (Below.refl _ _) (show _ = _ from rfl)
     refine ⟨?_, ?_⟩
     ·intro v w' hj hd hs K hK
      have t9 : v 9 = _ := hd.out 9 (by kernel_rfl)
      have t14 : v 14 = _ := hd.out 14 (by kernel_rfl)
      have hk := hK.out
      simp only [t9, t14, Act.put, List.setIfInBounds_toArray, List.set_cons_zero, List.set_cons_succ] at hk
      have HK := Lib.hid hk
      clear hd hs hk hK
      go_simp
      exact HK.out _ _ hj.out (Below.refl _ _) (show _ = _ from rfl)
     refine ⟨?_, ?_⟩
     ·intro v w' hj hd hs K hK
      have t15 : v 15 = _ := hd.out 15 (by kernel_rfl)
      have hk := hK.out
      simp only [t15, Act.put, List.setIfInBounds_toArray, List.set_cons_zero, List.set_cons_succ] at hk
      have HK := Lib.hid hk
      clear hd hs hk hK
      go_simp
      exact HK.out _ _ hj.out (Below.refl _ _) (show _ = _ from rfl)
     refine ⟨?_, ?_⟩
     ·intro v w' hj hd hs K hK
      have t16 : v 16 = _ := hd.out 16 (by kernel_rfl)
      have yy0 := next_cell ua0 hj.out
      have yy1 := next_cell ua1 hj.out
      have yy2 := next_cell ua2 hj.out
      have yy3 := next_cell ua3 hj.out
      have hk := hK.out
      simp only [t16, Act.put, List.setIfInBounds_toArray, List.set_cons_zero, List.set_cons_succ] at hk
      have HK := Lib.hid hk
      clear hd hs hk hK
      go_simp
      exact HK.out _ _ hj.out (Below.refl _ _) (show _ = _ from rfl)
     refine ⟨?_, ?_⟩
     ·intro v w' hj hd hs K hK
      have t16 : v 16 = _ := hd.out 16 (by kernel_rfl)
      have hk := hK.out
      simp only [t16, Act.put, List.setIfInBounds_toArray, List.set_cons_zero, List.set_cons_succ] at hk
      have HK := Lib.hid hk
      clear hd hs hk hK
      go_simp
      exact HK.out _ _ hj.out (Below.refl _ _) (show _ = _ from rfl)
     refine ⟨?_, ?_⟩
     ·intro v w' hj hd hs K hK
      have t16 : v 16 = _ := hd.out 16 (by kernel_rfl)
      have hk := hK.out
      simp only [t16, Act.put, List.setIfInBounds_toArray, List.set_cons_zero, List.set_cons_succ] at hk
      have HK := Lib.hid hk
      clear hd hs hk hK
      go_simp
      exact HK.out _ _ hj.out (Below.refl _ _) (show _ = _ from rfl)
     refine ⟨?_, ?_⟩
     ·intro v w' hj hd hs K hK
      have t16 : v 16 = _ := hd.out 16 (by kernel_rfl)
      have t17 : v 17 = _ := hd.out 17 (by kernel_rfl)
      have t18 : v 18 = _ := hd.out 18 (by kernel_rfl)
      have t19 : v 19 = _ := hd.out 19 (by kernel_rfl)
      have hk := hK.out
      simp only [t16, t17, t18, t19, Act.put, List.setIfInBounds_toArray, List.set_cons_zero, List.set_cons_succ] at hk
      have HK := Lib.hid hk
      clear hd hs hk hK
      go_simp
      go_at_call 13
      refine (HMV.out w' hj.out).mono ?_
      rintro e wz ⟨l2, f2, p2, r2, rfl, hpz, hbz⟩
      exact HK.out _ _ (hj.out.trans (hbz.mono hj.out.size)) hbz ⟨_, _, _, _, rfl, hpz⟩
     refine ⟨?_, ?_⟩
     ·intro v w' hj hd hs K hK
      have t16 : v 16 = _ := hd.out 16 (by kernel_rfl)
      have yy0 := next_cell ub0 hj.out
      have yy1 := next_cell ub1 hj.out
      have yy2 := next_cell ub2 hj.out
      have yy3 := next_cell ub3 hj.out
      have hk := hK.out
      simp only [t16, Act.put, List.setIfInBounds_toArray, List.set_cons_zero, List.set_cons_succ] at hk
      have HK := Lib.hid hk
      clear hd hs hk hK
      go_simp
      exact HK.out _ _ hj.out (Below.refl _ _) (show _ = _ from rfl)
     refine ⟨?_, ?_⟩
     ·intro v w' hj hd hs K hK
      have t16 : v 16 = _ := hd.out 16 (by kernel_rfl)
      obtain ⟨l20, f20, p20, r20, t20, hp20⟩ : AgT QM (v 20) w' := hd.out 20 (by kernel_rfl)
      have t21 : v 21 = _ := hd.out 21 (by kernel_rfl)
      have hk := hK.out
      simp only [t16, t20, t21, Act.put, List.setIfInBounds_toArray, List.set_cons_zero, List.set_cons_succ] at hk
      have HK := Lib.hid hk
      clear hd hs hk hK
      go_simp
      go_at_call 12
      refine (HSM.out _ _ _ _ w' hj.out hp20).mono ?_
      rintro e wz ⟨rfl, hbz⟩
      exact HK.out _ _ (hj.out.trans (hbz.mono hj.out.size)) hbz (show _ = _ from rfl)
     refine ⟨?_, ?_⟩
     ·intro v w' hj hd hs K hK
      have t16 : v 16 = _ := hd.out 16 (by kernel_rfl)
      have t22 : v 22 = _ := hd.out 22 (by kernel_rfl)
      have hk := hK.out
      simp only [t16, t22, Act.put, List.setIfInBounds_toArray, List.set_cons_zero, List.set_cons_succ] at hk
      have HK := Lib.hid hk
      clear hd hs hk hK
      go_simp
      exact HK.out _ _ hj.out (Below.refl _ _) (show _ = _ from rfl)
     refine ⟨?_, ?_⟩
     ·intro v w' hj hd hs K hK
      have t16 : v 16 = _ := hd.out 16 (by kernel_rfl)
      have t23 : v 23 = _ := hd.out 23 (by kernel_rfl)
      have hk := hK.out
      simp only [t16, t23, Act.put, List.setIfInBounds_toArray, List.set_cons_zero, List.set_cons_succ] at hk
      have HK := Lib.hid hk
      clear hd hs hk hK
      go_simp
      exact HK.out _ _ hj.out (Below.refl _ _) (show _ = _ from rfl)
     trivial
    case hend =>
     intro v w9 hj hd
     have t24 : v 24 = _ := hd.out 24 (of_decide_eq_true (by kernel_rfl))
     simp only [t24]
     have HB9 := Lib.hid hj.out
     clear hd hj
     obtain ⟨wo, hwo⟩ : ∃ wo, wo = w9 := ⟨_, rfl⟩
     subst hwo
     go_wp2_with fail
     go_loopw [17] (fun i wr => ∃ (k : Nat), k ≤ ds.length ∧ i = .int .i64 k ∧ Below wo.heap.size wo wr) (fun i _ => ds.length - (intOf i).toNat)
     case atStart => exact ⟨0, by omega, rfl, Below.refl _ _⟩
     case round =>
      obtain ⟨k, hk, rfl, hbw⟩ := hrel
      by_cases h1 : k < ds.length
      ·obtain ⟨d, hd0⟩ : ∃ d, ds[k]? = some d := ⟨_, List.getElem?_eq_getElem h1⟩
       obtain ⟨g, hg0⟩ : ∃ g, dg[k]? = some g := ⟨_, List.getElem?_eq_getElem (by have := HDL.out; omega)⟩
       have hb9w := HB9.out.trans (hbw.mono HB9.out.size)
       obtain ⟨g1, o1, c1, ee, hq1, a0, a1⟩ := DgR.at (TRow.below HDA2.out hb9w) hd0
       injection ee with ee e8 e9
       clear e8
       subst ee
       subst e9
       have hDB : DgR wr (.slice reA dg.length reC) dg := by
        have h2 := TRow.below HDB2.out hb9w
        rw [HDL.out] at h2
        exact h2
       obtain ⟨g2, o2, c2, ee, hq2, z0, z1⟩ := DgR.at hDB hg0
       injection ee with ee e8 e9
       clear e8 hDB
       subst ee
       subst e9
       obtain ⟨q0, n, l1, l2, l3⟩ := HD.out k d g hd0 hg0
       rw [← q0] at z0
       obtain ⟨d0, d1⟩ := d
       obtain ⟨g0, g1'⟩ := g
       dsimp only at a0 a1 z0 z1 q0 l1 l2 l3
       have ht2 := TRow.below HT22.out hb9w
       have ht4 := TRow.below HT42.out hb9w
       have HL1 := Lib.hid l1
       have HL2 := Lib.hid l2
       have HL3 := Lib.hid l3
       have HBW := Lib.hid hbw
       have HH2 := Lib.hid ht2
       have HH4 := Lib.hid ht4
       have dk : decide ((k : Int) < (ds.length : Int)) = true := decide_eq_true (by omega)
       clear l1 l2 l3 q0 hd0 hg0 hb9w ht2 ht4
       obtain ⟨wi, hwi⟩ : ∃ wi, wi = wr := ⟨_, rfl⟩
       subst hwi
       go_wp2_with fail
       go_loopw [18, 19] (fun a i wr => ∃ (m : Nat) (x : Int), m ≤ ts.length ∧ a = .int .i64 x ∧ i = .int .i64 m ∧ Hid (x = if n < m then g1' else (S.size : Int)) ∧ Below wi.heap.size wi wr) (fun _ i _ => ts.length - (intOf i).toNat)
       case atStart => exact ⟨0, _, by omega, rfl, rfl, Lib.hid rfl, Below.refl _ _⟩
       case round =>
        obtain ⟨m, x, hm, rfl, rfl, HX, hbi⟩ := hrel
        have HBI := Lib.hid hbi
        by_cases h2 : m < ts.length
        ·obtain ⟨tk, htk⟩ : ∃ tk, ts[m]? = some tk := ⟨_, List.getElem?_eq_getElem h2⟩
         obtain ⟨uk, huk⟩ : ∃ uk, us[m]? = some uk := ⟨_, List.getElem?_eq_getElem (by have := HUL.out; omega)⟩
         have dm : decide ((m : Int) < (ts.length : Int)) = true := decide_eq_true (by omega)
         have nm : decide (m < ts.length) = true := decide_eq_true h2
         obtain ⟨g, o, c1, e1, hg, q1⟩ := (TRow.below HH2.out hbi).cells (by omega)
         obtain ⟨g', o', c1', e1', hg', q1'⟩ := (TRow.below HH4.out hbi).cells (by have := HUL.out; omega)
         have c0 := q1 _ _ (tkc_flat ts htk)
         have d0' := q1' _ _ (tkc_flat us huk)
         simp only [← Nat.add_assoc] at c0 d0'
         injection e1 with e1 e9 e3
         clear e9
         injection e1' with e1' e9 e3'
         clear e9
         subst e1; subst e1'; subst e3; subst e3'
         have a1r := next_cell a1 hbi
         have b1 : ∀ z : Held wr.heap.size wr, z.w.cell? ⟨g, o + m * 3 + 2, none⟩ = some (.int .i64 tk.pos) := fun z => z.cell hg c0
         have b2 : ∀ z : Held wr.heap.size wr, z.w.cell? ⟨g1, o1 + k * 2 + 1, none⟩ = some (.int .i64 d1) := fun z => z.cell (Nat.lt_of_lt_of_le hq1 hbi.size) a1r
         have hiff := HL1.out m tk htk
         have i0 : (0 : Int) ≤ (m : Int) := by omega
         have i1 : (m : Int) < (ts.length : Int) := by omega
         have i2 : (0 : Int) ≤ (k : Int) := by omega
         have i3 : (k : Int) < (ds.length : Int) := by omega
         by_cases hp : m = n
         ·have t1 : ((tk.pos : Int) == d1) = true := beq_iff_eq.2 (hiff.2 hp)
          have HV := Lib.hid (show (uk.pos : Int) = if n < m + 1 then g1' else (S.size : Int) by rw [if_pos (by omega)]; subst hp; exact (HL2.out uk huk).symm)
          clear hp hiff htk huk q1 q1' hbi c0 a1r
          go_wp2_with fail
          refine wp_region_held wr.heap.size wr (Below.refl _ _) (by kernel_rfl) (by kernel_rfl) ?_
          repeat (go_big_quiet_step (fail))
          refine wpQuiet_nil ?_
          rintro wt ⟨⟨_, bt⟩, rfl⟩
          have d0t := next_cell d0' bt
          have hbt := HBI.out.trans (bt.mono HBI.out.size)
          clear d0' b1 b2
          go_wp2_with fail
          go_roundw
          case rel => exact ⟨m + 1, _, by omega, rfl, by go_num, HV, hbt⟩
          case measure => simp [intOf]; omega
         ·have t1 : ((tk.pos : Int) == d1) = false := beq_eq_false_iff_ne.2 (fun e => hp (hiff.1 e))
          have HV := Lib.hid (show x = if n < m + 1 then g1' else (S.size : Int) by rw [HX.out]; split <;> split <;> first | rfl | (exfalso; omega))
          clear hp hiff htk huk q1 q1' hbi c0 a1r d0'
          go_wp2_with fail
          refine wp_region_held wr.heap.size wr (Below.refl _ _) (by kernel_rfl) (by kernel_rfl) ?_
          repeat (go_big_quiet_step (fail))
          refine wpQuiet_nil ?_
          rintro wt ⟨⟨_, bt⟩, rfl⟩
          have hbt := HBI.out.trans (bt.mono HBI.out.size)
          clear b1 b2
          go_wp2_with fail
          go_roundw
          case rel => exact ⟨m + 1, _, by omega, rfl, by go_num, HV, hbt⟩
          case measure => simp [intOf]; omega
        ·have dm : decide ((m : Int) < (ts.length : Int)) = false := decide_eq_false (by omega)
         have nm : decide (m < ts.length) = false := decide_eq_false h2
         have hxv : x = g1' := by
          rw [HX.out]
          split
          ·rfl
          ·exact (HL3.out (by have := HUL.out; omega)).symm
         obtain rfl := hxv
         have b0 : ∀ z : Held wr.heap.size wr, z.w.cell? ⟨g1, o1 + k * 2, none⟩ = some (.int .i64 d0) := fun z => z.cell (Nat.lt_of_lt_of_le hq1 hbi.size) (next_cell a0 hbi)
         have b1 : ∀ z : Held wr.heap.size wr, z.w.cell? ⟨g2, o2 + k * 2, none⟩ = some (.int .i64 d0) := fun z => z.cell (Nat.lt_of_lt_of_le hq2 hbi.size) (next_cell z0 hbi)
         have b2 : ∀ z : Held wr.heap.size wr, z.w.cell? ⟨g2, o2 + k * 2 + 1, none⟩ = some (.int .i64 x) := fun z => z.cell (Nat.lt_of_lt_of_le hq2 hbi.size) (next_cell z1 hbi)
         have t1 : (d0 != d0) = false := by simp
         have t2 : (x != x) = false := by simp
         have i2 : (0 : Int) ≤ (k : Int) := by omega
         have i3 : (k : Int) < (ds.length : Int) := by omega
         clear hbi
         go_wp2_with fail
         refine wp_region_held wr.heap.size wr (Below.refl _ _) (by kernel_rfl) (by kernel_rfl) ?_
         repeat (go_big_quiet_step (fail))
         refine wpQuiet_nil ?_
         rintro wt ⟨⟨_, bt⟩, rfl⟩
         have hbt := HBW.out.trans ((HBI.out.trans (bt.mono HBI.out.size)).mono HBW.out.size)
         clear b0 b1 b2
         go_wp2_with fail
         go_roundw
         case rel => exact ⟨k + 1, by omega, by go_num, hbt⟩
         case measure => simp [intOf]; omega
      ·have dk : decide ((k : Int) < (ds.length : Int)) = false := decide_eq_false (by omega)
       have hfin := HBB.out.trans ((HB9.out.trans (hbw.mono HB9.out.size)).mono HBB.out.size)
       go_wp2_with fail
       go_ret
       exact ⟨rfl, hfin⟩
end parserLayout
end Go.Proofs.YtpcmlkpnjimbiaaDoor
