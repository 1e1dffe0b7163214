/- The walk of ParserRecovery. -/
import Derived.Test.YtpcmlkpnjimbiaaDoorPRec0
import Derived.Test.YtpcmlkpnjimbiaaDoorPZero
import Derived.Test.YtpcmlkpnjimbiaaDoorPOffs
import Derived.Test.YtpcmlkpnjimbiaaDoorPHeadW
import Derived.Test.YtpcmlkpnjimbiaaDoorRefLex
import Derived.Test.YtpcmlkpnjimbiaaDoorInv4
namespace Go.Proofs.YtpcmlkpnjimbiaaDoor
set_option linter.unusedVariables false
set_option linter.unusedSimpArgs false
open Go.RowKit
namespace parserRecovery
def AgT (Q : Ap.Pg) : Value → World → Prop := fun x W => ∃ l f p r, x = .agg #[l, f, p, r] ∧ PgR W l f p r Q
theorem agT_on {J : World → Prop} (Q : Ap.Pg) : Lasting J Onward (AgT Q) := fun x w w' _ hb ⟨l, f, p, r, e, h⟩ => ⟨l, f, p, r, e, h.next hb⟩
theorem rlex_r {s : ByteArray} (w : World) (hm : s.size ≤ 9223372036854775807) :
  Calls Tryd.prog 9 #[.string s] w fun e w' => ∃ (A : Option Addr) (n c : Nat) (m : Int), e = .returned (.tuple #[.slice A n c, .int .i64 (Lx.lex s.data.toList).2.1, .int .i64 m]) ∧ Below w.heap.size w w' := by
 refine (rlex_any s w hm).mono ?_
 intro e w' h
 unfold Lexed at h
 obtain ⟨A, c, h1, _, h2⟩ := h
 exact ⟨A, _, c, _, h1, h2⟩
theorem app_data (a b : ByteArray) : (a ++ b).data.toList = a.data.toList ++ b.data.toList := by simp
theorem app_size (a b : ByteArray) : (a ++ b).size = a.size + b.size := ByteArray.size_append
theorem same_fit {P : Ap.Pg} (hF : Ap.Fit 900000 P) (l f p r l' f' p' r' : Value) (w : World) (h : PgR w l f p r P) (h' : PgR w l' f' p' r' P) :
  Calls Tryd.prog 12 #[.agg #[l, f, p, r], .agg #[l', f', p', r']] w fun e w' => e = .returned (.bool true) ∧ Below w.heap.size w w' :=
 pg_same P l f p r l' f' p' r' w (by have := hF.lens; omega) hF.lats hF.funs hF.preds (fun x hx => ⟨by have := (hF.rules x hx).1; omega, (hF.rules x hx).2⟩) h h'
theorem rem_nat (a n : Nat) : Int.tmod (a : Int) (n : Int) = ((a % n : Nat) : Int) := by
 rw [Int.tmod_eq_emod_of_nonneg (by omega)]
 exact (Int.natCast_emod _ _).symm
set_option maxHeartbeats 8000000 in
set_option maxRecDepth 100000 in
theorem law_walk (s : ByteArray) (a : Int) (w : World) (h : Env w) (hs : s.size ≤ 9223372036854775807) (ha : (Lit.int .u16 a).wf = true) :
  Calls Tryd.prog 5 #[.string s, .int .u16 a] w fun e w' => e = .returned (.bool true) ∧ Below w.heap.size w w' := by
 have HH := Lib.hid (phead_any w h)
 have HENV := Lib.hid h
 clear h
 by_cases h81 : s.size ≤ 9000
 ·have d1 : decide ((9000 : Int) < (s.size : Int)) = false := decide_eq_false (by omega)
  obtain ⟨na, rfl, hna⟩ : ∃ na : Nat, a = (na : Int) ∧ na < 65536 := by
   simp [Lit.wf, IntKind.min, IntKind.max, IntKind.signed, IntKind.bits] at ha
   exact ⟨a.toNat, by omega, by omega⟩
  clear ha
  obtain ⟨ds, hds⟩ : ∃ ds, parseD s.data.toList = ds := ⟨_, rfl⟩
  have HDS := Lib.hid hds
  cases ds with
  | cons d0 dl =>
   clear hds
   have d2 : decide ((0 : Int) < ((d0 :: dl).length : Int)) = true := decide_eq_true (by rw [List.length_cons]; omega)
   have n2 : decide (0 < (d0 :: dl).length) = true := decide_eq_true (by simp)
   go_enter Tryd.func5, Tryd.ntmps5
   go_wp2_with (go_at_call 8; refine (HH.out).mono ?_; rintro e w1 ⟨rfl, bb⟩; clear HH)
   have HC := Lib.hid (fun (_ : Nat) => parse_env s w1 (HENV.out.below bb) (by omega))
   obtain ⟨nd, hnd⟩ : ∃ nd, (d0 :: dl).length = nd := ⟨_, rfl⟩
   rw [hnd] at d2 n2
   have HND := Lib.hid hnd
   clear hnd
   go_wp2_with (go_at_call 11; refine (HC.out 0).mono ?_; rintro e w2 ⟨hb2, l, f, p, r, d, rfl, hP, hD⟩; rw [HDS.out] at hD; obtain ⟨lA, lC, rfl⟩ := hP.lats.slice; obtain ⟨fA, fC, rfl⟩ := hP.funs.slice; obtain ⟨pA, pC, rfl⟩ := hP.preds.slice; obtain ⟨rA, rC, rfl⟩ := hP.rules.slice; obtain ⟨dA, dC, hdv⟩ := TRow.slice hD; rw [HND.out] at hdv; subst hdv; replace bb := bb.trans (hb2.mono bb.size); clear HC hP hD)
   go_ret
   exact ⟨rfl, bb.trans ((below1 _ _).mono bb.size)⟩
  | nil =>
   have HME := Lib.hid (fun (z : Int) (hz : z ∈ (parseP s.data.toList).offs ++ [(s.size : Int)]) => mend_at hds (by rw [size_len]; exact hz))
   obtain ⟨O, hO⟩ : ∃ O, (parseP s.data.toList).offs = O := ⟨_, rfl⟩
   have HO := Lib.hid hO
   rw [hO] at HME
   obtain ⟨nO, hnO⟩ : ∃ nO, O.length = nO := ⟨_, rfl⟩
   have hnO2 : nO ≤ 16000 := by
    have := (parse_fit s.data.toList).lens
    rw [← hnO, ← hO]
    unfold Ap.Pg.offs
    simp only [List.length_append, List.length_map]
    omega
   have HNO := Lib.hid hnO
   obtain ⟨ix, hix⟩ : ∃ ix, na % (nO + 1) = ix := ⟨_, rfl⟩
   have hix2 : ix < nO + 1 := by rw [← hix]; exact Nat.mod_lt _ (by omega)
   obtain ⟨N, hN⟩ : ∃ N, nO + 1 = N := ⟨_, rfl⟩
   have hrem : Int.tmod (na : Int) (N : Int) = (ix : Int) := by rw [rem_nat, ← hN, hix]
   have HNN := Lib.hid hN
   obtain ⟨z, hz⟩ : ∃ z, (O ++ [(s.size : Int)])[ix]? = some z := ⟨_, List.getElem?_eq_getElem (by rw [List.length_append, hnO]; simpa using hix2)⟩
   obtain ⟨P, rfl, hPl, hME⟩ := HME.out z (List.mem_of_getElem? hz)
   rw [size_len] at hPl
   have HME := Lib.hid hME
   have HZZ := Lib.hid hz
   obtain ⟨iN, hn0, hn1, hn2, hn3⟩ := info_parts int_info
   obtain ⟨B1, hB1⟩ : ∃ B1 : ByteArray, s.extract 0 P ++ ⟨#[10]⟩ = B1 := ⟨_, rfl⟩
   obtain ⟨S2, hS2⟩ : ∃ S2 : ByteArray, B1 ++ ⟨#[61, 32, 46, 32]⟩ ++ s.extract P s.size = S2 := ⟨_, rfl⟩
   have hB1s : B1.size = P + 1 := by rw [← hB1, app_size, ← size_len, ext_take, List.length_take, size_len]; show min P s.size + 1 = P + 1; omega
   have HB1 := Lib.hid hB1
   have HS2 := Lib.hid hS2
   have HSD : Hid (S2.data.toList = s.data.toList.take P ++ 10 :: eqDot (s.data.toList.drop P)) := Lib.hid (by
    rw [← hS2, ← hB1, app_data, app_data, app_data, ext_take, ext_drop]
    simp [eqDot])
   have hS2s : S2.size ≤ 1000000 := by
    rw [← hS2, app_size, app_size, hB1s, ← size_len (s.extract P s.size), ext_drop, List.length_drop, size_len]
    show P + 1 + 4 + (s.size - P) ≤ 1000000
    omega
   have HBS := Lib.hid hB1s
   clear hB1s
   have p0 : (0 : Int) ≤ (P : Int) := by omega
   have p1 : (P : Int) ≤ (s.size : Int) := by omega
   have p2 : decide ((P : Int) < 0) = false := decide_eq_false (by omega)
   have p3 : decide ((s.size : Int) < (P : Int)) = false := decide_eq_false (by omega)
   have p3n : decide (s.size < P) = false := decide_eq_false (by omega)
   have i0 : (0 : Int) ≤ (ix : Int) := by omega
   have i1 : (ix : Int) < (N : Int) := by omega
   have i6 : ¬ N = 0 := by omega
   have iw : IntKind.i64.wrap (na : Int) = (na : Int) := IntWalk.i64_in _ (by omega)
   obtain ⟨er, her⟩ : ∃ er, (Lx.lex (s.data.toList.take P ++ 10 :: eqDot (s.data.toList.drop P))).2.1 = er := ⟨_, rfl⟩
   have HER := Lib.hid her
   rw [her] at hME
   have HME := Lib.hid hME
   clear hz hO hnO hix hB1 hS2 hME hds hN her hix2
   go_enter Tryd.func5, Tryd.ntmps5
   go_wp2_with (go_at_call 8; refine (HH.out).mono ?_; rintro e w1 ⟨rfl, bb⟩; clear HH)
   have HC := Lib.hid (fun (_ : Nat) => parse_env s w1 (HENV.out.below bb) (by omega))
   go_wp2_with (go_at_call 11; refine (HC.out 0).mono ?_; rintro e w2 ⟨hb2, l, f, p, r, d, rfl, hP, hD⟩; rw [HDS.out] at hD; obtain ⟨lA, lC, rfl⟩ := hP.lats.slice; obtain ⟨fA, fC, rfl⟩ := hP.funs.slice; obtain ⟨pA, pC, rfl⟩ := hP.preds.slice; obtain ⟨rA, rC, rfl⟩ := hP.rules.slice; obtain ⟨dA, dC, rfl⟩ := TRow.slice hD; replace bb := bb.trans (hb2.mono bb.size); clear HC hD)
   obtain ⟨Q, hQ⟩ : ∃ Q, parseP s.data.toList = Q := ⟨_, rfl⟩
   rw [hQ] at hP ⊢
   have HQ := Lib.hid hQ
   have HFQ := Lib.hid (show Ap.Fit 4000 Q by rw [← hQ]; exact parse_fit _)
   clear hQ
   have x6 := At.new w2 34 #[.slice lA Q.lats.length lC, .slice fA Q.funs.length fC, .slice pA Q.preds.length pC, .slice rA Q.rules.length rC]
   have hc := below1 w2 (.cells #[.slice lA Q.lats.length lC, .slice fA Q.funs.length fC, .slice pA Q.preds.length pC, .slice rA Q.rules.length rC] 34)
   generalize hw3 : w2.alloc (.cells #[.slice lA Q.lats.length lC, .slice fA Q.funs.length fC, .slice pA Q.preds.length pC, .slice rA Q.rules.length rC] 34) = w3 at x6 hc ⊢
   clear hw3
   replace hP := hP.next hc
   replace bb := bb.trans (hc.mono bb.size)
   have HOF := Lib.hid (offsets_any Q _ _ _ _ w3 HFQ.out hP)
   have HP := Lib.hid hP
   have HX6 := Lib.hid x6
   clear hP x6 hc hb2
   go_wp2_with first
    | (at_builtin; refine wpList_append_own _ rfl _ _ 50 rfl w3.heap.size 3 iN (.int .i64 0) 1 8 Tryd.underlying50 hn0 hn1 hn2 hn3 rfl (by decide) _ _ _ rfl ho13 ⟨w4.heap.size, 0, none⟩ 1 1 [.int .i64 (s.size : Int)] rfl rfl ?c1 ?c2 ?c3 ?c4 ?c5 ?_)
    | (go_at_call 17; refine (HOF.out).mono ?_; rintro e w4 ⟨vo, rfl, ho, hb4⟩; rw [← HQ.out, HO.out, HNO.out] at ho; obtain ⟨oA, oC, rfl⟩ := own_len ho; have ho13 := ho.alloc (.cells #[.int .i64 (s.size : Int)] 3); have hsz4 := hb4.size; clear HOF)
   case c1 => exact At.news (xs := [.int .i64 (s.size : Int)]) (At.new _ _ _)
   case c2 => exact ic_one _
   case c3 => unfold maxLen; omega
   case c4 => omega
   case c5 => rw [alloc_size]; omega
   intro v5 w5 o5 g5 _
   have hb5 : Below w3.heap.size w3 w5 := (hb4.alloc hsz4 _).grown g5 (by rw [alloc_size]; omega) (fun q hq => (own_lt ho13 hq).1)
   rw [ic_snoc, HNN.out] at o5
   obtain ⟨xA, xC, hxv, -, -, hcells⟩ := own_cells o5
   subst hxv
   have hzc : (iCells (O ++ [(s.size : Int)]))[ix]? = some (.int .i64 (P : Int)) := by unfold iCells; rw [List.getElem?_map, HZZ.out]; rfl
   rcases hcells with hN0 | ⟨gx, rfl, hgx, hgx2, hcx⟩
   ·exact absurd hN0 i6
   have zc := hcx ix _ hzc
   have x6 := HX6.out.next hb5
   have HP5 := Lib.hid (HP.out.next hb5)
   have HX65 := Lib.hid x6
   replace bb := bb.trans (hb5.mono bb.size)
   clear x6 hcx hzc o5 g5 ho13 ho hb4 hb5 hsz4 HP HX6
   go_wp2_with fail
   rw [HB1.out, HS2.out]
   have HLX := Lib.hid (fun (_ : Nat) => rlex_r (s := S2) w5 (Nat.le_trans hS2s (by decide)))
   rw [HSD.out, HER.out] at HLX
   by_cases he : er = 0
   ·subst he
    obtain ⟨hD2, hP2⟩ := HME.out rfl
    rw [show (P : Int) + 1 = (B1.size : Int) by rw [HBS.out]; omega] at hD2
    have HD2 := Lib.hid hD2
    have HP2 := Lib.hid hP2
    clear hD2 hP2
    go_wp2_with (go_at_call 9; refine (HLX.out 0).mono ?_; rintro e w6 ⟨LA1, ln1, lc1, lm1, rfl, hb6⟩; clear HLX)
    replace bb := bb.trans (hb6.mono bb.size)
    have HC := Lib.hid (fun (_ : Nat) => parse_env S2 w6 (HENV.out.below bb) hS2s)
    go_wp2_with (go_at_call 11; refine (HC.out 0).mono ?_; rintro e w7 ⟨hb7, l, f, p, r, d, rfl, hP, hD⟩; rw [HSD.out] at hP hD; rw [HD2.out] at hD; obtain ⟨mA, mC, rfl⟩ := hP.lats.slice; obtain ⟨gA, gC, rfl⟩ := hP.funs.slice; obtain ⟨qA, qC, rfl⟩ := hP.preds.slice; obtain ⟨tA, tC, rfl⟩ := hP.rules.slice; obtain ⟨eA, eC, rfl⟩ := TRow.slice hD; clear HC)
    obtain ⟨Q2, hQ2⟩ : ∃ Q2, parseP (s.data.toList.take P ++ 10 :: eqDot (s.data.toList.drop P)) = Q2 := ⟨_, rfl⟩
    have HFQ2 := Lib.hid (show Ap.Fit 4000 Q2 by rw [← hQ2]; exact parse_fit _)
    rw [hQ2] at hP HP2 ⊢
    rw [HQ.out] at HP2
    clear hQ2
    have hb57 := hb6.trans (hb7.mono hb6.size)
    have x6 := HX65.out.next hb57
    have hPQ := HP5.out.next hb57
    have x15 := At.new w7 34 #[.slice mA Q2.lats.length mC, .slice gA Q2.funs.length gC, .slice qA Q2.preds.length qC, .slice tA Q2.rules.length tC]
    have hc := below1 w7 (.cells #[.slice mA Q2.lats.length mC, .slice gA Q2.funs.length gC, .slice qA Q2.preds.length qC, .slice tA Q2.rules.length tC] 34)
    generalize hw8 : w7.alloc (.cells #[.slice mA Q2.lats.length mC, .slice gA Q2.funs.length gC, .slice qA Q2.preds.length qC, .slice tA Q2.rules.length tC] 34) = w8 at x15 hc ⊢
    clear hw8
    replace x6 := x6.next hc
    replace hPQ := hPQ.next hc
    replace hP := hP.next hc
    replace hD := TRow.below hD hc
    replace bb := (bb.trans (hb7.mono bb.size)).trans (hc.mono (bb.trans (hb7.mono bb.size)).size)
    have HONE := Lib.hid (fun (W : World) (hb : Below w8.heap.size w8 W) => one_same _ 50 (B1.size : Int) W (TRow.below hD hb))
    have HZ1 := Lib.hid (fun (W : World) (hb : Below w8.heap.size w8 W) => zero_any Q _ _ _ _ W (HFQ.out.mono (by omega)) (hPQ.next hb))
    have HZ2 := Lib.hid (fun (W : World) (hb : Below w8.heap.size w8 W) => zero_any Q2 _ _ _ _ W (HFQ2.out.mono (by omega)) (hP.next hb))
    rw [HP2.out] at HZ2
    have HSM := Lib.hid (same_fit ((HFQ.out.mono (by omega : 4000 ≤ 900000)).to (fun _ => 0)))
    have u0 := x6.cell 0
    have u1 := x6.cell 1
    have u2 := x6.cell 2
    have u3 := x6.cell 3
    have v0 := x15.cell 0
    have v1 := x15.cell 1
    have v2 := x15.cell 2
    have v3 := x15.cell 3
    simp only [List.getElem?_toArray, List.getElem?_cons_zero, List.getElem?_cons_succ] at u0 u1 u2 u3 v0 v1 v2 v3
    have HBB := Lib.hid bb
    clear x6 x15 hPQ hP hD bb hc hb6 hb7 hb57 zc hrem iw
    refine' wp_region_each _ (Below w8.heap.size w8) (Onward) (Vl :: Vl :: Vl :: Vl :: Vl :: Vl :: Vl :: Vl :: Vl :: AgT (Q.to (fun _ => 0)) :: Vl :: AgT (Q.to (fun _ => 0)) :: Vl :: Vl :: Vl :: []) ?hF (by kernel_rfl) (by kernel_rfl) (by kernel_rfl) ((Below.refl _ _).drew) (lasting_cons (lasting_vl) (lasting_cons (lasting_vl) (lasting_cons (lasting_vl) (lasting_cons (lasting_vl) (lasting_cons (lasting_vl) (lasting_cons (lasting_vl) (lasting_cons (lasting_vl) (lasting_cons (lasting_vl) (lasting_cons (lasting_vl) (lasting_cons (agT_on _) (lasting_cons (lasting_vl) (lasting_cons (agT_on _) (lasting_cons (lasting_vl) (lasting_cons (lasting_vl) (lasting_cons (lasting_vl) (lasting_none)))))))))))))))) ?hops ?hend
    case hF => (intro v; simp only [over, Act.put, List.setIfInBounds_toArray, List.set_cons_zero, List.set_cons_succ, Nat.zero_add, Nat.reduceAdd]; exact rfl)
    case hops =>
     refine ⟨?_, ?_⟩
     ·intro v w' hj hd hs K hK
      have hk := hK.out
      simp only [Act.put, List.setIfInBounds_toArray, List.set_cons_zero, List.set_cons_succ] at hk
      have HK := Lib.hid hk
      clear hd hs hk hK
      go_simp
      exact HK.out _ _ hj.out (Below.refl _ _) (show _ = _ from rfl)
     refine ⟨?_, ?_⟩
     ·intro v w' hj hd hs K hK
      have t0 : v 0 = _ := hd.out 0 (by kernel_rfl)
      have hk := hK.out
      simp only [t0, Act.put, List.setIfInBounds_toArray, List.set_cons_zero, List.set_cons_succ] at hk
      have HK := Lib.hid hk
      clear hd hs hk hK
      go_simp
      exact HK.out _ _ hj.out (Below.refl _ _) (show _ = _ from rfl)
     refine ⟨?_, ?_⟩
     ·intro v w' hj hd hs K hK
      have t1 : v 1 = _ := hd.out 1 (by kernel_rfl)
      have hk := hK.out
      simp only [t1, Act.put, List.setIfInBounds_toArray, List.set_cons_zero, List.set_cons_succ] at hk
      have HK := Lib.hid hk
      clear hd hs hk hK
      go_simp
      exact HK.out _ _ hj.out (Below.refl _ _) (show _ = _ from rfl)
     refine ⟨?_, ?_⟩
     ·intro v w' hj hd hs K hK
      have t1 : v 1 = _ := hd.out 1 (by kernel_rfl)
      have hk := hK.out
      simp only [t1, Act.put, List.setIfInBounds_toArray, List.set_cons_zero, List.set_cons_succ] at hk
      have HK := Lib.hid hk
      clear hd hs hk hK
      go_simp
      exact HK.out _ _ hj.out (Below.refl _ _) (show _ = _ from rfl)
     refine ⟨?_, ?_⟩
     ·intro v w' hj hd hs K hK
      have t1 : v 1 = _ := hd.out 1 (by kernel_rfl)
      have t3 : v 3 = _ := hd.out 3 (by kernel_rfl)
      have hk := hK.out
      simp only [t1, t3, Act.put, List.setIfInBounds_toArray, List.set_cons_zero, List.set_cons_succ] at hk
      have HK := Lib.hid hk
      clear hd hs hk hK
      go_simp
      exact HK.out _ _ hj.out (Below.refl _ _) (show _ = _ from rfl)
     refine ⟨?_, ?_⟩
     ·intro v w' hj hd hs K hK
      have t1 : v 1 = _ := hd.out 1 (by kernel_rfl)
      have t2 : v 2 = _ := hd.out 2 (by kernel_rfl)
      have t4 : v 4 = _ := hd.out 4 (by kernel_rfl)
      have hk := hK.out
      simp only [t1, t2, t4, Act.put, List.setIfInBounds_toArray, List.set_cons_zero, List.set_cons_succ] at hk
      have HK := Lib.hid hk
      clear hd hs hk hK
      go_simp
      go_at_call 18
      refine (HONE.out w' hj.out).mono ?_
      rintro e wz ⟨rfl, hbz⟩
      exact HK.out _ _ (hj.out.trans (hbz.mono hj.out.size)) hbz (show _ = _ from rfl)
     refine ⟨?_, ?_⟩
     ·intro v w' hj hd hs K hK
      have t1 : v 1 = _ := hd.out 1 (by kernel_rfl)
      have t5 : v 5 = _ := hd.out 5 (by kernel_rfl)
      have hk := hK.out
      simp only [t1, t5, Act.put, List.setIfInBounds_toArray, List.set_cons_zero, List.set_cons_succ] at hk
      have HK := Lib.hid hk
      clear hd hs hk hK
      go_simp
      exact HK.out _ _ hj.out (Below.refl _ _) (show _ = _ from rfl)
     refine ⟨?_, ?_⟩
     ·intro v w' hj hd hs K hK
      have t6 : v 6 = _ := hd.out 6 (by kernel_rfl)
      have hk := hK.out
      simp only [t6, Act.put, List.setIfInBounds_toArray, List.set_cons_zero, List.set_cons_succ] at hk
      have HK := Lib.hid hk
      clear hd hs hk hK
      go_simp
      exact HK.out _ _ hj.out (Below.refl _ _) (show _ = _ from rfl)
     refine ⟨?_, ?_⟩
     ·intro v w' hj hd hs K hK
      have t7 : v 7 = _ := hd.out 7 (by kernel_rfl)
      have yy0 := next_cell u0 hj.out
      have yy1 := next_cell u1 hj.out
      have yy2 := next_cell u2 hj.out
      have yy3 := next_cell u3 hj.out
      have hk := hK.out
      simp only [t7, Act.put, List.setIfInBounds_toArray, List.set_cons_zero, List.set_cons_succ] at hk
      have HK := Lib.hid hk
      clear hd hs hk hK
      go_simp
      exact HK.out _ _ hj.out (Below.refl _ _) (show _ = _ from rfl)
     refine ⟨?_, ?_⟩
     ·intro v w' hj hd hs K hK
      have t7 : v 7 = _ := hd.out 7 (by kernel_rfl)
      have t8 : v 8 = _ := hd.out 8 (by kernel_rfl)
      have hk := hK.out
      simp only [t7, t8, Act.put, List.setIfInBounds_toArray, List.set_cons_zero, List.set_cons_succ] at hk
      have HK := Lib.hid hk
      clear hd hs hk hK
      go_simp
      go_at_call 19
      refine (HZ1.out w' hj.out).mono ?_
      rintro e wz ⟨l2, f2, p2, r2, rfl, hpz, hbz⟩
      exact HK.out _ _ (hj.out.trans (hbz.mono hj.out.size)) hbz ⟨_, _, _, _, rfl, hpz⟩
     refine ⟨?_, ?_⟩
     ·intro v w' hj hd hs K hK
      have t7 : v 7 = _ := hd.out 7 (by kernel_rfl)
      have yy0 := next_cell v0 hj.out
      have yy1 := next_cell v1 hj.out
      have yy2 := next_cell v2 hj.out
      have yy3 := next_cell v3 hj.out
      have hk := hK.out
      simp only [t7, Act.put, List.setIfInBounds_toArray, List.set_cons_zero, List.set_cons_succ] at hk
      have HK := Lib.hid hk
      clear hd hs hk hK
      go_simp
      exact HK.out _ _ hj.out (Below.refl _ _) (show _ = _ from rfl)
     refine ⟨?_, ?_⟩
     ·intro v w' hj hd hs K hK
      have t7 : v 7 = _ := hd.out 7 (by kernel_rfl)
      have t10 : v 10 = _ := hd.out 10 (by kernel_rfl)
      have hk := hK.out
      simp only [t7, t10, Act.put, List.setIfInBounds_toArray, List.set_cons_zero, List.set_cons_succ] at hk
      have HK := Lib.hid hk
      clear hd hs hk hK
      go_simp
      go_at_call 19
      refine (HZ2.out w' hj.out).mono ?_
      rintro e wz ⟨l2, f2, p2, r2, rfl, hpz, hbz⟩
      exact HK.out _ _ (hj.out.trans (hbz.mono hj.out.size)) hbz ⟨_, _, _, _, rfl, hpz⟩
     refine ⟨?_, ?_⟩
     ·intro v w' hj hd hs K hK
      have t7 : v 7 = _ := hd.out 7 (by kernel_rfl)
      obtain ⟨l9, f9, p9, r9, t9, hp9⟩ : AgT (Q.to (fun _ => 0)) (v 9) w' := hd.out 9 (by kernel_rfl)
      obtain ⟨l11, f11, p11, r11, t11, hp11⟩ : AgT (Q.to (fun _ => 0)) (v 11) w' := hd.out 11 (by kernel_rfl)
      have hk := hK.out
      simp only [t7, t9, t11, Act.put, List.setIfInBounds_toArray, List.set_cons_zero, List.set_cons_succ] at hk
      have HK := Lib.hid hk
      clear hd hs hk hK
      go_simp
      go_at_call 12
      refine (HSM.out _ _ _ _ _ _ _ _ w' hp9 hp11).mono ?_
      rintro e wz ⟨rfl, hbz⟩
      exact HK.out _ _ (hj.out.trans (hbz.mono hj.out.size)) hbz (show _ = _ from rfl)
     refine ⟨?_, ?_⟩
     ·intro v w' hj hd hs K hK
      have t7 : v 7 = _ := hd.out 7 (by kernel_rfl)
      have t12 : v 12 = _ := hd.out 12 (by kernel_rfl)
      have hk := hK.out
      simp only [t7, t12, Act.put, List.setIfInBounds_toArray, List.set_cons_zero, List.set_cons_succ] at hk
      have HK := Lib.hid hk
      clear hd hs hk hK
      go_simp
      exact HK.out _ _ hj.out (Below.refl _ _) (show _ = _ from rfl)
     refine ⟨?_, ?_⟩
     ·intro v w' hj hd hs K hK
      have t13 : v 13 = _ := hd.out 13 (by kernel_rfl)
      have hk := hK.out
      simp only [t13, Act.put, List.setIfInBounds_toArray, List.set_cons_zero, List.set_cons_succ] at hk
      have HK := Lib.hid hk
      clear hd hs hk hK
      go_simp
      exact HK.out _ _ hj.out (Below.refl _ _) (show _ = _ from rfl)
     trivial
    case hend =>
     intro v w9 hj hd
     have t14 : v 14 = _ := hd.out 14 (of_decide_eq_true (by kernel_rfl))
     simp only [t14]
     have hfin := HBB.out.trans (hj.out.mono HBB.out.size)
     clear hd hj
     go_wp2_with fail
     go_ret
     exact ⟨rfl, hfin⟩
   ·have g1 : (er == 0) = false := beq_eq_false_iff_ne.2 he
    have g2 : (er != 0) = true := bne_iff_ne.2 he
    have HHE := Lib.hid he
    clear he
    go_wp2_with (go_at_call 9; refine (HLX.out 0).mono ?_; rintro e w6 ⟨LA1, ln1, lc1, lm1, rfl, hb6⟩; clear HLX)
    go_ret
    exact ⟨rfl, bb.trans (hb6.mono bb.size)⟩
 ·have d1 : decide ((9000 : Int) < (s.size : Int)) = true := decide_eq_true (by omega)
  go_enter Tryd.func5, Tryd.ntmps5
  go_wp2_with (go_at_call 8; refine (HH.out).mono ?_; rintro e w1 ⟨rfl, b1⟩; clear HH)
  go_ret
  exact ⟨rfl, b1⟩
end parserRecovery
end Go.Proofs.YtpcmlkpnjimbiaaDoor
