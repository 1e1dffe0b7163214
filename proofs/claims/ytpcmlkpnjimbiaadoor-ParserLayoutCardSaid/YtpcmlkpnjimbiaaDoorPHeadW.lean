/- The walk of the laws' check over fixed texts. -/
import Derived.Test.YtpcmlkpnjimbiaaDoorPDiags
namespace Go.Proofs.YtpcmlkpnjimbiaaDoor
set_option linter.unusedVariables false
set_option linter.unusedSimpArgs false
open Go.RowKit
/-- What the parser wants of a world: the package's tables. -/
def Env (w : World) : Prop := Syms w ∧ ∃ B, B ≤ w.heap.size ∧ Tb B w
theorem Env.below {w w' : World} (h : Env w) (hb : Below w.heap.size w w') : Env w' := by
 obtain ⟨h1, B, h2, h3⟩ := h
 exact ⟨h1.below hb h1.lt, B, Nat.le_trans h2 hb.size, h3.below (hb.mono h2)⟩
theorem parse_env (s : ByteArray) (w : World) (h : Env w) (hs : s.size ≤ 1000000) : Calls Tryd.prog 11 #[.string s] w (ParsePost w s.data.toList) := by
 obtain ⟨h1, B, h2, h3⟩ := h
 exact parse_any s w B h1 h3 h2 hs
theorem query_env (s : ByteArray) (w : World) (h : Env w) (hs : s.size ≤ 1000000) : Calls Tryd.prog 20 #[.string s] w (QPost w (parseQuery s.data.toList)) := by
 obtain ⟨h1, B, h2, h3⟩ := h
 exact parseQuery_any s w B h1 h3 h2 hs
theorem fact_env (s : ByteArray) (w : World) (h : Env w) (hs : s.size ≤ 1000000) : Calls Tryd.prog 21 #[.string s] w (QPost w (parseFact s.data.toList)) := by
 obtain ⟨h1, B, h2, h3⟩ := h
 exact parseFact_any s w B h1 h3 h2 hs
namespace Hd
def lq : Ap.Li := ⟨1, [112], -1, [tX], [76], [], -1, 0, 0⟩
def lf : Ap.Li := ⟨1, [112], -1, [tA, t3], [], [109, 105, 100], -1, 0, 0⟩
/-- The first text's rule, as its cells are read. -/
def One (w : World) (r d : Value) : Prop := ∃ (g o c ga oa ca gb ob cb : Nat) (ba : Value), r = .slice (some ⟨g, o, none⟩) 1 c ∧ g < w.heap.size ∧ ga < w.heap.size ∧ gb < w.heap.size ∧
 (w.cell? ⟨g, o, none⟩ = some (.string ⟨#[112]⟩) ∧ w.cell? ⟨g, o + 1, none⟩ = some (.int .i64 (-1)) ∧ w.cell? ⟨g, o + 2, none⟩ = some (.slice (some ⟨ga, oa, none⟩) 2 ca) ∧ w.cell? ⟨g, o + 3, none⟩ = some (.int .i64 3) ∧ w.cell? ⟨g, o + 4, none⟩ = some (.string ⟨#[117, 112]⟩) ∧ w.cell? ⟨g, o + 5, none⟩ = some (.string ⟨#[76]⟩) ∧ w.cell? ⟨g, o + 6, none⟩ = some (.int .i64 (-1)) ∧ w.cell? ⟨g, o + 7, none⟩ = some (.slice (some ⟨gb, ob, none⟩) 2 cb) ∧ w.cell? ⟨g, o + 8, none⟩ = some (.int .i64 0)) ∧
 (w.cell? ⟨ga, oa, none⟩ = some (.string ⟨#[88]⟩) ∧ w.cell? ⟨ga, oa + 7, none⟩ = some (.string ⟨#[97]⟩)) ∧
 (w.cell? ⟨gb, ob, none⟩ = some (.int .i64 1) ∧ w.cell? ⟨gb, ob + 4, none⟩ = some (.string ⟨#[76]⟩) ∧ w.cell? ⟨gb, ob + 8, none⟩ = some (.int .i64 18) ∧ w.cell? ⟨gb, ob + 9, none⟩ = some (.int .i64 5) ∧ w.cell? ⟨gb, ob + 16, none⟩ = some (.int .i64 3))
theorem one_of {w : World} {l f p r d : Value} (h : PgR w l f p r P1) : One w r d := by
 obtain ⟨g, o, c, rs, rfl, hg, ⟨a, b, rfl, hta, htb⟩, hc⟩ := h.rules.at (fun r x => RuR.len) (i := 0) (x := P1.rules[0]) rfl
 obtain ⟨ga, oa, ca, rfl, hga, hca⟩ := hta.cells (by decide)
 obtain ⟨gb, ob, cb, r0, rfl, hgb, ⟨a0, rfl, _⟩, hc0⟩ := htb.at (fun r x => LiR.len) (i := 0) (x := P1.rules[0].body[0]) rfl
 obtain ⟨gb', ob', cb', r1, e1, hgb', ⟨a1, rfl, _⟩, hc1⟩ := htb.at (fun r x => LiR.len) (i := 1) (x := P1.rules[0].body[1]) rfl
 injection e1 with e1 _ e3
 injection e1 with e1
 injection e1 with e1 e2
 subst e1; subst e2; subst e3
 exact ⟨g, o, c, ga, oa, ca, gb, ob, cb, .nilFunc, rfl, hg, hga, hgb, ⟨hc 0 _ rfl, hc 1 _ rfl, hc 2 _ rfl, hc 3 _ rfl, hc 4 _ rfl, hc 5 _ rfl, hc 6 _ rfl, hc 7 _ rfl, hc 8 _ rfl⟩, ⟨hca 0 _ rfl, hca 7 _ rfl⟩, ⟨hc0 0 _ rfl, hc0 4 _ rfl, hc0 8 _ rfl, hc1 0 _ rfl, hc1 7 _ rfl⟩⟩
/-- The second text's items. -/
def Two (w : World) (l p : Value) : Prop := ∃ (g o c g2 o2 c2 g3 o3 c3 : Nat), p = .slice (some ⟨g, o, none⟩) 1 c ∧ g < w.heap.size ∧ l = .slice (some ⟨g2, o2, none⟩) 1 c2 ∧ g2 < w.heap.size ∧ w.cell? ⟨g, o, none⟩ = some (.string ⟨#[119]⟩) ∧ w.cell? ⟨g, o + 5, none⟩ = some (.int .i64 1) ∧ w.cell? ⟨g2, o2 + 1, none⟩ = some (.slice (some ⟨g3, o3, none⟩) 2 c3)
theorem two_of {w : World} {l f p r : Value} (h : PgR w l f p r P2) : Two w l p := by
 obtain ⟨g, o, c, rs, rfl, hg, ⟨a, rfl, hta⟩, hc⟩ := h.preds.at (fun r x => PrR.len) (i := 0) (x := P2.preds[0]) rfl
 obtain ⟨g2, o2, c2, r2, rfl, hg2, ⟨a2, b2, rfl, hta2, htb2⟩, hc2⟩ := h.lats.at (fun r x => LaR.len) (i := 0) (x := P2.lats[0]) rfl
 obtain ⟨g3, o3, c3, rfl, hg3, hc3⟩ := hta2.cells (by decide)
 exact ⟨g, o, c, g2, o2, c2, g3, o3, c3, rfl, hg, rfl, hg2, hc 0 _ rfl, hc 5 _ rfl, hc2 1 _ rfl⟩
end Hd
set_option maxHeartbeats 2000000 in
set_option maxRecDepth 100000 in
theorem phead_any (w : World) (h : Env w) : Calls Tryd.prog 8 #[] w fun e w' => e = .returned (.bool true) ∧ Below w.heap.size w w' := by
 have HENV := Lib.hid h
 have HC1 := Lib.hid (fun (_ : Nat) => parse_env ⟨Hd.s1.toArray⟩ w h (by decide))
 clear h
 go_enter Tryd.func8, Tryd.ntmps8
 go_wp2_with (go_at_call 11; refine (HC1.out 0).mono ?_; rintro e w1 ⟨hb1, l1, f1, p1, r1, d1, rfl, hP1, hD1⟩; rw [show parseP (⟨Hd.s1.toArray⟩ : ByteArray).data.toList = Hd.P1 from Hd.p1] at hP1; rw [show parseD (⟨Hd.s1.toArray⟩ : ByteArray).data.toList = [] from Hd.d1] at hD1; obtain ⟨dA, dC, rfl⟩ := TRow.slice hD1; obtain ⟨lA, lC, rfl⟩ := hP1.lats.slice; obtain ⟨fA, fC, rfl⟩ := hP1.funs.slice; obtain ⟨pA, pC, rfl⟩ := hP1.preds.slice; obtain ⟨g, o, c, ga, oa, ca, gb, ob, cb, _, rfl, hg, hga, hgb, ⟨x0, x1, x2, x3, x4, x5, x6, x7, x8⟩, ⟨y0, y1⟩, z0, z1, z2, z3, z4⟩ := Hd.one_of (d := .nilFunc) hP1; clear HC1)
 clear x0 x1 x2 x3 x4 x5 x6 x7 x8 y0 y1 z0 z1 z2 z3 z4 hD1 hP1
 generalize hw2 : (w1.alloc _).alloc _ = w2
 have hb2 : Below w.heap.size w w2 := by
  rw [← hw2]
  exact (hb1.alloc hb1.size _).alloc (by have := hb1.size; simp; omega) _
 clear hw2 hb1
 have HC2 := Lib.hid (fun (_ : Nat) => parse_env ⟨Hd.s2.toArray⟩ w2 (HENV.out.below hb2) (by decide))
 go_wp2_with (go_at_call 11; refine (HC2.out 0).mono ?_; rintro e w3 ⟨hb3, l2, f2, p2, r2, d2, rfl, hP2, hD2⟩; rw [show parseP (⟨Hd.s2.toArray⟩ : ByteArray).data.toList = Hd.P2 from Hd.p2] at hP2; rw [show parseD (⟨Hd.s2.toArray⟩ : ByteArray).data.toList = [(50, 12)] from Hd.d2] at hD2; obtain ⟨dA2, dC2, rfl⟩ := TRow.slice hD2; obtain ⟨fA2, fC2, rfl⟩ := hP2.funs.slice; obtain ⟨rA2, rC2, rfl⟩ := hP2.rules.slice; obtain ⟨g, o, c, g2, o2, c2, g3, o3, c3, rfl, hg, rfl, hg2, x0, x1, x2⟩ := Hd.two_of hP2; clear HC2)
 have hp3 := At.new w3 34 #[.slice (some ⟨g2, o2, none⟩) 1 c2, .slice fA2 Hd.P2.funs.length fC2, .slice (some ⟨g, o, none⟩) 1 c, .slice rA2 Hd.P2.rules.length rC2]
 have hb4 := below1 w3 (.cells #[.slice (some ⟨g2, o2, none⟩) 1 c2, .slice fA2 Hd.P2.funs.length fC2, .slice (some ⟨g, o, none⟩) 1 c, .slice rA2 Hd.P2.rules.length rC2] 34)
 generalize hw4 : w3.alloc (.cells #[.slice (some ⟨g2, o2, none⟩) 1 c2, .slice fA2 Hd.P2.funs.length fC2, .slice (some ⟨g, o, none⟩) 1 c, .slice rA2 Hd.P2.rules.length rC2] 34) = w4 at hp3 hb4 ⊢
 have hD4 := TRow.below hD2 hb4
 have x0 := next_cell x0 hb4
 have x1 := next_cell x1 hb4
 have x2 := next_cell x2 hb4
 have HO1 := Lib.hid (one_same _ 50 12 w4 hD4)
 clear hw4 hD2 hP2 hD4
 have hb4w := (hb2.trans (hb3.mono hb2.size)).trans (hb4.mono (Nat.le_trans hb2.size hb3.size))
 go_wp2_with (go_at_call 18; refine (HO1.out).mono ?_; rintro e w5 ⟨rfl, hb5⟩; have x0 := next_cell x0 hb5; have x1 := next_cell x1 hb5; have x2 := next_cell x2 hb5; have hp5 := hp3.next hb5; have q0 := hp5.cell 0; have q2 := hp5.cell 2; simp only [List.getElem?_toArray, List.getElem?_cons_zero, List.getElem?_cons_succ] at q0 q2; clear HO1)
 have hb5w := hb4w.trans (hb5.mono hb4w.size)
 clear x0 x1 x2 q0 q2 hb4 hb5 hb4w hb2 hb3 hp3 hp5
 have HC3 := Lib.hid (fun (_ : Nat) => parse_env ⟨Hd.s3.toArray⟩ w5 (HENV.out.below hb5w) (by decide))
 go_wp2_with (go_at_call 11; refine (HC3.out 0).mono ?_; rintro e w6 ⟨hb6, l3, f3, p3, r3, d3, rfl, hP3, hD3⟩; rw [show parseP (⟨Hd.s3.toArray⟩ : ByteArray).data.toList = pg0 from Hd.p3] at hP3; rw [show parseD (⟨Hd.s3.toArray⟩ : ByteArray).data.toList = [(51, 4)] from Hd.d3] at hD3; obtain ⟨dA3, dC3, rfl⟩ := TRow.slice hD3; obtain ⟨lA3, lC3, rfl⟩ := hP3.lats.slice; obtain ⟨fA3, fC3, rfl⟩ := hP3.funs.slice; obtain ⟨pA3, pC3, rfl⟩ := hP3.preds.slice; obtain ⟨rA3, rC3, rfl⟩ := hP3.rules.slice; clear HC3)
 generalize hw7 : w6.alloc _ = w7
 have hb7 : Below w6.heap.size w6 w7 := by rw [← hw7]; exact below1 _ _
 have hD7 := TRow.below hD3 hb7
 have hb7w := (hb5w.trans (hb6.mono hb5w.size)).trans (hb7.mono (Nat.le_trans hb5w.size hb6.size))
 clear hw7 hD3 hP3 hb7 hb6 hb5w
 have HC4 := Lib.hid (fun (_ : Nat) => query_env ⟨Hd.q1.toArray⟩ w7 (HENV.out.below hb7w) (by decide))
 go_wp2_with (go_at_call 20; refine (HC4.out 0).mono ?_; rintro e w8 ⟨hb8, a8, d8, rfl, ha8, hd8⟩; rw [show parseQuery (⟨Hd.q1.toArray⟩ : ByteArray).data.toList = (Hd.lq, []) from Hd.pq1] at ha8 hd8 ⊢; obtain ⟨aA8, aC8, rfl⟩ := ha8.slice; obtain ⟨dA8, dC8, rfl⟩ := TRow.slice hd8; simp only [liFs]; clear HC4)
 have hq9 := At.new w8 58 (liFs Hd.lq (.slice aA8 Hd.lq.args.length aC8)).toArray
 have hb9 := below1 w8 (.cells (liFs Hd.lq (.slice aA8 Hd.lq.args.length aC8)).toArray 58)
 simp only [liFs] at hq9 hb9
 generalize hw9 : w8.alloc _ = w9 at hq9 hb9 ⊢
 have hb9w := (hb7w.trans (hb8.mono hb7w.size)).trans (hb9.mono (Nat.le_trans hb7w.size hb8.size))
 have hD9 := (TRow.below hD7 hb8).below hb9
 clear hw9 ha8 hd8 hD7 hb9 hb8 hb7w
 have HC5 := Lib.hid (fun (_ : Nat) => fact_env ⟨Hd.f1.toArray⟩ w9 (HENV.out.below hb9w) (by decide))
 go_wp2_with (go_at_call 21; refine (HC5.out 0).mono ?_; rintro e wa ⟨hba, aa, da, rfl, haa, hda⟩; rw [show parseFact (⟨Hd.f1.toArray⟩ : ByteArray).data.toList = (Hd.lf, []) from Hd.pf1] at haa hda ⊢; obtain ⟨aAa, aCa, rfl⟩ := haa.slice; obtain ⟨dAa, dCa, rfl⟩ := TRow.slice hda; simp only [liFs]; clear HC5)
 have hfb := At.new wa 58 (liFs Hd.lf (.slice aAa Hd.lf.args.length aCa)).toArray
 have hbb := below1 wa (.cells (liFs Hd.lf (.slice aAa Hd.lf.args.length aCa)).toArray 58)
 simp only [liFs] at hfb hbb
 generalize hwb : wa.alloc _ = wb at hfb hbb ⊢
 have hbbw := (hb9w.trans (hba.mono hb9w.size)).trans (hbb.mono (Nat.le_trans hb9w.size hba.size))
 have hDb := (TRow.below hD9 hba).below hbb
 have hqb := (hq9.next hba).next hbb
 clear hwb haa hda hD9 hbb hba hb9w hq9
 have HC6 := Lib.hid (fun (_ : Nat) => fact_env ⟨Hd.f2.toArray⟩ wb (HENV.out.below hbbw) (by decide))
 go_wp2_with (go_at_call 21; refine (HC6.out 0).mono ?_; rintro e wc ⟨hbc, ac, dc, rfl, hac, hdc⟩; rw [show parseFact (⟨Hd.f2.toArray⟩ : ByteArray).data.toList = (liZ, [(50, 2)]) from Hd.pf2] at hac hdc ⊢; obtain ⟨aAc, aCc, rfl⟩ := hac.slice; obtain ⟨dAc, dCc, rfl⟩ := TRow.slice hdc; simp only [liFs]; have hbd := below1 wc (.cells (liFs liZ (.slice aAc liZ.args.length aCc)).toArray 58); simp only [liFs] at hbd; have hqc := hqb.next hbc; have hfc := hfb.next hbc; have q4 : wc.cell? ⟨w8.heap.size, 4, none⟩ = some (.string ⟨#[76]⟩) := hqc.cell 4; have q5 : wc.cell? ⟨wa.heap.size, 5, none⟩ = some (.string ⟨#[109, 105, 100]⟩) := hfc.cell 5; have q3 : wc.cell? ⟨wa.heap.size, 3, none⟩ = some (.slice aAa 2 aCa) := hfc.cell 3; have ql := hqc.lt; have fl := hfc.lt; clear HC6)
 generalize hwd : wc.alloc _ = wd at hbd ⊢
 have hbdw := (hbbw.trans (hbc.mono hbbw.size)).trans (hbd.mono (Nat.le_trans hbbw.size hbc.size))
 have hDd := (TRow.below hDb hbc).below hbd
 have hcd := TRow.below hdc hbd
 clear hwd hdc hac hbd hDb hbc hqb hqc hfb hfc hbbw q3 q4 q5 ql fl
 have HO2 := Lib.hid (one_same _ 50 2 wd hcd)
 have hlt := (HENV.out.below hbdw).1.lt
 refine HO2.out.mono ?_
 rintro e we ⟨rfl, hbe⟩
 have hDe := TRow.below hDd hbe
 have hbew := hbdw.trans (hbe.mono hbdw.size)
 clear HO2 hDd hbe hbdw hcd
 have HC7 := Lib.hid (fun (_ : Nat) => lex_val (s := ⟨#[112]⟩) we (HENV.out.below hbew).1 (by decide) Hd.lx)
 go_wp2_with (go_at_call 24; refine (HC7.out 0).mono ?_; rintro e wf ⟨LA, lC, rfl, ho, hbf⟩; clear HC7)
 have hDf := TRow.below hDe hbf
 have hbfw := hbew.trans (hbf.mono hbew.size)
 have HO3 := Lib.hid (one_same _ 51 4 wf hDf)
 clear hbf hDe hDf hbew ho hlt
 refine HO3.out.mono ?_
 rintro e wg ⟨rfl, hbg⟩
 have hbgw := hbfw.trans (hbg.mono hbfw.size)
 clear HO3 hbg hbfw HENV
 go_wp2_with fail
 go_ret
 exact ⟨rfl, hbgw⟩
end Go.Proofs.YtpcmlkpnjimbiaaDoor
