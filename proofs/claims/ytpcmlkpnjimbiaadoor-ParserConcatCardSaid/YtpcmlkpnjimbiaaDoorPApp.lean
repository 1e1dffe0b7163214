/- The walk of the reference's Append: the items of two programs. -/
import Derived.Test.YtpcmlkpnjimbiaaDoorPShf
namespace Go.Proofs.YtpcmlkpnjimbiaaDoor
set_option linter.unusedVariables false
set_option linter.unusedSimpArgs false
open Go.RowKit
theorem RowsR.app {α : Type} {R : World → List Value → α → Prop} {w : World} {rows rows' : List (List Value)} {xs xs' : List α} (h : RowsR R w rows xs) (h' : RowsR R w rows' xs') : RowsR R w (rows ++ rows') (xs ++ xs') := by
 refine ⟨by rw [List.length_append, List.length_append, h.1, h'.1], fun i r x h1 h2 => ?_⟩
 by_cases hi : i < rows.length
 ·rw [List.getElem?_append_left hi] at h1
  rw [List.getElem?_append_left (by rw [← h.1]; exact hi)] at h2
  exact h.2 i r x h1 h2
 ·rw [List.getElem?_append_right (by omega)] at h1
  rw [List.getElem?_append_right (by rw [← h.1]; omega), ← h.1] at h2
  exact h'.2 _ r x h1 h2
theorem trow_parts {w : World} {e : TypeId} {k m c : Nat} {A : Option Addr} {xs : List Value} (h : TRow w e k (.slice A m c) m xs) : xs.length = m * k ∧ (A = none → m = 0 ∧ c = 0) ∧ ∀ ad, A = some ad → ∀ j u, xs[j]? = some u → w.cell? (ad.add j) = some u := by
 obtain ⟨hl, A', c', he, hmc, hcm, hnone, hrow⟩ := h
 simp only [Value.slice.injEq] at he
 obtain ⟨rfl, -, rfl⟩ := he
 refine ⟨hl, fun hA => ⟨by have := hnone hA; omega, hnone hA⟩, fun ad had j u hj => ?_⟩
 rcases hrow with rfl | ⟨g1, o1, cur, fr, he, hh, hc⟩
 ·rw [Nat.zero_mul] at hl
  rw [List.eq_nil_of_length_eq_zero hl] at hj
  simp at hj
 ·rw [had] at he
  obtain rfl := Option.some.inj he
  rw [show (Addr.add ⟨g1, o1, none⟩ j) = ⟨g1, o1 + j, none⟩ from add_at g1 o1 j]
  exact (cell_of_row w g1 (o1 + j) cur e fr hh).trans (hc j u hj)
theorem Mp.own {w0 w : World} {m : Nat} {l f p r : Value} {P : Ap.Pg} (h : Mp w0 w m l f p r P) : ∃ rows, w.ownsRow w0.heap.size 66 9 r P.rules.length rows.flatten ∧ RowsR RuR w rows P.rules := by
 have kb := fun e => Kept.below h.low e
 obtain ⟨rows, bs, h1, h2, h3, h4⟩ := h.rules
 refine ⟨rows, h1, h2, fun i r x hr hx => ?_⟩
 obtain ⟨a, k1, k2, k3, k4⟩ := h3 i x hx
 rw [hr] at k1
 refine ⟨a, bs i, Option.some.inj k1, k2.kept (kb _), ?_⟩
 by_cases hi : i < m
 ·obtain ⟨brs, b1, b2⟩ := k3 hi
  exact ⟨brs, TRow.of_own b1, b2.kept (LiR.kept (kb _))⟩
 ·exact (k4 (by omega)).kept (kb _) (LiR.kept (kb _))
theorem MRows.own {α : Type} {R : World → List Value → α → Prop} {w0 w : World} {e : TypeId} {k : Nat} {v : Value} {xs : List α} (h : MRows R w0 w e k v xs) (hR : ∀ r x, R w0 r x → R w r x) : ∃ rows, w.ownsRow w0.heap.size e k v xs.length rows.flatten ∧ RowsR R w rows xs := by
 obtain ⟨rows, h1, h2⟩ := h
 exact ⟨rows, h1, h2.kept hR⟩
theorem trows_app {α : Type} {R : World → List Value → α → Prop} {w : World} {B : Nat} {e : TypeId} {k : Nat} {v : Value} {rows rows' : List (List Value)} {xs xs' : List α} (h : w.ownsRow B e k v (xs.length + xs'.length) (rows.flatten ++ rows'.flatten)) (h1 : RowsR R w rows xs) (h2 : RowsR R w rows' xs') : TRows R w e k v (xs ++ xs') :=
 ⟨rows ++ rows', by rw [List.flatten_append, List.length_append]; exact TRow.of_own h, h1.app h2⟩
set_option maxHeartbeats 8000000 in
set_option maxRecDepth 100000 in
theorem app_any (P Q : Ap.Pg) (la fa pa ra lb fb pb rb : Value) (w : World) (hF : Ap.Fit 100000 P) (hG : Ap.Fit 100000 Q) (h : PgR w la fa pa ra P) (h' : PgR w lb fb pb rb Q) :
  Calls Tryd.prog 15 #[.agg #[la, fa, pa, ra], .agg #[lb, fb, pb, rb]] w fun e w' => ∃ l f p r, e = .returned (.agg #[l, f, p, r]) ∧ PgR w' l f p r (P.app Q) ∧ Below w.heap.size w w' := by
 obtain ⟨n0, n1, n2, n3⟩ := hF.lens
 obtain ⟨m0, m1, m2, m3⟩ := hG.lens
 obtain ⟨i0, j00, j01, j02, j03⟩ := info_parts lat_info
 obtain ⟨i1, j10, j11, j12, j13⟩ := info_parts fun_info
 obtain ⟨i2, j20, j21, j22, j23⟩ := info_parts pred_info
 obtain ⟨i3, j30, j31, j32, j33⟩ := info_parts rule_info
 obtain ⟨k0, k1, k2, k3⟩ := h'
 obtain ⟨B0, d0, rfl⟩ := TRows.slice k0
 obtain ⟨S0, t0, q0⟩ := k0
 obtain ⟨B1, d1, rfl⟩ := TRows.slice k1
 obtain ⟨S1, t1, q1⟩ := k1
 obtain ⟨B2, d2, rfl⟩ := TRows.slice k2
 obtain ⟨S2, t2, q2⟩ := k2
 obtain ⟨B3, d3, rfl⟩ := TRows.slice k3
 obtain ⟨S3, t3, q3⟩ := k3
 have b1 := below2 w (.cells #[la, fa, pa, ra] 34) (.cells #[.slice B0 Q.lats.length d0, .slice B1 Q.funs.length d1, .slice B2 Q.preds.length d2, .slice B3 Q.rules.length d3] 34)
 have b2 := b1.trans ((below1 ((w.alloc (.cells #[la, fa, pa, ra] 34)).alloc (.cells #[.slice B0 Q.lats.length d0, .slice B1 Q.funs.length d1, .slice B2 Q.preds.length d2, .slice B3 Q.rules.length d3] 34)) (.cells #[.slice none 0 0, .slice none 0 0, .slice none 0 0, .slice none 0 0] 34)).mono b1.size)
 have xb := (At.new (w.alloc (.cells #[la, fa, pa, ra] 34)) 34 #[.slice B0 Q.lats.length d0, .slice B1 Q.funs.length d1, .slice B2 Q.preds.length d2, .slice B3 Q.rules.length d3]).next (below1 ((w.alloc (.cells #[la, fa, pa, ra] 34)).alloc (.cells #[.slice B0 Q.lats.length d0, .slice B1 Q.funs.length d1, .slice B2 Q.preds.length d2, .slice B3 Q.rules.length d3] 34)) (.cells #[.slice none 0 0, .slice none 0 0, .slice none 0 0, .slice none 0 0] 34))
 rw [alloc_size] at xb
 have x6 := At.new ((w.alloc (.cells #[la, fa, pa, ra] 34)).alloc (.cells #[.slice B0 Q.lats.length d0, .slice B1 Q.funs.length d1, .slice B2 Q.preds.length d2, .slice B3 Q.rules.length d3] 34)) 34 #[.slice none 0 0, .slice none 0 0, .slice none 0 0, .slice none 0 0]
 rw [alloc_size, alloc_size] at x6
 have HMVD := Lib.hid (fun (_ : Nat) => moved_any P la fa pa ra (.slice none 0 0) (.slice none 0 0) [] [] _ (hF.mono (by omega)) (by simp) (h.next b2) (TkR.nil _) (TkR.nil _))
 obtain ⟨W2, hW2⟩ : ∃ W2, W2 = ((w.alloc (.cells #[la, fa, pa, ra] 34)).alloc (.cells #[.slice B0 Q.lats.length d0, .slice B1 Q.funs.length d1, .slice B2 Q.preds.length d2, .slice B3 Q.rules.length d3] 34)).alloc (.cells #[.slice none 0 0, .slice none 0 0, .slice none 0 0, .slice none 0 0] 34) := ⟨_, rfl⟩
 rw [← hW2] at b2 xb x6 HMVD
 have HT0 := Lib.hid t0; have HQ0 := Lib.hid q0; have HO0 := Lib.hid (q0.ones (fun _ _ => LaR.one)); clear t0 q0
 have HT1 := Lib.hid t1; have HQ1 := Lib.hid q1; have HO1 := Lib.hid (q1.ones (fun _ _ => FuR.one)); clear t1 q1
 have HT2 := Lib.hid t2; have HQ2 := Lib.hid q2; have HO2 := Lib.hid (q2.ones (fun _ _ => PrR.one)); clear t2 q2
 have HT3 := Lib.hid t3; have HQ3 := Lib.hid q3; have HO3 := Lib.hid (q3.ones (fun _ _ => RuR.one)); clear t3 q3
 have HB2 := Lib.hid b2; have HXB := Lib.hid xb; have HX6 := Lib.hid x6; have HW := Lib.hid hW2; have hw2 := b2.size
 clear b1 b2 xb x6 hW2 hF hG h
 go_enter Tryd.func15, Tryd.ntmps15
 go_wp2_with first
  | (at_builtin; refine wpList_append_from rfl _ _ 29 rfl W2.heap.size 77 i0 _ 4 72 Tryd.underlying29 j00 j01 j02 j03 rfl (by decide) _ _ _ rfl o0 _ _ _ S0.flatten rfl tp.1 tp.2.1 tp.2.2 HO0.out (by unfold maxLen; omega) (by omega) hb.size ?_)
  | (go_at_call 13; rw [← HW.out]; refine (HMVD.out 0).mono ?_; rintro e w3 ⟨l1, f1, p1, r1, rfl, hM⟩; clear HMVD; replace hM := hM.cast (pg_id1 P); obtain ⟨A0, c0, rfl⟩ := hM.pg.lats.slice; obtain ⟨A1, c1, rfl⟩ := hM.pg.funs.slice; obtain ⟨A2, c2, rfl⟩ := hM.pg.preds.slice; obtain ⟨A3, c3, rfl⟩ := hM.pg.rules.slice; have hc := below1 w3 (.cells #[(.slice A0 P.lats.length c0), (.slice A1 P.funs.length c1), (.slice A2 P.preds.length c2), (.slice A3 P.rules.length c3)] 34); have z := At.new w3 34 #[(.slice A0 P.lats.length c0), (.slice A1 P.funs.length c1), (.slice A2 P.preds.length c2), (.slice A3 P.rules.length c3)]; have hM4 := hM.next hc; have kb := fun e => Kept.below hM4.low e; obtain ⟨R0, o0, r0⟩ := hM4.lats.own (LaR.kept (kb _) (kb _)); obtain ⟨R1, o1, r1⟩ := hM4.funs.own (FuR.kept (kb _) (kb _)); obtain ⟨R2, o2, r2⟩ := hM4.preds.own (PrR.kept (kb _)); obtain ⟨R3, o3, r3⟩ := hM4.own; have hb := hM4.low; have hbw := HB2.out.trans (hb.mono HB2.out.size); have xb := (HXB.out.next hM.low).next hc; have x6 := (HX6.out.next hM.low).next hc; have hlz := z.lt; have hlb : w.heap.size + 1 < w3.heap.size := (by have := HXB.out.lt; have := hM.low.size; omega); have hl6 : w.heap.size + 1 + 1 < w3.heap.size := (by have := HX6.out.lt; have := hM.low.size; omega); have HR0 := Lib.hid r0; clear r0; have HR1 := Lib.hid r1; clear r1; have HR2 := Lib.hid r2; clear r2; have HR3 := Lib.hid r3; clear r3; have yb := xb.cell 0; have yz := z.cell 0; simp only [List.getElem?_toArray, List.getElem?_cons_zero, List.getElem?_cons_succ] at yb yz; have tp := trow_parts (TRow.below HT0.out hbw))
 intro v5 w5 p5 g5
 obtain ⟨nA0, nC0, rfl⟩ := own_len p5
 have a0k : ∀ e, 77 ≠ e → Kept e (w3.alloc (.cells #[(.slice A0 P.lats.length c0), (.slice A1 P.funs.length c1), (.slice A2 P.preds.length c2), (.slice A3 P.rules.length c3)] 34)) w5 := fun e he => Kept.grown o0 g5 he
 have hb5 := hb.grown g5 hb.size (fun q hq => (own_lt o0 hq).1)
 have z5 := z.grown g5 (own_far o0 z (by decide)); have xb5 := xb.grown g5 (own_far o0 xb (by decide)); have x65 := x6.grown g5 (own_far o0 x6 (by decide))
 have o15 := own_grown o1 g5 (own_apart o1 o0 (by decide))
 have o25 := own_grown o2 g5 (own_apart o2 o0 (by decide))
 have o35 := own_grown o3 g5 (own_apart o3 o0 (by decide))
 have zf := z5.frozen 0; have zl := z5.lt; have zc := z5.cell 0
 simp only [List.getElem?_toArray, List.getElem?_cons_zero, List.getElem?_cons_succ] at zc
 replace hb := hb5.setCell (p := ⟨w3.heap.size, 0, none⟩) (by show W2.heap.size ≤ w3.heap.size; exact hM.low.size) (.slice nA0 (P.lats.length + Q.lats.length) nC0)
 replace hbw := HB2.out.trans (hb.mono HB2.out.size)
 replace xb := xb5.far (p := ⟨w3.heap.size, 0, none⟩) (Nat.ne_of_lt hlb) (.slice nA0 (P.lats.length + Q.lats.length) nC0); replace x6 := x65.far (p := ⟨w3.heap.size, 0, none⟩) (Nat.ne_of_lt hl6) (.slice nA0 (P.lats.length + Q.lats.length) nC0)
 replace o0 := own_putne (p := ⟨w3.heap.size, 0, none⟩) p5 (own_far p5 z5 (by decide)) (.slice nA0 (P.lats.length + Q.lats.length) nC0)
 replace o1 := own_putne (p := ⟨w3.heap.size, 0, none⟩) o15 (own_far o15 z5 (by decide)) (.slice nA0 (P.lats.length + Q.lats.length) nC0)
 replace o2 := own_putne (p := ⟨w3.heap.size, 0, none⟩) o25 (own_far o25 z5 (by decide)) (.slice nA0 (P.lats.length + Q.lats.length) nC0)
 replace o3 := own_putne (p := ⟨w3.heap.size, 0, none⟩) o35 (own_far o35 z5 (by decide)) (.slice nA0 (P.lats.length + Q.lats.length) nC0)
 have b0k : ∀ e, 34 ≠ e → Kept e w5 (w5.setCell ⟨w3.heap.size, 0, none⟩ (.slice nA0 (P.lats.length + Q.lats.length) nC0)) := fun e he => Kept.put z5 0 (.slice nA0 (P.lats.length + Q.lats.length) nC0) he
 have HK0 := Lib.hid (show ∀ e, e ∈ [58, 71, 9, 116, 3] → Kept e (w3.alloc (.cells #[(.slice A0 P.lats.length c0), (.slice A1 P.funs.length c1), (.slice A2 P.preds.length c2), (.slice A3 P.rules.length c3)] 34)) (w5.setCell ⟨w3.heap.size, 0, none⟩ (.slice nA0 (P.lats.length + Q.lats.length) nC0)) from fun e he => ((Kept.refl e _).trans (a0k e (by rintro rfl; revert he; decide))).trans (b0k e (by rintro rfl; revert he; decide)))
 clear a0k b0k
 replace z := z5.put 0 (.slice nA0 (P.lats.length + Q.lats.length) nC0)
 simp only [List.setIfInBounds_toArray, List.set_cons_zero, List.set_cons_succ] at z
 clear z5 xb5 x65 hb5 p5 g5 yb yz tp o15 o25 o35
 have yb := xb.cell 1
 have yz := z.cell 1
 simp only [List.getElem?_toArray, List.getElem?_cons_zero, List.getElem?_cons_succ] at yb yz
 have tp := trow_parts (TRow.below HT1.out hbw)
 go_wp2_with (at_builtin; refine wpList_append_from rfl _ _ 30 rfl W2.heap.size 94 i1 _ 7 120 Tryd.underlying30 j10 j11 j12 j13 rfl (by decide) _ _ _ rfl o1 _ _ _ S1.flatten rfl tp.1 tp.2.1 tp.2.2 HO1.out (by unfold maxLen; omega) (by omega) hb.size ?_)
 clear zf zl zc
 intro v5 w6 p5 g5
 obtain ⟨nA1, nC1, rfl⟩ := own_len p5
 have a1k : ∀ e, 94 ≠ e → Kept e (w5.setCell ⟨w3.heap.size, 0, none⟩ (.slice nA0 (P.lats.length + Q.lats.length) nC0)) w6 := fun e he => Kept.grown o1 g5 he
 have hb5 := hb.grown g5 hb.size (fun q hq => (own_lt o1 hq).1)
 have z5 := z.grown g5 (own_far o1 z (by decide)); have xb5 := xb.grown g5 (own_far o1 xb (by decide)); have x65 := x6.grown g5 (own_far o1 x6 (by decide))
 have o05 := own_grown o0 g5 (own_apart o0 o1 (by decide))
 have o25 := own_grown o2 g5 (own_apart o2 o1 (by decide))
 have o35 := own_grown o3 g5 (own_apart o3 o1 (by decide))
 have zf := z5.frozen 1; have zl := z5.lt; have zc := z5.cell 1
 simp only [List.getElem?_toArray, List.getElem?_cons_zero, List.getElem?_cons_succ] at zc
 replace hb := hb5.setCell (p := ⟨w3.heap.size, 1, none⟩) (by show W2.heap.size ≤ w3.heap.size; exact hM.low.size) (.slice nA1 (P.funs.length + Q.funs.length) nC1)
 replace hbw := HB2.out.trans (hb.mono HB2.out.size)
 replace xb := xb5.far (p := ⟨w3.heap.size, 1, none⟩) (Nat.ne_of_lt hlb) (.slice nA1 (P.funs.length + Q.funs.length) nC1); replace x6 := x65.far (p := ⟨w3.heap.size, 1, none⟩) (Nat.ne_of_lt hl6) (.slice nA1 (P.funs.length + Q.funs.length) nC1)
 replace o0 := own_putne (p := ⟨w3.heap.size, 1, none⟩) o05 (own_far o05 z5 (by decide)) (.slice nA1 (P.funs.length + Q.funs.length) nC1)
 replace o1 := own_putne (p := ⟨w3.heap.size, 1, none⟩) p5 (own_far p5 z5 (by decide)) (.slice nA1 (P.funs.length + Q.funs.length) nC1)
 replace o2 := own_putne (p := ⟨w3.heap.size, 1, none⟩) o25 (own_far o25 z5 (by decide)) (.slice nA1 (P.funs.length + Q.funs.length) nC1)
 replace o3 := own_putne (p := ⟨w3.heap.size, 1, none⟩) o35 (own_far o35 z5 (by decide)) (.slice nA1 (P.funs.length + Q.funs.length) nC1)
 have b1k : ∀ e, 34 ≠ e → Kept e w6 (w6.setCell ⟨w3.heap.size, 1, none⟩ (.slice nA1 (P.funs.length + Q.funs.length) nC1)) := fun e he => Kept.put z5 1 (.slice nA1 (P.funs.length + Q.funs.length) nC1) he
 have HK1 := Lib.hid (show ∀ e, e ∈ [58, 71, 9, 116, 3] → Kept e (w3.alloc (.cells #[(.slice A0 P.lats.length c0), (.slice A1 P.funs.length c1), (.slice A2 P.preds.length c2), (.slice A3 P.rules.length c3)] 34)) (w6.setCell ⟨w3.heap.size, 1, none⟩ (.slice nA1 (P.funs.length + Q.funs.length) nC1)) from fun e he => ((HK0.out e he).trans (a1k e (by rintro rfl; revert he; decide))).trans (b1k e (by rintro rfl; revert he; decide)))
 clear a1k b1k
 replace z := z5.put 1 (.slice nA1 (P.funs.length + Q.funs.length) nC1)
 simp only [List.setIfInBounds_toArray, List.set_cons_zero, List.set_cons_succ] at z
 clear z5 xb5 x65 hb5 p5 g5 yb yz tp o05 o25 o35
 have yb := xb.cell 2
 have yz := z.cell 2
 simp only [List.getElem?_toArray, List.getElem?_cons_zero, List.getElem?_cons_succ] at yb yz
 have tp := trow_parts (TRow.below HT2.out hbw)
 go_wp2_with (at_builtin; refine wpList_append_from rfl _ _ 31 rfl W2.heap.size 73 i2 _ 7 88 Tryd.underlying31 j20 j21 j22 j23 rfl (by decide) _ _ _ rfl o2 _ _ _ S2.flatten rfl tp.1 tp.2.1 tp.2.2 HO2.out (by unfold maxLen; omega) (by omega) hb.size ?_)
 clear zf zl zc
 intro v5 w7 p5 g5
 obtain ⟨nA2, nC2, rfl⟩ := own_len p5
 have a2k : ∀ e, 73 ≠ e → Kept e (w6.setCell ⟨w3.heap.size, 1, none⟩ (.slice nA1 (P.funs.length + Q.funs.length) nC1)) w7 := fun e he => Kept.grown o2 g5 he
 have hb5 := hb.grown g5 hb.size (fun q hq => (own_lt o2 hq).1)
 have z5 := z.grown g5 (own_far o2 z (by decide)); have xb5 := xb.grown g5 (own_far o2 xb (by decide)); have x65 := x6.grown g5 (own_far o2 x6 (by decide))
 have o05 := own_grown o0 g5 (own_apart o0 o2 (by decide))
 have o15 := own_grown o1 g5 (own_apart o1 o2 (by decide))
 have o35 := own_grown o3 g5 (own_apart o3 o2 (by decide))
 have zf := z5.frozen 2; have zl := z5.lt; have zc := z5.cell 2
 simp only [List.getElem?_toArray, List.getElem?_cons_zero, List.getElem?_cons_succ] at zc
 replace hb := hb5.setCell (p := ⟨w3.heap.size, 2, none⟩) (by show W2.heap.size ≤ w3.heap.size; exact hM.low.size) (.slice nA2 (P.preds.length + Q.preds.length) nC2)
 replace hbw := HB2.out.trans (hb.mono HB2.out.size)
 replace xb := xb5.far (p := ⟨w3.heap.size, 2, none⟩) (Nat.ne_of_lt hlb) (.slice nA2 (P.preds.length + Q.preds.length) nC2); replace x6 := x65.far (p := ⟨w3.heap.size, 2, none⟩) (Nat.ne_of_lt hl6) (.slice nA2 (P.preds.length + Q.preds.length) nC2)
 replace o0 := own_putne (p := ⟨w3.heap.size, 2, none⟩) o05 (own_far o05 z5 (by decide)) (.slice nA2 (P.preds.length + Q.preds.length) nC2)
 replace o1 := own_putne (p := ⟨w3.heap.size, 2, none⟩) o15 (own_far o15 z5 (by decide)) (.slice nA2 (P.preds.length + Q.preds.length) nC2)
 replace o2 := own_putne (p := ⟨w3.heap.size, 2, none⟩) p5 (own_far p5 z5 (by decide)) (.slice nA2 (P.preds.length + Q.preds.length) nC2)
 replace o3 := own_putne (p := ⟨w3.heap.size, 2, none⟩) o35 (own_far o35 z5 (by decide)) (.slice nA2 (P.preds.length + Q.preds.length) nC2)
 have b2k : ∀ e, 34 ≠ e → Kept e w7 (w7.setCell ⟨w3.heap.size, 2, none⟩ (.slice nA2 (P.preds.length + Q.preds.length) nC2)) := fun e he => Kept.put z5 2 (.slice nA2 (P.preds.length + Q.preds.length) nC2) he
 have HK2 := Lib.hid (show ∀ e, e ∈ [58, 71, 9, 116, 3] → Kept e (w3.alloc (.cells #[(.slice A0 P.lats.length c0), (.slice A1 P.funs.length c1), (.slice A2 P.preds.length c2), (.slice A3 P.rules.length c3)] 34)) (w7.setCell ⟨w3.heap.size, 2, none⟩ (.slice nA2 (P.preds.length + Q.preds.length) nC2)) from fun e he => ((HK1.out e he).trans (a2k e (by rintro rfl; revert he; decide))).trans (b2k e (by rintro rfl; revert he; decide)))
 clear a2k b2k
 replace z := z5.put 2 (.slice nA2 (P.preds.length + Q.preds.length) nC2)
 simp only [List.setIfInBounds_toArray, List.set_cons_zero, List.set_cons_succ] at z
 clear z5 xb5 x65 hb5 p5 g5 yb yz tp o05 o15 o35
 have yb := xb.cell 3
 have yz := z.cell 3
 simp only [List.getElem?_toArray, List.getElem?_cons_zero, List.getElem?_cons_succ] at yb yz
 have tp := trow_parts (TRow.below HT3.out hbw)
 go_wp2_with (at_builtin; refine wpList_append_from rfl _ _ 32 rfl W2.heap.size 66 i3 _ 9 128 Tryd.underlying32 j30 j31 j32 j33 rfl (by decide) _ _ _ rfl o3 _ _ _ S3.flatten rfl tp.1 tp.2.1 tp.2.2 HO3.out (by unfold maxLen; omega) (by omega) hb.size ?_)
 clear zf zl zc
 intro v5 w8 p5 g5
 obtain ⟨nA3, nC3, rfl⟩ := own_len p5
 have a3k : ∀ e, 66 ≠ e → Kept e (w7.setCell ⟨w3.heap.size, 2, none⟩ (.slice nA2 (P.preds.length + Q.preds.length) nC2)) w8 := fun e he => Kept.grown o3 g5 he
 have hb5 := hb.grown g5 hb.size (fun q hq => (own_lt o3 hq).1)
 have z5 := z.grown g5 (own_far o3 z (by decide)); have xb5 := xb.grown g5 (own_far o3 xb (by decide)); have x65 := x6.grown g5 (own_far o3 x6 (by decide))
 have o05 := own_grown o0 g5 (own_apart o0 o3 (by decide))
 have o15 := own_grown o1 g5 (own_apart o1 o3 (by decide))
 have o25 := own_grown o2 g5 (own_apart o2 o3 (by decide))
 have zf := z5.frozen 3; have zl := z5.lt; have zc := z5.cell 3
 simp only [List.getElem?_toArray, List.getElem?_cons_zero, List.getElem?_cons_succ] at zc
 replace hb := hb5.setCell (p := ⟨w3.heap.size, 3, none⟩) (by show W2.heap.size ≤ w3.heap.size; exact hM.low.size) (.slice nA3 (P.rules.length + Q.rules.length) nC3)
 replace hbw := HB2.out.trans (hb.mono HB2.out.size)
 replace xb := xb5.far (p := ⟨w3.heap.size, 3, none⟩) (Nat.ne_of_lt hlb) (.slice nA3 (P.rules.length + Q.rules.length) nC3); replace x6 := x65.far (p := ⟨w3.heap.size, 3, none⟩) (Nat.ne_of_lt hl6) (.slice nA3 (P.rules.length + Q.rules.length) nC3)
 replace o0 := own_putne (p := ⟨w3.heap.size, 3, none⟩) o05 (own_far o05 z5 (by decide)) (.slice nA3 (P.rules.length + Q.rules.length) nC3)
 replace o1 := own_putne (p := ⟨w3.heap.size, 3, none⟩) o15 (own_far o15 z5 (by decide)) (.slice nA3 (P.rules.length + Q.rules.length) nC3)
 replace o2 := own_putne (p := ⟨w3.heap.size, 3, none⟩) o25 (own_far o25 z5 (by decide)) (.slice nA3 (P.rules.length + Q.rules.length) nC3)
 replace o3 := own_putne (p := ⟨w3.heap.size, 3, none⟩) p5 (own_far p5 z5 (by decide)) (.slice nA3 (P.rules.length + Q.rules.length) nC3)
 have b3k : ∀ e, 34 ≠ e → Kept e w8 (w8.setCell ⟨w3.heap.size, 3, none⟩ (.slice nA3 (P.rules.length + Q.rules.length) nC3)) := fun e he => Kept.put z5 3 (.slice nA3 (P.rules.length + Q.rules.length) nC3) he
 have HK3 := Lib.hid (show ∀ e, e ∈ [58, 71, 9, 116, 3] → Kept e (w3.alloc (.cells #[(.slice A0 P.lats.length c0), (.slice A1 P.funs.length c1), (.slice A2 P.preds.length c2), (.slice A3 P.rules.length c3)] 34)) (w8.setCell ⟨w3.heap.size, 3, none⟩ (.slice nA3 (P.rules.length + Q.rules.length) nC3)) from fun e he => ((HK2.out e he).trans (a3k e (by rintro rfl; revert he; decide))).trans (b3k e (by rintro rfl; revert he; decide)))
 clear a3k b3k
 replace z := z5.put 3 (.slice nA3 (P.rules.length + Q.rules.length) nC3)
 simp only [List.setIfInBounds_toArray, List.set_cons_zero, List.set_cons_succ] at z
 clear z5 xb5 x65 hb5 p5 g5 yb yz tp o05 o15 o25
 have u0 := z.cell 0; have v0 := x6.cell 0; have f0 := x6.frozen 0
 have u1 := z.cell 1; have v1 := x6.cell 1; have f1 := x6.frozen 1
 have u2 := z.cell 2; have v2 := x6.cell 2; have f2 := x6.frozen 2
 have u3 := z.cell 3; have v3 := x6.cell 3; have f3 := x6.frozen 3
 have hlr := x6.lt
 simp only [List.getElem?_toArray, List.getElem?_cons_zero, List.getElem?_cons_succ] at u0 v0 u1 v1 u2 v2 u3 v3
 go_wp2_with fail
 have HBW := Lib.hid hbw
 have hPG : PgR (w8.setCell ⟨w3.heap.size, 3, none⟩ (.slice nA3 (P.rules.length + Q.rules.length) nC3)) (.slice nA0 (P.lats.length + Q.lats.length) nC0) (.slice nA1 (P.funs.length + Q.funs.length) nC1) (.slice nA2 (P.preds.length + Q.preds.length) nC2) (.slice nA3 (P.rules.length + Q.rules.length) nC3) (P.app Q) := ⟨trows_app o0 (HR0.out.kept (LaR.kept (HK3.out _ (by simp)) (HK3.out _ (by simp)))) (HQ0.out.kept (LaR.kept (Kept.below HBW.out _) (Kept.below HBW.out _))), trows_app o1 (HR1.out.kept (FuR.kept (HK3.out _ (by simp)) (HK3.out _ (by simp)))) (HQ1.out.kept (FuR.kept (Kept.below HBW.out _) (Kept.below HBW.out _))), trows_app o2 (HR2.out.kept (PrR.kept (HK3.out _ (by simp)))) (HQ2.out.kept (PrR.kept (Kept.below HBW.out _))), trows_app o3 (HR3.out.kept (RuR.kept (HK3.out _ (by simp)) (HK3.out _ (by simp)))) (HQ3.out.kept (RuR.kept (Kept.below HBW.out _) (Kept.below HBW.out _)))⟩
 have a4 := (((x6.put 0 (.slice nA0 (P.lats.length + Q.lats.length) nC0)).put 1 (.slice nA1 (P.funs.length + Q.funs.length) nC1)).put 2 (.slice nA2 (P.preds.length + Q.preds.length) nC2)).put 3 (.slice nA3 (P.rules.length + Q.rules.length) nC3)
 simp only [List.setIfInBounds_toArray, List.set_cons_zero, List.set_cons_succ] at a4
 refine bodyPost_ret (results_cell_row rfl _ _ (w.heap.size + 1 + 1) 34 _ (0, 0) _ rfl a4 Tryd.underlying34 rfl (by kernel_rfl)) rfl ?_
 exact ⟨_, _, _, _, rfl, pg_put x6 hPG _ _ _ _, (((hbw.setCell (p := ⟨w.heap.size + 1 + 1, 0, none⟩) (by show w.heap.size ≤ w.heap.size + 1 + 1; omega) _).setCell (p := ⟨w.heap.size + 1 + 1, 1, none⟩) (by show w.heap.size ≤ w.heap.size + 1 + 1; omega) _).setCell (p := ⟨w.heap.size + 1 + 1, 2, none⟩) (by show w.heap.size ≤ w.heap.size + 1 + 1; omega) _).setCell (p := ⟨w.heap.size + 1 + 1, 3, none⟩) (by show w.heap.size ≤ w.heap.size + 1 + 1; omega) _⟩
end Go.Proofs.YtpcmlkpnjimbiaaDoor
