/- The walk of the reference's Moved: a copy of a program, with other offsets. -/
import Derived.Test.YtpcmlkpnjimbiaaDoorPMv1
import Derived.Test.YtpcmlkpnjimbiaaDoorInv4
namespace Go.Proofs.YtpcmlkpnjimbiaaDoor
set_option linter.unusedVariables false
set_option linter.unusedSimpArgs false
open Go.RowKit
def NilP (B : Nat) : Value → World → Prop := fun x W => ∃ b, x = .pointer (some ⟨b, 0, none⟩) ∧ B ≤ b ∧ At W b 34 #[.slice none 0 0, .slice none 0 0, .slice none 0 0, .slice none 0 0]
theorem nilP_on {J : World → Prop} (B : Nat) : Lasting J Onward (NilP B) := fun x w w' _ hb ⟨b, e, h, ha⟩ => ⟨b, e, h, ha.next hb⟩
def AggP (B n0 n1 n2 n3 : Nat) (r0 r1 r2 r3 : List Value) : Value → World → Prop := fun x W => ∃ a b c d, x = .agg #[a, b, c, d] ∧ OwnX B 77 4 n0 r0 a W ∧ OwnX B 94 7 n1 r1 b W ∧ OwnX B 73 7 n2 r2 c W ∧ OwnX B 66 9 n3 r3 d W
theorem aggP_on {J : World → Prop} (B n0 n1 n2 n3 : Nat) (r0 r1 r2 r3 : List Value) : Lasting J Onward (AggP B n0 n1 n2 n3 r0 r1 r2 r3) := fun x w w' hj hb ⟨a, b, c, d, e, h0, h1, h2, h3⟩ =>
 ⟨a, b, c, d, e, ownX_on B _ _ _ _ _ _ _ hj hb h0, ownX_on B _ _ _ _ _ _ _ hj hb h1, ownX_on B _ _ _ _ _ _ _ hj hb h2, ownX_on B _ _ _ _ _ _ _ hj hb h3⟩
theorem mix_ru {g : Int → Int} {k : Nat} {xs : List Ap.Ru} {x : Ap.Ru} (hx : xs[k]? = some x) {n : Nat} (hn : x.body.length ≤ n) : (mix (Ap.Ru.to g) k xs).set k { x with pos := g x.pos, body := mix (Ap.Li.to g) n x.body } = mix (Ap.Ru.to g) (k + 1) xs := by
 rw [mix_all hn]
 exact mix_set hx
set_option maxHeartbeats 8000000 in
set_option maxRecDepth 100000 in
theorem moved_any (P : Ap.Pg) (l f p r v v' : Value) (ls ms : List Lx.Tok) (w : World) (hF : Ap.Fit 900000 P) (hl : ls.length ≤ 1000000 ∧ ms.length ≤ 1000000) (h : PgR w l f p r P) (hv : TkR w v ls) (hv' : TkR w v' ms) :
  Calls Tryd.prog 13 #[.agg #[l, f, p, r], v, v'] w fun e w' => ∃ l' f' p' r', e = .returned (.agg #[l', f', p', r']) ∧ Mp w w' P.rules.length l' f' p' r' (P.to (mvTo ls ms)) := by
 obtain ⟨n0, n1, n2, n3⟩ := hF.lens
 have hbl : ∀ x ∈ P.rules, x.body.length ≤ 900000 := fun x hx => (hF.rules x hx).1.2
 obtain ⟨k0, k1, k2, k3⟩ := h
 obtain ⟨A0, c0, rfl⟩ := TRows.slice k0
 obtain ⟨R0, t0, q0⟩ := k0
 obtain ⟨A1, c1, rfl⟩ := TRows.slice k1
 obtain ⟨R1, t1, q1⟩ := k1
 obtain ⟨A2, c2, rfl⟩ := TRows.slice k2
 obtain ⟨R2, t2, q2⟩ := k2
 obtain ⟨A3, c3, rfl⟩ := TRows.slice k3
 obtain ⟨R3, t3, q3⟩ := k3
 obtain ⟨VA, vc, rfl⟩ := TRow.slice hv
 obtain ⟨VB, vd, rfl⟩ := TRow.slice hv'
 obtain ⟨i0, j00, j01, j02, j03⟩ := info_parts lat_info
 obtain ⟨i1, j10, j11, j12, j13⟩ := info_parts fun_info
 obtain ⟨i2, j20, j21, j22, j23⟩ := info_parts pred_info
 obtain ⟨i3, j30, j31, j32, j33⟩ := info_parts rule_info
 obtain ⟨i4, j40, j41, j42, j43⟩ := info_parts lit_info
 have b2 := below2 w (.cells #[.slice A0 P.lats.length c0, .slice A1 P.funs.length c1, .slice A2 P.preds.length c2, .slice A3 P.rules.length c3] 34) (.cells #[.slice none 0 0, .slice none 0 0, .slice none 0 0, .slice none 0 0] 34)
 have x3 := (At.new w 34 #[.slice A0 P.lats.length c0, .slice A1 P.funs.length c1, .slice A2 P.preds.length c2, .slice A3 P.rules.length c3]).next (below1 (w.alloc (.cells #[.slice A0 P.lats.length c0, .slice A1 P.funs.length c1, .slice A2 P.preds.length c2, .slice A3 P.rules.length c3] 34)) (.cells #[.slice none 0 0, .slice none 0 0, .slice none 0 0, .slice none 0 0] 34))
 have x6 := At.new (w.alloc (.cells #[.slice A0 P.lats.length c0, .slice A1 P.funs.length c1, .slice A2 P.preds.length c2, .slice A3 P.rules.length c3] 34)) 34 #[.slice none 0 0, .slice none 0 0, .slice none 0 0, .slice none 0 0]
 rw [alloc_size] at x6
 obtain ⟨W2, hW2⟩ : ∃ W2, W2 = (w.alloc (.cells #[.slice A0 P.lats.length c0, .slice A1 P.funs.length c1, .slice A2 P.preds.length c2, .slice A3 P.rules.length c3] 34)).alloc (.cells #[.slice none 0 0, .slice none 0 0, .slice none 0 0, .slice none 0 0] 34) := ⟨_, rfl⟩
 rw [← hW2] at b2 x3 x6
 have HT0 := Lib.hid (TRow.below t0 b2); have HQ0 := Lib.hid q0; have HO0 := Lib.hid (q0.ones (fun _ _ => LaR.one)); have y0 := x3.cell 0; clear t0 q0
 have HT1 := Lib.hid (TRow.below t1 b2); have HQ1 := Lib.hid q1; have HO1 := Lib.hid (q1.ones (fun _ _ => FuR.one)); have y1 := x3.cell 1; clear t1 q1
 have HT2 := Lib.hid (TRow.below t2 b2); have HQ2 := Lib.hid q2; have HO2 := Lib.hid (q2.ones (fun _ _ => PrR.one)); have y2 := x3.cell 2; clear t2 q2
 have HT3 := Lib.hid (TRow.below t3 b2); have HQ3 := Lib.hid q3; have HO3 := Lib.hid (q3.ones (fun _ _ => RuR.one)); have y3 := x3.cell 3; clear t3 q3
 simp only [List.getElem?_toArray, List.getElem?_cons_zero, List.getElem?_cons_succ] at y0 y1 y2 y3
 have HB2 := Lib.hid b2; have HX6 := Lib.hid x6; have HW := Lib.hid hW2; have HV := Lib.hid (And.intro hv hv'); have HBL := Lib.hid hbl; have HY := Lib.hid (And.intro y0 (And.intro y1 (And.intro y2 y3)))
 clear b2 x3 x6 hW2 hv hv' hbl hF y0 y1 y2 y3
 go_enter Tryd.func13, Tryd.ntmps13
 go_wp2_with fail
 rw [← HW.out]
 obtain ⟨y0, y1, y2, y3⟩ := HY.out
 refine' wp_region_last 18 _ _ (Below W2.heap.size W2) (Onward) (EmpX W2.heap.size 77 4 :: Vl :: Vl :: OwnX W2.heap.size 77 4 P.lats.length R0.flatten :: EmpX W2.heap.size 94 7 :: Vl :: Vl :: OwnX W2.heap.size 94 7 P.funs.length R1.flatten :: EmpX W2.heap.size 73 7 :: Vl :: Vl :: OwnX W2.heap.size 73 7 P.preds.length R2.flatten :: EmpX W2.heap.size 66 9 :: Vl :: Vl :: OwnX W2.heap.size 66 9 P.rules.length R3.flatten :: AggP W2.heap.size P.lats.length P.funs.length P.preds.length P.rules.length R0.flatten R1.flatten R2.flatten R3.flatten :: NilP W2.heap.size :: []) ?hF (by kernel_rfl) (by kernel_rfl) (by kernel_rfl) (by rfl) (by rfl) (by rfl) (by kernel_rfl) ((Below.refl _ _).drew) (lasting_cons (empX_on _ _ _) (lasting_cons (lasting_vl) (lasting_cons (lasting_vl) (lasting_cons (ownX_on _ _ _ _ _) (lasting_cons (empX_on _ _ _) (lasting_cons (lasting_vl) (lasting_cons (lasting_vl) (lasting_cons (ownX_on _ _ _ _ _) (lasting_cons (empX_on _ _ _) (lasting_cons (lasting_vl) (lasting_cons (lasting_vl) (lasting_cons (ownX_on _ _ _ _ _) (lasting_cons (empX_on _ _ _) (lasting_cons (lasting_vl) (lasting_cons (lasting_vl) (lasting_cons (ownX_on _ _ _ _ _) (lasting_cons (aggP_on _ _ _ _ _ _ _ _ _) (lasting_cons (nilP_on _) (lasting_none))))))))))))))))))) ?hops ?hlast
 case hF => (intro v; simp only [over, Act.put, List.setIfInBounds_toArray, List.set_cons_zero, List.set_cons_succ, Nat.zero_add, Nat.reduceAdd]; exact rfl)
 case hops =>
  refine ⟨?_, ?_⟩
  ·intro v w' hj hd hs K hK
   have hk := hK.out
   simp only [Act.put, List.setIfInBounds_toArray, List.set_cons_zero, List.set_cons_succ] at hk
   have HK := Lib.hid hk
   clear hd hs hk hK
   go_simp
   exact HK.out _ _ (hj.out.alloc hj.out.size _) (below1 _ _) ⟨_, rfl, own_empty _ _ _ _ hj.out.size⟩
  refine ⟨?_, ?_⟩
  ·intro v w' hj hd hs K hK
   have hk := hK.out
   simp only [Act.put, List.setIfInBounds_toArray, List.set_cons_zero, List.set_cons_succ] at hk
   have HK := Lib.hid hk
   clear hd hs hk hK
   go_simp
   exact HK.out _ _ hj.out (Below.refl _ _) (show _ = _ from rfl)
  refine ⟨?_, ?_⟩
  ·intro v w' hj hd hs K hK
   have t1 : v 1 = _ := hd.out 1 (by kernel_rfl)
   have yy := next_cell y0 hj.out
   have hk := hK.out
   simp only [t1, Act.put, List.setIfInBounds_toArray, List.set_cons_zero, List.set_cons_succ] at hk
   have HK := Lib.hid hk
   clear hd hs hk hK
   go_simp
   exact HK.out _ _ hj.out (Below.refl _ _) (show _ = _ from rfl)
  refine ⟨?_, ?_⟩
  ·intro v w' hj hd hs K hK
   obtain ⟨g0, t0, o0⟩ : EmpX W2.heap.size 77 4 (v 0) w' := hd.out 0 (by kernel_rfl)
   have t2 : v 2 = _ := hd.out 2 (by kernel_rfl)
   have hk := hK.out
   rw [if_pos (show Region.wanted _ _ = true from rfl)]
   simp only [t0, t2] at hk ⊢
   have HK := Lib.hid hk
   clear hd hs hk hK
   refine wp_append_zeroK (.tmp 13) (.tmp 15) 29 rfl W2.heap.size 77 i0 _ 4 72 Tryd.underlying29 j00 j01 j02 j03 rfl g0 rfl o0 _ P.lats.length R0.flatten rfl (TRow.below HT0.out hj.out) HO0.out (by omega) hj.out.size fun g9 c9 w9 o9 b9 _ => ?_
   exact HK.out _ _ (hj.out.trans (b9.mono hj.out.size)) b9 ⟨_, _, rfl, o9⟩
  refine ⟨?_, ?_⟩
  ·intro v w' hj hd hs K hK
   have hk := hK.out
   simp only [Act.put, List.setIfInBounds_toArray, List.set_cons_zero, List.set_cons_succ] at hk
   have HK := Lib.hid hk
   clear hd hs hk hK
   go_simp
   exact HK.out _ _ (hj.out.alloc hj.out.size _) (below1 _ _) ⟨_, rfl, own_empty _ _ _ _ hj.out.size⟩
  refine ⟨?_, ?_⟩
  ·intro v w' hj hd hs K hK
   have hk := hK.out
   simp only [Act.put, List.setIfInBounds_toArray, List.set_cons_zero, List.set_cons_succ] at hk
   have HK := Lib.hid hk
   clear hd hs hk hK
   go_simp
   exact HK.out _ _ hj.out (Below.refl _ _) (show _ = _ from rfl)
  refine ⟨?_, ?_⟩
  ·intro v w' hj hd hs K hK
   have t5 : v 5 = _ := hd.out 5 (by kernel_rfl)
   have yy := next_cell y1 hj.out
   have hk := hK.out
   simp only [t5, Act.put, List.setIfInBounds_toArray, List.set_cons_zero, List.set_cons_succ] at hk
   have HK := Lib.hid hk
   clear hd hs hk hK
   go_simp
   exact HK.out _ _ hj.out (Below.refl _ _) (show _ = _ from rfl)
  refine ⟨?_, ?_⟩
  ·intro v w' hj hd hs K hK
   obtain ⟨g4, t4, o4⟩ : EmpX W2.heap.size 94 7 (v 4) w' := hd.out 4 (by kernel_rfl)
   have t6 : v 6 = _ := hd.out 6 (by kernel_rfl)
   have hk := hK.out
   rw [if_pos (show Region.wanted _ _ = true from rfl)]
   simp only [t4, t6] at hk ⊢
   have HK := Lib.hid hk
   clear hd hs hk hK
   refine wp_append_zeroK (.tmp 17) (.tmp 19) 30 rfl W2.heap.size 94 i1 _ 7 120 Tryd.underlying30 j10 j11 j12 j13 rfl g4 rfl o4 _ P.funs.length R1.flatten rfl (TRow.below HT1.out hj.out) HO1.out (by omega) hj.out.size fun g9 c9 w9 o9 b9 _ => ?_
   exact HK.out _ _ (hj.out.trans (b9.mono hj.out.size)) b9 ⟨_, _, rfl, o9⟩
  refine ⟨?_, ?_⟩
  ·intro v w' hj hd hs K hK
   have hk := hK.out
   simp only [Act.put, List.setIfInBounds_toArray, List.set_cons_zero, List.set_cons_succ] at hk
   have HK := Lib.hid hk
   clear hd hs hk hK
   go_simp
   exact HK.out _ _ (hj.out.alloc hj.out.size _) (below1 _ _) ⟨_, rfl, own_empty _ _ _ _ hj.out.size⟩
  refine ⟨?_, ?_⟩
  ·intro v w' hj hd hs K hK
   have hk := hK.out
   simp only [Act.put, List.setIfInBounds_toArray, List.set_cons_zero, List.set_cons_succ] at hk
   have HK := Lib.hid hk
   clear hd hs hk hK
   go_simp
   exact HK.out _ _ hj.out (Below.refl _ _) (show _ = _ from rfl)
  refine ⟨?_, ?_⟩
  ·intro v w' hj hd hs K hK
   have t9 : v 9 = _ := hd.out 9 (by kernel_rfl)
   have yy := next_cell y2 hj.out
   have hk := hK.out
   simp only [t9, Act.put, List.setIfInBounds_toArray, List.set_cons_zero, List.set_cons_succ] at hk
   have HK := Lib.hid hk
   clear hd hs hk hK
   go_simp
   exact HK.out _ _ hj.out (Below.refl _ _) (show _ = _ from rfl)
  refine ⟨?_, ?_⟩
  ·intro v w' hj hd hs K hK
   obtain ⟨g8, t8, o8⟩ : EmpX W2.heap.size 73 7 (v 8) w' := hd.out 8 (by kernel_rfl)
   have t10 : v 10 = _ := hd.out 10 (by kernel_rfl)
   have hk := hK.out
   rw [if_pos (show Region.wanted _ _ = true from rfl)]
   simp only [t8, t10] at hk ⊢
   have HK := Lib.hid hk
   clear hd hs hk hK
   refine wp_append_zeroK (.tmp 21) (.tmp 23) 31 rfl W2.heap.size 73 i2 _ 7 88 Tryd.underlying31 j20 j21 j22 j23 rfl g8 rfl o8 _ P.preds.length R2.flatten rfl (TRow.below HT2.out hj.out) HO2.out (by omega) hj.out.size fun g9 c9 w9 o9 b9 _ => ?_
   exact HK.out _ _ (hj.out.trans (b9.mono hj.out.size)) b9 ⟨_, _, rfl, o9⟩
  refine ⟨?_, ?_⟩
  ·intro v w' hj hd hs K hK
   have hk := hK.out
   simp only [Act.put, List.setIfInBounds_toArray, List.set_cons_zero, List.set_cons_succ] at hk
   have HK := Lib.hid hk
   clear hd hs hk hK
   go_simp
   exact HK.out _ _ (hj.out.alloc hj.out.size _) (below1 _ _) ⟨_, rfl, own_empty _ _ _ _ hj.out.size⟩
  refine ⟨?_, ?_⟩
  ·intro v w' hj hd hs K hK
   have hk := hK.out
   simp only [Act.put, List.setIfInBounds_toArray, List.set_cons_zero, List.set_cons_succ] at hk
   have HK := Lib.hid hk
   clear hd hs hk hK
   go_simp
   exact HK.out _ _ hj.out (Below.refl _ _) (show _ = _ from rfl)
  refine ⟨?_, ?_⟩
  ·intro v w' hj hd hs K hK
   have t13 : v 13 = _ := hd.out 13 (by kernel_rfl)
   have yy := next_cell y3 hj.out
   have hk := hK.out
   simp only [t13, Act.put, List.setIfInBounds_toArray, List.set_cons_zero, List.set_cons_succ] at hk
   have HK := Lib.hid hk
   clear hd hs hk hK
   go_simp
   exact HK.out _ _ hj.out (Below.refl _ _) (show _ = _ from rfl)
  refine ⟨?_, ?_⟩
  ·intro v w' hj hd hs K hK
   obtain ⟨g12, t12, o12⟩ : EmpX W2.heap.size 66 9 (v 12) w' := hd.out 12 (by kernel_rfl)
   have t14 : v 14 = _ := hd.out 14 (by kernel_rfl)
   have hk := hK.out
   rw [if_pos (show Region.wanted _ _ = true from rfl)]
   simp only [t12, t14] at hk ⊢
   have HK := Lib.hid hk
   clear hd hs hk hK
   refine wp_append_zeroK (.tmp 25) (.tmp 27) 32 rfl W2.heap.size 66 i3 _ 9 128 Tryd.underlying32 j30 j31 j32 j33 rfl g12 rfl o12 _ P.rules.length R3.flatten rfl (TRow.below HT3.out hj.out) HO3.out (by omega) hj.out.size fun g9 c9 w9 o9 b9 _ => ?_
   exact HK.out _ _ (hj.out.trans (b9.mono hj.out.size)) b9 ⟨_, _, rfl, o9⟩
  refine ⟨?_, ?_⟩
  ·intro v w' hj hd hs K hK
   obtain ⟨g3, c3, t3, o3⟩ : OwnX W2.heap.size 77 4 P.lats.length R0.flatten (v 3) w' := hd.out 3 (by kernel_rfl)
   obtain ⟨g7, c7, t7, o7⟩ : OwnX W2.heap.size 94 7 P.funs.length R1.flatten (v 7) w' := hd.out 7 (by kernel_rfl)
   obtain ⟨g11, c11, t11, o11⟩ : OwnX W2.heap.size 73 7 P.preds.length R2.flatten (v 11) w' := hd.out 11 (by kernel_rfl)
   obtain ⟨g15, c15, t15, o15⟩ : OwnX W2.heap.size 66 9 P.rules.length R3.flatten (v 15) w' := hd.out 15 (by kernel_rfl)
   have hk := hK.out
   simp only [t3, t7, t11, t15, Act.put, List.setIfInBounds_toArray, List.set_cons_zero, List.set_cons_succ] at hk
   have HK := Lib.hid hk
   clear hd hs hk hK
   go_simp
   exact HK.out _ _ hj.out (Below.refl _ _) ⟨_, _, _, _, rfl, ⟨_, _, rfl, o3⟩, ⟨_, _, rfl, o7⟩, ⟨_, _, rfl, o11⟩, ⟨_, _, rfl, o15⟩⟩
  refine ⟨?_, ?_⟩
  ·intro v w' hj hd hs K hK
   have hk := hK.out
   simp only [Act.put, List.setIfInBounds_toArray, List.set_cons_zero, List.set_cons_succ] at hk
   have HK := Lib.hid hk
   clear hd hs hk hK
   go_simp
   exact HK.out _ _ (hj.out.alloc hj.out.size _) (below1 _ _) ⟨_, rfl, hj.out.size, At.new _ _ _⟩
  trivial
 case hlast =>
  intro v w' hj hd K hK
  obtain ⟨ga16, gb16, gc16, gd16, t16, ⟨g0, c0, rfl, o0⟩, ⟨g1, c1, rfl, o1⟩, ⟨g2, c2, rfl, o2⟩, ⟨g3, c3, rfl, o3⟩⟩ : AggP W2.heap.size P.lats.length P.funs.length P.preds.length P.rules.length R0.flatten R1.flatten R2.flatten R3.flatten (v 16) w' := hd.out 16 (of_decide_eq_true (by kernel_rfl))
  obtain ⟨b17, t17, l17, a17⟩ : NilP W2.heap.size (v 17) w' := hd.out 17 (of_decide_eq_true (by kernel_rfl))
  have yf0 := a17.frozen 0
  have yf1 := a17.frozen 1
  have yf2 := a17.frozen 2
  have yf3 := a17.frozen 3
  have yc0 := a17.cell 0
  have yc1 := a17.cell 1
  have yc2 := a17.cell 2
  have yc3 := a17.cell 3
  have yl := a17.lt
  simp only [List.getElem?_toArray, List.getElem?_cons_zero, List.getElem?_cons_succ] at yc0 yc1 yc2 yc3
  have hk := hK.out
  simp only [t16, t17, Act.put, List.setIfInBounds_toArray, List.set_cons_zero, List.set_cons_succ] at hk
  have HK := Lib.hid hk
  clear hd hk hK
  go_simp
  refine HK.out _ ?_
  have z7 := (((a17.put 0 (.slice (some ⟨g0, 0, none⟩) P.lats.length c0)).put 1 (.slice (some ⟨g1, 0, none⟩) P.funs.length c1)).put 2 (.slice (some ⟨g2, 0, none⟩) P.preds.length c2)).put 3 (.slice (some ⟨g3, 0, none⟩) P.rules.length c3)
  simp only [List.setIfInBounds_toArray, List.set_cons_zero, List.set_cons_succ] at z7
  have x6 := HX6.out.next hj.out
  have hne : w.heap.size + 1 ≠ b17 := by have := HX6.out.lt; omega
  have z6 := (((x6.far (p := ⟨b17, 0, none⟩) hne (.slice (some ⟨g0, 0, none⟩) P.lats.length c0)).far (p := ⟨b17, 1, none⟩) hne (.slice (some ⟨g1, 0, none⟩) P.funs.length c1)).far (p := ⟨b17, 2, none⟩) hne (.slice (some ⟨g2, 0, none⟩) P.preds.length c2)).far (p := ⟨b17, 3, none⟩) hne (.slice (some ⟨g3, 0, none⟩) P.rules.length c3)
  have hws : w.heap.size ≤ W2.heap.size := HB2.out.size
  have hlow : Below w.heap.size w ((((w'.setCell ⟨b17, 0, none⟩ (.slice (some ⟨g0, 0, none⟩) P.lats.length c0)).setCell ⟨b17, 1, none⟩ (.slice (some ⟨g1, 0, none⟩) P.funs.length c1)).setCell ⟨b17, 2, none⟩ (.slice (some ⟨g2, 0, none⟩) P.preds.length c2)).setCell ⟨b17, 3, none⟩ (.slice (some ⟨g3, 0, none⟩) P.rules.length c3)) := ((((HB2.out.trans (hj.out.mono hws)).setCell (p := ⟨b17, 0, none⟩) (by show w.heap.size ≤ b17; omega) _).setCell (p := ⟨b17, 1, none⟩) (by show w.heap.size ≤ b17; omega) _).setCell (p := ⟨b17, 2, none⟩) (by show w.heap.size ≤ b17; omega) _).setCell (p := ⟨b17, 3, none⟩) (by show w.heap.size ≤ b17; omega) _
  have hM : Mp w ((((w'.setCell ⟨b17, 0, none⟩ (.slice (some ⟨g0, 0, none⟩) P.lats.length c0)).setCell ⟨b17, 1, none⟩ (.slice (some ⟨g1, 0, none⟩) P.funs.length c1)).setCell ⟨b17, 2, none⟩ (.slice (some ⟨g2, 0, none⟩) P.preds.length c2)).setCell ⟨b17, 3, none⟩ (.slice (some ⟨g3, 0, none⟩) P.rules.length c3)) 0 (.slice (some ⟨g0, 0, none⟩) P.lats.length c0) (.slice (some ⟨g1, 0, none⟩) P.funs.length c1) (.slice (some ⟨g2, 0, none⟩) P.preds.length c2) (.slice (some ⟨g3, 0, none⟩) P.rules.length c3) P := ⟨mrows_of (own_put4 o0 a17 (by decide) _ _ _ _) hws HQ0.out, mrows_of (own_put4 o1 a17 (by decide) _ _ _ _) hws HQ1.out, mrows_of (own_put4 o2 a17 (by decide) _ _ _ _) hws HQ2.out, mru_of (own_put4 o3 a17 (by decide) _ _ _ _) hws HQ3.out, hlow⟩
  generalize hw7 : (((w'.setCell ⟨b17, 0, none⟩ (.slice (some ⟨g0, 0, none⟩) P.lats.length c0)).setCell ⟨b17, 1, none⟩ (.slice (some ⟨g1, 0, none⟩) P.funs.length c1)).setCell ⟨b17, 2, none⟩ (.slice (some ⟨g2, 0, none⟩) P.preds.length c2)).setCell ⟨b17, 3, none⟩ (.slice (some ⟨g3, 0, none⟩) P.rules.length c3) = w7 at hM z7 z6 hlow ⊢
  clear hw7 yf0 yf1 yf2 yf3 yc0 yc1 yc2 yc3 yl t16 t17 o0 o1 o2 o3 a17 hj HK x6 y0 y1 y2 y3 hlow
  go_wp2_with fail
  go_loopw [8] (fun i wr => ∃ (k : Nat), k ≤ P.lats.length ∧ i = .int .i64 k ∧ Mp w wr 0 (.slice (some ⟨g0, 0, none⟩) P.lats.length c0) (.slice (some ⟨g1, 0, none⟩) P.funs.length c1) (.slice (some ⟨g2, 0, none⟩) P.preds.length c2) (.slice (some ⟨g3, 0, none⟩) P.rules.length c3) ⟨mix (Ap.La.to (mvTo ls ms)) k P.lats, P.funs, P.preds, P.rules⟩ ∧ At wr b17 34 #[(.slice (some ⟨g0, 0, none⟩) P.lats.length c0), (.slice (some ⟨g1, 0, none⟩) P.funs.length c1), (.slice (some ⟨g2, 0, none⟩) P.preds.length c2), (.slice (some ⟨g3, 0, none⟩) P.rules.length c3)] ∧ At wr (w.heap.size + 1) 34 #[.slice none 0 0, .slice none 0 0, .slice none 0 0, .slice none 0 0]) (fun i _ => P.lats.length - (intOf i).toNat)
  case atStart => exact ⟨0, by omega, rfl, hM.cast (by rw [mix_zero]), z7, z6⟩
  case round =>
   clear hM z7 z6
   obtain ⟨k, hk, rfl, hM, x7, xr⟩ := hrel
   have y0 := x7.cell 0
   simp only [List.getElem?_toArray, List.getElem?_cons_zero, List.getElem?_cons_succ] at y0
   by_cases h1 : k < P.lats.length
   ·obtain ⟨x, hx⟩ : ∃ x, P.lats[k]? = some x := ⟨_, List.getElem?_eq_getElem h1⟩
    have HXM := Lib.hid (show (mix (Ap.La.to (mvTo ls ms)) k P.lats)[k]? = some x from (mix_get hk).trans hx)
    obtain ⟨g, c, cur, e2, hg, ha, hc, hz⟩ := hM.lat (i := k) HXM.out
    simp only [Value.slice.injEq, Option.some.injEq, Addr.mk.injEq] at e2
    obtain ⟨⟨rfl, -⟩, -, rfl⟩ := e2
    have i0 : (0 : Int) ≤ (k : Int) := by omega
    have i1 : (k : Int) < (P.lats.length : Int) := by omega
    have dk : decide ((k : Int) < (P.lats.length : Int)) = true := decide_eq_true i1
    have HM := Lib.hid hM; have HX7 := Lib.hid x7; have HXR := Lib.hid xr; have HXX := Lib.hid hx
    have HMV := Lib.hid (fun (W : World) (hb : Below wr.heap.size wr W) => move_any _ _ ls ms x.pos W hl (TRow.below HV.out.1 (hM.low.trans (hb.mono hM.low.size))) (TRow.below HV.out.2 (hM.low.trans (hb.mono hM.low.size))))
    clear hM x7 xr hz ha hx
    go_wp2_with fail
    refine' wp_region_last 14 _ _ (Below wr.heap.size wr) (Onward) (Vl :: Vl :: Vl :: Vl :: Vl :: Vl :: Vl :: Vl :: Vl :: Vl :: Vl :: Vl :: Vl :: Vl :: []) ?hF (by kernel_rfl) (by kernel_rfl) (by kernel_rfl) (by rfl) (by rfl) (by rfl) (by kernel_rfl) ((Below.refl _ _).drew) (lasting_cons (lasting_vl) (lasting_cons (lasting_vl) (lasting_cons (lasting_vl) (lasting_cons (lasting_vl) (lasting_cons (lasting_vl) (lasting_cons (lasting_vl) (lasting_cons (lasting_vl) (lasting_cons (lasting_vl) (lasting_cons (lasting_vl) (lasting_cons (lasting_vl) (lasting_cons (lasting_vl) (lasting_cons (lasting_vl) (lasting_cons (lasting_vl) (lasting_cons (lasting_vl) (lasting_none))))))))))))))) ?hops ?hlast
    case hF => (intro v; simp only [over, Act.put, List.setIfInBounds_toArray, List.set_cons_zero, List.set_cons_succ, Nat.zero_add, Nat.reduceAdd]; exact rfl)
    case hops =>
     refine ⟨?_, ?_⟩
     ·intro v w' hj hd hs K hK
      have hk := hK.out
      simp only [Act.put, List.setIfInBounds_toArray, List.set_cons_zero, List.set_cons_succ] at hk
      have HK := Lib.hid hk
      clear hd hs hk hK
      go_simp
      exact HK.out _ _ hj.out (Below.refl _ _) (show _ = _ from rfl)
     refine ⟨?_, ?_⟩
     ·intro v w' hj hd hs K hK
      have t0 : v 0 = _ := hd.out 0 (by kernel_rfl)
      have yy := next_cell y0 hj.out
      have hk := hK.out
      simp only [t0, Act.put, List.setIfInBounds_toArray, List.set_cons_zero, List.set_cons_succ] at hk
      have HK := Lib.hid hk
      clear hd hs hk hK
      go_simp
      exact HK.out _ _ hj.out (Below.refl _ _) (show _ = _ from rfl)
     refine ⟨?_, ?_⟩
     ·intro v w' hj hd hs K hK
      have hk := hK.out
      simp only [Act.put, List.setIfInBounds_toArray, List.set_cons_zero, List.set_cons_succ] at hk
      have HK := Lib.hid hk
      clear hd hs hk hK
      go_simp
      exact HK.out _ _ hj.out (Below.refl _ _) (show _ = _ from rfl)
     refine ⟨?_, ?_⟩
     ·intro v w' hj hd hs K hK
      have hk := hK.out
      simp only [Act.put, List.setIfInBounds_toArray, List.set_cons_zero, List.set_cons_succ] at hk
      have HK := Lib.hid hk
      clear hd hs hk hK
      go_simp
      exact HK.out _ _ hj.out (Below.refl _ _) (show _ = _ from rfl)
     refine ⟨?_, ?_⟩
     ·intro v w' hj hd hs K hK
      have t3 : v 3 = _ := hd.out 3 (by kernel_rfl)
      have yy := next_cell y0 hj.out
      have hk := hK.out
      simp only [t3, Act.put, List.setIfInBounds_toArray, List.set_cons_zero, List.set_cons_succ] at hk
      have HK := Lib.hid hk
      clear hd hs hk hK
      go_simp
      exact HK.out _ _ hj.out (Below.refl _ _) (show _ = _ from rfl)
     refine ⟨?_, ?_⟩
     ·intro v w' hj hd hs K hK
      have hk := hK.out
      simp only [Act.put, List.setIfInBounds_toArray, List.set_cons_zero, List.set_cons_succ] at hk
      have HK := Lib.hid hk
      clear hd hs hk hK
      go_simp
      exact HK.out _ _ hj.out (Below.refl _ _) (show _ = _ from rfl)
     refine ⟨?_, ?_⟩
     ·intro v w' hj hd hs K hK
      have t4 : v 4 = _ := hd.out 4 (by kernel_rfl)
      have t5 : v 5 = _ := hd.out 5 (by kernel_rfl)
      have hk := hK.out
      simp only [t4, t5, Act.put, List.setIfInBounds_toArray, List.set_cons_zero, List.set_cons_succ] at hk
      have HK := Lib.hid hk
      clear hd hs hk hK
      go_simp
      exact HK.out _ _ hj.out (Below.refl _ _) (show _ = _ from rfl)
     refine ⟨?_, ?_⟩
     ·intro v w' hj hd hs K hK
      have t6 : v 6 = _ := hd.out 6 (by kernel_rfl)
      have hk := hK.out
      simp only [t6, Act.put, List.setIfInBounds_toArray, List.set_cons_zero, List.set_cons_succ] at hk
      have HK := Lib.hid hk
      clear hd hs hk hK
      go_simp
      exact HK.out _ _ hj.out (Below.refl _ _) (show _ = _ from rfl)
     refine ⟨?_, ?_⟩
     ·intro v w' hj hd hs K hK
      have t7 : v 7 = _ := hd.out 7 (by kernel_rfl)
      have yy := next_cell hc hj.out
      have hk := hK.out
      simp only [t7, Act.put, List.setIfInBounds_toArray, List.set_cons_zero, List.set_cons_succ] at hk
      have HK := Lib.hid hk
      clear hd hs hk hK
      go_simp
      exact HK.out _ _ hj.out (Below.refl _ _) (show _ = _ from rfl)
     refine ⟨?_, ?_⟩
     ·intro v w' hj hd hs K hK
      have hk := hK.out
      simp only [Act.put, List.setIfInBounds_toArray, List.set_cons_zero, List.set_cons_succ] at hk
      have HK := Lib.hid hk
      clear hd hs hk hK
      go_simp
      exact HK.out _ _ hj.out (Below.refl _ _) (show _ = _ from rfl)
     refine ⟨?_, ?_⟩
     ·intro v w' hj hd hs K hK
      have hk := hK.out
      simp only [Act.put, List.setIfInBounds_toArray, List.set_cons_zero, List.set_cons_succ] at hk
      have HK := Lib.hid hk
      clear hd hs hk hK
      go_simp
      exact HK.out _ _ hj.out (Below.refl _ _) (show _ = _ from rfl)
     refine ⟨?_, ?_⟩
     ·intro v w' hj hd hs K hK
      have t8 : v 8 = _ := hd.out 8 (by kernel_rfl)
      have t9 : v 9 = _ := hd.out 9 (by kernel_rfl)
      have t10 : v 10 = _ := hd.out 10 (by kernel_rfl)
      have hk := hK.out
      simp only [t8, t9, t10, Act.put, List.setIfInBounds_toArray, List.set_cons_zero, List.set_cons_succ] at hk
      have HK := Lib.hid hk
      clear hd hs hk hK
      go_simp
      go_at_call 37
      refine (HMV.out w' hj.out).mono ?_
      rintro e wz ⟨rfl, hbz⟩
      exact HK.out _ _ (hj.out.trans (hbz.mono hj.out.size)) hbz (show _ = _ from rfl)
     refine ⟨?_, ?_⟩
     ·intro v w' hj hd hs K hK
      have t1 : v 1 = _ := hd.out 1 (by kernel_rfl)
      have t2 : v 2 = _ := hd.out 2 (by kernel_rfl)
      have hk := hK.out
      simp only [t1, t2, Act.put, List.setIfInBounds_toArray, List.set_cons_zero, List.set_cons_succ] at hk
      have HK := Lib.hid hk
      clear hd hs hk hK
      go_simp
      exact HK.out _ _ hj.out (Below.refl _ _) (show _ = _ from rfl)
     refine ⟨?_, ?_⟩
     ·intro v w' hj hd hs K hK
      have t12 : v 12 = _ := hd.out 12 (by kernel_rfl)
      have hk := hK.out
      simp only [t12, Act.put, List.setIfInBounds_toArray, List.set_cons_zero, List.set_cons_succ] at hk
      have HK := Lib.hid hk
      clear hd hs hk hK
      go_simp
      exact HK.out _ _ hj.out (Below.refl _ _) (show _ = _ from rfl)
     trivial
    case hlast =>
     intro v w' hj hd K hK
     have t11 : v 11 = _ := hd.out 11 (of_decide_eq_true (by kernel_rfl))
     have t13 : v 13 = _ := hd.out 13 (of_decide_eq_true (by kernel_rfl))
     have hM2 := HM.out.next hj.out
     obtain ⟨g9, c9, cur2, e2, hg2, ha2, hc2, hz2⟩ := hM2.lat (i := k) HXM.out
     simp only [Value.slice.injEq, Option.some.injEq, Addr.mk.injEq] at e2
     obtain ⟨⟨rfl, -⟩, -, rfl⟩ := e2
     have yf := ha2.frozen (k * 4 + 3)
     have yl := ha2.lt
     have hk := hK.out
     simp only [t11, t13, Act.put, List.setIfInBounds_toArray, List.set_cons_zero, List.set_cons_succ] at hk
     have HK := Lib.hid hk
     clear hd hk hK
     go_simp
     refine HK.out _ ?_
     have hM3 := hz2 (mvTo ls ms x.pos)
     have z7 := (HX7.out.next hj.out).far (p := ⟨g0, k * 4 + 3, none⟩) (at_apart (HX7.out.next hj.out) ha2 (by decide)) (.int .i64 (mvTo ls ms x.pos))
     have z6 := (HXR.out.next hj.out).far (p := ⟨g0, k * 4 + 3, none⟩) (at_apart (HXR.out.next hj.out) ha2 (by decide)) (.int .i64 (mvTo ls ms x.pos))
     generalize hws : w'.setCell ⟨g0, k * 4 + 3, none⟩ (.int .i64 (mvTo ls ms x.pos)) = ws at hM3 z7 z6 ⊢
     clear hws yf yl ha2 hc2 hz2 hM2 hj HK y0 hc
     go_wp2_with fail
     go_roundw
     case rel => exact ⟨k + 1, by omega, by go_num, hM3.cast (by rw [← mix_set HXX.out]; rfl), z7, z6⟩
     case measure => simp [intOf]; omega
   ·have dk : decide ((k : Int) < (P.lats.length : Int)) = false := decide_eq_false (by omega)
    have hM := hM.cast (P' := ⟨P.lats.map (Ap.La.to (mvTo ls ms)), P.funs, P.preds, P.rules⟩) (by rw [mix_all (by omega)])
    have z7 := x7; have z6 := xr; clear x7 xr
    go_wp2_with fail
    go_loopw [9] (fun i wr => ∃ (k : Nat), k ≤ P.funs.length ∧ i = .int .i64 k ∧ Mp w wr 0 (.slice (some ⟨g0, 0, none⟩) P.lats.length c0) (.slice (some ⟨g1, 0, none⟩) P.funs.length c1) (.slice (some ⟨g2, 0, none⟩) P.preds.length c2) (.slice (some ⟨g3, 0, none⟩) P.rules.length c3) ⟨P.lats.map (Ap.La.to (mvTo ls ms)), mix (Ap.Fu.to (mvTo ls ms)) k P.funs, P.preds, P.rules⟩ ∧ At wr b17 34 #[(.slice (some ⟨g0, 0, none⟩) P.lats.length c0), (.slice (some ⟨g1, 0, none⟩) P.funs.length c1), (.slice (some ⟨g2, 0, none⟩) P.preds.length c2), (.slice (some ⟨g3, 0, none⟩) P.rules.length c3)] ∧ At wr (w.heap.size + 1) 34 #[.slice none 0 0, .slice none 0 0, .slice none 0 0, .slice none 0 0]) (fun i _ => P.funs.length - (intOf i).toNat)
    case atStart => exact ⟨0, by omega, rfl, hM.cast (by rw [mix_zero]), z7, z6⟩
    case round =>
     clear hM z7 z6
     obtain ⟨k, hk, rfl, hM, x7, xr⟩ := hrel
     have y0 := x7.cell 1
     simp only [List.getElem?_toArray, List.getElem?_cons_zero, List.getElem?_cons_succ] at y0
     by_cases h1 : k < P.funs.length
     ·obtain ⟨x, hx⟩ : ∃ x, P.funs[k]? = some x := ⟨_, List.getElem?_eq_getElem h1⟩
      have HXM := Lib.hid (show (mix (Ap.Fu.to (mvTo ls ms)) k P.funs)[k]? = some x from (mix_get hk).trans hx)
      obtain ⟨g, c, cur, e2, hg, ha, hc, hz⟩ := hM.fn (i := k) HXM.out
      simp only [Value.slice.injEq, Option.some.injEq, Addr.mk.injEq] at e2
      obtain ⟨⟨rfl, -⟩, -, rfl⟩ := e2
      have i0 : (0 : Int) ≤ (k : Int) := by omega
      have i1 : (k : Int) < (P.funs.length : Int) := by omega
      have dk : decide ((k : Int) < (P.funs.length : Int)) = true := decide_eq_true i1
      have HM := Lib.hid hM; have HX7 := Lib.hid x7; have HXR := Lib.hid xr; have HXX := Lib.hid hx
      have HMV := Lib.hid (fun (W : World) (hb : Below wr.heap.size wr W) => move_any _ _ ls ms x.pos W hl (TRow.below HV.out.1 (hM.low.trans (hb.mono hM.low.size))) (TRow.below HV.out.2 (hM.low.trans (hb.mono hM.low.size))))
      clear hM x7 xr hz ha hx
      go_wp2_with fail
      refine' wp_region_last 14 _ _ (Below wr.heap.size wr) (Onward) (Vl :: Vl :: Vl :: Vl :: Vl :: Vl :: Vl :: Vl :: Vl :: Vl :: Vl :: Vl :: Vl :: Vl :: []) ?hF (by kernel_rfl) (by kernel_rfl) (by kernel_rfl) (by rfl) (by rfl) (by rfl) (by kernel_rfl) ((Below.refl _ _).drew) (lasting_cons (lasting_vl) (lasting_cons (lasting_vl) (lasting_cons (lasting_vl) (lasting_cons (lasting_vl) (lasting_cons (lasting_vl) (lasting_cons (lasting_vl) (lasting_cons (lasting_vl) (lasting_cons (lasting_vl) (lasting_cons (lasting_vl) (lasting_cons (lasting_vl) (lasting_cons (lasting_vl) (lasting_cons (lasting_vl) (lasting_cons (lasting_vl) (lasting_cons (lasting_vl) (lasting_none))))))))))))))) ?hops ?hlast
      case hF => (intro v; simp only [over, Act.put, List.setIfInBounds_toArray, List.set_cons_zero, List.set_cons_succ, Nat.zero_add, Nat.reduceAdd]; exact rfl)
      case hops =>
       refine ⟨?_, ?_⟩
       ·intro v w' hj hd hs K hK
        have hk := hK.out
        simp only [Act.put, List.setIfInBounds_toArray, List.set_cons_zero, List.set_cons_succ] at hk
        have HK := Lib.hid hk
        clear hd hs hk hK
        go_simp
        exact HK.out _ _ hj.out (Below.refl _ _) (show _ = _ from rfl)
       refine ⟨?_, ?_⟩
       ·intro v w' hj hd hs K hK
        have t0 : v 0 = _ := hd.out 0 (by kernel_rfl)
        have yy := next_cell y0 hj.out
        have hk := hK.out
        simp only [t0, Act.put, List.setIfInBounds_toArray, List.set_cons_zero, List.set_cons_succ] at hk
        have HK := Lib.hid hk
        clear hd hs hk hK
        go_simp
        exact HK.out _ _ hj.out (Below.refl _ _) (show _ = _ from rfl)
       refine ⟨?_, ?_⟩
       ·intro v w' hj hd hs K hK
        have hk := hK.out
        simp only [Act.put, List.setIfInBounds_toArray, List.set_cons_zero, List.set_cons_succ] at hk
        have HK := Lib.hid hk
        clear hd hs hk hK
        go_simp
        exact HK.out _ _ hj.out (Below.refl _ _) (show _ = _ from rfl)
       refine ⟨?_, ?_⟩
       ·intro v w' hj hd hs K hK
        have hk := hK.out
        simp only [Act.put, List.setIfInBounds_toArray, List.set_cons_zero, List.set_cons_succ] at hk
        have HK := Lib.hid hk
        clear hd hs hk hK
        go_simp
        exact HK.out _ _ hj.out (Below.refl _ _) (show _ = _ from rfl)
       refine ⟨?_, ?_⟩
       ·intro v w' hj hd hs K hK
        have t3 : v 3 = _ := hd.out 3 (by kernel_rfl)
        have yy := next_cell y0 hj.out
        have hk := hK.out
        simp only [t3, Act.put, List.setIfInBounds_toArray, List.set_cons_zero, List.set_cons_succ] at hk
        have HK := Lib.hid hk
        clear hd hs hk hK
        go_simp
        exact HK.out _ _ hj.out (Below.refl _ _) (show _ = _ from rfl)
       refine ⟨?_, ?_⟩
       ·intro v w' hj hd hs K hK
        have hk := hK.out
        simp only [Act.put, List.setIfInBounds_toArray, List.set_cons_zero, List.set_cons_succ] at hk
        have HK := Lib.hid hk
        clear hd hs hk hK
        go_simp
        exact HK.out _ _ hj.out (Below.refl _ _) (show _ = _ from rfl)
       refine ⟨?_, ?_⟩
       ·intro v w' hj hd hs K hK
        have t4 : v 4 = _ := hd.out 4 (by kernel_rfl)
        have t5 : v 5 = _ := hd.out 5 (by kernel_rfl)
        have hk := hK.out
        simp only [t4, t5, Act.put, List.setIfInBounds_toArray, List.set_cons_zero, List.set_cons_succ] at hk
        have HK := Lib.hid hk
        clear hd hs hk hK
        go_simp
        exact HK.out _ _ hj.out (Below.refl _ _) (show _ = _ from rfl)
       refine ⟨?_, ?_⟩
       ·intro v w' hj hd hs K hK
        have t6 : v 6 = _ := hd.out 6 (by kernel_rfl)
        have hk := hK.out
        simp only [t6, Act.put, List.setIfInBounds_toArray, List.set_cons_zero, List.set_cons_succ] at hk
        have HK := Lib.hid hk
        clear hd hs hk hK
        go_simp
        exact HK.out _ _ hj.out (Below.refl _ _) (show _ = _ from rfl)
       refine ⟨?_, ?_⟩
       ·intro v w' hj hd hs K hK
        have t7 : v 7 = _ := hd.out 7 (by kernel_rfl)
        have yy := next_cell hc hj.out
        have hk := hK.out
        simp only [t7, Act.put, List.setIfInBounds_toArray, List.set_cons_zero, List.set_cons_succ] at hk
        have HK := Lib.hid hk
        clear hd hs hk hK
        go_simp
        exact HK.out _ _ hj.out (Below.refl _ _) (show _ = _ from rfl)
       refine ⟨?_, ?_⟩
       ·intro v w' hj hd hs K hK
        have hk := hK.out
        simp only [Act.put, List.setIfInBounds_toArray, List.set_cons_zero, List.set_cons_succ] at hk
        have HK := Lib.hid hk
        clear hd hs hk hK
        go_simp
        exact HK.out _ _ hj.out (Below.refl _ _) (show _ = _ from rfl)
       refine ⟨?_, ?_⟩
       ·intro v w' hj hd hs K hK
        have hk := hK.out
        simp only [Act.put, List.setIfInBounds_toArray, List.set_cons_zero, List.set_cons_succ] at hk
        have HK := Lib.hid hk
        clear hd hs hk hK
        go_simp
        exact HK.out _ _ hj.out (Below.refl _ _) (show _ = _ from rfl)
       refine ⟨?_, ?_⟩
       ·intro v w' hj hd hs K hK
        have t8 : v 8 = _ := hd.out 8 (by kernel_rfl)
        have t9 : v 9 = _ := hd.out 9 (by kernel_rfl)
        have t10 : v 10 = _ := hd.out 10 (by kernel_rfl)
        have hk := hK.out
        simp only [t8, t9, t10, Act.put, List.setIfInBounds_toArray, List.set_cons_zero, List.set_cons_succ] at hk
        have HK := Lib.hid hk
        clear hd hs hk hK
        go_simp
        go_at_call 37
        refine (HMV.out w' hj.out).mono ?_
        rintro e wz ⟨rfl, hbz⟩
        exact HK.out _ _ (hj.out.trans (hbz.mono hj.out.size)) hbz (show _ = _ from rfl)
       refine ⟨?_, ?_⟩
       ·intro v w' hj hd hs K hK
        have t1 : v 1 = _ := hd.out 1 (by kernel_rfl)
        have t2 : v 2 = _ := hd.out 2 (by kernel_rfl)
        have hk := hK.out
        simp only [t1, t2, Act.put, List.setIfInBounds_toArray, List.set_cons_zero, List.set_cons_succ] at hk
        have HK := Lib.hid hk
        clear hd hs hk hK
        go_simp
        exact HK.out _ _ hj.out (Below.refl _ _) (show _ = _ from rfl)
       refine ⟨?_, ?_⟩
       ·intro v w' hj hd hs K hK
        have t12 : v 12 = _ := hd.out 12 (by kernel_rfl)
        have hk := hK.out
        simp only [t12, Act.put, List.setIfInBounds_toArray, List.set_cons_zero, List.set_cons_succ] at hk
        have HK := Lib.hid hk
        clear hd hs hk hK
        go_simp
        exact HK.out _ _ hj.out (Below.refl _ _) (show _ = _ from rfl)
       trivial
      case hlast =>
       intro v w' hj hd K hK
       have t11 : v 11 = _ := hd.out 11 (of_decide_eq_true (by kernel_rfl))
       have t13 : v 13 = _ := hd.out 13 (of_decide_eq_true (by kernel_rfl))
       have hM2 := HM.out.next hj.out
       obtain ⟨g9, c9, cur2, e2, hg2, ha2, hc2, hz2⟩ := hM2.fn (i := k) HXM.out
       simp only [Value.slice.injEq, Option.some.injEq, Addr.mk.injEq] at e2
       obtain ⟨⟨rfl, -⟩, -, rfl⟩ := e2
       have yf := ha2.frozen (k * 7 + 6)
       have yl := ha2.lt
       have hk := hK.out
       simp only [t11, t13, Act.put, List.setIfInBounds_toArray, List.set_cons_zero, List.set_cons_succ] at hk
       have HK := Lib.hid hk
       clear hd hk hK
       go_simp
       refine HK.out _ ?_
       have hM3 := hz2 (mvTo ls ms x.pos)
       have z7 := (HX7.out.next hj.out).far (p := ⟨g1, k * 7 + 6, none⟩) (at_apart (HX7.out.next hj.out) ha2 (by decide)) (.int .i64 (mvTo ls ms x.pos))
       have z6 := (HXR.out.next hj.out).far (p := ⟨g1, k * 7 + 6, none⟩) (at_apart (HXR.out.next hj.out) ha2 (by decide)) (.int .i64 (mvTo ls ms x.pos))
       generalize hws : w'.setCell ⟨g1, k * 7 + 6, none⟩ (.int .i64 (mvTo ls ms x.pos)) = ws at hM3 z7 z6 ⊢
       clear hws yf yl ha2 hc2 hz2 hM2 hj HK y0 hc
       go_wp2_with fail
       go_roundw
       case rel => exact ⟨k + 1, by omega, by go_num, hM3.cast (by rw [← mix_set HXX.out]; rfl), z7, z6⟩
       case measure => simp [intOf]; omega
     ·have dk : decide ((k : Int) < (P.funs.length : Int)) = false := decide_eq_false (by omega)
      have hM := hM.cast (P' := ⟨P.lats.map (Ap.La.to (mvTo ls ms)), P.funs.map (Ap.Fu.to (mvTo ls ms)), P.preds, P.rules⟩) (by rw [mix_all (by omega)])
      have z7 := x7; have z6 := xr; clear x7 xr
      go_wp2_with fail
      go_loopw [10] (fun i wr => ∃ (k : Nat), k ≤ P.preds.length ∧ i = .int .i64 k ∧ Mp w wr 0 (.slice (some ⟨g0, 0, none⟩) P.lats.length c0) (.slice (some ⟨g1, 0, none⟩) P.funs.length c1) (.slice (some ⟨g2, 0, none⟩) P.preds.length c2) (.slice (some ⟨g3, 0, none⟩) P.rules.length c3) ⟨P.lats.map (Ap.La.to (mvTo ls ms)), P.funs.map (Ap.Fu.to (mvTo ls ms)), mix (Ap.Pr.to (mvTo ls ms)) k P.preds, P.rules⟩ ∧ At wr b17 34 #[(.slice (some ⟨g0, 0, none⟩) P.lats.length c0), (.slice (some ⟨g1, 0, none⟩) P.funs.length c1), (.slice (some ⟨g2, 0, none⟩) P.preds.length c2), (.slice (some ⟨g3, 0, none⟩) P.rules.length c3)] ∧ At wr (w.heap.size + 1) 34 #[.slice none 0 0, .slice none 0 0, .slice none 0 0, .slice none 0 0]) (fun i _ => P.preds.length - (intOf i).toNat)
      case atStart => exact ⟨0, by omega, rfl, hM.cast (by rw [mix_zero]), z7, z6⟩
      case round =>
       clear hM z7 z6
       obtain ⟨k, hk, rfl, hM, x7, xr⟩ := hrel
       have y0 := x7.cell 2
       simp only [List.getElem?_toArray, List.getElem?_cons_zero, List.getElem?_cons_succ] at y0
       by_cases h1 : k < P.preds.length
       ·obtain ⟨x, hx⟩ : ∃ x, P.preds[k]? = some x := ⟨_, List.getElem?_eq_getElem h1⟩
        have HXM := Lib.hid (show (mix (Ap.Pr.to (mvTo ls ms)) k P.preds)[k]? = some x from (mix_get hk).trans hx)
        obtain ⟨g, c, cur, e2, hg, ha, hc, hz⟩ := hM.pr (i := k) HXM.out
        simp only [Value.slice.injEq, Option.some.injEq, Addr.mk.injEq] at e2
        obtain ⟨⟨rfl, -⟩, -, rfl⟩ := e2
        have i0 : (0 : Int) ≤ (k : Int) := by omega
        have i1 : (k : Int) < (P.preds.length : Int) := by omega
        have dk : decide ((k : Int) < (P.preds.length : Int)) = true := decide_eq_true i1
        have HM := Lib.hid hM; have HX7 := Lib.hid x7; have HXR := Lib.hid xr; have HXX := Lib.hid hx
        have HMV := Lib.hid (fun (W : World) (hb : Below wr.heap.size wr W) => move_any _ _ ls ms x.pos W hl (TRow.below HV.out.1 (hM.low.trans (hb.mono hM.low.size))) (TRow.below HV.out.2 (hM.low.trans (hb.mono hM.low.size))))
        clear hM x7 xr hz ha hx
        go_wp2_with fail
        refine' wp_region_last 14 _ _ (Below wr.heap.size wr) (Onward) (Vl :: Vl :: Vl :: Vl :: Vl :: Vl :: Vl :: Vl :: Vl :: Vl :: Vl :: Vl :: Vl :: Vl :: []) ?hF (by kernel_rfl) (by kernel_rfl) (by kernel_rfl) (by rfl) (by rfl) (by rfl) (by kernel_rfl) ((Below.refl _ _).drew) (lasting_cons (lasting_vl) (lasting_cons (lasting_vl) (lasting_cons (lasting_vl) (lasting_cons (lasting_vl) (lasting_cons (lasting_vl) (lasting_cons (lasting_vl) (lasting_cons (lasting_vl) (lasting_cons (lasting_vl) (lasting_cons (lasting_vl) (lasting_cons (lasting_vl) (lasting_cons (lasting_vl) (lasting_cons (lasting_vl) (lasting_cons (lasting_vl) (lasting_cons (lasting_vl) (lasting_none))))))))))))))) ?hops ?hlast
        case hF => (intro v; simp only [over, Act.put, List.setIfInBounds_toArray, List.set_cons_zero, List.set_cons_succ, Nat.zero_add, Nat.reduceAdd]; exact rfl)
        case hops =>
         refine ⟨?_, ?_⟩
         ·intro v w' hj hd hs K hK
          have hk := hK.out
          simp only [Act.put, List.setIfInBounds_toArray, List.set_cons_zero, List.set_cons_succ] at hk
          have HK := Lib.hid hk
          clear hd hs hk hK
          go_simp
          exact HK.out _ _ hj.out (Below.refl _ _) (show _ = _ from rfl)
         refine ⟨?_, ?_⟩
         ·intro v w' hj hd hs K hK
          have t0 : v 0 = _ := hd.out 0 (by kernel_rfl)
          have yy := next_cell y0 hj.out
          have hk := hK.out
          simp only [t0, Act.put, List.setIfInBounds_toArray, List.set_cons_zero, List.set_cons_succ] at hk
          have HK := Lib.hid hk
          clear hd hs hk hK
          go_simp
          exact HK.out _ _ hj.out (Below.refl _ _) (show _ = _ from rfl)
         refine ⟨?_, ?_⟩
         ·intro v w' hj hd hs K hK
          have hk := hK.out
          simp only [Act.put, List.setIfInBounds_toArray, List.set_cons_zero, List.set_cons_succ] at hk
          have HK := Lib.hid hk
          clear hd hs hk hK
          go_simp
          exact HK.out _ _ hj.out (Below.refl _ _) (show _ = _ from rfl)
         refine ⟨?_, ?_⟩
         ·intro v w' hj hd hs K hK
          have hk := hK.out
          simp only [Act.put, List.setIfInBounds_toArray, List.set_cons_zero, List.set_cons_succ] at hk
          have HK := Lib.hid hk
          clear hd hs hk hK
          go_simp
          exact HK.out _ _ hj.out (Below.refl _ _) (show _ = _ from rfl)
         refine ⟨?_, ?_⟩
         ·intro v w' hj hd hs K hK
          have t3 : v 3 = _ := hd.out 3 (by kernel_rfl)
          have yy := next_cell y0 hj.out
          have hk := hK.out
          simp only [t3, Act.put, List.setIfInBounds_toArray, List.set_cons_zero, List.set_cons_succ] at hk
          have HK := Lib.hid hk
          clear hd hs hk hK
          go_simp
          exact HK.out _ _ hj.out (Below.refl _ _) (show _ = _ from rfl)
         refine ⟨?_, ?_⟩
         ·intro v w' hj hd hs K hK
          have hk := hK.out
          simp only [Act.put, List.setIfInBounds_toArray, List.set_cons_zero, List.set_cons_succ] at hk
          have HK := Lib.hid hk
          clear hd hs hk hK
          go_simp
          exact HK.out _ _ hj.out (Below.refl _ _) (show _ = _ from rfl)
         refine ⟨?_, ?_⟩
         ·intro v w' hj hd hs K hK
          have t4 : v 4 = _ := hd.out 4 (by kernel_rfl)
          have t5 : v 5 = _ := hd.out 5 (by kernel_rfl)
          have hk := hK.out
          simp only [t4, t5, Act.put, List.setIfInBounds_toArray, List.set_cons_zero, List.set_cons_succ] at hk
          have HK := Lib.hid hk
          clear hd hs hk hK
          go_simp
          exact HK.out _ _ hj.out (Below.refl _ _) (show _ = _ from rfl)
         refine ⟨?_, ?_⟩
         ·intro v w' hj hd hs K hK
          have t6 : v 6 = _ := hd.out 6 (by kernel_rfl)
          have hk := hK.out
          simp only [t6, Act.put, List.setIfInBounds_toArray, List.set_cons_zero, List.set_cons_succ] at hk
          have HK := Lib.hid hk
          clear hd hs hk hK
          go_simp
          exact HK.out _ _ hj.out (Below.refl _ _) (show _ = _ from rfl)
         refine ⟨?_, ?_⟩
         ·intro v w' hj hd hs K hK
          have t7 : v 7 = _ := hd.out 7 (by kernel_rfl)
          have yy := next_cell hc hj.out
          have hk := hK.out
          simp only [t7, Act.put, List.setIfInBounds_toArray, List.set_cons_zero, List.set_cons_succ] at hk
          have HK := Lib.hid hk
          clear hd hs hk hK
          go_simp
          exact HK.out _ _ hj.out (Below.refl _ _) (show _ = _ from rfl)
         refine ⟨?_, ?_⟩
         ·intro v w' hj hd hs K hK
          have hk := hK.out
          simp only [Act.put, List.setIfInBounds_toArray, List.set_cons_zero, List.set_cons_succ] at hk
          have HK := Lib.hid hk
          clear hd hs hk hK
          go_simp
          exact HK.out _ _ hj.out (Below.refl _ _) (show _ = _ from rfl)
         refine ⟨?_, ?_⟩
         ·intro v w' hj hd hs K hK
          have hk := hK.out
          simp only [Act.put, List.setIfInBounds_toArray, List.set_cons_zero, List.set_cons_succ] at hk
          have HK := Lib.hid hk
          clear hd hs hk hK
          go_simp
          exact HK.out _ _ hj.out (Below.refl _ _) (show _ = _ from rfl)
         refine ⟨?_, ?_⟩
         ·intro v w' hj hd hs K hK
          have t8 : v 8 = _ := hd.out 8 (by kernel_rfl)
          have t9 : v 9 = _ := hd.out 9 (by kernel_rfl)
          have t10 : v 10 = _ := hd.out 10 (by kernel_rfl)
          have hk := hK.out
          simp only [t8, t9, t10, Act.put, List.setIfInBounds_toArray, List.set_cons_zero, List.set_cons_succ] at hk
          have HK := Lib.hid hk
          clear hd hs hk hK
          go_simp
          go_at_call 37
          refine (HMV.out w' hj.out).mono ?_
          rintro e wz ⟨rfl, hbz⟩
          exact HK.out _ _ (hj.out.trans (hbz.mono hj.out.size)) hbz (show _ = _ from rfl)
         refine ⟨?_, ?_⟩
         ·intro v w' hj hd hs K hK
          have t1 : v 1 = _ := hd.out 1 (by kernel_rfl)
          have t2 : v 2 = _ := hd.out 2 (by kernel_rfl)
          have hk := hK.out
          simp only [t1, t2, Act.put, List.setIfInBounds_toArray, List.set_cons_zero, List.set_cons_succ] at hk
          have HK := Lib.hid hk
          clear hd hs hk hK
          go_simp
          exact HK.out _ _ hj.out (Below.refl _ _) (show _ = _ from rfl)
         refine ⟨?_, ?_⟩
         ·intro v w' hj hd hs K hK
          have t12 : v 12 = _ := hd.out 12 (by kernel_rfl)
          have hk := hK.out
          simp only [t12, Act.put, List.setIfInBounds_toArray, List.set_cons_zero, List.set_cons_succ] at hk
          have HK := Lib.hid hk
          clear hd hs hk hK
          go_simp
          exact HK.out _ _ hj.out (Below.refl _ _) (show _ = _ from rfl)
         trivial
        case hlast =>
         intro v w' hj hd K hK
         have t11 : v 11 = _ := hd.out 11 (of_decide_eq_true (by kernel_rfl))
         have t13 : v 13 = _ := hd.out 13 (of_decide_eq_true (by kernel_rfl))
         have hM2 := HM.out.next hj.out
         obtain ⟨g9, c9, cur2, e2, hg2, ha2, hc2, hz2⟩ := hM2.pr (i := k) HXM.out
         simp only [Value.slice.injEq, Option.some.injEq, Addr.mk.injEq] at e2
         obtain ⟨⟨rfl, -⟩, -, rfl⟩ := e2
         have yf := ha2.frozen (k * 7 + 6)
         have yl := ha2.lt
         have hk := hK.out
         simp only [t11, t13, Act.put, List.setIfInBounds_toArray, List.set_cons_zero, List.set_cons_succ] at hk
         have HK := Lib.hid hk
         clear hd hk hK
         go_simp
         refine HK.out _ ?_
         have hM3 := hz2 (mvTo ls ms x.pos)
         have z7 := (HX7.out.next hj.out).far (p := ⟨g2, k * 7 + 6, none⟩) (at_apart (HX7.out.next hj.out) ha2 (by decide)) (.int .i64 (mvTo ls ms x.pos))
         have z6 := (HXR.out.next hj.out).far (p := ⟨g2, k * 7 + 6, none⟩) (at_apart (HXR.out.next hj.out) ha2 (by decide)) (.int .i64 (mvTo ls ms x.pos))
         generalize hws : w'.setCell ⟨g2, k * 7 + 6, none⟩ (.int .i64 (mvTo ls ms x.pos)) = ws at hM3 z7 z6 ⊢
         clear hws yf yl ha2 hc2 hz2 hM2 hj HK y0 hc
         go_wp2_with fail
         go_roundw
         case rel => exact ⟨k + 1, by omega, by go_num, hM3.cast (by rw [← mix_set HXX.out]; rfl), z7, z6⟩
         case measure => simp [intOf]; omega
       ·have dk : decide ((k : Int) < (P.preds.length : Int)) = false := decide_eq_false (by omega)
        have hM := hM.cast (P' := ⟨P.lats.map (Ap.La.to (mvTo ls ms)), P.funs.map (Ap.Fu.to (mvTo ls ms)), P.preds.map (Ap.Pr.to (mvTo ls ms)), P.rules⟩) (by rw [mix_all (by omega)])
        have z7 := x7; have z6 := xr; clear x7 xr
        go_wp2_with fail
        clear y0
        go_loopw [11, 12] (fun i _ wr => ∃ (k : Nat), k ≤ P.rules.length ∧ i = .int .i64 k ∧ Mp w wr k (.slice (some ⟨g0, 0, none⟩) P.lats.length c0) (.slice (some ⟨g1, 0, none⟩) P.funs.length c1) (.slice (some ⟨g2, 0, none⟩) P.preds.length c2) (.slice (some ⟨g3, 0, none⟩) P.rules.length c3) ⟨P.lats.map (Ap.La.to (mvTo ls ms)), P.funs.map (Ap.Fu.to (mvTo ls ms)), P.preds.map (Ap.Pr.to (mvTo ls ms)), mix (Ap.Ru.to (mvTo ls ms)) k P.rules⟩ ∧ At wr b17 34 #[(.slice (some ⟨g0, 0, none⟩) P.lats.length c0), (.slice (some ⟨g1, 0, none⟩) P.funs.length c1), (.slice (some ⟨g2, 0, none⟩) P.preds.length c2), (.slice (some ⟨g3, 0, none⟩) P.rules.length c3)] ∧ At wr (w.heap.size + 1) 34 #[.slice none 0 0, .slice none 0 0, .slice none 0 0, .slice none 0 0]) (fun i _ _ => P.rules.length - (intOf i).toNat)
        case atStart => exact ⟨0, by omega, rfl, hM.cast (by rw [mix_zero]), z7, z6⟩
        case round =>
         clear hM z7 z6
         obtain ⟨k, hk, rfl, hM, x7, xr⟩ := hrel
         have y0 := x7.cell 3
         simp only [List.getElem?_toArray, List.getElem?_cons_zero, List.getElem?_cons_succ] at y0
         by_cases h1 : k < P.rules.length
         ·obtain ⟨x, hx⟩ : ∃ x, P.rules[k]? = some x := ⟨_, List.getElem?_eq_getElem h1⟩
          have HXM := Lib.hid (show (mix (Ap.Ru.to (mvTo ls ms)) k P.rules)[k]? = some x from (mix_get hk).trans hx)
          have hxb : x.body.length ≤ 900000 := HBL.out x (List.mem_of_getElem? hx)
          have HLN := Lib.hid (show k < (mix (Ap.Ru.to (mvTo ls ms)) k P.rules).length by rw [mix_length]; exact h1)
          obtain ⟨g, c, cur, bb, e2, hg, ha, hc, hc7, hbt, hbs, hz⟩ := hM.ru (i := k) HXM.out
          simp only [Value.slice.injEq, Option.some.injEq, Addr.mk.injEq] at e2
          obtain ⟨⟨rfl, -⟩, -, rfl⟩ := e2
          have i0 : (0 : Int) ≤ (k : Int) := by omega
          have i1 : (k : Int) < (P.rules.length : Int) := by omega
          have dk : decide ((k : Int) < (P.rules.length : Int)) = true := decide_eq_true i1
          have HM := Lib.hid hM; have HX7 := Lib.hid x7; have HXR := Lib.hid xr; have HXX := Lib.hid hx
          have HMV := Lib.hid (fun (W : World) (hb : Below wr.heap.size wr W) => move_any _ _ ls ms x.pos W hl (TRow.below HV.out.1 (hM.low.trans (hb.mono hM.low.size))) (TRow.below HV.out.2 (hM.low.trans (hb.mono hM.low.size))))
          clear hM x7 xr hz ha hx hc7 hbt hbs
          go_wp2_with fail
          refine' wp_region_last 14 _ _ (Below wr.heap.size wr) (Onward) (Vl :: Vl :: Vl :: Vl :: Vl :: Vl :: Vl :: Vl :: Vl :: Vl :: Vl :: Vl :: Vl :: Vl :: []) ?hF (by kernel_rfl) (by kernel_rfl) (by kernel_rfl) (by rfl) (by rfl) (by rfl) (by kernel_rfl) ((Below.refl _ _).drew) (lasting_cons (lasting_vl) (lasting_cons (lasting_vl) (lasting_cons (lasting_vl) (lasting_cons (lasting_vl) (lasting_cons (lasting_vl) (lasting_cons (lasting_vl) (lasting_cons (lasting_vl) (lasting_cons (lasting_vl) (lasting_cons (lasting_vl) (lasting_cons (lasting_vl) (lasting_cons (lasting_vl) (lasting_cons (lasting_vl) (lasting_cons (lasting_vl) (lasting_cons (lasting_vl) (lasting_none))))))))))))))) ?hops ?hlast
          case hF => (intro v; simp only [over, Act.put, List.setIfInBounds_toArray, List.set_cons_zero, List.set_cons_succ, Nat.zero_add, Nat.reduceAdd]; exact rfl)
          case hops =>
           refine ⟨?_, ?_⟩
           ·intro v w' hj hd hs K hK
            have hk := hK.out
            simp only [Act.put, List.setIfInBounds_toArray, List.set_cons_zero, List.set_cons_succ] at hk
            have HK := Lib.hid hk
            clear hd hs hk hK
            go_simp
            exact HK.out _ _ hj.out (Below.refl _ _) (show _ = _ from rfl)
           refine ⟨?_, ?_⟩
           ·intro v w' hj hd hs K hK
            have t0 : v 0 = _ := hd.out 0 (by kernel_rfl)
            have yy := next_cell y0 hj.out
            have hk := hK.out
            simp only [t0, Act.put, List.setIfInBounds_toArray, List.set_cons_zero, List.set_cons_succ] at hk
            have HK := Lib.hid hk
            clear hd hs hk hK
            go_simp
            exact HK.out _ _ hj.out (Below.refl _ _) (show _ = _ from rfl)
           refine ⟨?_, ?_⟩
           ·intro v w' hj hd hs K hK
            have hk := hK.out
            simp only [Act.put, List.setIfInBounds_toArray, List.set_cons_zero, List.set_cons_succ] at hk
            have HK := Lib.hid hk
            clear hd hs hk hK
            go_simp
            exact HK.out _ _ hj.out (Below.refl _ _) (show _ = _ from rfl)
           refine ⟨?_, ?_⟩
           ·intro v w' hj hd hs K hK
            have hk := hK.out
            simp only [Act.put, List.setIfInBounds_toArray, List.set_cons_zero, List.set_cons_succ] at hk
            have HK := Lib.hid hk
            clear hd hs hk hK
            go_simp
            exact HK.out _ _ hj.out (Below.refl _ _) (show _ = _ from rfl)
           refine ⟨?_, ?_⟩
           ·intro v w' hj hd hs K hK
            have t3 : v 3 = _ := hd.out 3 (by kernel_rfl)
            have yy := next_cell y0 hj.out
            have hk := hK.out
            simp only [t3, Act.put, List.setIfInBounds_toArray, List.set_cons_zero, List.set_cons_succ] at hk
            have HK := Lib.hid hk
            clear hd hs hk hK
            go_simp
            exact HK.out _ _ hj.out (Below.refl _ _) (show _ = _ from rfl)
           refine ⟨?_, ?_⟩
           ·intro v w' hj hd hs K hK
            have hk := hK.out
            simp only [Act.put, List.setIfInBounds_toArray, List.set_cons_zero, List.set_cons_succ] at hk
            have HK := Lib.hid hk
            clear hd hs hk hK
            go_simp
            exact HK.out _ _ hj.out (Below.refl _ _) (show _ = _ from rfl)
           refine ⟨?_, ?_⟩
           ·intro v w' hj hd hs K hK
            have t4 : v 4 = _ := hd.out 4 (by kernel_rfl)
            have t5 : v 5 = _ := hd.out 5 (by kernel_rfl)
            have hk := hK.out
            simp only [t4, t5, Act.put, List.setIfInBounds_toArray, List.set_cons_zero, List.set_cons_succ] at hk
            have HK := Lib.hid hk
            clear hd hs hk hK
            go_simp
            exact HK.out _ _ hj.out (Below.refl _ _) (show _ = _ from rfl)
           refine ⟨?_, ?_⟩
           ·intro v w' hj hd hs K hK
            have t6 : v 6 = _ := hd.out 6 (by kernel_rfl)
            have hk := hK.out
            simp only [t6, Act.put, List.setIfInBounds_toArray, List.set_cons_zero, List.set_cons_succ] at hk
            have HK := Lib.hid hk
            clear hd hs hk hK
            go_simp
            exact HK.out _ _ hj.out (Below.refl _ _) (show _ = _ from rfl)
           refine ⟨?_, ?_⟩
           ·intro v w' hj hd hs K hK
            have t7 : v 7 = _ := hd.out 7 (by kernel_rfl)
            have yy := next_cell hc hj.out
            have hk := hK.out
            simp only [t7, Act.put, List.setIfInBounds_toArray, List.set_cons_zero, List.set_cons_succ] at hk
            have HK := Lib.hid hk
            clear hd hs hk hK
            go_simp
            exact HK.out _ _ hj.out (Below.refl _ _) (show _ = _ from rfl)
           refine ⟨?_, ?_⟩
           ·intro v w' hj hd hs K hK
            have hk := hK.out
            simp only [Act.put, List.setIfInBounds_toArray, List.set_cons_zero, List.set_cons_succ] at hk
            have HK := Lib.hid hk
            clear hd hs hk hK
            go_simp
            exact HK.out _ _ hj.out (Below.refl _ _) (show _ = _ from rfl)
           refine ⟨?_, ?_⟩
           ·intro v w' hj hd hs K hK
            have hk := hK.out
            simp only [Act.put, List.setIfInBounds_toArray, List.set_cons_zero, List.set_cons_succ] at hk
            have HK := Lib.hid hk
            clear hd hs hk hK
            go_simp
            exact HK.out _ _ hj.out (Below.refl _ _) (show _ = _ from rfl)
           refine ⟨?_, ?_⟩
           ·intro v w' hj hd hs K hK
            have t8 : v 8 = _ := hd.out 8 (by kernel_rfl)
            have t9 : v 9 = _ := hd.out 9 (by kernel_rfl)
            have t10 : v 10 = _ := hd.out 10 (by kernel_rfl)
            have hk := hK.out
            simp only [t8, t9, t10, Act.put, List.setIfInBounds_toArray, List.set_cons_zero, List.set_cons_succ] at hk
            have HK := Lib.hid hk
            clear hd hs hk hK
            go_simp
            go_at_call 37
            refine (HMV.out w' hj.out).mono ?_
            rintro e wz ⟨rfl, hbz⟩
            exact HK.out _ _ (hj.out.trans (hbz.mono hj.out.size)) hbz (show _ = _ from rfl)
           refine ⟨?_, ?_⟩
           ·intro v w' hj hd hs K hK
            have t1 : v 1 = _ := hd.out 1 (by kernel_rfl)
            have t2 : v 2 = _ := hd.out 2 (by kernel_rfl)
            have hk := hK.out
            simp only [t1, t2, Act.put, List.setIfInBounds_toArray, List.set_cons_zero, List.set_cons_succ] at hk
            have HK := Lib.hid hk
            clear hd hs hk hK
            go_simp
            exact HK.out _ _ hj.out (Below.refl _ _) (show _ = _ from rfl)
           refine ⟨?_, ?_⟩
           ·intro v w' hj hd hs K hK
            have t12 : v 12 = _ := hd.out 12 (by kernel_rfl)
            have hk := hK.out
            simp only [t12, Act.put, List.setIfInBounds_toArray, List.set_cons_zero, List.set_cons_succ] at hk
            have HK := Lib.hid hk
            clear hd hs hk hK
            go_simp
            exact HK.out _ _ hj.out (Below.refl _ _) (show _ = _ from rfl)
           trivial
          case hlast =>
           intro v w' hj hd K hK
           have t11 : v 11 = _ := hd.out 11 (of_decide_eq_true (by kernel_rfl))
           have t13 : v 13 = _ := hd.out 13 (of_decide_eq_true (by kernel_rfl))
           have hM2 := HM.out.next hj.out
           obtain ⟨g9, c9, cur2, bb2, e2, hg2, ha2, hc2, hc7, hbt, hbs, hz2⟩ := hM2.ru (i := k) HXM.out
           simp only [Value.slice.injEq, Option.some.injEq, Addr.mk.injEq] at e2
           obtain ⟨⟨rfl, -⟩, -, rfl⟩ := e2
           have yf := ha2.frozen (k * 9 + 8)
           have yl := ha2.lt
           have hk := hK.out
           simp only [t11, t13, Act.put, List.setIfInBounds_toArray, List.set_cons_zero, List.set_cons_succ] at hk
           have HK := Lib.hid hk
           clear hd hk hK
           go_simp
           refine HK.out _ ?_
           have hM3 := hz2 (mvTo ls ms x.pos)
           have z7 := (HX7.out.next hj.out).far (p := ⟨g3, k * 9 + 8, none⟩) (at_apart (HX7.out.next hj.out) ha2 (by decide)) (.int .i64 (mvTo ls ms x.pos))
           have z6 := (HXR.out.next hj.out).far (p := ⟨g3, k * 9 + 8, none⟩) (at_apart (HXR.out.next hj.out) ha2 (by decide)) (.int .i64 (mvTo ls ms x.pos))
           generalize hws : w'.setCell ⟨g3, k * 9 + 8, none⟩ (.int .i64 (mvTo ls ms x.pos)) = ws at hM3 z7 z6 ⊢
           clear hws yf yl ha2 hc2 hc7 hbt hbs hz2 hM2 hj HK HM HX7 HXR HMV hc y0
           obtain ⟨x1, hx1⟩ : ∃ x1 : Ap.Ru, x1 = { x with pos := mvTo ls ms x.pos } := ⟨_, rfl⟩
           have hxs : ((mix (Ap.Ru.to (mvTo ls ms)) k P.rules).set k x1)[k]? = some x1 := List.getElem?_set_self HLN.out
           rw [← hx1] at hM3
           obtain ⟨g9, c9, cur9, bb, e2, hg9, ha9, hc9, y7, hbt, hbs, -⟩ := hM3.ru (i := k) hxs
           simp only [List.length_set] at e2
           simp only [Value.slice.injEq, Option.some.injEq, Addr.mk.injEq] at e2
           obtain ⟨⟨rfl, -⟩, -, rfl⟩ := e2
           have hx1b : x1.body = x.body := by rw [hx1]
           obtain ⟨BA, BC, rfl⟩ := hbs
           obtain ⟨BR, hbt1, hbt2⟩ := hbt (Nat.le_refl _)
           rw [hx1b] at y7 hbt1 hbt2
           have y0 := z7.cell 3
           simp only [List.getElem?_toArray, List.getElem?_cons_zero, List.getElem?_cons_succ] at y0
           have HM := Lib.hid hM3; have HX7 := Lib.hid z7; have HXR := Lib.hid z6; have HXS := Lib.hid hxs; have HX1 := Lib.hid hx1; have HX1B := Lib.hid hx1b
           have HBT := Lib.hid (TRow.below hbt1 hM3.low); have HBR := Lib.hid hbt2; have HBO := Lib.hid (hbt2.ones (fun _ _ => LiR.one))
           clear hM3 z7 z6 hxs hx1 hx1b hbt hbt1 hbt2 ha9 hc9
           go_wp2_with fail
           refine' wp_region_last 13 _ _ (Below ws.heap.size ws) (Onward) (Vl :: Vl :: Vl :: EmpX ws.heap.size 58 9 :: Vl :: Vl :: Vl :: Vl :: Vl :: Vl :: OwnX ws.heap.size 58 9 x.body.length BR.flatten :: Vl :: Vl :: []) ?hF (by kernel_rfl) (by kernel_rfl) (by kernel_rfl) (by rfl) (by rfl) (by rfl) (by kernel_rfl) ((Below.refl _ _).drew) (lasting_cons (lasting_vl) (lasting_cons (lasting_vl) (lasting_cons (lasting_vl) (lasting_cons (empX_on _ _ _) (lasting_cons (lasting_vl) (lasting_cons (lasting_vl) (lasting_cons (lasting_vl) (lasting_cons (lasting_vl) (lasting_cons (lasting_vl) (lasting_cons (lasting_vl) (lasting_cons (ownX_on _ _ _ _ _) (lasting_cons (lasting_vl) (lasting_cons (lasting_vl) (lasting_none)))))))))))))) ?hops ?hlast
           case hF => (intro v; simp only [over, Act.put, List.setIfInBounds_toArray, List.set_cons_zero, List.set_cons_succ, Nat.zero_add, Nat.reduceAdd]; exact rfl)
           case hops =>
            refine ⟨?_, ?_⟩
            ·intro v w' hj hd hs K hK
             have hk := hK.out
             simp only [Act.put, List.setIfInBounds_toArray, List.set_cons_zero, List.set_cons_succ] at hk
             have HK := Lib.hid hk
             clear hd hs hk hK
             go_simp
             exact HK.out _ _ hj.out (Below.refl _ _) (show _ = _ from rfl)
            refine ⟨?_, ?_⟩
            ·intro v w' hj hd hs K hK
             have t0 : v 0 = _ := hd.out 0 (by kernel_rfl)
             have yy := next_cell y0 hj.out
             have hk := hK.out
             simp only [t0, Act.put, List.setIfInBounds_toArray, List.set_cons_zero, List.set_cons_succ] at hk
             have HK := Lib.hid hk
             clear hd hs hk hK
             go_simp
             exact HK.out _ _ hj.out (Below.refl _ _) (show _ = _ from rfl)
            refine ⟨?_, ?_⟩
            ·intro v w' hj hd hs K hK
             have hk := hK.out
             simp only [Act.put, List.setIfInBounds_toArray, List.set_cons_zero, List.set_cons_succ] at hk
             have HK := Lib.hid hk
             clear hd hs hk hK
             go_simp
             exact HK.out _ _ hj.out (Below.refl _ _) (show _ = _ from rfl)
            refine ⟨?_, ?_⟩
            ·intro v w' hj hd hs K hK
             have hk := hK.out
             simp only [Act.put, List.setIfInBounds_toArray, List.set_cons_zero, List.set_cons_succ] at hk
             have HK := Lib.hid hk
             clear hd hs hk hK
             go_simp
             exact HK.out _ _ (hj.out.alloc hj.out.size _) (below1 _ _) ⟨_, rfl, own_empty _ _ _ _ hj.out.size⟩
            refine ⟨?_, ?_⟩
            ·intro v w' hj hd hs K hK
             have hk := hK.out
             simp only [Act.put, List.setIfInBounds_toArray, List.set_cons_zero, List.set_cons_succ] at hk
             have HK := Lib.hid hk
             clear hd hs hk hK
             go_simp
             exact HK.out _ _ hj.out (Below.refl _ _) (show _ = _ from rfl)
            refine ⟨?_, ?_⟩
            ·intro v w' hj hd hs K hK
             have t4 : v 4 = _ := hd.out 4 (by kernel_rfl)
             have yy := next_cell y0 hj.out
             have hk := hK.out
             simp only [t4, Act.put, List.setIfInBounds_toArray, List.set_cons_zero, List.set_cons_succ] at hk
             have HK := Lib.hid hk
             clear hd hs hk hK
             go_simp
             exact HK.out _ _ hj.out (Below.refl _ _) (show _ = _ from rfl)
            refine ⟨?_, ?_⟩
            ·intro v w' hj hd hs K hK
             have hk := hK.out
             simp only [Act.put, List.setIfInBounds_toArray, List.set_cons_zero, List.set_cons_succ] at hk
             have HK := Lib.hid hk
             clear hd hs hk hK
             go_simp
             exact HK.out _ _ hj.out (Below.refl _ _) (show _ = _ from rfl)
            refine ⟨?_, ?_⟩
            ·intro v w' hj hd hs K hK
             have t5 : v 5 = _ := hd.out 5 (by kernel_rfl)
             have t6 : v 6 = _ := hd.out 6 (by kernel_rfl)
             have hk := hK.out
             simp only [t5, t6, Act.put, List.setIfInBounds_toArray, List.set_cons_zero, List.set_cons_succ] at hk
             have HK := Lib.hid hk
             clear hd hs hk hK
             go_simp
             exact HK.out _ _ hj.out (Below.refl _ _) (show _ = _ from rfl)
            refine ⟨?_, ?_⟩
            ·intro v w' hj hd hs K hK
             have t7 : v 7 = _ := hd.out 7 (by kernel_rfl)
             have hk := hK.out
             simp only [t7, Act.put, List.setIfInBounds_toArray, List.set_cons_zero, List.set_cons_succ] at hk
             have HK := Lib.hid hk
             clear hd hs hk hK
             go_simp
             exact HK.out _ _ hj.out (Below.refl _ _) (show _ = _ from rfl)
            refine ⟨?_, ?_⟩
            ·intro v w' hj hd hs K hK
             have t8 : v 8 = _ := hd.out 8 (by kernel_rfl)
             have yy := next_cell y7 hj.out
             have hk := hK.out
             simp only [t8, Act.put, List.setIfInBounds_toArray, List.set_cons_zero, List.set_cons_succ] at hk
             have HK := Lib.hid hk
             clear hd hs hk hK
             go_simp
             exact HK.out _ _ hj.out (Below.refl _ _) (show _ = _ from rfl)
            refine ⟨?_, ?_⟩
            ·intro v w' hj hd hs K hK
             obtain ⟨g3, t3, o3⟩ : EmpX ws.heap.size 58 9 (v 3) w' := hd.out 3 (by kernel_rfl)
             have t9 : v 9 = _ := hd.out 9 (by kernel_rfl)
             have hk := hK.out
             rw [if_pos (show Region.wanted _ _ = true from rfl)]
             simp only [t3, t9] at hk ⊢
             have HK := Lib.hid hk
             clear hd hs hk hK
             refine wp_append_zeroK (.tmp 117) (.tmp 123) 64 rfl ws.heap.size 58 i4 _ 9 112 Tryd.underlying64 j40 j41 j42 j43 rfl g3 rfl o3 _ x.body.length BR.flatten rfl (TRow.below HBT.out hj.out) HBO.out (by omega) hj.out.size fun g9 c9 w9 o9 b9 _ => ?_
             exact HK.out _ _ (hj.out.trans (b9.mono hj.out.size)) b9 ⟨_, _, rfl, o9⟩
            refine ⟨?_, ?_⟩
            ·intro v w' hj hd hs K hK
             have t1 : v 1 = _ := hd.out 1 (by kernel_rfl)
             have t2 : v 2 = _ := hd.out 2 (by kernel_rfl)
             have hk := hK.out
             simp only [t1, t2, Act.put, List.setIfInBounds_toArray, List.set_cons_zero, List.set_cons_succ] at hk
             have HK := Lib.hid hk
             clear hd hs hk hK
             go_simp
             exact HK.out _ _ hj.out (Below.refl _ _) (show _ = _ from rfl)
            refine ⟨?_, ?_⟩
            ·intro v w' hj hd hs K hK
             have t11 : v 11 = _ := hd.out 11 (by kernel_rfl)
             have hk := hK.out
             simp only [t11, Act.put, List.setIfInBounds_toArray, List.set_cons_zero, List.set_cons_succ] at hk
             have HK := Lib.hid hk
             clear hd hs hk hK
             go_simp
             exact HK.out _ _ hj.out (Below.refl _ _) (show _ = _ from rfl)
            trivial
           case hlast =>
            intro v w' hj hd K hK
            obtain ⟨g10, c10, t10, o10⟩ : OwnX ws.heap.size 58 9 x.body.length BR.flatten (v 10) w' := hd.out 10 (of_decide_eq_true (by kernel_rfl))
            have t12 : v 12 = _ := hd.out 12 (of_decide_eq_true (by kernel_rfl))
            obtain ⟨g9, c9, cur2, e2, ha2, hM4⟩ := HM.out.body hj.out HXS.out (v := (.slice (some ⟨g10, 0, none⟩) x.body.length c10)) (by rw [HX1B.out]; exact o10) (by rw [HX1B.out]; exact HBR.out)
            simp only [List.length_set] at e2
            simp only [Value.slice.injEq, Option.some.injEq, Addr.mk.injEq] at e2
            obtain ⟨⟨rfl, -⟩, -, rfl⟩ := e2
            have yf := ha2.frozen (k * 9 + 7)
            have yl := ha2.lt
            have yyc := next_cell y7 hj.out
            have hk := hK.out
            simp only [t10, t12, Act.put, List.setIfInBounds_toArray, List.set_cons_zero, List.set_cons_succ] at hk
            have HK := Lib.hid hk
            clear hd hk hK
            go_simp
            refine HK.out _ ?_
            have z7 := (HX7.out.next hj.out).far (p := ⟨g3, k * 9 + 7, none⟩) (at_apart (HX7.out.next hj.out) ha2 (by decide)) (.slice (some ⟨g10, 0, none⟩) x.body.length c10)
            have z6 := (HXR.out.next hj.out).far (p := ⟨g3, k * 9 + 7, none⟩) (at_apart (HXR.out.next hj.out) ha2 (by decide)) (.slice (some ⟨g10, 0, none⟩) x.body.length c10)
            generalize hws2 : w'.setCell ⟨g3, k * 9 + 7, none⟩ (.slice (some ⟨g10, 0, none⟩) x.body.length c10) = w8 at hM4 z7 z6 ⊢
            clear hws2 yf yl yyc ha2 hj HK HM HX7 HXR HXS HBT HBR HBO y0 y7 t10 o10
            go_wp2_with fail
            go_loopw [12] (fun i wr => ∃ (q : Nat), q ≤ x.body.length ∧ i = .int .i64 q ∧ Mp w wr (k + 1) (.slice (some ⟨g0, 0, none⟩) P.lats.length c0) (.slice (some ⟨g1, 0, none⟩) P.funs.length c1) (.slice (some ⟨g2, 0, none⟩) P.preds.length c2) (.slice (some ⟨g3, 0, none⟩) P.rules.length c3) ⟨P.lats.map (Ap.La.to (mvTo ls ms)), P.funs.map (Ap.Fu.to (mvTo ls ms)), P.preds.map (Ap.Pr.to (mvTo ls ms)), (mix (Ap.Ru.to (mvTo ls ms)) k P.rules).set k { x with pos := mvTo ls ms x.pos, body := mix (Ap.Li.to (mvTo ls ms)) q x.body }⟩ ∧ At wr b17 34 #[(.slice (some ⟨g0, 0, none⟩) P.lats.length c0), (.slice (some ⟨g1, 0, none⟩) P.funs.length c1), (.slice (some ⟨g2, 0, none⟩) P.preds.length c2), (.slice (some ⟨g3, 0, none⟩) P.rules.length c3)] ∧ At wr (w.heap.size + 1) 34 #[.slice none 0 0, .slice none 0 0, .slice none 0 0, .slice none 0 0]) (fun i _ => x.body.length - (intOf i).toNat)
            case atStart => exact ⟨0, by omega, rfl, hM4.cast (by rw [mix_zero, HX1.out]), z7, z6⟩
            case round =>
             clear hM4 z7 z6
             obtain ⟨q, hq, rfl, hM, x7, xr⟩ := hrel
             have HXS := Lib.hid (show ((mix (Ap.Ru.to (mvTo ls ms)) k P.rules).set k { x with pos := mvTo ls ms x.pos, body := mix (Ap.Li.to (mvTo ls ms)) q x.body })[k]? = some { x with pos := mvTo ls ms x.pos, body := mix (Ap.Li.to (mvTo ls ms)) q x.body } from List.getElem?_set_self HLN.out)
             have y0 := x7.cell 3
             simp only [List.getElem?_toArray, List.getElem?_cons_zero, List.getElem?_cons_succ] at y0
             obtain ⟨g9, c9, cur9, bb, e2, -, -, -, y7, -, ⟨BA, BC, hbv⟩, -⟩ := hM.ru (i := k) HXS.out
             simp only [List.length_set] at e2
             simp only [Value.slice.injEq, Option.some.injEq, Addr.mk.injEq] at e2
             obtain ⟨⟨rfl, -⟩, -, rfl⟩ := e2
             replace hbv : bb = .slice BA x.body.length BC := by rw [hbv]; exact congrArg (fun n => Value.slice BA n BC) mix_length
             subst hbv
             by_cases h2 : q < x.body.length
             ·obtain ⟨y, hy⟩ : ∃ y, x.body[q]? = some y := ⟨_, List.getElem?_eq_getElem h2⟩
              have HYM := Lib.hid (show (mix (Ap.Li.to (mvTo ls ms)) q x.body)[q]? = some y from (mix_get hq).trans hy)
              obtain ⟨g9, c9, cur9, gb, cb, cur2, e2, -, -, y7b, hgb, ha, hc, hz⟩ := hM.lit (i := k) (k := q) HXS.out (Nat.lt_succ_self k) HYM.out
              simp only [List.length_set] at e2
              simp only [Value.slice.injEq, Option.some.injEq, Addr.mk.injEq] at e2
              obtain ⟨⟨rfl, -⟩, -, rfl⟩ := e2
              rw [y7] at y7b
              simp only [Option.some.injEq, Value.slice.injEq] at y7b
              obtain ⟨rfl, -, rfl⟩ := y7b
              have i2 : (0 : Int) ≤ (q : Int) := by omega
              have i3 : (q : Int) < (x.body.length : Int) := by omega
              have dq : decide ((q : Int) < (x.body.length : Int)) = true := decide_eq_true i3
              have HM := Lib.hid hM; have HX7 := Lib.hid x7; have HXR := Lib.hid xr; have HYY := Lib.hid hy
              have HMV := Lib.hid (fun (W : World) (hb : Below wr.heap.size wr W) => move_any _ _ ls ms y.pos W hl (TRow.below HV.out.1 (hM.low.trans (hb.mono hM.low.size))) (TRow.below HV.out.2 (hM.low.trans (hb.mono hM.low.size))))
              clear hM x7 xr hz ha hy
              go_wp2_with fail
              refine' wp_region_last 22 _ _ (Below wr.heap.size wr) (Onward) (Vl :: Vl :: Vl :: Vl :: Vl :: Vl :: Vl :: Vl :: Vl :: Vl :: Vl :: Vl :: Vl :: Vl :: Vl :: Vl :: Vl :: Vl :: Vl :: Vl :: Vl :: Vl :: []) ?hF (by kernel_rfl) (by kernel_rfl) (by kernel_rfl) (by rfl) (by rfl) (by rfl) (by kernel_rfl) ((Below.refl _ _).drew) (lasting_cons (lasting_vl) (lasting_cons (lasting_vl) (lasting_cons (lasting_vl) (lasting_cons (lasting_vl) (lasting_cons (lasting_vl) (lasting_cons (lasting_vl) (lasting_cons (lasting_vl) (lasting_cons (lasting_vl) (lasting_cons (lasting_vl) (lasting_cons (lasting_vl) (lasting_cons (lasting_vl) (lasting_cons (lasting_vl) (lasting_cons (lasting_vl) (lasting_cons (lasting_vl) (lasting_cons (lasting_vl) (lasting_cons (lasting_vl) (lasting_cons (lasting_vl) (lasting_cons (lasting_vl) (lasting_cons (lasting_vl) (lasting_cons (lasting_vl) (lasting_cons (lasting_vl) (lasting_cons (lasting_vl) (lasting_none))))))))))))))))))))))) ?hops ?hlast
              case hF => (intro v; simp only [over, Act.put, List.setIfInBounds_toArray, List.set_cons_zero, List.set_cons_succ, Nat.zero_add, Nat.reduceAdd]; exact rfl)
              case hops =>
               refine ⟨?_, ?_⟩
               ·intro v w' hj hd hs K hK
                have hk := hK.out
                simp only [Act.put, List.setIfInBounds_toArray, List.set_cons_zero, List.set_cons_succ] at hk
                have HK := Lib.hid hk
                clear hd hs hk hK
                go_simp
                exact HK.out _ _ hj.out (Below.refl _ _) (show _ = _ from rfl)
               refine ⟨?_, ?_⟩
               ·intro v w' hj hd hs K hK
                have t0 : v 0 = _ := hd.out 0 (by kernel_rfl)
                have yy := next_cell y0 hj.out
                have hk := hK.out
                simp only [t0, Act.put, List.setIfInBounds_toArray, List.set_cons_zero, List.set_cons_succ] at hk
                have HK := Lib.hid hk
                clear hd hs hk hK
                go_simp
                exact HK.out _ _ hj.out (Below.refl _ _) (show _ = _ from rfl)
               refine ⟨?_, ?_⟩
               ·intro v w' hj hd hs K hK
                have hk := hK.out
                simp only [Act.put, List.setIfInBounds_toArray, List.set_cons_zero, List.set_cons_succ] at hk
                have HK := Lib.hid hk
                clear hd hs hk hK
                go_simp
                exact HK.out _ _ hj.out (Below.refl _ _) (show _ = _ from rfl)
               refine ⟨?_, ?_⟩
               ·intro v w' hj hd hs K hK
                have t1 : v 1 = _ := hd.out 1 (by kernel_rfl)
                have t2 : v 2 = _ := hd.out 2 (by kernel_rfl)
                have hk := hK.out
                simp only [t1, t2, Act.put, List.setIfInBounds_toArray, List.set_cons_zero, List.set_cons_succ] at hk
                have HK := Lib.hid hk
                clear hd hs hk hK
                go_simp
                exact HK.out _ _ hj.out (Below.refl _ _) (show _ = _ from rfl)
               refine ⟨?_, ?_⟩
               ·intro v w' hj hd hs K hK
                have t3 : v 3 = _ := hd.out 3 (by kernel_rfl)
                have hk := hK.out
                simp only [t3, Act.put, List.setIfInBounds_toArray, List.set_cons_zero, List.set_cons_succ] at hk
                have HK := Lib.hid hk
                clear hd hs hk hK
                go_simp
                exact HK.out _ _ hj.out (Below.refl _ _) (show _ = _ from rfl)
               refine ⟨?_, ?_⟩
               ·intro v w' hj hd hs K hK
                have t4 : v 4 = _ := hd.out 4 (by kernel_rfl)
                have yy := next_cell y7 hj.out
                have hk := hK.out
                simp only [t4, Act.put, List.setIfInBounds_toArray, List.set_cons_zero, List.set_cons_succ] at hk
                have HK := Lib.hid hk
                clear hd hs hk hK
                go_simp
                exact HK.out _ _ hj.out (Below.refl _ _) (show _ = _ from rfl)
               refine ⟨?_, ?_⟩
               ·intro v w' hj hd hs K hK
                have hk := hK.out
                simp only [Act.put, List.setIfInBounds_toArray, List.set_cons_zero, List.set_cons_succ] at hk
                have HK := Lib.hid hk
                clear hd hs hk hK
                go_simp
                exact HK.out _ _ hj.out (Below.refl _ _) (show _ = _ from rfl)
               refine ⟨?_, ?_⟩
               ·intro v w' hj hd hs K hK
                have hk := hK.out
                simp only [Act.put, List.setIfInBounds_toArray, List.set_cons_zero, List.set_cons_succ] at hk
                have HK := Lib.hid hk
                clear hd hs hk hK
                go_simp
                exact HK.out _ _ hj.out (Below.refl _ _) (show _ = _ from rfl)
               refine ⟨?_, ?_⟩
               ·intro v w' hj hd hs K hK
                have t7 : v 7 = _ := hd.out 7 (by kernel_rfl)
                have yy := next_cell y0 hj.out
                have hk := hK.out
                simp only [t7, Act.put, List.setIfInBounds_toArray, List.set_cons_zero, List.set_cons_succ] at hk
                have HK := Lib.hid hk
                clear hd hs hk hK
                go_simp
                exact HK.out _ _ hj.out (Below.refl _ _) (show _ = _ from rfl)
               refine ⟨?_, ?_⟩
               ·intro v w' hj hd hs K hK
                have hk := hK.out
                simp only [Act.put, List.setIfInBounds_toArray, List.set_cons_zero, List.set_cons_succ] at hk
                have HK := Lib.hid hk
                clear hd hs hk hK
                go_simp
                exact HK.out _ _ hj.out (Below.refl _ _) (show _ = _ from rfl)
               refine ⟨?_, ?_⟩
               ·intro v w' hj hd hs K hK
                have t8 : v 8 = _ := hd.out 8 (by kernel_rfl)
                have t9 : v 9 = _ := hd.out 9 (by kernel_rfl)
                have hk := hK.out
                simp only [t8, t9, Act.put, List.setIfInBounds_toArray, List.set_cons_zero, List.set_cons_succ] at hk
                have HK := Lib.hid hk
                clear hd hs hk hK
                go_simp
                exact HK.out _ _ hj.out (Below.refl _ _) (show _ = _ from rfl)
               refine ⟨?_, ?_⟩
               ·intro v w' hj hd hs K hK
                have t10 : v 10 = _ := hd.out 10 (by kernel_rfl)
                have hk := hK.out
                simp only [t10, Act.put, List.setIfInBounds_toArray, List.set_cons_zero, List.set_cons_succ] at hk
                have HK := Lib.hid hk
                clear hd hs hk hK
                go_simp
                exact HK.out _ _ hj.out (Below.refl _ _) (show _ = _ from rfl)
               refine ⟨?_, ?_⟩
               ·intro v w' hj hd hs K hK
                have t11 : v 11 = _ := hd.out 11 (by kernel_rfl)
                have yy := next_cell y7 hj.out
                have hk := hK.out
                simp only [t11, Act.put, List.setIfInBounds_toArray, List.set_cons_zero, List.set_cons_succ] at hk
                have HK := Lib.hid hk
                clear hd hs hk hK
                go_simp
                exact HK.out _ _ hj.out (Below.refl _ _) (show _ = _ from rfl)
               refine ⟨?_, ?_⟩
               ·intro v w' hj hd hs K hK
                have hk := hK.out
                simp only [Act.put, List.setIfInBounds_toArray, List.set_cons_zero, List.set_cons_succ] at hk
                have HK := Lib.hid hk
                clear hd hs hk hK
                go_simp
                exact HK.out _ _ hj.out (Below.refl _ _) (show _ = _ from rfl)
               refine ⟨?_, ?_⟩
               ·intro v w' hj hd hs K hK
                have t12 : v 12 = _ := hd.out 12 (by kernel_rfl)
                have t13 : v 13 = _ := hd.out 13 (by kernel_rfl)
                have hk := hK.out
                simp only [t12, t13, Act.put, List.setIfInBounds_toArray, List.set_cons_zero, List.set_cons_succ] at hk
                have HK := Lib.hid hk
                clear hd hs hk hK
                go_simp
                exact HK.out _ _ hj.out (Below.refl _ _) (show _ = _ from rfl)
               refine ⟨?_, ?_⟩
               ·intro v w' hj hd hs K hK
                have t14 : v 14 = _ := hd.out 14 (by kernel_rfl)
                have hk := hK.out
                simp only [t14, Act.put, List.setIfInBounds_toArray, List.set_cons_zero, List.set_cons_succ] at hk
                have HK := Lib.hid hk
                clear hd hs hk hK
                go_simp
                exact HK.out _ _ hj.out (Below.refl _ _) (show _ = _ from rfl)
               refine ⟨?_, ?_⟩
               ·intro v w' hj hd hs K hK
                have t15 : v 15 = _ := hd.out 15 (by kernel_rfl)
                have yy := next_cell hc hj.out
                have hk := hK.out
                simp only [t15, Act.put, List.setIfInBounds_toArray, List.set_cons_zero, List.set_cons_succ] at hk
                have HK := Lib.hid hk
                clear hd hs hk hK
                go_simp
                exact HK.out _ _ hj.out (Below.refl _ _) (show _ = _ from rfl)
               refine ⟨?_, ?_⟩
               ·intro v w' hj hd hs K hK
                have hk := hK.out
                simp only [Act.put, List.setIfInBounds_toArray, List.set_cons_zero, List.set_cons_succ] at hk
                have HK := Lib.hid hk
                clear hd hs hk hK
                go_simp
                exact HK.out _ _ hj.out (Below.refl _ _) (show _ = _ from rfl)
               refine ⟨?_, ?_⟩
               ·intro v w' hj hd hs K hK
                have hk := hK.out
                simp only [Act.put, List.setIfInBounds_toArray, List.set_cons_zero, List.set_cons_succ] at hk
                have HK := Lib.hid hk
                clear hd hs hk hK
                go_simp
                exact HK.out _ _ hj.out (Below.refl _ _) (show _ = _ from rfl)
               refine ⟨?_, ?_⟩
               ·intro v w' hj hd hs K hK
                have t16 : v 16 = _ := hd.out 16 (by kernel_rfl)
                have t17 : v 17 = _ := hd.out 17 (by kernel_rfl)
                have t18 : v 18 = _ := hd.out 18 (by kernel_rfl)
                have hk := hK.out
                simp only [t16, t17, t18, Act.put, List.setIfInBounds_toArray, List.set_cons_zero, List.set_cons_succ] at hk
                have HK := Lib.hid hk
                clear hd hs hk hK
                go_simp
                go_at_call 37
                refine (HMV.out w' hj.out).mono ?_
                rintro e wz ⟨rfl, hbz⟩
                exact HK.out _ _ (hj.out.trans (hbz.mono hj.out.size)) hbz (show _ = _ from rfl)
               refine ⟨?_, ?_⟩
               ·intro v w' hj hd hs K hK
                have t5 : v 5 = _ := hd.out 5 (by kernel_rfl)
                have t6 : v 6 = _ := hd.out 6 (by kernel_rfl)
                have hk := hK.out
                simp only [t5, t6, Act.put, List.setIfInBounds_toArray, List.set_cons_zero, List.set_cons_succ] at hk
                have HK := Lib.hid hk
                clear hd hs hk hK
                go_simp
                exact HK.out _ _ hj.out (Below.refl _ _) (show _ = _ from rfl)
               refine ⟨?_, ?_⟩
               ·intro v w' hj hd hs K hK
                have t20 : v 20 = _ := hd.out 20 (by kernel_rfl)
                have hk := hK.out
                simp only [t20, Act.put, List.setIfInBounds_toArray, List.set_cons_zero, List.set_cons_succ] at hk
                have HK := Lib.hid hk
                clear hd hs hk hK
                go_simp
                exact HK.out _ _ hj.out (Below.refl _ _) (show _ = _ from rfl)
               trivial
              case hlast =>
               intro v w' hj hd K hK
               have t19 : v 19 = _ := hd.out 19 (of_decide_eq_true (by kernel_rfl))
               have t21 : v 21 = _ := hd.out 21 (of_decide_eq_true (by kernel_rfl))
               have hM2 := HM.out.next hj.out
               obtain ⟨g9, c9, cur9, gb2, cb2, cur2, e2, -, -, y7b, hgb2, ha2, hc2, hz2⟩ := hM2.lit (i := k) (k := q) HXS.out (Nat.lt_succ_self k) HYM.out
               have y7c := next_cell y7 hj.out
               simp only [List.length_set] at e2
               simp only [Value.slice.injEq, Option.some.injEq, Addr.mk.injEq] at e2
               obtain ⟨⟨rfl, -⟩, -, rfl⟩ := e2
               rw [y7c] at y7b
               simp only [Option.some.injEq, Value.slice.injEq, Addr.mk.injEq] at y7b
               obtain ⟨⟨rfl, -⟩, -, rfl⟩ := y7b
               have yf := ha2.frozen (q * 9 + 8)
               have yl := ha2.lt
               have hk := hK.out
               simp only [t19, t21, Act.put, List.setIfInBounds_toArray, List.set_cons_zero, List.set_cons_succ] at hk
               have HK := Lib.hid hk
               clear hd hk hK
               go_simp
               refine HK.out _ ?_
               have hM3 := hz2 (mvTo ls ms y.pos)
               have z7 := (HX7.out.next hj.out).far (p := ⟨gb, q * 9 + 8, none⟩) (at_apart (HX7.out.next hj.out) ha2 (by decide)) (.int .i64 (mvTo ls ms y.pos))
               have z6 := (HXR.out.next hj.out).far (p := ⟨gb, q * 9 + 8, none⟩) (at_apart (HXR.out.next hj.out) ha2 (by decide)) (.int .i64 (mvTo ls ms y.pos))
               generalize hws : w'.setCell ⟨gb, q * 9 + 8, none⟩ (.int .i64 (mvTo ls ms y.pos)) = ws at hM3 z7 z6 ⊢
               clear hws yf yl ha2 hc2 hz2 hM2 hj HK y0 y7 y7c hc
               go_wp2_with fail
               go_roundw
               case rel => exact ⟨q + 1, by omega, by go_num, hM3.cast (by rw [List.set_set, ← mix_set HYY.out]; rfl), z7, z6⟩
               case measure => simp [intOf]; omega
             ·have dq : decide ((q : Int) < (x.body.length : Int)) = false := decide_eq_false (by omega)
              have hM := hM.cast (P' := ⟨P.lats.map (Ap.La.to (mvTo ls ms)), P.funs.map (Ap.Fu.to (mvTo ls ms)), P.preds.map (Ap.Pr.to (mvTo ls ms)), mix (Ap.Ru.to (mvTo ls ms)) (k + 1) P.rules⟩) (by rw [mix_ru HXX.out (by omega)])
              go_wp2_with fail
              go_roundw
              case rel => exact ⟨k + 1, by omega, by go_num, hM, x7, xr⟩
              case measure => simp [intOf]; omega
         ·have dk : decide ((k : Int) < (P.rules.length : Int)) = false := decide_eq_false (by omega)
          have hM := hM.cast (P' := P.to (mvTo ls ms)) (by rw [mix_all (by omega)]; rfl)
          have hkn : k = P.rules.length := by omega
          subst hkn
          have u0 := x7.cell 0; have v0 := xr.cell 0; have f0 := xr.frozen 0
          have u1 := x7.cell 1; have v1 := xr.cell 1; have f1 := xr.frozen 1
          have u2 := x7.cell 2; have v2 := xr.cell 2; have f2 := xr.frozen 2
          have u3 := x7.cell 3; have v3 := xr.cell 3; have f3 := xr.frozen 3
          have hlr := xr.lt
          simp only [List.getElem?_toArray, List.getElem?_cons_zero, List.getElem?_cons_succ] at u0 v0 u1 v1 u2 v2 u3 v3
          clear y0
          go_wp2_with fail
          obtain ⟨hM5, x6f⟩ := hM.put4 xr (by omega) (.slice (some ⟨g0, 0, none⟩) P.lats.length c0) (.slice (some ⟨g1, 0, none⟩) P.funs.length c1) (.slice (some ⟨g2, 0, none⟩) P.preds.length c2) (.slice (some ⟨g3, 0, none⟩) P.rules.length c3)
          refine bodyPost_ret (results_cell_row rfl _ _ (w.heap.size + 1) 34 _ (0, 0) _ rfl x6f Tryd.underlying34 rfl (by kernel_rfl)) rfl ?_
          exact ⟨_, _, _, _, rfl, hM5⟩
end Go.Proofs.YtpcmlkpnjimbiaaDoor
