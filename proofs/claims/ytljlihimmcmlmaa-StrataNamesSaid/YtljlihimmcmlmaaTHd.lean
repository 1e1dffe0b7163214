/- The walk of head. -/
import Derived.Test.YtljlihimmcmlmaaTHd1
namespace Go.Proofs.Ytljlihimmcmlmaa
set_option linter.unusedVariables false
set_option linter.unusedSimpArgs false
open Go.RowKit
set_option maxHeartbeats 2000000 in
set_option maxRecDepth 100000 in
theorem head_any (w : World) : Calls Try.prog 10 #[] w fun e w' => e = .returned (.bool true) ∧ Below w.heap.size w w' := by
  go_enter Try.func10, Try.ntmps10
  go_wp2_with fail
  have a0 := (((At.new w 3 #[.int .i64 0, .int .i64 1]).alloc (.cells #[.int .i64 1, .int .i64 0, .int .i64 2] 3)).alloc (.cells #[.int .i64 3, .int .i64 0, .int .i64 (-3)] 3)).alloc (.cells #[.slice (some ⟨w.heap.size, 0, none⟩) 2 2, .slice (some ⟨w.heap.size + 1, 0, none⟩) 3 3, .slice (some ⟨w.heap.size + 1 + 1, 0, none⟩) 3 3] 42)
  have a1 := ((At.newAt (w := w.alloc (.cells #[.int .i64 0, .int .i64 1] 3)) (g := w.heap.size + 1) (by simp) 3 #[.int .i64 1, .int .i64 0, .int .i64 2]).alloc (.cells #[.int .i64 3, .int .i64 0, .int .i64 (-3)] 3)).alloc (.cells #[.slice (some ⟨w.heap.size, 0, none⟩) 2 2, .slice (some ⟨w.heap.size + 1, 0, none⟩) 3 3, .slice (some ⟨w.heap.size + 1 + 1, 0, none⟩) 3 3] 42)
  have a2 := (At.newAt (w := (w.alloc (.cells #[.int .i64 0, .int .i64 1] 3)).alloc (.cells #[.int .i64 1, .int .i64 0, .int .i64 2] 3)) (g := w.heap.size + 1 + 1) (by simp) 3 #[.int .i64 3, .int .i64 0, .int .i64 (-3)]).alloc (.cells #[.slice (some ⟨w.heap.size, 0, none⟩) 2 2, .slice (some ⟨w.heap.size + 1, 0, none⟩) 3 3, .slice (some ⟨w.heap.size + 1 + 1, 0, none⟩) 3 3] 42)
  have a3 := At.newAt (w := ((w.alloc (.cells #[.int .i64 0, .int .i64 1] 3)).alloc (.cells #[.int .i64 1, .int .i64 0, .int .i64 2] 3)).alloc (.cells #[.int .i64 3, .int .i64 0, .int .i64 (-3)] 3)) (g := w.heap.size + 1 + 1 + 1) (by simp) 42 #[.slice (some ⟨w.heap.size, 0, none⟩) 2 2, .slice (some ⟨w.heap.size + 1, 0, none⟩) 3 3, .slice (some ⟨w.heap.size + 1 + 1, 0, none⟩) 3 3]
  have hls := lsI3 (r0 := [0, 1]) (r1 := [1, 0, 2]) (r2 := [3, 0, -3]) a0 a1 a2 a3
  have hb0 := (((Below.refl w.heap.size w).alloc (Nat.le_refl _) (.cells #[.int .i64 0, .int .i64 1] 3)).alloc (by simp) (.cells #[.int .i64 1, .int .i64 0, .int .i64 2] 3)).alloc (by simp; omega) (.cells #[.int .i64 3, .int .i64 0, .int .i64 (-3)] 3) |>.alloc (by simp; omega) (.cells #[.slice (some ⟨w.heap.size, 0, none⟩) 2 2, .slice (some ⟨w.heap.size + 1, 0, none⟩) 3 3, .slice (some ⟨w.heap.size + 1 + 1, 0, none⟩) 3 3] 42)
  clear a0 a1 a2 a3
  refine (rules_any 4 _ 3 PF _ (by decide) (by decide) (by decide) hls).mono ?_
  rintro e w1 ⟨p, he, hp, hq1, hq2, hb1⟩
  replace he : e = .returned (.agg #[.slice p.lat.a p.lat.n p.lat.c, .slice p.fns.a p.fns.n p.fns.c, .slice p.pa p.prs.length p.pc, .slice p.ra p.rus.length p.rc]) := he
  subst he
  have R := Lib.hid (runP hp hq1 hq2)
  have hbw := hb0.trans (hb1.mono hb0.size)
  clear hls hb0 hp hq1 hq2 hb1
  go_wp2_with fail
  have hat := At.new w1 27 p.vs
  have hb2 := below1 w1 (.cells p.vs 27)
  have hbw2 := hbw.trans (hb2.mono hbw.size)
  change Calls _ _ _ ((((w1.alloc (.cells p.vs 27)).alloc _).alloc _).alloc _) _
  generalize hw2 : w1.alloc (.cells p.vs 27) = w2 at *
  have hsz : w2.heap.size = w1.heap.size + 1 := by rw [← hw2]; simp
  have a0 := ((At.newAt (w := w2) (g := w1.heap.size + 1) hsz 3 #[.int .i64 0, .int .i64 (-2)]).alloc (.cells #[.int .i64 1, .int .i64 0] 3)).alloc (.cells #[.slice (some ⟨w1.heap.size + 1, 0, none⟩) 2 2, .slice (some ⟨w1.heap.size + 1 + 1, 0, none⟩) 2 2] 42)
  have a1 := (At.newAt (w := w2.alloc (.cells #[.int .i64 0, .int .i64 (-2)] 3)) (g := w1.heap.size + 1 + 1) (by simp [hsz]) 3 #[.int .i64 1, .int .i64 0]).alloc (.cells #[.slice (some ⟨w1.heap.size + 1, 0, none⟩) 2 2, .slice (some ⟨w1.heap.size + 1 + 1, 0, none⟩) 2 2] 42)
  have a2 := At.newAt (w := (w2.alloc (.cells #[.int .i64 0, .int .i64 (-2)] 3)).alloc (.cells #[.int .i64 1, .int .i64 0] 3)) (g := w1.heap.size + 1 + 1 + 1) (by simp [hsz]) 42 #[.slice (some ⟨w1.heap.size + 1, 0, none⟩) 2 2, .slice (some ⟨w1.heap.size + 1 + 1, 0, none⟩) 2 2]
  have hls := lsI2 (r0 := [0, -2]) (r1 := [1, 0]) a0 a1 a2
  have hb3 := ((Below.refl w2.heap.size w2).alloc (Nat.le_refl _) (.cells #[.int .i64 0, .int .i64 (-2)] 3)).alloc (by simp) (.cells #[.int .i64 1, .int .i64 0] 3) |>.alloc (by simp; omega) (.cells #[.slice (some ⟨w1.heap.size + 1, 0, none⟩) 2 2, .slice (some ⟨w1.heap.size + 1 + 1, 0, none⟩) 2 2] 42)
  clear a0 a1 a2 hw2 hsz
  refine (rules_any 2 _ 2 QF _ (by decide) (by decide) (by decide) hls).mono ?_
  rintro e w3 ⟨q, he, hq, hq1, hq2, hb4⟩
  replace he : e = .returned (.agg #[.slice q.lat.a q.lat.n q.lat.c, .slice q.fns.a q.fns.n q.fns.c, .slice q.pa q.prs.length q.pc, .slice q.ra q.rus.length q.rc]) := he
  subst he
  have RQ := Lib.hid (runQ hq hq1 hq2)
  have hb5 := hb3.trans (hb4.mono hb3.size)
  have hat3 := hat.next hb5
  have hb13 := hb2.trans (hb5.mono hb2.size)
  have hbw3 := hbw2.trans (hb5.mono hbw2.size)
  have hlt := hat3.lt
  obtain ⟨p0, p1, p2, p3⟩ := vs_cells hat3
  clear hls hb3 hq hq1 hq2 hb4 hat hb5 hb2 hbw2 hbw
  go_wp2_with fail
  change Calls _ _ _ (w3.alloc (.cells q.vs 27)) _
  have hqt := At.new w3 27 q.vs
  have hb34 := below1 w3 (.cells q.vs 27)
  have hat4 := hat3.next hb34
  have hb14 := hb13.trans (hb34.mono hb13.size)
  have hbw4 := hbw3.trans (hb34.mono hbw3.size)
  generalize hw4 : w3.alloc (.cells q.vs 27) = w4 at *
  clear hw4 hat3 hb13 hbw3 p0 p1 p2 p3
  refine (R.out.edges _ hb14).mono ?_
  rintro e w5 ⟨v, u, rfl, hv, hu, hb⟩
  simp only [show PE.length = 5 from rfl] at hv hu
  obtain ⟨va, vc, rfl⟩ := own_len hv
  obtain ⟨ua, uc, rfl⟩ := own_len hu
  have hat5 := hat4.next hb
  have hqt5 := hqt.next hb
  have hb15 := hb14.trans (hb.mono hb14.size)
  have hb35 := hb34.trans (hb.mono hb34.size)
  have hbw5 := hbw4.trans (hb.mono hbw4.size)
  obtain ⟨Av, cv, ev, _, _, hv1⟩ := own_cells hv
  obtain ⟨Au, cu, eu, _, _, hu1⟩ := own_cells hu
  injection ev with ev1 _ ev3
  injection eu with eu1 _ eu3
  subst ev1 ev3 eu1 eu3
  rcases hv1 with hv1 | ⟨gv, rfl, _, hgv, hcv⟩
  · exact absurd hv1 (by decide)
  rcases hu1 with hu1 | ⟨gu, rfl, _, hgu, hcu⟩
  · exact absurd hu1 (by decide)
  have v0 := hcv 8 (.int .i64 3) rfl
  have v1 := hcv 9 (.int .i64 2) rfl
  have u0 := hcu 0 (.bool false) rfl
  have u4 := hcu 4 (.bool true) rfl
  have H5 := Lib.hid (HdAt.mk hat5 hqt5 hb15 hb35 hbw5 hgv hgu v0 v1 u0 u4)
  obtain ⟨p0, p1, p2, p3⟩ := vs_cells hat5
  clear hcv hcu hv hu hat4 hqt hb14 hb34 hbw4 hb hlt v0 v1 u0 u4 hat5 hqt5 hb15 hb35 hbw5
  go_wp2_with fail
  refine (R.out.comps _ H5.out.b1).mono ?_
  rintro e w6 ⟨A6, c6, rfl, hls, hb⟩
  have H6 := Lib.hid (H5.out.next hb)
  have hlt := H6.out.hat.lt
  clear p0 p1 p2 p3 H5 hb
  go_wp2_with fail
  have a0 := (((At.new w6 3 #[.int .i64 2]).alloc (.cells #[.int .i64 0, .int .i64 1] 3)).alloc (.cells #[.int .i64 3] 3)).alloc (.cells #[.slice (some ⟨w6.heap.size, 0, none⟩) 1 1, .slice (some ⟨w6.heap.size + 1, 0, none⟩) 2 2, .slice (some ⟨w6.heap.size + 1 + 1, 0, none⟩) 1 1] 42)
  have a1 := ((At.newAt (w := w6.alloc (.cells #[.int .i64 2] 3)) (g := w6.heap.size + 1) (by simp) 3 #[.int .i64 0, .int .i64 1]).alloc (.cells #[.int .i64 3] 3)).alloc (.cells #[.slice (some ⟨w6.heap.size, 0, none⟩) 1 1, .slice (some ⟨w6.heap.size + 1, 0, none⟩) 2 2, .slice (some ⟨w6.heap.size + 1 + 1, 0, none⟩) 1 1] 42)
  have a2 := (At.newAt (w := (w6.alloc (.cells #[.int .i64 2] 3)).alloc (.cells #[.int .i64 0, .int .i64 1] 3)) (g := w6.heap.size + 1 + 1) (by simp) 3 #[.int .i64 3]).alloc (.cells #[.slice (some ⟨w6.heap.size, 0, none⟩) 1 1, .slice (some ⟨w6.heap.size + 1, 0, none⟩) 2 2, .slice (some ⟨w6.heap.size + 1 + 1, 0, none⟩) 1 1] 42)
  have a3 := At.newAt (w := ((w6.alloc (.cells #[.int .i64 2] 3)).alloc (.cells #[.int .i64 0, .int .i64 1] 3)).alloc (.cells #[.int .i64 3] 3)) (g := w6.heap.size + 1 + 1 + 1) (by simp) 42 #[.slice (some ⟨w6.heap.size, 0, none⟩) 1 1, .slice (some ⟨w6.heap.size + 1, 0, none⟩) 2 2, .slice (some ⟨w6.heap.size + 1 + 1, 0, none⟩) 1 1]
  have hls2 := lsAt3 (r0 := [2]) (r1 := [0, 1]) (r2 := [3]) a0 a1 a2 a3
  have hb3 := (((Below.refl w6.heap.size w6).alloc (Nat.le_refl _) (.cells #[.int .i64 2] 3)).alloc (by simp) (.cells #[.int .i64 0, .int .i64 1] 3)).alloc (by simp; omega) (.cells #[.int .i64 3] 3) |>.alloc (by simp; omega) (.cells #[.slice (some ⟨w6.heap.size, 0, none⟩) 1 1, .slice (some ⟨w6.heap.size + 1, 0, none⟩) 2 2, .slice (some ⟨w6.heap.size + 1 + 1, 0, none⟩) 1 1] 42)
  clear a0 a1 a2 a3
  have HS := Lib.hid (same_any A6 c6 [[2], [0, 1], [3]] _ 3 [[2], [0, 1], [3]] _ (by decide) (by decide) (by decide) (by decide) (hls.below hb3) hls2)
  refine HS.out.mono ?_
  rintro e w7 ⟨he, hb4⟩
  replace he : e = .returned (.bool true) := he
  subst he
  have H7 := Lib.hid (H6.out.next (hb3.trans (hb4.mono hb3.size)))
  have v0 := H7.out.v0
  have v1 := H7.out.v1
  have u0 := H7.out.u0
  have u4 := H7.out.u4
  obtain ⟨p0, p1, p2, p3⟩ := vs_cells H7.out.hat
  clear HS hls hls2 hb3 hb4 H6 hlt
  have t1 : (Op.equalIn 10000 34 (.agg #[.int .i64 3, .int .i64 2]) (.agg #[.int .i64 3, .int .i64 2])).run Try.prog w7 = .ok true w7 := eq_pair w7 3 2 3 2
  go_wp2_with fail
  refine (R.out.rec0 _ H7.out.b1).mono ?_
  rintro e w8 ⟨rfl, hb⟩
  have H8 := Lib.hid (H7.out.next hb)
  clear p0 p1 p2 p3 v0 v1 u0 u4 t1 H7 hb
  obtain ⟨p0, p1, p2, p3⟩ := vs_cells H8.out.hat
  go_wp2_with fail
  refine (R.out.rec3 _ H8.out.b1).mono ?_
  rintro e w9 ⟨rfl, hb⟩
  have H9 := Lib.hid (H8.out.next hb)
  clear p0 p1 p2 p3 H8 hb
  obtain ⟨p0, p1, p2, p3⟩ := vs_cells H9.out.hat
  go_wp2_with fail
  refine (R.out.chk _ H9.out.b1).mono ?_
  rintro e w10 ⟨A10, c10, rfl, hb⟩
  have H10 := Lib.hid (H9.out.next hb)
  clear p0 p1 p2 p3 H9 hb
  obtain ⟨p0, p1, p2, p3⟩ := vs_cells H10.out.hqt
  go_wp2_with fail
  refine (RQ.out _ H10.out.b3).mono ?_
  rintro e w11 ⟨A11, c11, rfl, hdg, hb⟩
  have H11 := Lib.hid (H10.out.next hb)
  clear p0 p1 p2 p3 H10 hb
  go_wp2_with fail
  have ad := At.new w11 62 #[.int .i64 90, .int .i64 1]
  have hb12 := below1 w11 (.cells #[.int .i64 90, .int .i64 1] 62)
  have hdg2 : DgAt (w11.alloc (.cells #[.int .i64 90, .int .i64 1] 62)) (some ⟨w11.heap.size, 0, none⟩) [(90, 1)] := fun _ => by
    refine ⟨w11.heap.size, 0, rfl, ad.lt, fun i fs hi j v hv => ?_⟩
    match i, hi with
    | 0, hi =>
      obtain rfl : [Value.int .i64 90, Value.int .i64 1] = fs := by simpa using hi
      simp only [Nat.zero_add, Nat.zero_mul]
      rw [ad.cell]
      simpa using hv
    | n + 1, hi => simp at hi
  have HSD := Lib.hid (sameDiags_any A11 c11 [(90, 1)] _ 1 [(90, 1)] _ (by decide) (by decide) (hdg.below hb12) hdg2)
  refine HSD.out.mono ?_
  rintro e w12 ⟨he, hb⟩
  replace he : e = .returned (.bool true) := he
  subst he
  have H12 := Lib.hid (H11.out.next (hb12.trans (hb.mono hb12.size)))
  clear HSD hdg hdg2 ad hb12 hb H11
  obtain ⟨p0, p1, p2, p3⟩ := vs_cells H12.out.hat
  go_wp2_with fail
  refine (R.out.pos1 _ H12.out.b1).mono ?_
  rintro e w13 ⟨rfl, hb⟩
  have H13 := Lib.hid (H12.out.next hb)
  clear p0 p1 p2 p3 H12 hb
  obtain ⟨p0, p1, p2, p3⟩ := vs_cells H13.out.hat
  go_wp2_with fail
  refine (R.out.pos3 _ H13.out.b1).mono ?_
  rintro e w14 ⟨rfl, hb⟩
  have H14 := Lib.hid (H13.out.next hb)
  clear p0 p1 p2 p3 H13 hb
  obtain ⟨p0, p1, p2, p3⟩ := vs_cells H14.out.hat
  go_wp2_with fail
  refine (R.out.pos4 _ H14.out.b1).mono ?_
  rintro e w15 ⟨rfl, hb⟩
  have H15 := Lib.hid (H14.out.next hb)
  clear p0 p1 p2 p3 H14 hb
  go_wp2_with fail
  go_ret
  exact ⟨rfl, H15.out.bw⟩
end Go.Proofs.Ytljlihimmcmlmaa
