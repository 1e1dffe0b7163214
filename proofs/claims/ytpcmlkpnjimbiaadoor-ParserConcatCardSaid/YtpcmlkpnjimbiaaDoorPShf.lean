/- The walk of the reference's Shift: a program with other offsets. -/
import Derived.Test.YtpcmlkpnjimbiaaDoorPMoved
namespace Go.Proofs.YtpcmlkpnjimbiaaDoor
set_option linter.unusedVariables false
set_option linter.unusedSimpArgs false
open Go.RowKit
theorem pg_id1 (P : Ap.Pg) : P.to (mvTo [] []) = P := by
 have e : mvTo [] [] = fun a => a := funext fun a => mvTo_nil [] a
 rw [e]
 obtain ⟨a, b, c, d⟩ := P
 have h : ∀ l : List Ap.Li, l.map (Ap.Li.to fun a => a) = l := fun l => List.map_id l
 have h2 : d.map (Ap.Ru.to fun a => a) = d := by
  conv => rhs; rw [← List.map_id d]
  refine List.map_congr_left fun x _ => ?_
  show ({ x with body := x.body.map (Ap.Li.to fun a => a), pos := x.pos } : Ap.Ru) = x
  rw [h]
 show (⟨a.map (Ap.La.to fun a => a), b.map (Ap.Fu.to fun a => a), c.map (Ap.Pr.to fun a => a), d.map (Ap.Ru.to fun a => a)⟩ : Ap.Pg) = _
 rw [h2, show a.map (Ap.La.to fun a => a) = a from List.map_id a, show b.map (Ap.Fu.to fun a => a) = b from List.map_id b, show c.map (Ap.Pr.to fun a => a) = c from List.map_id c]
set_option maxHeartbeats 8000000 in
set_option maxRecDepth 100000 in
theorem shift_any (P : Ap.Pg) (l f p r : Value) (by1 : Int) (w : World) (hF : Ap.Fit 900000 P) (h : PgR w l f p r P) :
  Calls Tryd.prog 16 #[.agg #[l, f, p, r], .int .i64 by1] w fun e w' => ∃ l' f' p' r', e = .returned (.agg #[l', f', p', r']) ∧ PgR w' l' f' p' r' (P.to (fun a => wrap64 (a + by1))) ∧ Below w.heap.size w w' := by
 obtain ⟨n0, n1, n2, n3⟩ := hF.lens
 have hbl : ∀ x ∈ P.rules, x.body.length ≤ 900000 := fun x hx => (hF.rules x hx).1.2
 have b2 := below2 w (.cells #[l, f, p, r] 34) (.cells #[.slice none 0 0, .slice none 0 0, .slice none 0 0, .slice none 0 0] 34)
 have x1 := (At.new w 34 #[l, f, p, r]).next (below1 (w.alloc (.cells #[l, f, p, r] 34)) (.cells #[.slice none 0 0, .slice none 0 0, .slice none 0 0, .slice none 0 0] 34))
 have x6 := At.new (w.alloc (.cells #[l, f, p, r] 34)) 34 #[.slice none 0 0, .slice none 0 0, .slice none 0 0, .slice none 0 0]
 rw [alloc_size] at x6
 have HMVD := Lib.hid (fun (_ : Nat) => moved_any P l f p r (.slice none 0 0) (.slice none 0 0) [] [] _ hF (by simp) (h.next b2) (TkR.nil _) (TkR.nil _))
 obtain ⟨W2, hW2⟩ : ∃ W2, W2 = (w.alloc (.cells #[l, f, p, r] 34)).alloc (.cells #[.slice none 0 0, .slice none 0 0, .slice none 0 0, .slice none 0 0] 34) := ⟨_, rfl⟩
 rw [← hW2] at b2 x1 x6 HMVD
 obtain ⟨A0, c0, rfl⟩ := h.lats.slice
 obtain ⟨A1, c1, rfl⟩ := h.funs.slice
 obtain ⟨A2, c2, rfl⟩ := h.preds.slice
 obtain ⟨A3, c3, rfl⟩ := h.rules.slice
 have HB2 := Lib.hid b2
 have HX6 := Lib.hid x6
 have HW := Lib.hid hW2
 have HBL := Lib.hid hbl
 clear b2 x1 x6 hW2 hbl hF h
 go_enter Tryd.func16, Tryd.ntmps16
 go_wp2_with (go_at_call 13; rw [← HW.out]; refine (HMVD.out 0).mono ?_; rintro e w3 ⟨l1, f1, p1, r1, rfl, hM⟩; clear HMVD; have x6 := HX6.out.next hM.low; obtain ⟨A4, c4, rfl⟩ := hM.pg.lats.slice; obtain ⟨A5, c5, rfl⟩ := hM.pg.funs.slice; obtain ⟨A6, c6, rfl⟩ := hM.pg.preds.slice; obtain ⟨A7, c7, rfl⟩ := hM.pg.rules.slice)
 replace hM := hM.cast (pg_id1 P)
 simp only [Ap.Pg.to, List.length_map] at hM ⊢
 have z7 := At.new w3 34 #[(.slice A4 P.lats.length c4), (.slice A5 P.funs.length c5), (.slice A6 P.preds.length c6), (.slice A7 P.rules.length c7)]
 have hc := below1 w3 (.cells #[(.slice A4 P.lats.length c4), (.slice A5 P.funs.length c5), (.slice A6 P.preds.length c6), (.slice A7 P.rules.length c7)] 34)
 generalize hw4 : w3.alloc (.cells #[(.slice A4 P.lats.length c4), (.slice A5 P.funs.length c5), (.slice A6 P.preds.length c6), (.slice A7 P.rules.length c7)] 34) = w4 at z7 hc ⊢
 clear hw4
 have z6 := x6.next hc; replace hM := hM.next hc; clear x6 hc
 go_wp2_with fail
 go_loopw [6] (fun i wr => ∃ (k : Nat), k ≤ P.lats.length ∧ i = .int .i64 k ∧ Mp W2 wr P.rules.length (.slice A4 P.lats.length c4) (.slice A5 P.funs.length c5) (.slice A6 P.preds.length c6) (.slice A7 P.rules.length c7) ⟨mix (Ap.La.to (fun a => wrap64 (a + by1))) k P.lats, P.funs, P.preds, P.rules⟩ ∧ At wr w3.heap.size 34 #[(.slice A4 P.lats.length c4), (.slice A5 P.funs.length c5), (.slice A6 P.preds.length c6), (.slice A7 P.rules.length c7)] ∧ At wr (w.heap.size + 1) 34 #[.slice none 0 0, .slice none 0 0, .slice none 0 0, .slice none 0 0]) (fun i _ => P.lats.length - (intOf i).toNat)
 case atStart => exact ⟨0, by omega, rfl, hM.cast (by rw [mix_zero]), z7, z6⟩
 case round =>
  clear hM z7 z6
  obtain ⟨k, hk, rfl, hM, x7, xr⟩ := hrel
  have y0 := x7.cell 0
  simp only [List.getElem?_toArray, List.getElem?_cons_zero, List.getElem?_cons_succ] at y0
  by_cases h1 : k < P.lats.length
  ·obtain ⟨x, hx⟩ : ∃ x, P.lats[k]? = some x := ⟨_, List.getElem?_eq_getElem h1⟩
   obtain ⟨g, c, cur, e2, hg, ha, hc, hz⟩ := hM.lat (i := k) (x := x) ((mix_get hk).trans hx)
   simp only [Value.slice.injEq] at e2
   obtain ⟨rfl, -, rfl⟩ := e2
   have i0 : (0 : Int) ≤ (k : Int) := by omega
   have i1 : (k : Int) < (P.lats.length : Int) := by omega
   have dk : decide ((k : Int) < (P.lats.length : Int)) = true := decide_eq_true i1
   have yf := ha.frozen (k * 4 + 3); have yl := ha.lt
   have z7 := x7.far (p := ⟨g, k * 4 + 3, none⟩) (at_apart x7 ha (by decide)) (.int .i64 (wrap64 (x.pos + by1)))
   have z6 := xr.far (p := ⟨g, k * 4 + 3, none⟩) (at_apart xr ha (by decide)) (.int .i64 (wrap64 (x.pos + by1)))
   have HM3 := Lib.hid ((hz (wrap64 (x.pos + by1))).cast (P' := ⟨mix (Ap.La.to (fun a => wrap64 (a + by1))) (k + 1) P.lats, P.funs, P.preds, P.rules⟩) (by rw [← mix_set hx]; rfl))
   have HX7 := Lib.hid z7; have HXR := Lib.hid z6
   clear hM x7 xr hz ha hx z7 z6
   go_wp2_with fail
   go_roundw
   case rel => exact ⟨k + 1, by omega, by go_num, HM3.out, HX7.out, HXR.out⟩
   case measure => simp [intOf]; omega
  ·have dk : decide ((k : Int) < (P.lats.length : Int)) = false := decide_eq_false (by omega)
   have hM := hM.cast (P' := ⟨P.lats.map (Ap.La.to (fun a => wrap64 (a + by1))), P.funs, P.preds, P.rules⟩) (by rw [mix_all (by omega)])
   have z7 := x7; have z6 := xr; clear x7 xr
   go_wp2_with fail
   go_loopw [7] (fun i wr => ∃ (k : Nat), k ≤ P.funs.length ∧ i = .int .i64 k ∧ Mp W2 wr P.rules.length (.slice A4 P.lats.length c4) (.slice A5 P.funs.length c5) (.slice A6 P.preds.length c6) (.slice A7 P.rules.length c7) ⟨P.lats.map (Ap.La.to (fun a => wrap64 (a + by1))), mix (Ap.Fu.to (fun a => wrap64 (a + by1))) k P.funs, P.preds, P.rules⟩ ∧ At wr w3.heap.size 34 #[(.slice A4 P.lats.length c4), (.slice A5 P.funs.length c5), (.slice A6 P.preds.length c6), (.slice A7 P.rules.length c7)] ∧ At wr (w.heap.size + 1) 34 #[.slice none 0 0, .slice none 0 0, .slice none 0 0, .slice none 0 0]) (fun i _ => P.funs.length - (intOf i).toNat)
   case atStart => exact ⟨0, by omega, rfl, hM.cast (by rw [mix_zero]), z7, z6⟩
   case round =>
    clear hM z7 z6
    obtain ⟨k, hk, rfl, hM, x7, xr⟩ := hrel
    have y0 := x7.cell 1
    simp only [List.getElem?_toArray, List.getElem?_cons_zero, List.getElem?_cons_succ] at y0
    by_cases h1 : k < P.funs.length
    ·obtain ⟨x, hx⟩ : ∃ x, P.funs[k]? = some x := ⟨_, List.getElem?_eq_getElem h1⟩
     obtain ⟨g, c, cur, e2, hg, ha, hc, hz⟩ := hM.fn (i := k) (x := x) ((mix_get hk).trans hx)
     simp only [Value.slice.injEq] at e2
     obtain ⟨rfl, -, rfl⟩ := e2
     have i0 : (0 : Int) ≤ (k : Int) := by omega
     have i1 : (k : Int) < (P.funs.length : Int) := by omega
     have dk : decide ((k : Int) < (P.funs.length : Int)) = true := decide_eq_true i1
     have yf := ha.frozen (k * 7 + 6); have yl := ha.lt
     have z7 := x7.far (p := ⟨g, k * 7 + 6, none⟩) (at_apart x7 ha (by decide)) (.int .i64 (wrap64 (x.pos + by1)))
     have z6 := xr.far (p := ⟨g, k * 7 + 6, none⟩) (at_apart xr ha (by decide)) (.int .i64 (wrap64 (x.pos + by1)))
     have HM3 := Lib.hid ((hz (wrap64 (x.pos + by1))).cast (P' := ⟨P.lats.map (Ap.La.to (fun a => wrap64 (a + by1))), mix (Ap.Fu.to (fun a => wrap64 (a + by1))) (k + 1) P.funs, P.preds, P.rules⟩) (by rw [← mix_set hx]; rfl))
     have HX7 := Lib.hid z7; have HXR := Lib.hid z6
     clear hM x7 xr hz ha hx z7 z6
     go_wp2_with fail
     go_roundw
     case rel => exact ⟨k + 1, by omega, by go_num, HM3.out, HX7.out, HXR.out⟩
     case measure => simp [intOf]; omega
    ·have dk : decide ((k : Int) < (P.funs.length : Int)) = false := decide_eq_false (by omega)
     have hM := hM.cast (P' := ⟨P.lats.map (Ap.La.to (fun a => wrap64 (a + by1))), P.funs.map (Ap.Fu.to (fun a => wrap64 (a + by1))), P.preds, P.rules⟩) (by rw [mix_all (by omega)])
     have z7 := x7; have z6 := xr; clear x7 xr
     go_wp2_with fail
     go_loopw [8] (fun i wr => ∃ (k : Nat), k ≤ P.preds.length ∧ i = .int .i64 k ∧ Mp W2 wr P.rules.length (.slice A4 P.lats.length c4) (.slice A5 P.funs.length c5) (.slice A6 P.preds.length c6) (.slice A7 P.rules.length c7) ⟨P.lats.map (Ap.La.to (fun a => wrap64 (a + by1))), P.funs.map (Ap.Fu.to (fun a => wrap64 (a + by1))), mix (Ap.Pr.to (fun a => wrap64 (a + by1))) k P.preds, P.rules⟩ ∧ At wr w3.heap.size 34 #[(.slice A4 P.lats.length c4), (.slice A5 P.funs.length c5), (.slice A6 P.preds.length c6), (.slice A7 P.rules.length c7)] ∧ At wr (w.heap.size + 1) 34 #[.slice none 0 0, .slice none 0 0, .slice none 0 0, .slice none 0 0]) (fun i _ => P.preds.length - (intOf i).toNat)
     case atStart => exact ⟨0, by omega, rfl, hM.cast (by rw [mix_zero]), z7, z6⟩
     case round =>
      clear hM z7 z6
      obtain ⟨k, hk, rfl, hM, x7, xr⟩ := hrel
      have y0 := x7.cell 2
      simp only [List.getElem?_toArray, List.getElem?_cons_zero, List.getElem?_cons_succ] at y0
      by_cases h1 : k < P.preds.length
      ·obtain ⟨x, hx⟩ : ∃ x, P.preds[k]? = some x := ⟨_, List.getElem?_eq_getElem h1⟩
       obtain ⟨g, c, cur, e2, hg, ha, hc, hz⟩ := hM.pr (i := k) (x := x) ((mix_get hk).trans hx)
       simp only [Value.slice.injEq] at e2
       obtain ⟨rfl, -, rfl⟩ := e2
       have i0 : (0 : Int) ≤ (k : Int) := by omega
       have i1 : (k : Int) < (P.preds.length : Int) := by omega
       have dk : decide ((k : Int) < (P.preds.length : Int)) = true := decide_eq_true i1
       have yf := ha.frozen (k * 7 + 6); have yl := ha.lt
       have z7 := x7.far (p := ⟨g, k * 7 + 6, none⟩) (at_apart x7 ha (by decide)) (.int .i64 (wrap64 (x.pos + by1)))
       have z6 := xr.far (p := ⟨g, k * 7 + 6, none⟩) (at_apart xr ha (by decide)) (.int .i64 (wrap64 (x.pos + by1)))
       have HM3 := Lib.hid ((hz (wrap64 (x.pos + by1))).cast (P' := ⟨P.lats.map (Ap.La.to (fun a => wrap64 (a + by1))), P.funs.map (Ap.Fu.to (fun a => wrap64 (a + by1))), mix (Ap.Pr.to (fun a => wrap64 (a + by1))) (k + 1) P.preds, P.rules⟩) (by rw [← mix_set hx]; rfl))
       have HX7 := Lib.hid z7; have HXR := Lib.hid z6
       clear hM x7 xr hz ha hx z7 z6
       go_wp2_with fail
       go_roundw
       case rel => exact ⟨k + 1, by omega, by go_num, HM3.out, HX7.out, HXR.out⟩
       case measure => simp [intOf]; omega
      ·have dk : decide ((k : Int) < (P.preds.length : Int)) = false := decide_eq_false (by omega)
       have hM := hM.cast (P' := ⟨P.lats.map (Ap.La.to (fun a => wrap64 (a + by1))), P.funs.map (Ap.Fu.to (fun a => wrap64 (a + by1))), P.preds.map (Ap.Pr.to (fun a => wrap64 (a + by1))), P.rules⟩) (by rw [mix_all (by omega)])
       have z7 := x7; have z6 := xr; clear x7 xr
       go_wp2_with fail
       clear y0
       go_loopw [9, 10] (fun i _ wr => ∃ (k : Nat), k ≤ P.rules.length ∧ i = .int .i64 k ∧ Mp W2 wr P.rules.length (.slice A4 P.lats.length c4) (.slice A5 P.funs.length c5) (.slice A6 P.preds.length c6) (.slice A7 P.rules.length c7) ⟨P.lats.map (Ap.La.to (fun a => wrap64 (a + by1))), P.funs.map (Ap.Fu.to (fun a => wrap64 (a + by1))), P.preds.map (Ap.Pr.to (fun a => wrap64 (a + by1))), mix (Ap.Ru.to (fun a => wrap64 (a + by1))) k P.rules⟩ ∧ At wr w3.heap.size 34 #[(.slice A4 P.lats.length c4), (.slice A5 P.funs.length c5), (.slice A6 P.preds.length c6), (.slice A7 P.rules.length c7)] ∧ At wr (w.heap.size + 1) 34 #[.slice none 0 0, .slice none 0 0, .slice none 0 0, .slice none 0 0]) (fun i _ _ => P.rules.length - (intOf i).toNat)
       case atStart => exact ⟨0, by omega, rfl, hM.cast (by rw [mix_zero]), z7, z6⟩
       case round =>
        clear hM z7 z6
        obtain ⟨k, hk, rfl, hM, x7, xr⟩ := hrel
        have y0 := x7.cell 3
        simp only [List.getElem?_toArray, List.getElem?_cons_zero, List.getElem?_cons_succ] at y0
        by_cases h1 : k < P.rules.length
        ·obtain ⟨x, hx⟩ : ∃ x, P.rules[k]? = some x := ⟨_, List.getElem?_eq_getElem h1⟩
         have hxb : x.body.length ≤ 900000 := HBL.out x (List.mem_of_getElem? hx)
         have HLN := Lib.hid (show k < (mix (Ap.Ru.to (fun a => wrap64 (a + by1))) k P.rules).length by rw [mix_length]; exact h1)
         obtain ⟨g, c, cur, bb, e2, hg, ha, hc, hc7, hbt, hbs, hz⟩ := hM.ru (i := k) (x := x) ((mix_get hk).trans hx)
         simp only [Value.slice.injEq] at e2
         obtain ⟨rfl, -, rfl⟩ := e2
         have i0 : (0 : Int) ≤ (k : Int) := by omega
         have i1 : (k : Int) < (P.rules.length : Int) := by omega
         have dk : decide ((k : Int) < (P.rules.length : Int)) = true := decide_eq_true i1
         have yf := ha.frozen (k * 9 + 8); have yl := ha.lt
         have z7 := x7.far (p := ⟨g, k * 9 + 8, none⟩) (at_apart x7 ha (by decide)) (.int .i64 (wrap64 (x.pos + by1)))
         have z6 := xr.far (p := ⟨g, k * 9 + 8, none⟩) (at_apart xr ha (by decide)) (.int .i64 (wrap64 (x.pos + by1)))
         have HM3 := Lib.hid ((hz (wrap64 (x.pos + by1))).cast (P' := ⟨P.lats.map (Ap.La.to (fun a => wrap64 (a + by1))), P.funs.map (Ap.Fu.to (fun a => wrap64 (a + by1))), P.preds.map (Ap.Pr.to (fun a => wrap64 (a + by1))), (mix (Ap.Ru.to (fun a => wrap64 (a + by1))) k P.rules).set k { x with pos := (wrap64 (x.pos + by1)), body := mix (Ap.Li.to (fun a => wrap64 (a + by1))) 0 x.body }⟩) (by rw [mix_zero]))
         have HX7 := Lib.hid z7; have HXR := Lib.hid z6; have HXX := Lib.hid hx
         clear hM x7 xr hz ha hx z7 z6 hc7 hbt hbs
         go_wp2_with fail
         go_loopw [10] (fun i wr => ∃ (q : Nat), q ≤ x.body.length ∧ i = .int .i64 q ∧ Mp W2 wr P.rules.length (.slice A4 P.lats.length c4) (.slice A5 P.funs.length c5) (.slice A6 P.preds.length c6) (.slice (some ⟨g, 0, none⟩) P.rules.length c7) ⟨P.lats.map (Ap.La.to (fun a => wrap64 (a + by1))), P.funs.map (Ap.Fu.to (fun a => wrap64 (a + by1))), P.preds.map (Ap.Pr.to (fun a => wrap64 (a + by1))), (mix (Ap.Ru.to (fun a => wrap64 (a + by1))) k P.rules).set k { x with pos := (wrap64 (x.pos + by1)), body := mix (Ap.Li.to (fun a => wrap64 (a + by1))) q x.body }⟩ ∧ At wr w3.heap.size 34 #[(.slice A4 P.lats.length c4), (.slice A5 P.funs.length c5), (.slice A6 P.preds.length c6), (.slice (some ⟨g, 0, none⟩) P.rules.length c7)] ∧ At wr (w.heap.size + 1) 34 #[.slice none 0 0, .slice none 0 0, .slice none 0 0, .slice none 0 0]) (fun i _ => x.body.length - (intOf i).toNat)
         case atStart => exact ⟨0, by omega, rfl, HM3.out, HX7.out, HXR.out⟩
         case round =>
          clear HM3 HX7 HXR y0 hc yf yl
          obtain ⟨q, hq, rfl, hM, x7, xr⟩ := hrel
          have HXS := Lib.hid (show ((mix (Ap.Ru.to (fun a => wrap64 (a + by1))) k P.rules).set k { x with pos := (wrap64 (x.pos + by1)), body := mix (Ap.Li.to (fun a => wrap64 (a + by1))) q x.body })[k]? = some { x with pos := (wrap64 (x.pos + by1)), body := mix (Ap.Li.to (fun a => wrap64 (a + by1))) q x.body } from List.getElem?_set_self HLN.out)
          have y0 := x7.cell 3
          simp only [List.getElem?_toArray, List.getElem?_cons_zero, List.getElem?_cons_succ] at y0
          obtain ⟨g9, c9, cur9, bb, e2, -, -, -, y7, -, ⟨BA, BC, hbv⟩, -⟩ := hM.ru (i := k) HXS.out
          simp only [Value.slice.injEq, Option.some.injEq, Addr.mk.injEq] at e2
          obtain ⟨⟨rfl, -⟩, -, rfl⟩ := e2
          replace hbv : bb = .slice BA x.body.length BC := by rw [hbv]; exact congrArg (fun n => Value.slice BA n BC) mix_length
          subst hbv
          by_cases h2 : q < x.body.length
          ·obtain ⟨y, hy⟩ : ∃ y, x.body[q]? = some y := ⟨_, List.getElem?_eq_getElem h2⟩
           obtain ⟨g9, c9, cur9, gb, cb, cur2, e2, -, -, y7b, hgb, ha, hc, hz⟩ := hM.lit (i := k) (k := q) (y := y) HXS.out h1 ((mix_get hq).trans hy)
           simp only [Value.slice.injEq, Option.some.injEq, Addr.mk.injEq] at e2
           obtain ⟨⟨rfl, -⟩, -, rfl⟩ := e2
           rw [y7] at y7b
           simp only [Option.some.injEq, Value.slice.injEq] at y7b
           obtain ⟨rfl, -, rfl⟩ := y7b
           have i2 : (0 : Int) ≤ (q : Int) := by omega
           have i3 : (q : Int) < (x.body.length : Int) := by omega
           have dq : decide ((q : Int) < (x.body.length : Int)) = true := decide_eq_true i3
           have yf := ha.frozen (q * 9 + 8); have yl := ha.lt
           have z7 := x7.far (p := ⟨gb, q * 9 + 8, none⟩) (at_apart x7 ha (by decide)) (.int .i64 (wrap64 (y.pos + by1)))
           have z6 := xr.far (p := ⟨gb, q * 9 + 8, none⟩) (at_apart xr ha (by decide)) (.int .i64 (wrap64 (y.pos + by1)))
           have HM3 := Lib.hid ((hz (wrap64 (y.pos + by1))).cast (P' := ⟨P.lats.map (Ap.La.to (fun a => wrap64 (a + by1))), P.funs.map (Ap.Fu.to (fun a => wrap64 (a + by1))), P.preds.map (Ap.Pr.to (fun a => wrap64 (a + by1))), (mix (Ap.Ru.to (fun a => wrap64 (a + by1))) k P.rules).set k { x with pos := (wrap64 (x.pos + by1)), body := mix (Ap.Li.to (fun a => wrap64 (a + by1))) (q + 1) x.body }⟩) (by rw [List.set_set, ← mix_set hy]; rfl))
           have HX7 := Lib.hid z7; have HXR := Lib.hid z6
           clear hM x7 xr hz ha hy z7 z6
           go_wp2_with fail
           go_roundw
           case rel => exact ⟨q + 1, by omega, by go_num, HM3.out, HX7.out, HXR.out⟩
           case measure => simp [intOf]; omega
          ·have dq : decide ((q : Int) < (x.body.length : Int)) = false := decide_eq_false (by omega)
           have hM := hM.cast (P' := ⟨P.lats.map (Ap.La.to (fun a => wrap64 (a + by1))), P.funs.map (Ap.Fu.to (fun a => wrap64 (a + by1))), P.preds.map (Ap.Pr.to (fun a => wrap64 (a + by1))), mix (Ap.Ru.to (fun a => wrap64 (a + by1))) (k + 1) P.rules⟩) (by rw [mix_ru HXX.out (by omega)])
           go_wp2_with fail
           go_roundw
           case rel => exact ⟨k + 1, by omega, by go_num, hM, x7, xr⟩
           case measure => simp [intOf]; omega
        ·have dk : decide ((k : Int) < (P.rules.length : Int)) = false := decide_eq_false (by omega)
         have hM := hM.cast (P' := P.to (fun a => wrap64 (a + by1))) (by rw [mix_all (by omega)]; rfl)
         have u0 := x7.cell 0; have v0 := xr.cell 0; have f0 := xr.frozen 0
         have u1 := x7.cell 1; have v1 := xr.cell 1; have f1 := xr.frozen 1
         have u2 := x7.cell 2; have v2 := xr.cell 2; have f2 := xr.frozen 2
         have u3 := x7.cell 3; have v3 := xr.cell 3; have f3 := xr.frozen 3
         have hlr := xr.lt
         simp only [List.getElem?_toArray, List.getElem?_cons_zero, List.getElem?_cons_succ] at u0 v0 u1 v1 u2 v2 u3 v3
         clear y0
         have hsz : W2.heap.size ≤ wr.heap.size := hM.low.size
         go_wp2_with fail
         have hPG := hM.pg
         have hbw : Below w.heap.size w wr := HB2.out.trans (hM.low.mono HB2.out.size)
         have a4 := (((xr.put 0 (.slice A4 P.lats.length c4)).put 1 (.slice A5 P.funs.length c5)).put 2 (.slice A6 P.preds.length c6)).put 3 (.slice A7 P.rules.length c7)
         simp only [List.setIfInBounds_toArray, List.set_cons_zero, List.set_cons_succ] at a4
         refine bodyPost_ret (results_cell_row rfl _ _ (w.heap.size + 1) 34 _ (0, 0) _ rfl a4 Tryd.underlying34 rfl (by kernel_rfl)) rfl ?_
         exact ⟨_, _, _, _, rfl, pg_put xr hPG _ _ _ _, (((hbw.setCell (p := ⟨w.heap.size + 1, 0, none⟩) (by show w.heap.size ≤ w.heap.size + 1; omega) _).setCell (p := ⟨w.heap.size + 1, 1, none⟩) (by show w.heap.size ≤ w.heap.size + 1; omega) _).setCell (p := ⟨w.heap.size + 1, 2, none⟩) (by show w.heap.size ≤ w.heap.size + 1; omega) _).setCell (p := ⟨w.heap.size + 1, 3, none⟩) (by show w.heap.size ≤ w.heap.size + 1; omega) _⟩
end Go.Proofs.YtpcmlkpnjimbiaaDoor
