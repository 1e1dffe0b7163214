/- The walk of the law's offsets: the offsets of all items. -/
import Derived.Test.YtpcmlkpnjimbiaaDoorPMut
import Derived.Test.YtpcmlkpnjimbiaaDoorPMv0
namespace Go.Proofs.YtpcmlkpnjimbiaaDoor
set_option linter.unusedVariables false
set_option linter.unusedSimpArgs false
open Go.RowKit
theorem ic_snoc (l : List Int) (z : Int) : iCells l ++ [.int .i64 z] = iCells (l ++ [z]) := by unfold iCells; simp
theorem ic_one (z : Int) : ∀ u ∈ [Value.int .i64 z], u.oneCell' = true := fun u hu => by simp at hu; subst hu; rfl
set_option maxHeartbeats 4000000 in
set_option maxRecDepth 100000 in
theorem offsets_any (P : Ap.Pg) (l f p r : Value) (w : World) (hF : Ap.Fit 4000 P) (h : PgR w l f p r P) :
  Calls Tryd.prog 17 #[.agg #[l, f, p, r]] w fun e w' => ∃ v, e = .returned v ∧ w'.ownsRow w.heap.size 3 1 v P.offs.length (iCells P.offs) ∧ Below w.heap.size w w' := by
 obtain ⟨n0, n1, n2, n3⟩ := hF.lens
 obtain ⟨iN, hn0, hn1, hn2, hn3⟩ := info_parts int_info
 have b1 := below1 w (.cells #[l, f, p, r] 34)
 have x1 := At.new w 34 #[l, f, p, r]
 have hp := h.next b1
 obtain ⟨W1, hW1⟩ : ∃ W1, W1 = w.alloc (.cells #[l, f, p, r] 34) := ⟨_, rfl⟩
 rw [← hW1] at b1 x1 hp
 obtain ⟨A0, c0, rfl⟩ := h.lats.slice
 obtain ⟨A1, c1, rfl⟩ := h.funs.slice
 obtain ⟨A2, c2, rfl⟩ := h.preds.slice
 obtain ⟨A3, c3, rfl⟩ := h.rules.slice
 have y0 := x1.cell 0
 have y1 := x1.cell 1
 have y2 := x1.cell 2
 have y3 := x1.cell 3
 simp only [List.getElem?_toArray, List.getElem?_cons_zero, List.getElem?_cons_succ] at y0 y1 y2 y3
 have HB1 := Lib.hid b1
 have HW := Lib.hid hW1
 have HP := Lib.hid hp
 have HY := Lib.hid (And.intro y0 (And.intro y1 (And.intro y2 y3)))
 clear b1 x1 hp hW1 h y0 y1 y2 y3 hF
 go_enter Tryd.func17, Tryd.ntmps17
 go_wp2_with fail
 rw [← HW.out]
 go_loopw [3, 4] (fun v i wr => ∃ (k m : Nat), k ≤ P.lats.length ∧ m = k ∧ i = .int .i64 k ∧ wr.ownsRow W1.heap.size 3 1 v m (iCells (((P.lats.take k).map Ap.La.pos))) ∧ Below W1.heap.size W1 wr) (fun _ i _ => P.lats.length - (intOf i).toNat)
 case atStart => exact ⟨0, 0, by omega, rfl, rfl, World.ownsRow_nil _ _ _ _, Below.refl _ _⟩
 case round =>
  obtain ⟨k, m, hk, hm, rfl, ho, hbw⟩ := hrel
  obtain ⟨D, hD⟩ : ∃ D, (((P.lats.take k).map Ap.La.pos)) = D := ⟨_, rfl⟩
  rw [hD] at ho
  have HD := Lib.hid hD; have HMM := Lib.hid hm; clear hD hm
  obtain ⟨vA, vC, rfl⟩ := own_len ho
  have yy := next_cell HY.out.1 hbw
  by_cases h1 : k < P.lats.length
  ·obtain ⟨x, hx⟩ : ∃ x, P.lats[k]? = some x := ⟨_, List.getElem?_eq_getElem h1⟩
   obtain ⟨g, og, oc, rr, e1, hg, hr, z⟩ := (TRows.below HP.out.lats hbw (LaR.kept (Kept.below hbw _) (Kept.below hbw _))).at (fun _ _ => LaR.len) hx
   injection e1 with e1 e9 e3; clear e9; subst e1; subst e3
   obtain ⟨a, b, rfl, -⟩ := hr
   have zc : wr.cell? ⟨g, og + k * 4 + 3, none⟩ = some (.int .i64 x.pos) := z 3 _ rfl
   have i0 : (0 : Int) ≤ (k : Int) := by omega
   have i1 : (k : Int) < (P.lats.length : Int) := by omega
   have dk : decide ((k : Int) < (P.lats.length : Int)) = true := decide_eq_true i1
   have hsz := hbw.size; have hb1s := HB1.out.size
   have ho13 := ho.alloc (.cells #[.int .i64 x.pos] 3)
   have HBW := Lib.hid hbw; have HXX := Lib.hid hx; have HO := Lib.hid ho
   clear hbw hx ho z
   go_wp2_with (at_builtin; refine wpList_append_own _ rfl _ _ 50 rfl W1.heap.size 3 iN (.int .i64 0) 1 8 Tryd.underlying50 hn0 hn1 hn2 hn3 rfl (by decide) _ _ _ rfl ho13 ⟨wr.heap.size, 0, none⟩ 1 1 [.int .i64 x.pos] rfl rfl ?c1 ?c2 ?c3 ?c4 ?c5 ?_)
   case c1 => exact At.news (xs := [.int .i64 x.pos]) (At.new _ _ _)
   case c2 => exact ic_one _
   case c3 => have := HMM.out; unfold maxLen; omega
   case c4 => have := HMM.out; omega
   case c5 => rw [alloc_size]; omega
   intro v5 w5 o5 g5 _
   obtain ⟨nA, nC, rfl⟩ := own_len o5
   rw [ic_snoc] at o5
   have hbn : Below W1.heap.size W1 w5 := (HBW.out.alloc HBW.out.size _).grown g5 (by rw [alloc_size]; omega) (fun q hq => (own_lt ho13 hq).1)
   go_wp2_with fail
   go_roundw
   case rel => exact ⟨k + 1, m + 1, by omega, by have := HMM.out; omega, by go_num, (by rw [show (((P.lats.take (k + 1)).map Ap.La.pos)) = D ++ [x.pos] by rw [← HD.out, take_more HXX.out]; simp]; exact o5), hbn⟩
   case measure => simp [intOf]; omega
  ·have dk : decide ((k : Int) < (P.lats.length : Int)) = false := decide_eq_false (by omega)
   replace ho : wr.ownsRow W1.heap.size 3 1 (.slice vA m vC) m (iCells ((P.lats.map Ap.La.pos))) := by have hD := HD.out; rw [List.take_of_length_le (by omega)] at hD; rw [hD]; exact ho
   have hm := HMM.out
   go_wp2_with fail
   go_loopw [3, 5] (fun v i wr => ∃ (k m : Nat), k ≤ P.funs.length ∧ m = P.lats.length + k ∧ i = .int .i64 k ∧ wr.ownsRow W1.heap.size 3 1 v m (iCells ((P.lats.map Ap.La.pos) ++ ((P.funs.take k).map Ap.Fu.pos))) ∧ Below W1.heap.size W1 wr) (fun _ i _ => P.funs.length - (intOf i).toNat)
   case atStart => exact ⟨0, m, by omega, by omega, rfl, (by rw [show ((P.lats.map Ap.La.pos) ++ ((P.funs.take 0).map Ap.Fu.pos)) = ((P.lats.map Ap.La.pos)) by simp]; exact ho), hbw⟩
   case round =>
    clear ho hbw hm hk HD HMM
    obtain ⟨k, m, hk, hm, rfl, ho, hbw⟩ := hrel
    obtain ⟨D, hD⟩ : ∃ D, ((P.lats.map Ap.La.pos) ++ ((P.funs.take k).map Ap.Fu.pos)) = D := ⟨_, rfl⟩
    rw [hD] at ho
    have HD := Lib.hid hD; have HMM := Lib.hid hm; clear hD hm
    obtain ⟨vA, vC, rfl⟩ := own_len ho
    have yy := next_cell HY.out.2.1 hbw
    by_cases h1 : k < P.funs.length
    ·obtain ⟨x, hx⟩ : ∃ x, P.funs[k]? = some x := ⟨_, List.getElem?_eq_getElem h1⟩
     obtain ⟨g, og, oc, rr, e1, hg, hr, z⟩ := (TRows.below HP.out.funs hbw (FuR.kept (Kept.below hbw _) (Kept.below hbw _))).at (fun _ _ => FuR.len) hx
     injection e1 with e1 e9 e3; clear e9; subst e1; subst e3
     obtain ⟨a, b, c, rfl, -⟩ := hr
     have zc : wr.cell? ⟨g, og + k * 7 + 6, none⟩ = some (.int .i64 x.pos) := z 6 _ rfl
     have i0 : (0 : Int) ≤ (k : Int) := by omega
     have i1 : (k : Int) < (P.funs.length : Int) := by omega
     have dk : decide ((k : Int) < (P.funs.length : Int)) = true := decide_eq_true i1
     have hsz := hbw.size; have hb1s := HB1.out.size
     have ho13 := ho.alloc (.cells #[.int .i64 x.pos] 3)
     have HBW := Lib.hid hbw; have HXX := Lib.hid hx; have HO := Lib.hid ho
     clear hbw hx ho z
     go_wp2_with (at_builtin; refine wpList_append_own _ rfl _ _ 50 rfl W1.heap.size 3 iN (.int .i64 0) 1 8 Tryd.underlying50 hn0 hn1 hn2 hn3 rfl (by decide) _ _ _ rfl ho13 ⟨wr.heap.size, 0, none⟩ 1 1 [.int .i64 x.pos] rfl rfl ?c1 ?c2 ?c3 ?c4 ?c5 ?_)
     case c1 => exact At.news (xs := [.int .i64 x.pos]) (At.new _ _ _)
     case c2 => exact ic_one _
     case c3 => have := HMM.out; unfold maxLen; omega
     case c4 => have := HMM.out; omega
     case c5 => rw [alloc_size]; omega
     intro v5 w5 o5 g5 _
     obtain ⟨nA, nC, rfl⟩ := own_len o5
     rw [ic_snoc] at o5
     have hbn : Below W1.heap.size W1 w5 := (HBW.out.alloc HBW.out.size _).grown g5 (by rw [alloc_size]; omega) (fun q hq => (own_lt ho13 hq).1)
     go_wp2_with fail
     go_roundw
     case rel => exact ⟨k + 1, m + 1, by omega, by have := HMM.out; omega, by go_num, (by rw [show ((P.lats.map Ap.La.pos) ++ ((P.funs.take (k + 1)).map Ap.Fu.pos)) = D ++ [x.pos] by rw [← HD.out, take_more HXX.out]; simp]; exact o5), hbn⟩
     case measure => simp [intOf]; omega
    ·have dk : decide ((k : Int) < (P.funs.length : Int)) = false := decide_eq_false (by omega)
     replace ho : wr.ownsRow W1.heap.size 3 1 (.slice vA m vC) m (iCells ((P.lats.map Ap.La.pos) ++ (P.funs.map Ap.Fu.pos))) := by have hD := HD.out; rw [List.take_of_length_le (by omega)] at hD; rw [hD]; exact ho
     have hm := HMM.out
     go_wp2_with fail
     go_loopw [3, 6] (fun v i wr => ∃ (k m : Nat), k ≤ P.preds.length ∧ m = P.lats.length + P.funs.length + k ∧ i = .int .i64 k ∧ wr.ownsRow W1.heap.size 3 1 v m (iCells ((P.lats.map Ap.La.pos) ++ (P.funs.map Ap.Fu.pos) ++ ((P.preds.take k).map Ap.Pr.pos))) ∧ Below W1.heap.size W1 wr) (fun _ i _ => P.preds.length - (intOf i).toNat)
     case atStart => exact ⟨0, m, by omega, by omega, rfl, (by rw [show ((P.lats.map Ap.La.pos) ++ (P.funs.map Ap.Fu.pos) ++ ((P.preds.take 0).map Ap.Pr.pos)) = ((P.lats.map Ap.La.pos) ++ (P.funs.map Ap.Fu.pos)) by simp]; exact ho), hbw⟩
     case round =>
      clear ho hbw hm hk HD HMM
      obtain ⟨k, m, hk, hm, rfl, ho, hbw⟩ := hrel
      obtain ⟨D, hD⟩ : ∃ D, ((P.lats.map Ap.La.pos) ++ (P.funs.map Ap.Fu.pos) ++ ((P.preds.take k).map Ap.Pr.pos)) = D := ⟨_, rfl⟩
      rw [hD] at ho
      have HD := Lib.hid hD; have HMM := Lib.hid hm; clear hD hm
      obtain ⟨vA, vC, rfl⟩ := own_len ho
      have yy := next_cell HY.out.2.2.1 hbw
      by_cases h1 : k < P.preds.length
      ·obtain ⟨x, hx⟩ : ∃ x, P.preds[k]? = some x := ⟨_, List.getElem?_eq_getElem h1⟩
       obtain ⟨g, og, oc, rr, e1, hg, hr, z⟩ := (TRows.below HP.out.preds hbw (PrR.kept (Kept.below hbw _))).at (fun _ _ => PrR.len) hx
       injection e1 with e1 e9 e3; clear e9; subst e1; subst e3
       obtain ⟨a, rfl, -⟩ := hr
       have zc : wr.cell? ⟨g, og + k * 7 + 6, none⟩ = some (.int .i64 x.pos) := z 6 _ rfl
       have i0 : (0 : Int) ≤ (k : Int) := by omega
       have i1 : (k : Int) < (P.preds.length : Int) := by omega
       have dk : decide ((k : Int) < (P.preds.length : Int)) = true := decide_eq_true i1
       have hsz := hbw.size; have hb1s := HB1.out.size
       have ho13 := ho.alloc (.cells #[.int .i64 x.pos] 3)
       have HBW := Lib.hid hbw; have HXX := Lib.hid hx; have HO := Lib.hid ho
       clear hbw hx ho z
       go_wp2_with (at_builtin; refine wpList_append_own _ rfl _ _ 50 rfl W1.heap.size 3 iN (.int .i64 0) 1 8 Tryd.underlying50 hn0 hn1 hn2 hn3 rfl (by decide) _ _ _ rfl ho13 ⟨wr.heap.size, 0, none⟩ 1 1 [.int .i64 x.pos] rfl rfl ?c1 ?c2 ?c3 ?c4 ?c5 ?_)
       case c1 => exact At.news (xs := [.int .i64 x.pos]) (At.new _ _ _)
       case c2 => exact ic_one _
       case c3 => have := HMM.out; unfold maxLen; omega
       case c4 => have := HMM.out; omega
       case c5 => rw [alloc_size]; omega
       intro v5 w5 o5 g5 _
       obtain ⟨nA, nC, rfl⟩ := own_len o5
       rw [ic_snoc] at o5
       have hbn : Below W1.heap.size W1 w5 := (HBW.out.alloc HBW.out.size _).grown g5 (by rw [alloc_size]; omega) (fun q hq => (own_lt ho13 hq).1)
       go_wp2_with fail
       go_roundw
       case rel => exact ⟨k + 1, m + 1, by omega, by have := HMM.out; omega, by go_num, (by rw [show ((P.lats.map Ap.La.pos) ++ (P.funs.map Ap.Fu.pos) ++ ((P.preds.take (k + 1)).map Ap.Pr.pos)) = D ++ [x.pos] by rw [← HD.out, take_more HXX.out]; simp]; exact o5), hbn⟩
       case measure => simp [intOf]; omega
      ·have dk : decide ((k : Int) < (P.preds.length : Int)) = false := decide_eq_false (by omega)
       replace ho : wr.ownsRow W1.heap.size 3 1 (.slice vA m vC) m (iCells ((P.lats.map Ap.La.pos) ++ (P.funs.map Ap.Fu.pos) ++ (P.preds.map Ap.Pr.pos))) := by have hD := HD.out; rw [List.take_of_length_le (by omega)] at hD; rw [hD]; exact ho
       have hm := HMM.out
       go_wp2_with fail
       go_loopw [3, 7] (fun v i wr => ∃ (k m : Nat), k ≤ P.rules.length ∧ m = P.lats.length + P.funs.length + P.preds.length + k ∧ i = .int .i64 k ∧ wr.ownsRow W1.heap.size 3 1 v m (iCells ((P.lats.map Ap.La.pos) ++ (P.funs.map Ap.Fu.pos) ++ (P.preds.map Ap.Pr.pos) ++ ((P.rules.take k).map Ap.Ru.pos))) ∧ Below W1.heap.size W1 wr) (fun _ i _ => P.rules.length - (intOf i).toNat)
       case atStart => exact ⟨0, m, by omega, by omega, rfl, (by rw [show ((P.lats.map Ap.La.pos) ++ (P.funs.map Ap.Fu.pos) ++ (P.preds.map Ap.Pr.pos) ++ ((P.rules.take 0).map Ap.Ru.pos)) = ((P.lats.map Ap.La.pos) ++ (P.funs.map Ap.Fu.pos) ++ (P.preds.map Ap.Pr.pos)) by simp]; exact ho), hbw⟩
       case round =>
        clear ho hbw hm hk HD HMM
        obtain ⟨k, m, hk, hm, rfl, ho, hbw⟩ := hrel
        obtain ⟨D, hD⟩ : ∃ D, ((P.lats.map Ap.La.pos) ++ (P.funs.map Ap.Fu.pos) ++ (P.preds.map Ap.Pr.pos) ++ ((P.rules.take k).map Ap.Ru.pos)) = D := ⟨_, rfl⟩
        rw [hD] at ho
        have HD := Lib.hid hD; have HMM := Lib.hid hm; clear hD hm
        obtain ⟨vA, vC, rfl⟩ := own_len ho
        have yy := next_cell HY.out.2.2.2 hbw
        by_cases h1 : k < P.rules.length
        ·obtain ⟨x, hx⟩ : ∃ x, P.rules[k]? = some x := ⟨_, List.getElem?_eq_getElem h1⟩
         obtain ⟨g, og, oc, rr, e1, hg, hr, z⟩ := (TRows.below HP.out.rules hbw (RuR.kept (Kept.below hbw _) (Kept.below hbw _))).at (fun _ _ => RuR.len) hx
         injection e1 with e1 e9 e3; clear e9; subst e1; subst e3
         obtain ⟨a, b, rfl, -⟩ := hr
         have zc : wr.cell? ⟨g, og + k * 9 + 8, none⟩ = some (.int .i64 x.pos) := z 8 _ rfl
         have i0 : (0 : Int) ≤ (k : Int) := by omega
         have i1 : (k : Int) < (P.rules.length : Int) := by omega
         have dk : decide ((k : Int) < (P.rules.length : Int)) = true := decide_eq_true i1
         have hsz := hbw.size; have hb1s := HB1.out.size
         have ho13 := ho.alloc (.cells #[.int .i64 x.pos] 3)
         have HBW := Lib.hid hbw; have HXX := Lib.hid hx; have HO := Lib.hid ho
         clear hbw hx ho z
         go_wp2_with (at_builtin; refine wpList_append_own _ rfl _ _ 50 rfl W1.heap.size 3 iN (.int .i64 0) 1 8 Tryd.underlying50 hn0 hn1 hn2 hn3 rfl (by decide) _ _ _ rfl ho13 ⟨wr.heap.size, 0, none⟩ 1 1 [.int .i64 x.pos] rfl rfl ?c1 ?c2 ?c3 ?c4 ?c5 ?_)
         case c1 => exact At.news (xs := [.int .i64 x.pos]) (At.new _ _ _)
         case c2 => exact ic_one _
         case c3 => have := HMM.out; unfold maxLen; omega
         case c4 => have := HMM.out; omega
         case c5 => rw [alloc_size]; omega
         intro v5 w5 o5 g5 _
         obtain ⟨nA, nC, rfl⟩ := own_len o5
         rw [ic_snoc] at o5
         have hbn : Below W1.heap.size W1 w5 := (HBW.out.alloc HBW.out.size _).grown g5 (by rw [alloc_size]; omega) (fun q hq => (own_lt ho13 hq).1)
         go_wp2_with fail
         go_roundw
         case rel => exact ⟨k + 1, m + 1, by omega, by have := HMM.out; omega, by go_num, (by rw [show ((P.lats.map Ap.La.pos) ++ (P.funs.map Ap.Fu.pos) ++ (P.preds.map Ap.Pr.pos) ++ ((P.rules.take (k + 1)).map Ap.Ru.pos)) = D ++ [x.pos] by rw [← HD.out, take_more HXX.out]; simp]; exact o5), hbn⟩
         case measure => simp [intOf]; omega
        ·have dk : decide ((k : Int) < (P.rules.length : Int)) = false := decide_eq_false (by omega)
         replace ho : wr.ownsRow W1.heap.size 3 1 (.slice vA m vC) m (iCells ((P.lats.map Ap.La.pos) ++ (P.funs.map Ap.Fu.pos) ++ (P.preds.map Ap.Pr.pos) ++ (P.rules.map Ap.Ru.pos))) := by have hD := HD.out; rw [List.take_of_length_le (by omega)] at hD; rw [hD]; exact ho
         have hm := HMM.out
         go_wp2_with fail
         go_ret
         have e1 : P.offs = ((P.lats.map Ap.La.pos) ++ (P.funs.map Ap.Fu.pos) ++ (P.preds.map Ap.Pr.pos) ++ (P.rules.map Ap.Ru.pos)) := by unfold Ap.Pg.offs; simp
         have e2 : P.offs.length = m := by rw [e1]; simp; omega
         exact ⟨_, rfl, by rw [e2, e1]; exact own_mono ho HB1.out.size, HB1.out.trans (hbw.mono HB1.out.size)⟩
end Go.Proofs.YtpcmlkpnjimbiaaDoor
