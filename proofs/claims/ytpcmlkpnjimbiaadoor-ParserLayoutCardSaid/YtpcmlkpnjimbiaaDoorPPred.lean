/- The reader's predicates. -/
import Derived.Test.YtpcmlkpnjimbiaaDoorPItem0
import Derived.Test.YtpcmlkpnjimbiaaDoorInv8
namespace Go.Proofs.YtpcmlkpnjimbiaaDoor
set_option linter.unusedVariables false
set_option linter.unusedSimpArgs false
open Go.RowKit
theorem pred_info : (Tryd.prog.info? 73).map (fun i => (i.zero, i.size, i.bytes)) = some (some (.agg #[.string ⟨#[]⟩, .slice none 0 0, .string ⟨#[]⟩, .int .i64 0, .bool false, .int .i64 0, .int .i64 0]), 7, 88) := by kernel_rfl
section
variable {w : World} {rb : Nat} {TA : Option Addr} {tc : Nat} {ts : List Lx.Tok} {sz i : Nat} {o : Outs}
set_option maxHeartbeats 8000000 in
set_option maxRecDepth 100000 in
theorem pred_any {B : Nat} {P : Ap.Pg} (h : Rd w rb TA tc ts sz i o) (ho : Outw w B o P) (hB : rb < B) (hBs : B ≤ w.heap.size) (hP : P.preds.length ≤ 100000) (hlt : i < ts.length) : Calls Tryd.prog 53 #[.pointer (some ⟨rb, 0, none⟩)] w (IPost w rb TA tc ts sz B P (fun P x => { P with preds := P.preds ++ [x.ap (offI ts sz)] }) (Px.pred (Px.kts ts) i)) := by
 obtain ⟨RR, hRR⟩ : ∃ RR, Px.pred (Px.kts ts) i = RR := ⟨_, rfl⟩
 rw [hRR]
 unfold Px.pred at hRR
 have HR := Lib.hid h
 have HO := Lib.hid ho
 have HB := Lib.hid hB
 have HBS := Lib.hid hBs
 have HP := Lib.hid hP
 have hi := Lib.hid hlt
 have hl := h.box.lt
 have hlB : rb < w.heap.size := hl
 have hm := Mv.still h (Below.refl _ _)
 clear ho hB hBs hP hlt
 go_enter Tryd.func53, Tryd.ntmps53
 go_wp2_with fail
 generalize hbb : decide (Px.tx (Px.kts ts) i = Px.sBase) = bse at hRR
 have tE : ((bs (tokAt ts sz i).text).toList == [98, 97, 115, 101]) = bse := (bs_eqc _ _).trans (by rw [← tx_at ts sz]; exact hbb)
 have ff := fun W => field_tok1 (tokAt ts sz i).kind 0 (tokAt ts sz i).pos (bs (tokAt ts sz i).text) W
 clear hbb
 obtain ⟨m1, hm0m1⟩ : ∃ m1, i + 1 = m1 := ⟨_, rfl⟩
 have e0m1 : ((i : Nat) : Int) + 1 = (m1 : Int) := by omega
 have wmm1 : IntKind.i64.wrap (m1 : Int) = (m1 : Int) := IntWalk.i64_in _ (by have := h.few; have := hi.out; omega)
 have hmlm1 : m1 ≤ ts.length := by have := hi.out; omega
 try rw [hm0m1] at hRR
 have HC := Lib.hid (offset_any h)
 go_wp2_with (go_at_call 54; refine (HC.out).mono ?_; rintro e W1 ⟨rfl, hn1⟩; have hn1 := Mv.still h hn1; have hr1 := hn1.rd h h.few.2.2; have hm1 := hm.trans hl hn1; clear HC)
 have HC := Lib.hid (peek0_any hr1)
 go_wp2_with (go_at_call 29; refine (HC.out).mono ?_; rintro e W2 ⟨rfl, hn2⟩; have hn2 := Mv.still hr1 hn2; have hr2 := hn2.rd hr1 hr1.few.2.2; have hm2 := hm1.trans hl hn2; clear HC; have r1 := hr2.cells.2.1; have yf := hr2.box.frozen 1; have yl := hr2.box.lt)
 clear r1 yf yl
 have hn3 := Mv.step hr2 (Below.refl _ _) m1
 have hr3 := hn3.rd hr2 hmlm1
 have hm3 := hm2.trans hl hn3
 have hz3 : (W2.setCell ⟨rb, 1, none⟩ (.int .i64 (m1 : Int))).heap.size = W2.heap.size := (by simp : (W2.setCell ⟨rb, 1, none⟩ (.int .i64 (m1 : Int))).heap.size = W2.heap.size).trans rfl
 generalize hw3 : W2.setCell ⟨rb, 1, none⟩ (.int .i64 (m1 : Int)) = W3 at hn3 hr3 hm3 hz3 ⊢
 clear hw3 e0m1 wmm1
 have hq4 : W3.heap.size = W2.heap.size := hz3
 have x_4 := At.newAt hq4 73 #[.string ⟨#[]⟩, .slice none 0 0, .string ⟨#[]⟩, .int .i64 (-1), .bool bse, .int .i64 0, .int .i64 ((tokAt ts sz i).pos : Int)]
 have hm4 := hm3.trans hl (Mv.still hr3 (below1 W3 (.cells #[.string ⟨#[]⟩, .slice none 0 0, .string ⟨#[]⟩, .int .i64 (-1), .bool bse, .int .i64 0, .int .i64 ((tokAt ts sz i).pos : Int)] 73)))
 have hr4 := hr3.next (below1 W3 (.cells #[.string ⟨#[]⟩, .slice none 0 0, .string ⟨#[]⟩, .int .i64 (-1), .bool bse, .int .i64 0, .int .i64 ((tokAt ts sz i).pos : Int)] 73))
 have hBx : w.heap.size ≤ W2.heap.size := by have := hm3.size; omega
 have hnex : W2.heap.size ≠ rb := by have := hr3.box.lt; omega
 generalize hw4 : W3.alloc (.cells #[.string ⟨#[]⟩, .slice none 0 0, .string ⟨#[]⟩, .int .i64 (-1), .bool bse, .int .i64 0, .int .i64 ((tokAt ts sz i).pos : Int)] 73) = W4 at x_4 hm4 hr4 ⊢
 clear hw4 hq4
 clear tE ff
 cases hp : Px.word 1 (Px.kts ts) m1 with
 | fail q5 =>
  rw [Px.bind_fail (hp)] at hRR
  subst hRR
  have HC := Lib.hid (pword_any hr4 1 (by omega))
  rw [hp] at HC
  clear hp
  go_wp2_with (go_at_call 43; refine (HC.out).mono ?_; rintro e wF ⟨rfl, hnF, hrF⟩)
  exact ⟨rfl, IPost.failed HR.out HO.out HB.out (hm4.trans hl hnF) hrF⟩
 | ok nm q5 =>
  rw [Px.bind_ok (hp)] at hRR
  try dsimp only at hRR
  have HC := Lib.hid (pword_any hr4 1 (by omega))
  rw [hp] at HC
  have HQ5 := Lib.hid hp
  clear hp
  go_wp2_with (go_at_call 43; refine (HC.out).mono ?_; rintro e W5 ⟨⟨_, rfl, rfl⟩, hn6, hr6⟩; have hm6 := hm4.trans hl hn6; have x_6 := hn6.at x_4 hnex; clear HC; have yx0 := x_6.cell 0; have yx1 := x_6.cell 1; have yx2 := x_6.cell 2; have yx3 := x_6.cell 3; have yx4 := x_6.cell 4; have yx5 := x_6.cell 5; have yx6 := x_6.cell 6; have fx0 := x_6.frozen 0; have fx1 := x_6.frozen 1; have fx2 := x_6.frozen 2; have fx3 := x_6.frozen 3; have fx4 := x_6.frozen 4; have fx5 := x_6.frozen 5; have fx6 := x_6.frozen 6; have ylx := x_6.lt; simp only [List.getElem?_toArray, List.getElem?_cons_zero, List.getElem?_cons_succ] at yx0 yx1 yx2 yx3 yx4 yx5 yx6)
  clear yx0 fx0 yx1 fx1 yx2 fx2 yx3 fx3 yx4 fx4 yx5 fx5 yx6 fx6 ylx
  have x_7 := (x_6.put 0 (.string (bs nm)))
  simp only [List.setIfInBounds_toArray, List.set_cons_zero, List.set_cons_succ] at x_7
  have hm7 := hm6.after ((Below.refl (W2.heap.size) W5).setCell (p := ⟨W2.heap.size, 0, none⟩) (Nat.le_refl _) (.string (bs nm))) hBx
  have hr7 := hm7.rd HR.out hr6.few.2.2
  have hz7 : (W5.setCell ⟨W2.heap.size, 0, none⟩ (.string (bs nm))).heap.size = W5.heap.size := (by simp : (W5.setCell ⟨W2.heap.size, 0, none⟩ (.string (bs nm))).heap.size = W5.heap.size).trans rfl
  generalize hw7 : (W5.setCell ⟨W2.heap.size, 0, none⟩ (.string (bs nm))) = W6 at x_7 hm7 hr7 hz7 ⊢
  clear hw7
  cases hp : Px.need [40] (Px.kts ts) q5 with
  | fail q8 =>
   rw [Px.bind_fail (hp)] at hRR
   subst hRR
   have HC := Lib.hid (need_any hr7 [40] (by decide))
   rw [hp] at HC
   clear hp
   go_wp2_with (go_at_call 55; refine (HC.out).mono ?_; rintro e wF ⟨rfl, hnF, hrF⟩)
   exact ⟨rfl, IPost.failed HR.out HO.out HB.out (hm7.trans hl hnF) hrF⟩
  | ok u q8 =>
   rw [Px.bind_ok (hp)] at hRR
   try dsimp only at hRR
   have HC := Lib.hid (need_any hr7 [40] (by decide))
   rw [hp] at HC
   have HQ8 := Lib.hid hp
   clear hp
   go_wp2_with (go_at_call 55; refine (HC.out).mono ?_; rintro e W7 ⟨⟨_, rfl, rfl⟩, hn9, hr9⟩; have hm9 := hm7.trans hl hn9; have x_9 := hn9.at x_7 hnex; clear HC)
   by_cases hx : Px.tx (Px.kts ts) q8 = [41]
   ·skip
    have tE : ((bs (tokAt ts sz q8).text).toList == [41]) = true := (bs_eqc _ _).trans (decide_eq_true (by rw [← tx_at ts sz]; exact hx))
    have tN : ((bs (tokAt ts sz q8).text).toList != [41]) = false := by rw [bne, tE]; rfl
    have ff := fun W => field_tok1 (tokAt ts sz q8).kind 0 (tokAt ts sz q8).pos (bs (tokAt ts sz q8).text) W
    have HC := Lib.hid (peek0_any hr9)
    rw [Px.bind_ok (show Px.types (Px.kts ts) q8 = .ok [] q8 from if_pos hx)] at hRR
    try dsimp only at hRR
    go_wp2_with (go_at_call 29; refine (HC.out).mono ?_; rintro e W8 ⟨rfl, hn10⟩; have hn10 := Mv.still hr9 hn10; have hr10 := hn10.rd hr9 hr9.few.2.2; have hm10 := hm9.trans hl hn10; have x_10 := hn10.at x_9 hnex; clear HC)
    clear tE tN ff hx
    cases hp : Px.need [41] (Px.kts ts) q8 with
    | fail q11 =>
     rw [Px.bind_fail (hp)] at hRR
     subst hRR
     have HC := Lib.hid (need_any hr10 [41] (by decide))
     rw [hp] at HC
     clear hp
     go_wp2_with (go_at_call 55; refine (HC.out).mono ?_; rintro e wF ⟨rfl, hnF, hrF⟩)
     exact ⟨rfl, IPost.failed HR.out HO.out HB.out (hm10.trans hl hnF) hrF⟩
    | ok u q11 =>
     rw [Px.bind_ok (hp)] at hRR
     try dsimp only at hRR
     have HC := Lib.hid (need_any hr10 [41] (by decide))
     rw [hp] at HC
     have HQ11 := Lib.hid hp
     clear hp
     go_wp2_with (go_at_call 55; refine (HC.out).mono ?_; rintro e W9 ⟨⟨_, rfl, rfl⟩, hn12, hr12⟩; have hm12 := hm10.trans hl hn12; have x_12 := hn12.at x_10 hnex; clear HC; have yx0 := x_12.cell 0; have yx1 := x_12.cell 1; have yx2 := x_12.cell 2; have yx3 := x_12.cell 3; have yx4 := x_12.cell 4; have yx5 := x_12.cell 5; have yx6 := x_12.cell 6; have fx0 := x_12.frozen 0; have fx1 := x_12.frozen 1; have fx2 := x_12.frozen 2; have fx3 := x_12.frozen 3; have fx4 := x_12.frozen 4; have fx5 := x_12.frozen 5; have fx6 := x_12.frozen 6; have ylx := x_12.lt; simp only [List.getElem?_toArray, List.getElem?_cons_zero, List.getElem?_cons_succ] at yx0 yx1 yx2 yx3 yx4 yx5 yx6)
     clear yx0 fx0 yx1 fx1 yx2 fx2 yx3 fx3 yx4 fx4 yx5 fx5 yx6 fx6 ylx
     have x_13 := (x_12.put 5 (.int .i64 0))
     simp only [List.setIfInBounds_toArray, List.set_cons_zero, List.set_cons_succ] at x_13
     have hm13 := hm12.after ((Below.refl (W2.heap.size) W9).setCell (p := ⟨W2.heap.size, 5, none⟩) (Nat.le_refl _) (.int .i64 0)) hBx
     have hr13 := hm13.rd HR.out hr12.few.2.2
     have hz13 : (W9.setCell ⟨W2.heap.size, 5, none⟩ (.int .i64 0)).heap.size = W9.heap.size := (by simp : (W9.setCell ⟨W2.heap.size, 5, none⟩ (.int .i64 0)).heap.size = W9.heap.size).trans rfl
     generalize hw13 : (W9.setCell ⟨W2.heap.size, 5, none⟩ (.int .i64 0)) = W10 at x_13 hm13 hr13 hz13 ⊢
     clear hw13
     unfold Px.predEnd at hRR
     simp only [Px.bind_assoc] at hRR
     rcases Px.take_two [58] (Px.kts ts) q11 with hp | hp
     ·skip
      rw [Px.bind_ok hp] at hRR
      try dsimp only at hRR
      first | rw [if_pos rfl] at hRR | rw [if_pos trivial] at hRR
      have HC := Lib.hid (take_any hr13 [58] (by decide))
      rw [hp] at HC
      clear hp
      try simp only [Px.bind_assoc] at hRR
      go_wp2_with (go_at_call 42; refine (HC.out).mono ?_; rintro e W11 ⟨⟨_, rfl, rfl⟩, hn14, hr14⟩; have hm14 := hm13.trans hl hn14; have x_14 := hn14.at x_13 hnex; clear HC)
      cases hp : Px.word 1 (Px.kts ts) (q11 + 1) with
      | fail q15 =>
       rw [Px.bind_fail (hp)] at hRR
       subst hRR
       have HC := Lib.hid (pword_any hr14 1 (by omega))
       rw [hp] at HC
       clear hp
       go_wp2_with (go_at_call 43; refine (HC.out).mono ?_; rintro e wF ⟨rfl, hnF, hrF⟩)
       exact ⟨rfl, IPost.failed HR.out HO.out HB.out (hm14.trans hl hnF) hrF⟩
      | ok lt q15 =>
       rw [Px.bind_ok (hp)] at hRR
       try dsimp only at hRR
       have HC := Lib.hid (pword_any hr14 1 (by omega))
       rw [hp] at HC
       have HQ15 := Lib.hid hp
       clear hp
       go_wp2_with (go_at_call 43; refine (HC.out).mono ?_; rintro e W12 ⟨⟨_, rfl, rfl⟩, hn16, hr16⟩; have hm16 := hm14.trans hl hn16; have x_16 := hn16.at x_14 hnex; clear HC; have yx0 := x_16.cell 0; have yx1 := x_16.cell 1; have yx2 := x_16.cell 2; have yx3 := x_16.cell 3; have yx4 := x_16.cell 4; have yx5 := x_16.cell 5; have yx6 := x_16.cell 6; have fx0 := x_16.frozen 0; have fx1 := x_16.frozen 1; have fx2 := x_16.frozen 2; have fx3 := x_16.frozen 3; have fx4 := x_16.frozen 4; have fx5 := x_16.frozen 5; have fx6 := x_16.frozen 6; have ylx := x_16.lt; simp only [List.getElem?_toArray, List.getElem?_cons_zero, List.getElem?_cons_succ] at yx0 yx1 yx2 yx3 yx4 yx5 yx6)
       clear yx0 fx0 yx1 fx1 yx2 fx2 yx3 fx3 yx4 fx4 yx5 fx5 yx6 fx6 ylx
       have x_17 := (x_16.put 2 (.string (bs lt)))
       simp only [List.setIfInBounds_toArray, List.set_cons_zero, List.set_cons_succ] at x_17
       have hm17 := hm16.after ((Below.refl (W2.heap.size) W12).setCell (p := ⟨W2.heap.size, 2, none⟩) (Nat.le_refl _) (.string (bs lt))) hBx
       have hr17 := hm17.rd HR.out hr16.few.2.2
       have hz17 : (W12.setCell ⟨W2.heap.size, 2, none⟩ (.string (bs lt))).heap.size = W12.heap.size := (by simp : (W12.setCell ⟨W2.heap.size, 2, none⟩ (.string (bs lt))).heap.size = W12.heap.size).trans rfl
       generalize hw17 : (W12.setCell ⟨W2.heap.size, 2, none⟩ (.string (bs lt))) = W13 at x_17 hm17 hr17 hz17 ⊢
       clear hw17
       rw [Px.bind_ret] at hRR
       try dsimp only at hRR
       cases hp : Px.need [59] (Px.kts ts) q15 with
       | fail q18 =>
        rw [Px.bind_fail (hp)] at hRR
        subst hRR
        have HC := Lib.hid (need_any hr17 [59] (by decide))
        rw [hp] at HC
        clear hp
        go_wp2_with (go_at_call 55; refine (HC.out).mono ?_; rintro e wF ⟨rfl, hnF, hrF⟩)
        exact ⟨rfl, IPost.failed HR.out HO.out HB.out (hm17.trans hl hnF) hrF⟩
       | ok u q18 =>
        rw [Px.bind_ok (hp)] at hRR
        try dsimp only at hRR
        have HC := Lib.hid (need_any hr17 [59] (by decide))
        rw [hp] at HC
        have HQ18 := Lib.hid hp
        clear hp
        go_wp2_with (go_at_call 55; refine (HC.out).mono ?_; rintro e W14 ⟨⟨_, rfl, rfl⟩, hn19, hr19⟩; have hm19 := hm17.trans hl hn19; have x_19 := hn19.at x_17 hnex; clear HC)
        have hoW := HO.out.mv HB.out HR.out.box hm19
        obtain ⟨rows, hrows, hrr⟩ := hoW.preds
        have HOW := Lib.hid hoW
        have HROWS := Lib.hid hrows
        have HRR2 := Lib.hid hrr
        have HXR := Lib.hid (show PrR W14 [.string (bs nm), .slice none 0 0, .string (bs lt), .int .i64 (-1), .bool bse, .int .i64 0, .int .i64 ((tokAt ts sz i).pos : Int)] ((⟨nm, [], lt, bse, 0, i⟩ : Px.Pr).ap (offI ts sz)) from ⟨_, rfl, TRow.nil _ _ _⟩)
        have HBX := Lib.hid hr19.box
        have HAX := Lib.hid x_19
        obtain ⟨iT, hi0, hi1, hi2, hi3⟩ := info_parts pred_info
        have HNB : Hid (some (W2.heap.size) ≠ Value.ownBlock (.slice o.p.a o.p.n o.p.c)) := Lib.hid (fun e => by
         obtain ⟨rows0, h0, _⟩ := HO.out.preds
         have h1 := (own_lt h0 e.symm).2
         have h2 := hBx
         omega)
        clear hoW hrows hrr
        refine' wp_region_chain 9 2 _ ([none, none, none, none, none, none, none, some 0, some 1] : List (Option Nat)) (fun p x W => match p with | 0 => (At W rb 87 (rdc TA ts.length tc q18 sz o) ∧ At W (W2.heap.size) 73 #[.string (bs nm), .slice none 0 0, .string (bs lt), .int .i64 (-1), .bool bse, .int .i64 0, .int .i64 ((tokAt ts sz i).pos : Int)]) ∧ Below W14.heap.size W14 W | 1 => (At W rb 87 (rdc TA ts.length tc q18 sz o) ∧ At W (W2.heap.size) 73 #[.string (bs nm), .slice none 0 0, .string (bs lt), .int .i64 (-1), .bool bse, .int .i64 0, .int .i64 ((tokAt ts sz i).pos : Int)]) ∧ ∃ bb, x = .slice (some ⟨bb, 0, none⟩) 1 1 ∧ At W bb 73 #[.string (bs nm), .slice none 0 0, .string (bs lt), .int .i64 (-1), .bool bse, .int .i64 0, .int .i64 ((tokAt ts sz i).pos : Int)] ∧ Below W14.heap.size W14 W | _ => (At W rb 87 (rdc TA ts.length tc q18 sz o) ∧ At W (W2.heap.size) 73 #[.string (bs nm), .slice none 0 0, .string (bs lt), .int .i64 (-1), .bool bse, .int .i64 0, .int .i64 ((tokAt ts sz i).pos : Int)]) ∧ ∃ WG, Below W14.heap.size W14 WG ∧ WG.ownsRow B 73 7 (.slice o.p.a o.p.n o.p.c) P.preds.length rows.flatten ∧ WG.grownBy W (Value.ownBlock (.slice o.p.a o.p.n o.p.c)) ∧ W.ownsRow B 73 7 x (P.preds.length + 1) (rows.flatten ++ [.string (bs nm), .slice none 0 0, .string (bs lt), .int .i64 (-1), .bool bse, .int .i64 0, .int .i64 ((tokAt ts sz i).pos : Int)])) (fun W => (At W rb 87 (rdc TA ts.length tc q18 sz o) ∧ At W (W2.heap.size) 73 #[.string (bs nm), .slice none 0 0, .string (bs lt), .int .i64 (-1), .bool bse, .int .i64 0, .int .i64 ((tokAt ts sz i).pos : Int)])) (Pv :: Pv :: Pv :: Pv :: Pv :: Pv :: Pv :: Fv :: Fv :: []) ?hF (by kernel_rfl) (by kernel_rfl) (by kernel_rfl) (of_decide_eq_true (by kernel_rfl)) (by kernel_rfl) (by kernel_rfl) (by kernel_rfl) (by kernel_rfl) (by kernel_rfl) ?hW ?hJ ?hops ?htail
        case hF => (intro v; simp only [over, Act.put, List.setIfInBounds_toArray, List.set_cons_zero, List.set_cons_succ, Nat.zero_add, Nat.reduceAdd]; exact rfl)
        case hW =>
         intro _
         have hbN : Below W14.heap.size W14 W14.drew := (Below.refl W14.heap.size W14).drew
         exact ⟨⟨HBX.out.next hbN, HAX.out.next hbN⟩, hbN⟩
        case hJ =>
         intro p x W2 h
         match p, h with
         | 0, h => exact h.1
         | 1, h => exact h.1
         | _ + 2, h => exact h.1
        case hops =>
         refine ⟨?_, ?_⟩
         ·intro v w' hj hd K hK
          have hk := hK.out
          simp only [Act.put, List.setIfInBounds_toArray, List.set_cons_zero, List.set_cons_succ] at hk
          have HK := Lib.hid hk
          clear hd hk hK
          go_simp
          exact HK.out _ (show _ = _ from rfl)
         refine ⟨?_, ?_⟩
         ·intro v w' hj hd K hK
          have hk := hK.out
          simp only [Act.put, List.setIfInBounds_toArray, List.set_cons_zero, List.set_cons_succ] at hk
          have HK := Lib.hid hk
          clear hd hk hK
          go_simp
          exact HK.out _ (show _ = _ from rfl)
         refine ⟨?_, ?_⟩
         ·intro v w' hj hd K hK
          have t1 : v 1 = _ := hd.out 1 (by kernel_rfl) rfl
          have hk := hK.out
          simp only [t1, Act.put, List.setIfInBounds_toArray, List.set_cons_zero, List.set_cons_succ] at hk
          have HK := Lib.hid hk
          clear hd hk hK
          go_simp
          exact HK.out _ (show _ = _ from rfl)
         refine ⟨?_, ?_⟩
         ·intro v w' hj hd K hK
          have t2 : v 2 = _ := hd.out 2 (by kernel_rfl) rfl
          have hk := hK.out
          simp only [t2, Act.put, List.setIfInBounds_toArray, List.set_cons_zero, List.set_cons_succ] at hk
          have HK := Lib.hid hk
          clear hd hk hK
          go_simp
          exact HK.out _ (show _ = _ from rfl)
         refine ⟨?_, ?_⟩
         ·intro v w' hj hd K hK
          have t3 : v 3 = _ := hd.out 3 (by kernel_rfl) rfl
          have hk := hK.out
          simp only [t3, Act.put, List.setIfInBounds_toArray, List.set_cons_zero, List.set_cons_succ] at hk
          have HK := Lib.hid hk
          clear hd hk hK
          go_simp
          exact HK.out _ (show _ = _ from rfl)
         refine ⟨?_, ?_⟩
         ·intro v w' hj hd K hK
          have t4 : v 4 = _ := hd.out 4 (by kernel_rfl) rfl
          have yx : w'.cell? ⟨rb, 5, none⟩ = some (.slice o.p.a o.p.n o.p.c) := hj.out.1.cell 5
          have hk := hK.out
          simp only [t4, Act.put, List.setIfInBounds_toArray, List.set_cons_zero, List.set_cons_succ] at hk
          have HK := Lib.hid hk
          clear hd hk hK
          go_simp
          exact HK.out _ (show _ = _ from rfl)
         refine ⟨?_, ?_⟩
         ·intro v w' hj hd K hK
          have yx0 := hj.out.2.cell 0
          have yx1 := hj.out.2.cell 1
          have yx2 := hj.out.2.cell 2
          have yx3 := hj.out.2.cell 3
          have yx4 := hj.out.2.cell 4
          have yx5 := hj.out.2.cell 5
          have yx6 := hj.out.2.cell 6
          simp only [List.getElem?_toArray, List.getElem?_cons_zero, List.getElem?_cons_succ] at yx0 yx1 yx2 yx3 yx4 yx5 yx6
          have hk := hK.out
          simp only [Act.put, List.setIfInBounds_toArray, List.set_cons_zero, List.set_cons_succ] at hk
          have HK := Lib.hid hk
          clear hd hk hK
          go_simp
          exact HK.out _ (show _ = _ from rfl)
         refine ⟨?_, ?_⟩
         ·intro v w' x hw hx hd K hK
          have t6 : v 6 = _ := hd.out 6 (by kernel_rfl) rfl
          have hk := hK.out
          simp only [t6, Act.put, List.setIfInBounds_toArray, List.set_cons_zero, List.set_cons_succ] at hk
          have HK := Lib.hid hk
          obtain ⟨hj, hb0⟩ := hw.out
          clear hd hk hK
          go_simp
          have hbN : Below W14.heap.size W14 (w'.alloc (.cells #[.string (bs nm), .slice none 0 0, .string (bs lt), .int .i64 (-1), .bool bse, .int .i64 0, .int .i64 ((tokAt ts sz i).pos : Int)] 73)) := hb0.alloc hb0.size _
          exact HK.out _ _ ⟨⟨HBX.out.next hbN, HAX.out.next hbN⟩, _, rfl, At.new _ _ _, hbN⟩
         refine ⟨?_, ?_⟩
         ·intro v w' x hw hx hd K hK
          have t5 : v 5 = _ := hd.out 5 (by kernel_rfl) rfl
          have t7 : v 7 = x := hx.out 7 _ rfl rfl
          have hk := hK.out
          rw [if_pos (show Region.wanted _ _ = true from rfl)]
          simp only [t5, t7] at hk ⊢
          have HK := Lib.hid hk
          obtain ⟨hj, bb, rfl, hbb, hb0⟩ := hw.out
          have hoN := own_below HROWS.out hb0
          clear hx hd hw
          refine wp_append_keep (.tmp 60) (.tmp 62) 31 rfl B 73 iT (.agg #[.string ⟨#[]⟩, .slice none 0 0, .string ⟨#[]⟩, .int .i64 0, .bool false, .int .i64 0, .int .i64 0]) 7 88 Tryd.underlying31 hi0 hi1 hi2 hi3 rfl (by decide) _ P.preds.length rows.flatten rfl hoN ⟨bb, 0, none⟩ 1 1 [.string (bs nm), .slice none 0 0, .string (bs lt), .int .i64 (-1), .bool bse, .int .i64 0, .int .i64 ((tokAt ts sz i).pos : Int)] rfl rfl (At.news hbb) (by intro u hu; simp at hu; rcases hu with rfl | rfl | rfl | rfl | rfl | rfl | rfl <;> rfl) (by have := HP.out; unfold maxLen; omega) (by have := HP.out; omega) (Nat.le_trans HBS.out (Nat.le_trans hm19.size hb0.size)) fun v5 w5 o5 o6 g5 => ?_
          exact HK.out _ _ ⟨⟨hj.1.grown g5 (own_far hoN hj.1 (by decide)), hj.2.grown g5 HNB.out⟩, w', hb0, hoN, g5, o5⟩
         trivial
        case htail =>
         intro v w' x hw hx hd
         have t0 : v 0 = _ := hd.out 0 (by decide) rfl
         have t8 : v 8 = x := hx.out 8 _ rfl rfl
         simp only [t0, t8, List.drop_succ_cons, List.drop_zero]
         clear hx hd t0 t8
         obtain ⟨⟨hbx9, hax9⟩, WG, h91, h92, h93, h95⟩ := hw.out
         obtain ⟨A9, c9, rfl⟩ := own_len h95
         have y9 := hbx9.cell 5
         have f9 := hbx9.frozen 5
         have l9 := hbx9.lt
         clear hw
         go_wp2_with fail
         obtain ⟨e1, e2, e3, e4⟩ := end_preds (x := (⟨nm, [], lt, bse, 0, i⟩ : Px.Pr).ap (offI ts sz)) hr19 HOW.out HB.out h91 h92 HRR2.out h93 h95 HXR.out
         subst hRR
         first
          | go_end0
          | refine bodyPost_ret (results_none rfl _ _ _) rfl ?_
         exact ⟨rfl, (hm19.belowR hl).trans e3, (KeptX.mv HR.out hm19).trans e4, _, e1, e2⟩
     ·skip
      rw [Px.bind_ok hp] at hRR
      try dsimp only at hRR
      rw [if_neg (by simp)] at hRR
      have HC := Lib.hid (take_any hr13 [58] (by decide))
      rw [hp] at HC
      clear hp
      cases bse
      ·skip
       rw [if_neg (by simp)] at hRR
       rw [Px.bind_ret] at hRR
       try dsimp only at hRR
       go_wp2_with (go_at_call 42; refine (HC.out).mono ?_; rintro e W11 ⟨⟨_, rfl, rfl⟩, hn14, hr14⟩; have hm14 := hm13.trans hl hn14; have x_14 := hn14.at x_13 hnex; clear HC; have yx0 := x_14.cell 0; have yx1 := x_14.cell 1; have yx2 := x_14.cell 2; have yx3 := x_14.cell 3; have yx4 := x_14.cell 4; have yx5 := x_14.cell 5; have yx6 := x_14.cell 6; have fx0 := x_14.frozen 0; have fx1 := x_14.frozen 1; have fx2 := x_14.frozen 2; have fx3 := x_14.frozen 3; have fx4 := x_14.frozen 4; have fx5 := x_14.frozen 5; have fx6 := x_14.frozen 6; have ylx := x_14.lt; simp only [List.getElem?_toArray, List.getElem?_cons_zero, List.getElem?_cons_succ] at yx0 yx1 yx2 yx3 yx4 yx5 yx6)
       clear yx0 fx0 yx1 fx1 yx2 fx2 yx3 fx3 yx4 fx4 yx5 fx5 yx6 fx6 ylx
       cases hp : Px.need [59] (Px.kts ts) q11 with
       | fail q15 =>
        rw [Px.bind_fail (hp)] at hRR
        subst hRR
        have HC := Lib.hid (need_any hr14 [59] (by decide))
        rw [hp] at HC
        clear hp
        go_wp2_with (go_at_call 55; refine (HC.out).mono ?_; rintro e wF ⟨rfl, hnF, hrF⟩)
        exact ⟨rfl, IPost.failed HR.out HO.out HB.out (hm14.trans hl hnF) hrF⟩
       | ok u q15 =>
        rw [Px.bind_ok (hp)] at hRR
        try dsimp only at hRR
        have HC := Lib.hid (need_any hr14 [59] (by decide))
        rw [hp] at HC
        have HQ15 := Lib.hid hp
        clear hp
        go_wp2_with (go_at_call 55; refine (HC.out).mono ?_; rintro e W12 ⟨⟨_, rfl, rfl⟩, hn16, hr16⟩; have hm16 := hm14.trans hl hn16; have x_16 := hn16.at x_14 hnex; clear HC)
        have hoW := HO.out.mv HB.out HR.out.box hm16
        obtain ⟨rows, hrows, hrr⟩ := hoW.preds
        have HOW := Lib.hid hoW
        have HROWS := Lib.hid hrows
        have HRR2 := Lib.hid hrr
        have HXR := Lib.hid (show PrR W12 [.string (bs nm), .slice none 0 0, .string ⟨#[]⟩, .int .i64 (-1), .bool false, .int .i64 0, .int .i64 ((tokAt ts sz i).pos : Int)] ((⟨nm, [], [], false, 0, i⟩ : Px.Pr).ap (offI ts sz)) from ⟨_, rfl, TRow.nil _ _ _⟩)
        have HBX := Lib.hid hr16.box
        have HAX := Lib.hid x_16
        obtain ⟨iT, hi0, hi1, hi2, hi3⟩ := info_parts pred_info
        have HNB : Hid (some (W2.heap.size) ≠ Value.ownBlock (.slice o.p.a o.p.n o.p.c)) := Lib.hid (fun e => by
         obtain ⟨rows0, h0, _⟩ := HO.out.preds
         have h1 := (own_lt h0 e.symm).2
         have h2 := hBx
         omega)
        clear hoW hrows hrr
        refine' wp_region_chain 9 2 _ ([none, none, none, none, none, none, none, some 0, some 1] : List (Option Nat)) (fun p x W => match p with | 0 => (At W rb 87 (rdc TA ts.length tc q15 sz o) ∧ At W (W2.heap.size) 73 #[.string (bs nm), .slice none 0 0, .string ⟨#[]⟩, .int .i64 (-1), .bool false, .int .i64 0, .int .i64 ((tokAt ts sz i).pos : Int)]) ∧ Below W12.heap.size W12 W | 1 => (At W rb 87 (rdc TA ts.length tc q15 sz o) ∧ At W (W2.heap.size) 73 #[.string (bs nm), .slice none 0 0, .string ⟨#[]⟩, .int .i64 (-1), .bool false, .int .i64 0, .int .i64 ((tokAt ts sz i).pos : Int)]) ∧ ∃ bb, x = .slice (some ⟨bb, 0, none⟩) 1 1 ∧ At W bb 73 #[.string (bs nm), .slice none 0 0, .string ⟨#[]⟩, .int .i64 (-1), .bool false, .int .i64 0, .int .i64 ((tokAt ts sz i).pos : Int)] ∧ Below W12.heap.size W12 W | _ => (At W rb 87 (rdc TA ts.length tc q15 sz o) ∧ At W (W2.heap.size) 73 #[.string (bs nm), .slice none 0 0, .string ⟨#[]⟩, .int .i64 (-1), .bool false, .int .i64 0, .int .i64 ((tokAt ts sz i).pos : Int)]) ∧ ∃ WG, Below W12.heap.size W12 WG ∧ WG.ownsRow B 73 7 (.slice o.p.a o.p.n o.p.c) P.preds.length rows.flatten ∧ WG.grownBy W (Value.ownBlock (.slice o.p.a o.p.n o.p.c)) ∧ W.ownsRow B 73 7 x (P.preds.length + 1) (rows.flatten ++ [.string (bs nm), .slice none 0 0, .string ⟨#[]⟩, .int .i64 (-1), .bool false, .int .i64 0, .int .i64 ((tokAt ts sz i).pos : Int)])) (fun W => (At W rb 87 (rdc TA ts.length tc q15 sz o) ∧ At W (W2.heap.size) 73 #[.string (bs nm), .slice none 0 0, .string ⟨#[]⟩, .int .i64 (-1), .bool false, .int .i64 0, .int .i64 ((tokAt ts sz i).pos : Int)])) (Pv :: Pv :: Pv :: Pv :: Pv :: Pv :: Pv :: Fv :: Fv :: []) ?hF (by kernel_rfl) (by kernel_rfl) (by kernel_rfl) (of_decide_eq_true (by kernel_rfl)) (by kernel_rfl) (by kernel_rfl) (by kernel_rfl) (by kernel_rfl) (by kernel_rfl) ?hW ?hJ ?hops ?htail
        case hF => (intro v; simp only [over, Act.put, List.setIfInBounds_toArray, List.set_cons_zero, List.set_cons_succ, Nat.zero_add, Nat.reduceAdd]; exact rfl)
        case hW =>
         intro _
         have hbN : Below W12.heap.size W12 W12.drew := (Below.refl W12.heap.size W12).drew
         exact ⟨⟨HBX.out.next hbN, HAX.out.next hbN⟩, hbN⟩
        case hJ =>
         intro p x W2 h
         match p, h with
         | 0, h => exact h.1
         | 1, h => exact h.1
         | _ + 2, h => exact h.1
        case hops =>
         refine ⟨?_, ?_⟩
         ·intro v w' hj hd K hK
          have hk := hK.out
          simp only [Act.put, List.setIfInBounds_toArray, List.set_cons_zero, List.set_cons_succ] at hk
          have HK := Lib.hid hk
          clear hd hk hK
          go_simp
          exact HK.out _ (show _ = _ from rfl)
         refine ⟨?_, ?_⟩
         ·intro v w' hj hd K hK
          have hk := hK.out
          simp only [Act.put, List.setIfInBounds_toArray, List.set_cons_zero, List.set_cons_succ] at hk
          have HK := Lib.hid hk
          clear hd hk hK
          go_simp
          exact HK.out _ (show _ = _ from rfl)
         refine ⟨?_, ?_⟩
         ·intro v w' hj hd K hK
          have t1 : v 1 = _ := hd.out 1 (by kernel_rfl) rfl
          have hk := hK.out
          simp only [t1, Act.put, List.setIfInBounds_toArray, List.set_cons_zero, List.set_cons_succ] at hk
          have HK := Lib.hid hk
          clear hd hk hK
          go_simp
          exact HK.out _ (show _ = _ from rfl)
         refine ⟨?_, ?_⟩
         ·intro v w' hj hd K hK
          have t2 : v 2 = _ := hd.out 2 (by kernel_rfl) rfl
          have hk := hK.out
          simp only [t2, Act.put, List.setIfInBounds_toArray, List.set_cons_zero, List.set_cons_succ] at hk
          have HK := Lib.hid hk
          clear hd hk hK
          go_simp
          exact HK.out _ (show _ = _ from rfl)
         refine ⟨?_, ?_⟩
         ·intro v w' hj hd K hK
          have t3 : v 3 = _ := hd.out 3 (by kernel_rfl) rfl
          have hk := hK.out
          simp only [t3, Act.put, List.setIfInBounds_toArray, List.set_cons_zero, List.set_cons_succ] at hk
          have HK := Lib.hid hk
          clear hd hk hK
          go_simp
          exact HK.out _ (show _ = _ from rfl)
         refine ⟨?_, ?_⟩
         ·intro v w' hj hd K hK
          have t4 : v 4 = _ := hd.out 4 (by kernel_rfl) rfl
          have yx : w'.cell? ⟨rb, 5, none⟩ = some (.slice o.p.a o.p.n o.p.c) := hj.out.1.cell 5
          have hk := hK.out
          simp only [t4, Act.put, List.setIfInBounds_toArray, List.set_cons_zero, List.set_cons_succ] at hk
          have HK := Lib.hid hk
          clear hd hk hK
          go_simp
          exact HK.out _ (show _ = _ from rfl)
         refine ⟨?_, ?_⟩
         ·intro v w' hj hd K hK
          have yx0 := hj.out.2.cell 0
          have yx1 := hj.out.2.cell 1
          have yx2 := hj.out.2.cell 2
          have yx3 := hj.out.2.cell 3
          have yx4 := hj.out.2.cell 4
          have yx5 := hj.out.2.cell 5
          have yx6 := hj.out.2.cell 6
          simp only [List.getElem?_toArray, List.getElem?_cons_zero, List.getElem?_cons_succ] at yx0 yx1 yx2 yx3 yx4 yx5 yx6
          have hk := hK.out
          simp only [Act.put, List.setIfInBounds_toArray, List.set_cons_zero, List.set_cons_succ] at hk
          have HK := Lib.hid hk
          clear hd hk hK
          go_simp
          exact HK.out _ (show _ = _ from rfl)
         refine ⟨?_, ?_⟩
         ·intro v w' x hw hx hd K hK
          have t6 : v 6 = _ := hd.out 6 (by kernel_rfl) rfl
          have hk := hK.out
          simp only [t6, Act.put, List.setIfInBounds_toArray, List.set_cons_zero, List.set_cons_succ] at hk
          have HK := Lib.hid hk
          obtain ⟨hj, hb0⟩ := hw.out
          clear hd hk hK
          go_simp
          have hbN : Below W12.heap.size W12 (w'.alloc (.cells #[.string (bs nm), .slice none 0 0, .string ⟨#[]⟩, .int .i64 (-1), .bool false, .int .i64 0, .int .i64 ((tokAt ts sz i).pos : Int)] 73)) := hb0.alloc hb0.size _
          exact HK.out _ _ ⟨⟨HBX.out.next hbN, HAX.out.next hbN⟩, _, rfl, At.new _ _ _, hbN⟩
         refine ⟨?_, ?_⟩
         ·intro v w' x hw hx hd K hK
          have t5 : v 5 = _ := hd.out 5 (by kernel_rfl) rfl
          have t7 : v 7 = x := hx.out 7 _ rfl rfl
          have hk := hK.out
          rw [if_pos (show Region.wanted _ _ = true from rfl)]
          simp only [t5, t7] at hk ⊢
          have HK := Lib.hid hk
          obtain ⟨hj, bb, rfl, hbb, hb0⟩ := hw.out
          have hoN := own_below HROWS.out hb0
          clear hx hd hw
          refine wp_append_keep (.tmp 60) (.tmp 62) 31 rfl B 73 iT (.agg #[.string ⟨#[]⟩, .slice none 0 0, .string ⟨#[]⟩, .int .i64 0, .bool false, .int .i64 0, .int .i64 0]) 7 88 Tryd.underlying31 hi0 hi1 hi2 hi3 rfl (by decide) _ P.preds.length rows.flatten rfl hoN ⟨bb, 0, none⟩ 1 1 [.string (bs nm), .slice none 0 0, .string ⟨#[]⟩, .int .i64 (-1), .bool false, .int .i64 0, .int .i64 ((tokAt ts sz i).pos : Int)] rfl rfl (At.news hbb) (by intro u hu; simp at hu; rcases hu with rfl | rfl | rfl | rfl | rfl | rfl | rfl <;> rfl) (by have := HP.out; unfold maxLen; omega) (by have := HP.out; omega) (Nat.le_trans HBS.out (Nat.le_trans hm16.size hb0.size)) fun v5 w5 o5 o6 g5 => ?_
          exact HK.out _ _ ⟨⟨hj.1.grown g5 (own_far hoN hj.1 (by decide)), hj.2.grown g5 HNB.out⟩, w', hb0, hoN, g5, o5⟩
         trivial
        case htail =>
         intro v w' x hw hx hd
         have t0 : v 0 = _ := hd.out 0 (by decide) rfl
         have t8 : v 8 = x := hx.out 8 _ rfl rfl
         simp only [t0, t8, List.drop_succ_cons, List.drop_zero]
         clear hx hd t0 t8
         obtain ⟨⟨hbx9, hax9⟩, WG, h91, h92, h93, h95⟩ := hw.out
         obtain ⟨A9, c9, rfl⟩ := own_len h95
         have y9 := hbx9.cell 5
         have f9 := hbx9.frozen 5
         have l9 := hbx9.lt
         clear hw
         go_wp2_with fail
         obtain ⟨e1, e2, e3, e4⟩ := end_preds (x := (⟨nm, [], [], false, 0, i⟩ : Px.Pr).ap (offI ts sz)) hr16 HOW.out HB.out h91 h92 HRR2.out h93 h95 HXR.out
         subst hRR
         first
          | go_end0
          | refine bodyPost_ret (results_none rfl _ _ _) rfl ?_
         exact ⟨rfl, (hm16.belowR hl).trans e3, (KeptX.mv HR.out hm16).trans e4, _, e1, e2⟩
      ·skip
       first | rw [if_pos rfl] at hRR | rw [if_pos trivial] at hRR
       try simp only [Px.bind_assoc] at hRR
       go_wp2_with (go_at_call 42; refine (HC.out).mono ?_; rintro e W11 ⟨⟨_, rfl, rfl⟩, hn14, hr14⟩; have hm14 := hm13.trans hl hn14; have x_14 := hn14.at x_13 hnex; clear HC; have yx0 := x_14.cell 0; have yx1 := x_14.cell 1; have yx2 := x_14.cell 2; have yx3 := x_14.cell 3; have yx4 := x_14.cell 4; have yx5 := x_14.cell 5; have yx6 := x_14.cell 6; have fx0 := x_14.frozen 0; have fx1 := x_14.frozen 1; have fx2 := x_14.frozen 2; have fx3 := x_14.frozen 3; have fx4 := x_14.frozen 4; have fx5 := x_14.frozen 5; have fx6 := x_14.frozen 6; have ylx := x_14.lt; simp only [List.getElem?_toArray, List.getElem?_cons_zero, List.getElem?_cons_succ] at yx0 yx1 yx2 yx3 yx4 yx5 yx6)
       clear yx0 fx0 yx1 fx1 yx2 fx2 yx3 fx3 yx4 fx4 yx5 fx5 yx6 fx6 ylx
       rcases Px.take_two Px.sKey (Px.kts ts) q11 with hp | hp
       ·skip
        rw [Px.bind_ok hp] at hRR
        try dsimp only at hRR
        first | rw [if_pos rfl] at hRR | rw [if_pos trivial] at hRR
        have HC := Lib.hid (take_any hr14 Px.sKey (by decide))
        rw [hp] at HC
        clear hp
        try simp only [Px.bind_assoc] at hRR
        go_wp2_with (go_at_call 42; refine (HC.out).mono ?_; rintro e W12 ⟨⟨_, rfl, rfl⟩, hn15, hr15⟩; have hm15 := hm14.trans hl hn15; have x_15 := hn15.at x_14 hnex; clear HC)
        cases hp : Px.number (Px.kts ts) (q11 + 1) with
        | fail q16 =>
         rw [Px.bind_fail (hp)] at hRR
         subst hRR
         have HC := Lib.hid (number_any hr15)
         rw [hp] at HC
         clear hp
         go_wp2_with (go_at_call 67; refine (HC.out).mono ?_; rintro e wF ⟨rfl, hnF, hrF⟩)
         exact ⟨rfl, IPost.failed HR.out HO.out HB.out (hm15.trans hl hnF) hrF⟩
        | ok kn q16 =>
         rw [Px.bind_ok (hp)] at hRR
         try dsimp only at hRR
         have HC := Lib.hid (number_any hr15)
         rw [hp] at HC
         have HQ16 := Lib.hid hp
         clear hp
         go_wp2_with (go_at_call 67; refine (HC.out).mono ?_; rintro e W13 ⟨⟨_, rfl, rfl⟩, hn17, hr17⟩; have hm17 := hm15.trans hl hn17; have x_17 := hn17.at x_15 hnex; clear HC; have yx0 := x_17.cell 0; have yx1 := x_17.cell 1; have yx2 := x_17.cell 2; have yx3 := x_17.cell 3; have yx4 := x_17.cell 4; have yx5 := x_17.cell 5; have yx6 := x_17.cell 6; have fx0 := x_17.frozen 0; have fx1 := x_17.frozen 1; have fx2 := x_17.frozen 2; have fx3 := x_17.frozen 3; have fx4 := x_17.frozen 4; have fx5 := x_17.frozen 5; have fx6 := x_17.frozen 6; have ylx := x_17.lt; simp only [List.getElem?_toArray, List.getElem?_cons_zero, List.getElem?_cons_succ] at yx0 yx1 yx2 yx3 yx4 yx5 yx6)
         clear yx0 fx0 yx1 fx1 yx2 fx2 yx3 fx3 yx4 fx4 yx5 fx5 yx6 fx6 ylx
         have x_18 := (x_17.put 5 (.int .i64 kn))
         simp only [List.setIfInBounds_toArray, List.set_cons_zero, List.set_cons_succ] at x_18
         have hm18 := hm17.after ((Below.refl (W2.heap.size) W13).setCell (p := ⟨W2.heap.size, 5, none⟩) (Nat.le_refl _) (.int .i64 kn)) hBx
         have hr18 := hm18.rd HR.out hr17.few.2.2
         have hz18 : (W13.setCell ⟨W2.heap.size, 5, none⟩ (.int .i64 kn)).heap.size = W13.heap.size := (by simp : (W13.setCell ⟨W2.heap.size, 5, none⟩ (.int .i64 kn)).heap.size = W13.heap.size).trans rfl
         generalize hw18 : (W13.setCell ⟨W2.heap.size, 5, none⟩ (.int .i64 kn)) = W14 at x_18 hm18 hr18 hz18 ⊢
         clear hw18
         rw [Px.bind_ret] at hRR
         try dsimp only at hRR
         cases hp : Px.need [59] (Px.kts ts) q16 with
         | fail q19 =>
          rw [Px.bind_fail (hp)] at hRR
          subst hRR
          have HC := Lib.hid (need_any hr18 [59] (by decide))
          rw [hp] at HC
          clear hp
          go_wp2_with (go_at_call 55; refine (HC.out).mono ?_; rintro e wF ⟨rfl, hnF, hrF⟩)
          exact ⟨rfl, IPost.failed HR.out HO.out HB.out (hm18.trans hl hnF) hrF⟩
         | ok u q19 =>
          rw [Px.bind_ok (hp)] at hRR
          try dsimp only at hRR
          have HC := Lib.hid (need_any hr18 [59] (by decide))
          rw [hp] at HC
          have HQ19 := Lib.hid hp
          clear hp
          go_wp2_with (go_at_call 55; refine (HC.out).mono ?_; rintro e W15 ⟨⟨_, rfl, rfl⟩, hn20, hr20⟩; have hm20 := hm18.trans hl hn20; have x_20 := hn20.at x_18 hnex; clear HC)
          have hoW := HO.out.mv HB.out HR.out.box hm20
          obtain ⟨rows, hrows, hrr⟩ := hoW.preds
          have HOW := Lib.hid hoW
          have HROWS := Lib.hid hrows
          have HRR2 := Lib.hid hrr
          have HXR := Lib.hid (show PrR W15 [.string (bs nm), .slice none 0 0, .string ⟨#[]⟩, .int .i64 (-1), .bool true, .int .i64 kn, .int .i64 ((tokAt ts sz i).pos : Int)] ((⟨nm, [], [], true, kn, i⟩ : Px.Pr).ap (offI ts sz)) from ⟨_, rfl, TRow.nil _ _ _⟩)
          have HBX := Lib.hid hr20.box
          have HAX := Lib.hid x_20
          obtain ⟨iT, hi0, hi1, hi2, hi3⟩ := info_parts pred_info
          have HNB : Hid (some (W2.heap.size) ≠ Value.ownBlock (.slice o.p.a o.p.n o.p.c)) := Lib.hid (fun e => by
           obtain ⟨rows0, h0, _⟩ := HO.out.preds
           have h1 := (own_lt h0 e.symm).2
           have h2 := hBx
           omega)
          clear hoW hrows hrr
          refine' wp_region_chain 9 2 _ ([none, none, none, none, none, none, none, some 0, some 1] : List (Option Nat)) (fun p x W => match p with | 0 => (At W rb 87 (rdc TA ts.length tc q19 sz o) ∧ At W (W2.heap.size) 73 #[.string (bs nm), .slice none 0 0, .string ⟨#[]⟩, .int .i64 (-1), .bool true, .int .i64 kn, .int .i64 ((tokAt ts sz i).pos : Int)]) ∧ Below W15.heap.size W15 W | 1 => (At W rb 87 (rdc TA ts.length tc q19 sz o) ∧ At W (W2.heap.size) 73 #[.string (bs nm), .slice none 0 0, .string ⟨#[]⟩, .int .i64 (-1), .bool true, .int .i64 kn, .int .i64 ((tokAt ts sz i).pos : Int)]) ∧ ∃ bb, x = .slice (some ⟨bb, 0, none⟩) 1 1 ∧ At W bb 73 #[.string (bs nm), .slice none 0 0, .string ⟨#[]⟩, .int .i64 (-1), .bool true, .int .i64 kn, .int .i64 ((tokAt ts sz i).pos : Int)] ∧ Below W15.heap.size W15 W | _ => (At W rb 87 (rdc TA ts.length tc q19 sz o) ∧ At W (W2.heap.size) 73 #[.string (bs nm), .slice none 0 0, .string ⟨#[]⟩, .int .i64 (-1), .bool true, .int .i64 kn, .int .i64 ((tokAt ts sz i).pos : Int)]) ∧ ∃ WG, Below W15.heap.size W15 WG ∧ WG.ownsRow B 73 7 (.slice o.p.a o.p.n o.p.c) P.preds.length rows.flatten ∧ WG.grownBy W (Value.ownBlock (.slice o.p.a o.p.n o.p.c)) ∧ W.ownsRow B 73 7 x (P.preds.length + 1) (rows.flatten ++ [.string (bs nm), .slice none 0 0, .string ⟨#[]⟩, .int .i64 (-1), .bool true, .int .i64 kn, .int .i64 ((tokAt ts sz i).pos : Int)])) (fun W => (At W rb 87 (rdc TA ts.length tc q19 sz o) ∧ At W (W2.heap.size) 73 #[.string (bs nm), .slice none 0 0, .string ⟨#[]⟩, .int .i64 (-1), .bool true, .int .i64 kn, .int .i64 ((tokAt ts sz i).pos : Int)])) (Pv :: Pv :: Pv :: Pv :: Pv :: Pv :: Pv :: Fv :: Fv :: []) ?hF (by kernel_rfl) (by kernel_rfl) (by kernel_rfl) (of_decide_eq_true (by kernel_rfl)) (by kernel_rfl) (by kernel_rfl) (by kernel_rfl) (by kernel_rfl) (by kernel_rfl) ?hW ?hJ ?hops ?htail
          case hF => (intro v; simp only [over, Act.put, List.setIfInBounds_toArray, List.set_cons_zero, List.set_cons_succ, Nat.zero_add, Nat.reduceAdd]; exact rfl)
          case hW =>
           intro _
           have hbN : Below W15.heap.size W15 W15.drew := (Below.refl W15.heap.size W15).drew
           exact ⟨⟨HBX.out.next hbN, HAX.out.next hbN⟩, hbN⟩
          case hJ =>
           intro p x W2 h
           match p, h with
           | 0, h => exact h.1
           | 1, h => exact h.1
           | _ + 2, h => exact h.1
          case hops =>
           refine ⟨?_, ?_⟩
           ·intro v w' hj hd K hK
            have hk := hK.out
            simp only [Act.put, List.setIfInBounds_toArray, List.set_cons_zero, List.set_cons_succ] at hk
            have HK := Lib.hid hk
            clear hd hk hK
            go_simp
            exact HK.out _ (show _ = _ from rfl)
           refine ⟨?_, ?_⟩
           ·intro v w' hj hd K hK
            have hk := hK.out
            simp only [Act.put, List.setIfInBounds_toArray, List.set_cons_zero, List.set_cons_succ] at hk
            have HK := Lib.hid hk
            clear hd hk hK
            go_simp
            exact HK.out _ (show _ = _ from rfl)
           refine ⟨?_, ?_⟩
           ·intro v w' hj hd K hK
            have t1 : v 1 = _ := hd.out 1 (by kernel_rfl) rfl
            have hk := hK.out
            simp only [t1, Act.put, List.setIfInBounds_toArray, List.set_cons_zero, List.set_cons_succ] at hk
            have HK := Lib.hid hk
            clear hd hk hK
            go_simp
            exact HK.out _ (show _ = _ from rfl)
           refine ⟨?_, ?_⟩
           ·intro v w' hj hd K hK
            have t2 : v 2 = _ := hd.out 2 (by kernel_rfl) rfl
            have hk := hK.out
            simp only [t2, Act.put, List.setIfInBounds_toArray, List.set_cons_zero, List.set_cons_succ] at hk
            have HK := Lib.hid hk
            clear hd hk hK
            go_simp
            exact HK.out _ (show _ = _ from rfl)
           refine ⟨?_, ?_⟩
           ·intro v w' hj hd K hK
            have t3 : v 3 = _ := hd.out 3 (by kernel_rfl) rfl
            have hk := hK.out
            simp only [t3, Act.put, List.setIfInBounds_toArray, List.set_cons_zero, List.set_cons_succ] at hk
            have HK := Lib.hid hk
            clear hd hk hK
            go_simp
            exact HK.out _ (show _ = _ from rfl)
           refine ⟨?_, ?_⟩
           ·intro v w' hj hd K hK
            have t4 : v 4 = _ := hd.out 4 (by kernel_rfl) rfl
            have yx : w'.cell? ⟨rb, 5, none⟩ = some (.slice o.p.a o.p.n o.p.c) := hj.out.1.cell 5
            have hk := hK.out
            simp only [t4, Act.put, List.setIfInBounds_toArray, List.set_cons_zero, List.set_cons_succ] at hk
            have HK := Lib.hid hk
            clear hd hk hK
            go_simp
            exact HK.out _ (show _ = _ from rfl)
           refine ⟨?_, ?_⟩
           ·intro v w' hj hd K hK
            have yx0 := hj.out.2.cell 0
            have yx1 := hj.out.2.cell 1
            have yx2 := hj.out.2.cell 2
            have yx3 := hj.out.2.cell 3
            have yx4 := hj.out.2.cell 4
            have yx5 := hj.out.2.cell 5
            have yx6 := hj.out.2.cell 6
            simp only [List.getElem?_toArray, List.getElem?_cons_zero, List.getElem?_cons_succ] at yx0 yx1 yx2 yx3 yx4 yx5 yx6
            have hk := hK.out
            simp only [Act.put, List.setIfInBounds_toArray, List.set_cons_zero, List.set_cons_succ] at hk
            have HK := Lib.hid hk
            clear hd hk hK
            go_simp
            exact HK.out _ (show _ = _ from rfl)
           refine ⟨?_, ?_⟩
           ·intro v w' x hw hx hd K hK
            have t6 : v 6 = _ := hd.out 6 (by kernel_rfl) rfl
            have hk := hK.out
            simp only [t6, Act.put, List.setIfInBounds_toArray, List.set_cons_zero, List.set_cons_succ] at hk
            have HK := Lib.hid hk
            obtain ⟨hj, hb0⟩ := hw.out
            clear hd hk hK
            go_simp
            have hbN : Below W15.heap.size W15 (w'.alloc (.cells #[.string (bs nm), .slice none 0 0, .string ⟨#[]⟩, .int .i64 (-1), .bool true, .int .i64 kn, .int .i64 ((tokAt ts sz i).pos : Int)] 73)) := hb0.alloc hb0.size _
            exact HK.out _ _ ⟨⟨HBX.out.next hbN, HAX.out.next hbN⟩, _, rfl, At.new _ _ _, hbN⟩
           refine ⟨?_, ?_⟩
           ·intro v w' x hw hx hd K hK
            have t5 : v 5 = _ := hd.out 5 (by kernel_rfl) rfl
            have t7 : v 7 = x := hx.out 7 _ rfl rfl
            have hk := hK.out
            rw [if_pos (show Region.wanted _ _ = true from rfl)]
            simp only [t5, t7] at hk ⊢
            have HK := Lib.hid hk
            obtain ⟨hj, bb, rfl, hbb, hb0⟩ := hw.out
            have hoN := own_below HROWS.out hb0
            clear hx hd hw
            refine wp_append_keep (.tmp 60) (.tmp 62) 31 rfl B 73 iT (.agg #[.string ⟨#[]⟩, .slice none 0 0, .string ⟨#[]⟩, .int .i64 0, .bool false, .int .i64 0, .int .i64 0]) 7 88 Tryd.underlying31 hi0 hi1 hi2 hi3 rfl (by decide) _ P.preds.length rows.flatten rfl hoN ⟨bb, 0, none⟩ 1 1 [.string (bs nm), .slice none 0 0, .string ⟨#[]⟩, .int .i64 (-1), .bool true, .int .i64 kn, .int .i64 ((tokAt ts sz i).pos : Int)] rfl rfl (At.news hbb) (by intro u hu; simp at hu; rcases hu with rfl | rfl | rfl | rfl | rfl | rfl | rfl <;> rfl) (by have := HP.out; unfold maxLen; omega) (by have := HP.out; omega) (Nat.le_trans HBS.out (Nat.le_trans hm20.size hb0.size)) fun v5 w5 o5 o6 g5 => ?_
            exact HK.out _ _ ⟨⟨hj.1.grown g5 (own_far hoN hj.1 (by decide)), hj.2.grown g5 HNB.out⟩, w', hb0, hoN, g5, o5⟩
           trivial
          case htail =>
           intro v w' x hw hx hd
           have t0 : v 0 = _ := hd.out 0 (by decide) rfl
           have t8 : v 8 = x := hx.out 8 _ rfl rfl
           simp only [t0, t8, List.drop_succ_cons, List.drop_zero]
           clear hx hd t0 t8
           obtain ⟨⟨hbx9, hax9⟩, WG, h91, h92, h93, h95⟩ := hw.out
           obtain ⟨A9, c9, rfl⟩ := own_len h95
           have y9 := hbx9.cell 5
           have f9 := hbx9.frozen 5
           have l9 := hbx9.lt
           clear hw
           go_wp2_with fail
           obtain ⟨e1, e2, e3, e4⟩ := end_preds (x := (⟨nm, [], [], true, kn, i⟩ : Px.Pr).ap (offI ts sz)) hr20 HOW.out HB.out h91 h92 HRR2.out h93 h95 HXR.out
           subst hRR
           first
            | go_end0
            | refine bodyPost_ret (results_none rfl _ _ _) rfl ?_
           exact ⟨rfl, (hm20.belowR hl).trans e3, (KeptX.mv HR.out hm20).trans e4, _, e1, e2⟩
       ·skip
        rw [Px.bind_ok hp] at hRR
        try dsimp only at hRR
        rw [if_neg (by simp)] at hRR
        have HC := Lib.hid (take_any hr14 Px.sKey (by decide))
        rw [hp] at HC
        clear hp
        rw [Px.bind_ret] at hRR
        try dsimp only at hRR
        go_wp2_with (go_at_call 42; refine (HC.out).mono ?_; rintro e W12 ⟨⟨_, rfl, rfl⟩, hn15, hr15⟩; have hm15 := hm14.trans hl hn15; have x_15 := hn15.at x_14 hnex; clear HC)
        cases hp : Px.need [59] (Px.kts ts) q11 with
        | fail q16 =>
         rw [Px.bind_fail (hp)] at hRR
         subst hRR
         have HC := Lib.hid (need_any hr15 [59] (by decide))
         rw [hp] at HC
         clear hp
         go_wp2_with (go_at_call 55; refine (HC.out).mono ?_; rintro e wF ⟨rfl, hnF, hrF⟩)
         exact ⟨rfl, IPost.failed HR.out HO.out HB.out (hm15.trans hl hnF) hrF⟩
        | ok u q16 =>
         rw [Px.bind_ok (hp)] at hRR
         try dsimp only at hRR
         have HC := Lib.hid (need_any hr15 [59] (by decide))
         rw [hp] at HC
         have HQ16 := Lib.hid hp
         clear hp
         go_wp2_with (go_at_call 55; refine (HC.out).mono ?_; rintro e W13 ⟨⟨_, rfl, rfl⟩, hn17, hr17⟩; have hm17 := hm15.trans hl hn17; have x_17 := hn17.at x_15 hnex; clear HC)
         have hoW := HO.out.mv HB.out HR.out.box hm17
         obtain ⟨rows, hrows, hrr⟩ := hoW.preds
         have HOW := Lib.hid hoW
         have HROWS := Lib.hid hrows
         have HRR2 := Lib.hid hrr
         have HXR := Lib.hid (show PrR W13 [.string (bs nm), .slice none 0 0, .string ⟨#[]⟩, .int .i64 (-1), .bool true, .int .i64 0, .int .i64 ((tokAt ts sz i).pos : Int)] ((⟨nm, [], [], true, 0, i⟩ : Px.Pr).ap (offI ts sz)) from ⟨_, rfl, TRow.nil _ _ _⟩)
         have HBX := Lib.hid hr17.box
         have HAX := Lib.hid x_17
         obtain ⟨iT, hi0, hi1, hi2, hi3⟩ := info_parts pred_info
         have HNB : Hid (some (W2.heap.size) ≠ Value.ownBlock (.slice o.p.a o.p.n o.p.c)) := Lib.hid (fun e => by
          obtain ⟨rows0, h0, _⟩ := HO.out.preds
          have h1 := (own_lt h0 e.symm).2
          have h2 := hBx
          omega)
         clear hoW hrows hrr
         refine' wp_region_chain 9 2 _ ([none, none, none, none, none, none, none, some 0, some 1] : List (Option Nat)) (fun p x W => match p with | 0 => (At W rb 87 (rdc TA ts.length tc q16 sz o) ∧ At W (W2.heap.size) 73 #[.string (bs nm), .slice none 0 0, .string ⟨#[]⟩, .int .i64 (-1), .bool true, .int .i64 0, .int .i64 ((tokAt ts sz i).pos : Int)]) ∧ Below W13.heap.size W13 W | 1 => (At W rb 87 (rdc TA ts.length tc q16 sz o) ∧ At W (W2.heap.size) 73 #[.string (bs nm), .slice none 0 0, .string ⟨#[]⟩, .int .i64 (-1), .bool true, .int .i64 0, .int .i64 ((tokAt ts sz i).pos : Int)]) ∧ ∃ bb, x = .slice (some ⟨bb, 0, none⟩) 1 1 ∧ At W bb 73 #[.string (bs nm), .slice none 0 0, .string ⟨#[]⟩, .int .i64 (-1), .bool true, .int .i64 0, .int .i64 ((tokAt ts sz i).pos : Int)] ∧ Below W13.heap.size W13 W | _ => (At W rb 87 (rdc TA ts.length tc q16 sz o) ∧ At W (W2.heap.size) 73 #[.string (bs nm), .slice none 0 0, .string ⟨#[]⟩, .int .i64 (-1), .bool true, .int .i64 0, .int .i64 ((tokAt ts sz i).pos : Int)]) ∧ ∃ WG, Below W13.heap.size W13 WG ∧ WG.ownsRow B 73 7 (.slice o.p.a o.p.n o.p.c) P.preds.length rows.flatten ∧ WG.grownBy W (Value.ownBlock (.slice o.p.a o.p.n o.p.c)) ∧ W.ownsRow B 73 7 x (P.preds.length + 1) (rows.flatten ++ [.string (bs nm), .slice none 0 0, .string ⟨#[]⟩, .int .i64 (-1), .bool true, .int .i64 0, .int .i64 ((tokAt ts sz i).pos : Int)])) (fun W => (At W rb 87 (rdc TA ts.length tc q16 sz o) ∧ At W (W2.heap.size) 73 #[.string (bs nm), .slice none 0 0, .string ⟨#[]⟩, .int .i64 (-1), .bool true, .int .i64 0, .int .i64 ((tokAt ts sz i).pos : Int)])) (Pv :: Pv :: Pv :: Pv :: Pv :: Pv :: Pv :: Fv :: Fv :: []) ?hF (by kernel_rfl) (by kernel_rfl) (by kernel_rfl) (of_decide_eq_true (by kernel_rfl)) (by kernel_rfl) (by kernel_rfl) (by kernel_rfl) (by kernel_rfl) (by kernel_rfl) ?hW ?hJ ?hops ?htail
         case hF => (intro v; simp only [over, Act.put, List.setIfInBounds_toArray, List.set_cons_zero, List.set_cons_succ, Nat.zero_add, Nat.reduceAdd]; exact rfl)
         case hW =>
          intro _
          have hbN : Below W13.heap.size W13 W13.drew := (Below.refl W13.heap.size W13).drew
          exact ⟨⟨HBX.out.next hbN, HAX.out.next hbN⟩, hbN⟩
         case hJ =>
          intro p x W2 h
          match p, h with
          | 0, h => exact h.1
          | 1, h => exact h.1
          | _ + 2, h => exact h.1
         case hops =>
          refine ⟨?_, ?_⟩
          ·intro v w' hj hd K hK
           have hk := hK.out
           simp only [Act.put, List.setIfInBounds_toArray, List.set_cons_zero, List.set_cons_succ] at hk
           have HK := Lib.hid hk
           clear hd hk hK
           go_simp
           exact HK.out _ (show _ = _ from rfl)
          refine ⟨?_, ?_⟩
          ·intro v w' hj hd K hK
           have hk := hK.out
           simp only [Act.put, List.setIfInBounds_toArray, List.set_cons_zero, List.set_cons_succ] at hk
           have HK := Lib.hid hk
           clear hd hk hK
           go_simp
           exact HK.out _ (show _ = _ from rfl)
          refine ⟨?_, ?_⟩
          ·intro v w' hj hd K hK
           have t1 : v 1 = _ := hd.out 1 (by kernel_rfl) rfl
           have hk := hK.out
           simp only [t1, Act.put, List.setIfInBounds_toArray, List.set_cons_zero, List.set_cons_succ] at hk
           have HK := Lib.hid hk
           clear hd hk hK
           go_simp
           exact HK.out _ (show _ = _ from rfl)
          refine ⟨?_, ?_⟩
          ·intro v w' hj hd K hK
           have t2 : v 2 = _ := hd.out 2 (by kernel_rfl) rfl
           have hk := hK.out
           simp only [t2, Act.put, List.setIfInBounds_toArray, List.set_cons_zero, List.set_cons_succ] at hk
           have HK := Lib.hid hk
           clear hd hk hK
           go_simp
           exact HK.out _ (show _ = _ from rfl)
          refine ⟨?_, ?_⟩
          ·intro v w' hj hd K hK
           have t3 : v 3 = _ := hd.out 3 (by kernel_rfl) rfl
           have hk := hK.out
           simp only [t3, Act.put, List.setIfInBounds_toArray, List.set_cons_zero, List.set_cons_succ] at hk
           have HK := Lib.hid hk
           clear hd hk hK
           go_simp
           exact HK.out _ (show _ = _ from rfl)
          refine ⟨?_, ?_⟩
          ·intro v w' hj hd K hK
           have t4 : v 4 = _ := hd.out 4 (by kernel_rfl) rfl
           have yx : w'.cell? ⟨rb, 5, none⟩ = some (.slice o.p.a o.p.n o.p.c) := hj.out.1.cell 5
           have hk := hK.out
           simp only [t4, Act.put, List.setIfInBounds_toArray, List.set_cons_zero, List.set_cons_succ] at hk
           have HK := Lib.hid hk
           clear hd hk hK
           go_simp
           exact HK.out _ (show _ = _ from rfl)
          refine ⟨?_, ?_⟩
          ·intro v w' hj hd K hK
           have yx0 := hj.out.2.cell 0
           have yx1 := hj.out.2.cell 1
           have yx2 := hj.out.2.cell 2
           have yx3 := hj.out.2.cell 3
           have yx4 := hj.out.2.cell 4
           have yx5 := hj.out.2.cell 5
           have yx6 := hj.out.2.cell 6
           simp only [List.getElem?_toArray, List.getElem?_cons_zero, List.getElem?_cons_succ] at yx0 yx1 yx2 yx3 yx4 yx5 yx6
           have hk := hK.out
           simp only [Act.put, List.setIfInBounds_toArray, List.set_cons_zero, List.set_cons_succ] at hk
           have HK := Lib.hid hk
           clear hd hk hK
           go_simp
           exact HK.out _ (show _ = _ from rfl)
          refine ⟨?_, ?_⟩
          ·intro v w' x hw hx hd K hK
           have t6 : v 6 = _ := hd.out 6 (by kernel_rfl) rfl
           have hk := hK.out
           simp only [t6, Act.put, List.setIfInBounds_toArray, List.set_cons_zero, List.set_cons_succ] at hk
           have HK := Lib.hid hk
           obtain ⟨hj, hb0⟩ := hw.out
           clear hd hk hK
           go_simp
           have hbN : Below W13.heap.size W13 (w'.alloc (.cells #[.string (bs nm), .slice none 0 0, .string ⟨#[]⟩, .int .i64 (-1), .bool true, .int .i64 0, .int .i64 ((tokAt ts sz i).pos : Int)] 73)) := hb0.alloc hb0.size _
           exact HK.out _ _ ⟨⟨HBX.out.next hbN, HAX.out.next hbN⟩, _, rfl, At.new _ _ _, hbN⟩
          refine ⟨?_, ?_⟩
          ·intro v w' x hw hx hd K hK
           have t5 : v 5 = _ := hd.out 5 (by kernel_rfl) rfl
           have t7 : v 7 = x := hx.out 7 _ rfl rfl
           have hk := hK.out
           rw [if_pos (show Region.wanted _ _ = true from rfl)]
           simp only [t5, t7] at hk ⊢
           have HK := Lib.hid hk
           obtain ⟨hj, bb, rfl, hbb, hb0⟩ := hw.out
           have hoN := own_below HROWS.out hb0
           clear hx hd hw
           refine wp_append_keep (.tmp 60) (.tmp 62) 31 rfl B 73 iT (.agg #[.string ⟨#[]⟩, .slice none 0 0, .string ⟨#[]⟩, .int .i64 0, .bool false, .int .i64 0, .int .i64 0]) 7 88 Tryd.underlying31 hi0 hi1 hi2 hi3 rfl (by decide) _ P.preds.length rows.flatten rfl hoN ⟨bb, 0, none⟩ 1 1 [.string (bs nm), .slice none 0 0, .string ⟨#[]⟩, .int .i64 (-1), .bool true, .int .i64 0, .int .i64 ((tokAt ts sz i).pos : Int)] rfl rfl (At.news hbb) (by intro u hu; simp at hu; rcases hu with rfl | rfl | rfl | rfl | rfl | rfl | rfl <;> rfl) (by have := HP.out; unfold maxLen; omega) (by have := HP.out; omega) (Nat.le_trans HBS.out (Nat.le_trans hm17.size hb0.size)) fun v5 w5 o5 o6 g5 => ?_
           exact HK.out _ _ ⟨⟨hj.1.grown g5 (own_far hoN hj.1 (by decide)), hj.2.grown g5 HNB.out⟩, w', hb0, hoN, g5, o5⟩
          trivial
         case htail =>
          intro v w' x hw hx hd
          have t0 : v 0 = _ := hd.out 0 (by decide) rfl
          have t8 : v 8 = x := hx.out 8 _ rfl rfl
          simp only [t0, t8, List.drop_succ_cons, List.drop_zero]
          clear hx hd t0 t8
          obtain ⟨⟨hbx9, hax9⟩, WG, h91, h92, h93, h95⟩ := hw.out
          obtain ⟨A9, c9, rfl⟩ := own_len h95
          have y9 := hbx9.cell 5
          have f9 := hbx9.frozen 5
          have l9 := hbx9.lt
          clear hw
          go_wp2_with fail
          obtain ⟨e1, e2, e3, e4⟩ := end_preds (x := (⟨nm, [], [], true, 0, i⟩ : Px.Pr).ap (offI ts sz)) hr17 HOW.out HB.out h91 h92 HRR2.out h93 h95 HXR.out
          subst hRR
          first
           | go_end0
           | refine bodyPost_ret (results_none rfl _ _ _) rfl ?_
          exact ⟨rfl, (hm17.belowR hl).trans e3, (KeptX.mv HR.out hm17).trans e4, _, e1, e2⟩
   ·skip
    have tE : ((bs (tokAt ts sz q8).text).toList == [41]) = false := (bs_eqc _ _).trans (decide_eq_false (by rw [← tx_at ts sz]; exact hx))
    have tN : ((bs (tokAt ts sz q8).text).toList != [41]) = true := by rw [bne, tE]; rfl
    have ff := fun W => field_tok1 (tokAt ts sz q8).kind 0 (tokAt ts sz q8).pos (bs (tokAt ts sz q8).text) W
    have HC := Lib.hid (peek0_any hr9)
    go_wp2_with (go_at_call 29; refine (HC.out).mono ?_; rintro e W8 ⟨rfl, hn10⟩; have hn10 := Mv.still hr9 hn10; have hr10 := hn10.rd hr9 hr9.few.2.2; have hm10 := hm9.trans hl hn10; have x_10 := hn10.at x_9 hnex; clear HC)
    clear tE tN ff
    cases hp : Px.list Px.column (Px.kts ts) q8 with
    | fail q11 =>
     rw [Px.bind_fail ((show Px.types (Px.kts ts) q8 = _ from (if_neg hx).trans hp))] at hRR
     subst hRR
     have HC := Lib.hid (list_column hr10)
     rw [hp] at HC
     clear hp
     go_wp2_with (go_at_call 80; refine (HC.out).mono ?_; rintro e wF ⟨rfl, hnF, hrF⟩)
     exact ⟨rfl, IPost.failed HR.out HO.out HB.out (hm10.trans hl hnF) hrF⟩
    | ok tys q11 =>
     rw [Px.bind_ok ((show Px.types (Px.kts ts) q8 = _ from (if_neg hx).trans hp))] at hRR
     try dsimp only at hRR
     have HC := Lib.hid (list_column hr10)
     rw [hp] at HC
     have HQ11 := Lib.hid hp
     clear hp
     go_wp2_with (go_at_call 80; refine (HC.out).mono ?_; rintro e W9 ⟨⟨tv, rfl, ho0⟩, hn12, hr12⟩; have hm12 := hm10.trans hl hn12; have x_12 := hn12.at x_10 hnex; obtain ⟨tA, tC, rfl⟩ := own_len ho0; have ty_12 := own_mono ho0 hm10.size; clear HC; have yx0 := x_12.cell 0; have yx1 := x_12.cell 1; have yx2 := x_12.cell 2; have yx3 := x_12.cell 3; have yx4 := x_12.cell 4; have yx5 := x_12.cell 5; have yx6 := x_12.cell 6; have fx0 := x_12.frozen 0; have fx1 := x_12.frozen 1; have fx2 := x_12.frozen 2; have fx3 := x_12.frozen 3; have fx4 := x_12.frozen 4; have fx5 := x_12.frozen 5; have fx6 := x_12.frozen 6; have ylx := x_12.lt; simp only [List.getElem?_toArray, List.getElem?_cons_zero, List.getElem?_cons_succ] at yx0 yx1 yx2 yx3 yx4 yx5 yx6)
     clear yx0 fx0 yx1 fx1 yx2 fx2 yx3 fx3 yx4 fx4 yx5 fx5 yx6 fx6 ylx
     have x_13 := (x_12.put 1 (.slice tA tys.length tC))
     simp only [List.setIfInBounds_toArray, List.set_cons_zero, List.set_cons_succ] at x_13
     have hm13 := hm12.after ((Below.refl (W2.heap.size) W9).setCell (p := ⟨W2.heap.size, 1, none⟩) (Nat.le_refl _) (.slice tA tys.length tC)) hBx
     have hr13 := hm13.rd HR.out hr12.few.2.2
     have ty_13 := ty_12
     replace ty_13 := own_putne ty_13 (p := ⟨W2.heap.size, 1, none⟩) (own_far ty_13 x_12 (by decide)) (.slice tA tys.length tC)
     have hz13 : (W9.setCell ⟨W2.heap.size, 1, none⟩ (.slice tA tys.length tC)).heap.size = W9.heap.size := (by simp : (W9.setCell ⟨W2.heap.size, 1, none⟩ (.slice tA tys.length tC)).heap.size = W9.heap.size).trans rfl
     generalize hw13 : (W9.setCell ⟨W2.heap.size, 1, none⟩ (.slice tA tys.length tC)) = W10 at x_13 hm13 hr13 ty_13 hz13 ⊢
     clear hw13
     cases hp : Px.need [41] (Px.kts ts) q11 with
     | fail q14 =>
      rw [Px.bind_fail (hp)] at hRR
      subst hRR
      have HC := Lib.hid (need_any hr13 [41] (by decide))
      rw [hp] at HC
      clear hp
      go_wp2_with (go_at_call 55; refine (HC.out).mono ?_; rintro e wF ⟨rfl, hnF, hrF⟩)
      exact ⟨rfl, IPost.failed HR.out HO.out HB.out (hm13.trans hl hnF) hrF⟩
     | ok u q14 =>
      rw [Px.bind_ok (hp)] at hRR
      try dsimp only at hRR
      have HC := Lib.hid (need_any hr13 [41] (by decide))
      rw [hp] at HC
      have HQ14 := Lib.hid hp
      clear hp
      go_wp2_with (go_at_call 55; refine (HC.out).mono ?_; rintro e W11 ⟨⟨_, rfl, rfl⟩, hn15, hr15⟩; have hm15 := hm13.trans hl hn15; have x_15 := hn15.at x_13 hnex; have ty_15 := own_mv hlB ty_13 hn15; clear HC; have yx0 := x_15.cell 0; have yx1 := x_15.cell 1; have yx2 := x_15.cell 2; have yx3 := x_15.cell 3; have yx4 := x_15.cell 4; have yx5 := x_15.cell 5; have yx6 := x_15.cell 6; have fx0 := x_15.frozen 0; have fx1 := x_15.frozen 1; have fx2 := x_15.frozen 2; have fx3 := x_15.frozen 3; have fx4 := x_15.frozen 4; have fx5 := x_15.frozen 5; have fx6 := x_15.frozen 6; have ylx := x_15.lt; simp only [List.getElem?_toArray, List.getElem?_cons_zero, List.getElem?_cons_succ] at yx0 yx1 yx2 yx3 yx4 yx5 yx6)
      clear yx0 fx0 yx1 fx1 yx2 fx2 yx3 fx3 yx4 fx4 yx5 fx5 yx6 fx6 ylx
      have x_16 := (x_15.put 5 (.int .i64 (tys.length : Int)))
      simp only [List.setIfInBounds_toArray, List.set_cons_zero, List.set_cons_succ] at x_16
      have hm16 := hm15.after ((Below.refl (W2.heap.size) W11).setCell (p := ⟨W2.heap.size, 5, none⟩) (Nat.le_refl _) (.int .i64 (tys.length : Int))) hBx
      have hr16 := hm16.rd HR.out hr15.few.2.2
      have ty_16 := ty_15
      replace ty_16 := own_putne ty_16 (p := ⟨W2.heap.size, 5, none⟩) (own_far ty_16 x_15 (by decide)) (.int .i64 (tys.length : Int))
      have hz16 : (W11.setCell ⟨W2.heap.size, 5, none⟩ (.int .i64 (tys.length : Int))).heap.size = W11.heap.size := (by simp : (W11.setCell ⟨W2.heap.size, 5, none⟩ (.int .i64 (tys.length : Int))).heap.size = W11.heap.size).trans rfl
      generalize hw16 : (W11.setCell ⟨W2.heap.size, 5, none⟩ (.int .i64 (tys.length : Int))) = W12 at x_16 hm16 hr16 ty_16 hz16 ⊢
      clear hw16
      unfold Px.predEnd at hRR
      simp only [Px.bind_assoc] at hRR
      rcases Px.take_two [58] (Px.kts ts) q14 with hp | hp
      ·skip
       rw [Px.bind_ok hp] at hRR
       try dsimp only at hRR
       first | rw [if_pos rfl] at hRR | rw [if_pos trivial] at hRR
       have HC := Lib.hid (take_any hr16 [58] (by decide))
       rw [hp] at HC
       clear hp
       try simp only [Px.bind_assoc] at hRR
       go_wp2_with (go_at_call 42; refine (HC.out).mono ?_; rintro e W13 ⟨⟨_, rfl, rfl⟩, hn17, hr17⟩; have hm17 := hm16.trans hl hn17; have x_17 := hn17.at x_16 hnex; have ty_17 := own_mv hlB ty_16 hn17; clear HC)
       cases hp : Px.word 1 (Px.kts ts) (q14 + 1) with
       | fail q18 =>
        rw [Px.bind_fail (hp)] at hRR
        subst hRR
        have HC := Lib.hid (pword_any hr17 1 (by omega))
        rw [hp] at HC
        clear hp
        go_wp2_with (go_at_call 43; refine (HC.out).mono ?_; rintro e wF ⟨rfl, hnF, hrF⟩)
        exact ⟨rfl, IPost.failed HR.out HO.out HB.out (hm17.trans hl hnF) hrF⟩
       | ok lt q18 =>
        rw [Px.bind_ok (hp)] at hRR
        try dsimp only at hRR
        have HC := Lib.hid (pword_any hr17 1 (by omega))
        rw [hp] at HC
        have HQ18 := Lib.hid hp
        clear hp
        go_wp2_with (go_at_call 43; refine (HC.out).mono ?_; rintro e W14 ⟨⟨_, rfl, rfl⟩, hn19, hr19⟩; have hm19 := hm17.trans hl hn19; have x_19 := hn19.at x_17 hnex; have ty_19 := own_mv hlB ty_17 hn19; clear HC; have yx0 := x_19.cell 0; have yx1 := x_19.cell 1; have yx2 := x_19.cell 2; have yx3 := x_19.cell 3; have yx4 := x_19.cell 4; have yx5 := x_19.cell 5; have yx6 := x_19.cell 6; have fx0 := x_19.frozen 0; have fx1 := x_19.frozen 1; have fx2 := x_19.frozen 2; have fx3 := x_19.frozen 3; have fx4 := x_19.frozen 4; have fx5 := x_19.frozen 5; have fx6 := x_19.frozen 6; have ylx := x_19.lt; simp only [List.getElem?_toArray, List.getElem?_cons_zero, List.getElem?_cons_succ] at yx0 yx1 yx2 yx3 yx4 yx5 yx6)
        clear yx0 fx0 yx1 fx1 yx2 fx2 yx3 fx3 yx4 fx4 yx5 fx5 yx6 fx6 ylx
        have x_20 := (x_19.put 2 (.string (bs lt)))
        simp only [List.setIfInBounds_toArray, List.set_cons_zero, List.set_cons_succ] at x_20
        have hm20 := hm19.after ((Below.refl (W2.heap.size) W14).setCell (p := ⟨W2.heap.size, 2, none⟩) (Nat.le_refl _) (.string (bs lt))) hBx
        have hr20 := hm20.rd HR.out hr19.few.2.2
        have ty_20 := ty_19
        replace ty_20 := own_putne ty_20 (p := ⟨W2.heap.size, 2, none⟩) (own_far ty_20 x_19 (by decide)) (.string (bs lt))
        have hz20 : (W14.setCell ⟨W2.heap.size, 2, none⟩ (.string (bs lt))).heap.size = W14.heap.size := (by simp : (W14.setCell ⟨W2.heap.size, 2, none⟩ (.string (bs lt))).heap.size = W14.heap.size).trans rfl
        generalize hw20 : (W14.setCell ⟨W2.heap.size, 2, none⟩ (.string (bs lt))) = W15 at x_20 hm20 hr20 ty_20 hz20 ⊢
        clear hw20
        rw [Px.bind_ret] at hRR
        try dsimp only at hRR
        cases hp : Px.need [59] (Px.kts ts) q18 with
        | fail q21 =>
         rw [Px.bind_fail (hp)] at hRR
         subst hRR
         have HC := Lib.hid (need_any hr20 [59] (by decide))
         rw [hp] at HC
         clear hp
         go_wp2_with (go_at_call 55; refine (HC.out).mono ?_; rintro e wF ⟨rfl, hnF, hrF⟩)
         exact ⟨rfl, IPost.failed HR.out HO.out HB.out (hm20.trans hl hnF) hrF⟩
        | ok u q21 =>
         rw [Px.bind_ok (hp)] at hRR
         try dsimp only at hRR
         have HC := Lib.hid (need_any hr20 [59] (by decide))
         rw [hp] at HC
         have HQ21 := Lib.hid hp
         clear hp
         go_wp2_with (go_at_call 55; refine (HC.out).mono ?_; rintro e W16 ⟨⟨_, rfl, rfl⟩, hn22, hr22⟩; have hm22 := hm20.trans hl hn22; have x_22 := hn22.at x_20 hnex; have ty_22 := own_mv hlB ty_20 hn22; clear HC)
         have hoW := HO.out.mv HB.out HR.out.box hm22
         obtain ⟨rows, hrows, hrr⟩ := hoW.preds
         have HOW := Lib.hid hoW
         have HROWS := Lib.hid hrows
         have HRR2 := Lib.hid hrr
         have HXR := Lib.hid (show PrR W16 [.string (bs nm), .slice tA tys.length tC, .string (bs lt), .int .i64 (-1), .bool bse, .int .i64 (tys.length : Int), .int .i64 ((tokAt ts sz i).pos : Int)] ((⟨nm, tys, lt, bse, (tys.length : Int), i⟩ : Px.Pr).ap (offI ts sz)) from ⟨_, rfl, TRow.of_own ty_22⟩)
         have HBX := Lib.hid hr22.box
         have HAX := Lib.hid x_22
         obtain ⟨iT, hi0, hi1, hi2, hi3⟩ := info_parts pred_info
         have HNB : Hid (some (W2.heap.size) ≠ Value.ownBlock (.slice o.p.a o.p.n o.p.c)) := Lib.hid (fun e => by
          obtain ⟨rows0, h0, _⟩ := HO.out.preds
          have h1 := (own_lt h0 e.symm).2
          have h2 := hBx
          omega)
         clear hoW hrows hrr
         refine' wp_region_chain 9 2 _ ([none, none, none, none, none, none, none, some 0, some 1] : List (Option Nat)) (fun p x W => match p with | 0 => (At W rb 87 (rdc TA ts.length tc q21 sz o) ∧ At W (W2.heap.size) 73 #[.string (bs nm), .slice tA tys.length tC, .string (bs lt), .int .i64 (-1), .bool bse, .int .i64 (tys.length : Int), .int .i64 ((tokAt ts sz i).pos : Int)]) ∧ Below W16.heap.size W16 W | 1 => (At W rb 87 (rdc TA ts.length tc q21 sz o) ∧ At W (W2.heap.size) 73 #[.string (bs nm), .slice tA tys.length tC, .string (bs lt), .int .i64 (-1), .bool bse, .int .i64 (tys.length : Int), .int .i64 ((tokAt ts sz i).pos : Int)]) ∧ ∃ bb, x = .slice (some ⟨bb, 0, none⟩) 1 1 ∧ At W bb 73 #[.string (bs nm), .slice tA tys.length tC, .string (bs lt), .int .i64 (-1), .bool bse, .int .i64 (tys.length : Int), .int .i64 ((tokAt ts sz i).pos : Int)] ∧ Below W16.heap.size W16 W | _ => (At W rb 87 (rdc TA ts.length tc q21 sz o) ∧ At W (W2.heap.size) 73 #[.string (bs nm), .slice tA tys.length tC, .string (bs lt), .int .i64 (-1), .bool bse, .int .i64 (tys.length : Int), .int .i64 ((tokAt ts sz i).pos : Int)]) ∧ ∃ WG, Below W16.heap.size W16 WG ∧ WG.ownsRow B 73 7 (.slice o.p.a o.p.n o.p.c) P.preds.length rows.flatten ∧ WG.grownBy W (Value.ownBlock (.slice o.p.a o.p.n o.p.c)) ∧ W.ownsRow B 73 7 x (P.preds.length + 1) (rows.flatten ++ [.string (bs nm), .slice tA tys.length tC, .string (bs lt), .int .i64 (-1), .bool bse, .int .i64 (tys.length : Int), .int .i64 ((tokAt ts sz i).pos : Int)])) (fun W => (At W rb 87 (rdc TA ts.length tc q21 sz o) ∧ At W (W2.heap.size) 73 #[.string (bs nm), .slice tA tys.length tC, .string (bs lt), .int .i64 (-1), .bool bse, .int .i64 (tys.length : Int), .int .i64 ((tokAt ts sz i).pos : Int)])) (Pv :: Pv :: Pv :: Pv :: Pv :: Pv :: Pv :: Fv :: Fv :: []) ?hF (by kernel_rfl) (by kernel_rfl) (by kernel_rfl) (of_decide_eq_true (by kernel_rfl)) (by kernel_rfl) (by kernel_rfl) (by kernel_rfl) (by kernel_rfl) (by kernel_rfl) ?hW ?hJ ?hops ?htail
         case hF => (intro v; simp only [over, Act.put, List.setIfInBounds_toArray, List.set_cons_zero, List.set_cons_succ, Nat.zero_add, Nat.reduceAdd]; exact rfl)
         case hW =>
          intro _
          have hbN : Below W16.heap.size W16 W16.drew := (Below.refl W16.heap.size W16).drew
          exact ⟨⟨HBX.out.next hbN, HAX.out.next hbN⟩, hbN⟩
         case hJ =>
          intro p x W2 h
          match p, h with
          | 0, h => exact h.1
          | 1, h => exact h.1
          | _ + 2, h => exact h.1
         case hops =>
          refine ⟨?_, ?_⟩
          ·intro v w' hj hd K hK
           have hk := hK.out
           simp only [Act.put, List.setIfInBounds_toArray, List.set_cons_zero, List.set_cons_succ] at hk
           have HK := Lib.hid hk
           clear hd hk hK
           go_simp
           exact HK.out _ (show _ = _ from rfl)
          refine ⟨?_, ?_⟩
          ·intro v w' hj hd K hK
           have hk := hK.out
           simp only [Act.put, List.setIfInBounds_toArray, List.set_cons_zero, List.set_cons_succ] at hk
           have HK := Lib.hid hk
           clear hd hk hK
           go_simp
           exact HK.out _ (show _ = _ from rfl)
          refine ⟨?_, ?_⟩
          ·intro v w' hj hd K hK
           have t1 : v 1 = _ := hd.out 1 (by kernel_rfl) rfl
           have hk := hK.out
           simp only [t1, Act.put, List.setIfInBounds_toArray, List.set_cons_zero, List.set_cons_succ] at hk
           have HK := Lib.hid hk
           clear hd hk hK
           go_simp
           exact HK.out _ (show _ = _ from rfl)
          refine ⟨?_, ?_⟩
          ·intro v w' hj hd K hK
           have t2 : v 2 = _ := hd.out 2 (by kernel_rfl) rfl
           have hk := hK.out
           simp only [t2, Act.put, List.setIfInBounds_toArray, List.set_cons_zero, List.set_cons_succ] at hk
           have HK := Lib.hid hk
           clear hd hk hK
           go_simp
           exact HK.out _ (show _ = _ from rfl)
          refine ⟨?_, ?_⟩
          ·intro v w' hj hd K hK
           have t3 : v 3 = _ := hd.out 3 (by kernel_rfl) rfl
           have hk := hK.out
           simp only [t3, Act.put, List.setIfInBounds_toArray, List.set_cons_zero, List.set_cons_succ] at hk
           have HK := Lib.hid hk
           clear hd hk hK
           go_simp
           exact HK.out _ (show _ = _ from rfl)
          refine ⟨?_, ?_⟩
          ·intro v w' hj hd K hK
           have t4 : v 4 = _ := hd.out 4 (by kernel_rfl) rfl
           have yx : w'.cell? ⟨rb, 5, none⟩ = some (.slice o.p.a o.p.n o.p.c) := hj.out.1.cell 5
           have hk := hK.out
           simp only [t4, Act.put, List.setIfInBounds_toArray, List.set_cons_zero, List.set_cons_succ] at hk
           have HK := Lib.hid hk
           clear hd hk hK
           go_simp
           exact HK.out _ (show _ = _ from rfl)
          refine ⟨?_, ?_⟩
          ·intro v w' hj hd K hK
           have yx0 := hj.out.2.cell 0
           have yx1 := hj.out.2.cell 1
           have yx2 := hj.out.2.cell 2
           have yx3 := hj.out.2.cell 3
           have yx4 := hj.out.2.cell 4
           have yx5 := hj.out.2.cell 5
           have yx6 := hj.out.2.cell 6
           simp only [List.getElem?_toArray, List.getElem?_cons_zero, List.getElem?_cons_succ] at yx0 yx1 yx2 yx3 yx4 yx5 yx6
           have hk := hK.out
           simp only [Act.put, List.setIfInBounds_toArray, List.set_cons_zero, List.set_cons_succ] at hk
           have HK := Lib.hid hk
           clear hd hk hK
           go_simp
           exact HK.out _ (show _ = _ from rfl)
          refine ⟨?_, ?_⟩
          ·intro v w' x hw hx hd K hK
           have t6 : v 6 = _ := hd.out 6 (by kernel_rfl) rfl
           have hk := hK.out
           simp only [t6, Act.put, List.setIfInBounds_toArray, List.set_cons_zero, List.set_cons_succ] at hk
           have HK := Lib.hid hk
           obtain ⟨hj, hb0⟩ := hw.out
           clear hd hk hK
           go_simp
           have hbN : Below W16.heap.size W16 (w'.alloc (.cells #[.string (bs nm), .slice tA tys.length tC, .string (bs lt), .int .i64 (-1), .bool bse, .int .i64 (tys.length : Int), .int .i64 ((tokAt ts sz i).pos : Int)] 73)) := hb0.alloc hb0.size _
           exact HK.out _ _ ⟨⟨HBX.out.next hbN, HAX.out.next hbN⟩, _, rfl, At.new _ _ _, hbN⟩
          refine ⟨?_, ?_⟩
          ·intro v w' x hw hx hd K hK
           have t5 : v 5 = _ := hd.out 5 (by kernel_rfl) rfl
           have t7 : v 7 = x := hx.out 7 _ rfl rfl
           have hk := hK.out
           rw [if_pos (show Region.wanted _ _ = true from rfl)]
           simp only [t5, t7] at hk ⊢
           have HK := Lib.hid hk
           obtain ⟨hj, bb, rfl, hbb, hb0⟩ := hw.out
           have hoN := own_below HROWS.out hb0
           clear hx hd hw
           refine wp_append_keep (.tmp 60) (.tmp 62) 31 rfl B 73 iT (.agg #[.string ⟨#[]⟩, .slice none 0 0, .string ⟨#[]⟩, .int .i64 0, .bool false, .int .i64 0, .int .i64 0]) 7 88 Tryd.underlying31 hi0 hi1 hi2 hi3 rfl (by decide) _ P.preds.length rows.flatten rfl hoN ⟨bb, 0, none⟩ 1 1 [.string (bs nm), .slice tA tys.length tC, .string (bs lt), .int .i64 (-1), .bool bse, .int .i64 (tys.length : Int), .int .i64 ((tokAt ts sz i).pos : Int)] rfl rfl (At.news hbb) (by intro u hu; simp at hu; rcases hu with rfl | rfl | rfl | rfl | rfl | rfl | rfl <;> rfl) (by have := HP.out; unfold maxLen; omega) (by have := HP.out; omega) (Nat.le_trans HBS.out (Nat.le_trans hm22.size hb0.size)) fun v5 w5 o5 o6 g5 => ?_
           exact HK.out _ _ ⟨⟨hj.1.grown g5 (own_far hoN hj.1 (by decide)), hj.2.grown g5 HNB.out⟩, w', hb0, hoN, g5, o5⟩
          trivial
         case htail =>
          intro v w' x hw hx hd
          have t0 : v 0 = _ := hd.out 0 (by decide) rfl
          have t8 : v 8 = x := hx.out 8 _ rfl rfl
          simp only [t0, t8, List.drop_succ_cons, List.drop_zero]
          clear hx hd t0 t8
          obtain ⟨⟨hbx9, hax9⟩, WG, h91, h92, h93, h95⟩ := hw.out
          obtain ⟨A9, c9, rfl⟩ := own_len h95
          have y9 := hbx9.cell 5
          have f9 := hbx9.frozen 5
          have l9 := hbx9.lt
          clear hw
          go_wp2_with fail
          obtain ⟨e1, e2, e3, e4⟩ := end_preds (x := (⟨nm, tys, lt, bse, (tys.length : Int), i⟩ : Px.Pr).ap (offI ts sz)) hr22 HOW.out HB.out h91 h92 HRR2.out h93 h95 HXR.out
          subst hRR
          first
           | go_end0
           | refine bodyPost_ret (results_none rfl _ _ _) rfl ?_
          exact ⟨rfl, (hm22.belowR hl).trans e3, (KeptX.mv HR.out hm22).trans e4, _, e1, e2⟩
      ·skip
       rw [Px.bind_ok hp] at hRR
       try dsimp only at hRR
       rw [if_neg (by simp)] at hRR
       have HC := Lib.hid (take_any hr16 [58] (by decide))
       rw [hp] at HC
       clear hp
       cases bse
       ·skip
        rw [if_neg (by simp)] at hRR
        rw [Px.bind_ret] at hRR
        try dsimp only at hRR
        go_wp2_with (go_at_call 42; refine (HC.out).mono ?_; rintro e W13 ⟨⟨_, rfl, rfl⟩, hn17, hr17⟩; have hm17 := hm16.trans hl hn17; have x_17 := hn17.at x_16 hnex; have ty_17 := own_mv hlB ty_16 hn17; clear HC; have yx0 := x_17.cell 0; have yx1 := x_17.cell 1; have yx2 := x_17.cell 2; have yx3 := x_17.cell 3; have yx4 := x_17.cell 4; have yx5 := x_17.cell 5; have yx6 := x_17.cell 6; have fx0 := x_17.frozen 0; have fx1 := x_17.frozen 1; have fx2 := x_17.frozen 2; have fx3 := x_17.frozen 3; have fx4 := x_17.frozen 4; have fx5 := x_17.frozen 5; have fx6 := x_17.frozen 6; have ylx := x_17.lt; simp only [List.getElem?_toArray, List.getElem?_cons_zero, List.getElem?_cons_succ] at yx0 yx1 yx2 yx3 yx4 yx5 yx6)
        clear yx0 fx0 yx1 fx1 yx2 fx2 yx3 fx3 yx4 fx4 yx5 fx5 yx6 fx6 ylx
        cases hp : Px.need [59] (Px.kts ts) q14 with
        | fail q18 =>
         rw [Px.bind_fail (hp)] at hRR
         subst hRR
         have HC := Lib.hid (need_any hr17 [59] (by decide))
         rw [hp] at HC
         clear hp
         go_wp2_with (go_at_call 55; refine (HC.out).mono ?_; rintro e wF ⟨rfl, hnF, hrF⟩)
         exact ⟨rfl, IPost.failed HR.out HO.out HB.out (hm17.trans hl hnF) hrF⟩
        | ok u q18 =>
         rw [Px.bind_ok (hp)] at hRR
         try dsimp only at hRR
         have HC := Lib.hid (need_any hr17 [59] (by decide))
         rw [hp] at HC
         have HQ18 := Lib.hid hp
         clear hp
         go_wp2_with (go_at_call 55; refine (HC.out).mono ?_; rintro e W14 ⟨⟨_, rfl, rfl⟩, hn19, hr19⟩; have hm19 := hm17.trans hl hn19; have x_19 := hn19.at x_17 hnex; have ty_19 := own_mv hlB ty_17 hn19; clear HC)
         have hoW := HO.out.mv HB.out HR.out.box hm19
         obtain ⟨rows, hrows, hrr⟩ := hoW.preds
         have HOW := Lib.hid hoW
         have HROWS := Lib.hid hrows
         have HRR2 := Lib.hid hrr
         have HXR := Lib.hid (show PrR W14 [.string (bs nm), .slice tA tys.length tC, .string ⟨#[]⟩, .int .i64 (-1), .bool false, .int .i64 (tys.length : Int), .int .i64 ((tokAt ts sz i).pos : Int)] ((⟨nm, tys, [], false, (tys.length : Int), i⟩ : Px.Pr).ap (offI ts sz)) from ⟨_, rfl, TRow.of_own ty_19⟩)
         have HBX := Lib.hid hr19.box
         have HAX := Lib.hid x_19
         obtain ⟨iT, hi0, hi1, hi2, hi3⟩ := info_parts pred_info
         have HNB : Hid (some (W2.heap.size) ≠ Value.ownBlock (.slice o.p.a o.p.n o.p.c)) := Lib.hid (fun e => by
          obtain ⟨rows0, h0, _⟩ := HO.out.preds
          have h1 := (own_lt h0 e.symm).2
          have h2 := hBx
          omega)
         clear hoW hrows hrr
         refine' wp_region_chain 9 2 _ ([none, none, none, none, none, none, none, some 0, some 1] : List (Option Nat)) (fun p x W => match p with | 0 => (At W rb 87 (rdc TA ts.length tc q18 sz o) ∧ At W (W2.heap.size) 73 #[.string (bs nm), .slice tA tys.length tC, .string ⟨#[]⟩, .int .i64 (-1), .bool false, .int .i64 (tys.length : Int), .int .i64 ((tokAt ts sz i).pos : Int)]) ∧ Below W14.heap.size W14 W | 1 => (At W rb 87 (rdc TA ts.length tc q18 sz o) ∧ At W (W2.heap.size) 73 #[.string (bs nm), .slice tA tys.length tC, .string ⟨#[]⟩, .int .i64 (-1), .bool false, .int .i64 (tys.length : Int), .int .i64 ((tokAt ts sz i).pos : Int)]) ∧ ∃ bb, x = .slice (some ⟨bb, 0, none⟩) 1 1 ∧ At W bb 73 #[.string (bs nm), .slice tA tys.length tC, .string ⟨#[]⟩, .int .i64 (-1), .bool false, .int .i64 (tys.length : Int), .int .i64 ((tokAt ts sz i).pos : Int)] ∧ Below W14.heap.size W14 W | _ => (At W rb 87 (rdc TA ts.length tc q18 sz o) ∧ At W (W2.heap.size) 73 #[.string (bs nm), .slice tA tys.length tC, .string ⟨#[]⟩, .int .i64 (-1), .bool false, .int .i64 (tys.length : Int), .int .i64 ((tokAt ts sz i).pos : Int)]) ∧ ∃ WG, Below W14.heap.size W14 WG ∧ WG.ownsRow B 73 7 (.slice o.p.a o.p.n o.p.c) P.preds.length rows.flatten ∧ WG.grownBy W (Value.ownBlock (.slice o.p.a o.p.n o.p.c)) ∧ W.ownsRow B 73 7 x (P.preds.length + 1) (rows.flatten ++ [.string (bs nm), .slice tA tys.length tC, .string ⟨#[]⟩, .int .i64 (-1), .bool false, .int .i64 (tys.length : Int), .int .i64 ((tokAt ts sz i).pos : Int)])) (fun W => (At W rb 87 (rdc TA ts.length tc q18 sz o) ∧ At W (W2.heap.size) 73 #[.string (bs nm), .slice tA tys.length tC, .string ⟨#[]⟩, .int .i64 (-1), .bool false, .int .i64 (tys.length : Int), .int .i64 ((tokAt ts sz i).pos : Int)])) (Pv :: Pv :: Pv :: Pv :: Pv :: Pv :: Pv :: Fv :: Fv :: []) ?hF (by kernel_rfl) (by kernel_rfl) (by kernel_rfl) (of_decide_eq_true (by kernel_rfl)) (by kernel_rfl) (by kernel_rfl) (by kernel_rfl) (by kernel_rfl) (by kernel_rfl) ?hW ?hJ ?hops ?htail
         case hF => (intro v; simp only [over, Act.put, List.setIfInBounds_toArray, List.set_cons_zero, List.set_cons_succ, Nat.zero_add, Nat.reduceAdd]; exact rfl)
         case hW =>
          intro _
          have hbN : Below W14.heap.size W14 W14.drew := (Below.refl W14.heap.size W14).drew
          exact ⟨⟨HBX.out.next hbN, HAX.out.next hbN⟩, hbN⟩
         case hJ =>
          intro p x W2 h
          match p, h with
          | 0, h => exact h.1
          | 1, h => exact h.1
          | _ + 2, h => exact h.1
         case hops =>
          refine ⟨?_, ?_⟩
          ·intro v w' hj hd K hK
           have hk := hK.out
           simp only [Act.put, List.setIfInBounds_toArray, List.set_cons_zero, List.set_cons_succ] at hk
           have HK := Lib.hid hk
           clear hd hk hK
           go_simp
           exact HK.out _ (show _ = _ from rfl)
          refine ⟨?_, ?_⟩
          ·intro v w' hj hd K hK
           have hk := hK.out
           simp only [Act.put, List.setIfInBounds_toArray, List.set_cons_zero, List.set_cons_succ] at hk
           have HK := Lib.hid hk
           clear hd hk hK
           go_simp
           exact HK.out _ (show _ = _ from rfl)
          refine ⟨?_, ?_⟩
          ·intro v w' hj hd K hK
           have t1 : v 1 = _ := hd.out 1 (by kernel_rfl) rfl
           have hk := hK.out
           simp only [t1, Act.put, List.setIfInBounds_toArray, List.set_cons_zero, List.set_cons_succ] at hk
           have HK := Lib.hid hk
           clear hd hk hK
           go_simp
           exact HK.out _ (show _ = _ from rfl)
          refine ⟨?_, ?_⟩
          ·intro v w' hj hd K hK
           have t2 : v 2 = _ := hd.out 2 (by kernel_rfl) rfl
           have hk := hK.out
           simp only [t2, Act.put, List.setIfInBounds_toArray, List.set_cons_zero, List.set_cons_succ] at hk
           have HK := Lib.hid hk
           clear hd hk hK
           go_simp
           exact HK.out _ (show _ = _ from rfl)
          refine ⟨?_, ?_⟩
          ·intro v w' hj hd K hK
           have t3 : v 3 = _ := hd.out 3 (by kernel_rfl) rfl
           have hk := hK.out
           simp only [t3, Act.put, List.setIfInBounds_toArray, List.set_cons_zero, List.set_cons_succ] at hk
           have HK := Lib.hid hk
           clear hd hk hK
           go_simp
           exact HK.out _ (show _ = _ from rfl)
          refine ⟨?_, ?_⟩
          ·intro v w' hj hd K hK
           have t4 : v 4 = _ := hd.out 4 (by kernel_rfl) rfl
           have yx : w'.cell? ⟨rb, 5, none⟩ = some (.slice o.p.a o.p.n o.p.c) := hj.out.1.cell 5
           have hk := hK.out
           simp only [t4, Act.put, List.setIfInBounds_toArray, List.set_cons_zero, List.set_cons_succ] at hk
           have HK := Lib.hid hk
           clear hd hk hK
           go_simp
           exact HK.out _ (show _ = _ from rfl)
          refine ⟨?_, ?_⟩
          ·intro v w' hj hd K hK
           have yx0 := hj.out.2.cell 0
           have yx1 := hj.out.2.cell 1
           have yx2 := hj.out.2.cell 2
           have yx3 := hj.out.2.cell 3
           have yx4 := hj.out.2.cell 4
           have yx5 := hj.out.2.cell 5
           have yx6 := hj.out.2.cell 6
           simp only [List.getElem?_toArray, List.getElem?_cons_zero, List.getElem?_cons_succ] at yx0 yx1 yx2 yx3 yx4 yx5 yx6
           have hk := hK.out
           simp only [Act.put, List.setIfInBounds_toArray, List.set_cons_zero, List.set_cons_succ] at hk
           have HK := Lib.hid hk
           clear hd hk hK
           go_simp
           exact HK.out _ (show _ = _ from rfl)
          refine ⟨?_, ?_⟩
          ·intro v w' x hw hx hd K hK
           have t6 : v 6 = _ := hd.out 6 (by kernel_rfl) rfl
           have hk := hK.out
           simp only [t6, Act.put, List.setIfInBounds_toArray, List.set_cons_zero, List.set_cons_succ] at hk
           have HK := Lib.hid hk
           obtain ⟨hj, hb0⟩ := hw.out
           clear hd hk hK
           go_simp
           have hbN : Below W14.heap.size W14 (w'.alloc (.cells #[.string (bs nm), .slice tA tys.length tC, .string ⟨#[]⟩, .int .i64 (-1), .bool false, .int .i64 (tys.length : Int), .int .i64 ((tokAt ts sz i).pos : Int)] 73)) := hb0.alloc hb0.size _
           exact HK.out _ _ ⟨⟨HBX.out.next hbN, HAX.out.next hbN⟩, _, rfl, At.new _ _ _, hbN⟩
          refine ⟨?_, ?_⟩
          ·intro v w' x hw hx hd K hK
           have t5 : v 5 = _ := hd.out 5 (by kernel_rfl) rfl
           have t7 : v 7 = x := hx.out 7 _ rfl rfl
           have hk := hK.out
           rw [if_pos (show Region.wanted _ _ = true from rfl)]
           simp only [t5, t7] at hk ⊢
           have HK := Lib.hid hk
           obtain ⟨hj, bb, rfl, hbb, hb0⟩ := hw.out
           have hoN := own_below HROWS.out hb0
           clear hx hd hw
           refine wp_append_keep (.tmp 60) (.tmp 62) 31 rfl B 73 iT (.agg #[.string ⟨#[]⟩, .slice none 0 0, .string ⟨#[]⟩, .int .i64 0, .bool false, .int .i64 0, .int .i64 0]) 7 88 Tryd.underlying31 hi0 hi1 hi2 hi3 rfl (by decide) _ P.preds.length rows.flatten rfl hoN ⟨bb, 0, none⟩ 1 1 [.string (bs nm), .slice tA tys.length tC, .string ⟨#[]⟩, .int .i64 (-1), .bool false, .int .i64 (tys.length : Int), .int .i64 ((tokAt ts sz i).pos : Int)] rfl rfl (At.news hbb) (by intro u hu; simp at hu; rcases hu with rfl | rfl | rfl | rfl | rfl | rfl | rfl <;> rfl) (by have := HP.out; unfold maxLen; omega) (by have := HP.out; omega) (Nat.le_trans HBS.out (Nat.le_trans hm19.size hb0.size)) fun v5 w5 o5 o6 g5 => ?_
           exact HK.out _ _ ⟨⟨hj.1.grown g5 (own_far hoN hj.1 (by decide)), hj.2.grown g5 HNB.out⟩, w', hb0, hoN, g5, o5⟩
          trivial
         case htail =>
          intro v w' x hw hx hd
          have t0 : v 0 = _ := hd.out 0 (by decide) rfl
          have t8 : v 8 = x := hx.out 8 _ rfl rfl
          simp only [t0, t8, List.drop_succ_cons, List.drop_zero]
          clear hx hd t0 t8
          obtain ⟨⟨hbx9, hax9⟩, WG, h91, h92, h93, h95⟩ := hw.out
          obtain ⟨A9, c9, rfl⟩ := own_len h95
          have y9 := hbx9.cell 5
          have f9 := hbx9.frozen 5
          have l9 := hbx9.lt
          clear hw
          go_wp2_with fail
          obtain ⟨e1, e2, e3, e4⟩ := end_preds (x := (⟨nm, tys, [], false, (tys.length : Int), i⟩ : Px.Pr).ap (offI ts sz)) hr19 HOW.out HB.out h91 h92 HRR2.out h93 h95 HXR.out
          subst hRR
          first
           | go_end0
           | refine bodyPost_ret (results_none rfl _ _ _) rfl ?_
          exact ⟨rfl, (hm19.belowR hl).trans e3, (KeptX.mv HR.out hm19).trans e4, _, e1, e2⟩
       ·skip
        first | rw [if_pos rfl] at hRR | rw [if_pos trivial] at hRR
        try simp only [Px.bind_assoc] at hRR
        go_wp2_with (go_at_call 42; refine (HC.out).mono ?_; rintro e W13 ⟨⟨_, rfl, rfl⟩, hn17, hr17⟩; have hm17 := hm16.trans hl hn17; have x_17 := hn17.at x_16 hnex; have ty_17 := own_mv hlB ty_16 hn17; clear HC; have yx0 := x_17.cell 0; have yx1 := x_17.cell 1; have yx2 := x_17.cell 2; have yx3 := x_17.cell 3; have yx4 := x_17.cell 4; have yx5 := x_17.cell 5; have yx6 := x_17.cell 6; have fx0 := x_17.frozen 0; have fx1 := x_17.frozen 1; have fx2 := x_17.frozen 2; have fx3 := x_17.frozen 3; have fx4 := x_17.frozen 4; have fx5 := x_17.frozen 5; have fx6 := x_17.frozen 6; have ylx := x_17.lt; simp only [List.getElem?_toArray, List.getElem?_cons_zero, List.getElem?_cons_succ] at yx0 yx1 yx2 yx3 yx4 yx5 yx6)
        clear yx0 fx0 yx1 fx1 yx2 fx2 yx3 fx3 yx4 fx4 yx5 fx5 yx6 fx6 ylx
        rcases Px.take_two Px.sKey (Px.kts ts) q14 with hp | hp
        ·skip
         rw [Px.bind_ok hp] at hRR
         try dsimp only at hRR
         first | rw [if_pos rfl] at hRR | rw [if_pos trivial] at hRR
         have HC := Lib.hid (take_any hr17 Px.sKey (by decide))
         rw [hp] at HC
         clear hp
         try simp only [Px.bind_assoc] at hRR
         go_wp2_with (go_at_call 42; refine (HC.out).mono ?_; rintro e W14 ⟨⟨_, rfl, rfl⟩, hn18, hr18⟩; have hm18 := hm17.trans hl hn18; have x_18 := hn18.at x_17 hnex; have ty_18 := own_mv hlB ty_17 hn18; clear HC)
         cases hp : Px.number (Px.kts ts) (q14 + 1) with
         | fail q19 =>
          rw [Px.bind_fail (hp)] at hRR
          subst hRR
          have HC := Lib.hid (number_any hr18)
          rw [hp] at HC
          clear hp
          go_wp2_with (go_at_call 67; refine (HC.out).mono ?_; rintro e wF ⟨rfl, hnF, hrF⟩)
          exact ⟨rfl, IPost.failed HR.out HO.out HB.out (hm18.trans hl hnF) hrF⟩
         | ok kn q19 =>
          rw [Px.bind_ok (hp)] at hRR
          try dsimp only at hRR
          have HC := Lib.hid (number_any hr18)
          rw [hp] at HC
          have HQ19 := Lib.hid hp
          clear hp
          go_wp2_with (go_at_call 67; refine (HC.out).mono ?_; rintro e W15 ⟨⟨_, rfl, rfl⟩, hn20, hr20⟩; have hm20 := hm18.trans hl hn20; have x_20 := hn20.at x_18 hnex; have ty_20 := own_mv hlB ty_18 hn20; clear HC; have yx0 := x_20.cell 0; have yx1 := x_20.cell 1; have yx2 := x_20.cell 2; have yx3 := x_20.cell 3; have yx4 := x_20.cell 4; have yx5 := x_20.cell 5; have yx6 := x_20.cell 6; have fx0 := x_20.frozen 0; have fx1 := x_20.frozen 1; have fx2 := x_20.frozen 2; have fx3 := x_20.frozen 3; have fx4 := x_20.frozen 4; have fx5 := x_20.frozen 5; have fx6 := x_20.frozen 6; have ylx := x_20.lt; simp only [List.getElem?_toArray, List.getElem?_cons_zero, List.getElem?_cons_succ] at yx0 yx1 yx2 yx3 yx4 yx5 yx6)
          clear yx0 fx0 yx1 fx1 yx2 fx2 yx3 fx3 yx4 fx4 yx5 fx5 yx6 fx6 ylx
          have x_21 := (x_20.put 5 (.int .i64 kn))
          simp only [List.setIfInBounds_toArray, List.set_cons_zero, List.set_cons_succ] at x_21
          have hm21 := hm20.after ((Below.refl (W2.heap.size) W15).setCell (p := ⟨W2.heap.size, 5, none⟩) (Nat.le_refl _) (.int .i64 kn)) hBx
          have hr21 := hm21.rd HR.out hr20.few.2.2
          have ty_21 := ty_20
          replace ty_21 := own_putne ty_21 (p := ⟨W2.heap.size, 5, none⟩) (own_far ty_21 x_20 (by decide)) (.int .i64 kn)
          have hz21 : (W15.setCell ⟨W2.heap.size, 5, none⟩ (.int .i64 kn)).heap.size = W15.heap.size := (by simp : (W15.setCell ⟨W2.heap.size, 5, none⟩ (.int .i64 kn)).heap.size = W15.heap.size).trans rfl
          generalize hw21 : (W15.setCell ⟨W2.heap.size, 5, none⟩ (.int .i64 kn)) = W16 at x_21 hm21 hr21 ty_21 hz21 ⊢
          clear hw21
          rw [Px.bind_ret] at hRR
          try dsimp only at hRR
          cases hp : Px.need [59] (Px.kts ts) q19 with
          | fail q22 =>
           rw [Px.bind_fail (hp)] at hRR
           subst hRR
           have HC := Lib.hid (need_any hr21 [59] (by decide))
           rw [hp] at HC
           clear hp
           go_wp2_with (go_at_call 55; refine (HC.out).mono ?_; rintro e wF ⟨rfl, hnF, hrF⟩)
           exact ⟨rfl, IPost.failed HR.out HO.out HB.out (hm21.trans hl hnF) hrF⟩
          | ok u q22 =>
           rw [Px.bind_ok (hp)] at hRR
           try dsimp only at hRR
           have HC := Lib.hid (need_any hr21 [59] (by decide))
           rw [hp] at HC
           have HQ22 := Lib.hid hp
           clear hp
           go_wp2_with (go_at_call 55; refine (HC.out).mono ?_; rintro e W17 ⟨⟨_, rfl, rfl⟩, hn23, hr23⟩; have hm23 := hm21.trans hl hn23; have x_23 := hn23.at x_21 hnex; have ty_23 := own_mv hlB ty_21 hn23; clear HC)
           have hoW := HO.out.mv HB.out HR.out.box hm23
           obtain ⟨rows, hrows, hrr⟩ := hoW.preds
           have HOW := Lib.hid hoW
           have HROWS := Lib.hid hrows
           have HRR2 := Lib.hid hrr
           have HXR := Lib.hid (show PrR W17 [.string (bs nm), .slice tA tys.length tC, .string ⟨#[]⟩, .int .i64 (-1), .bool true, .int .i64 kn, .int .i64 ((tokAt ts sz i).pos : Int)] ((⟨nm, tys, [], true, kn, i⟩ : Px.Pr).ap (offI ts sz)) from ⟨_, rfl, TRow.of_own ty_23⟩)
           have HBX := Lib.hid hr23.box
           have HAX := Lib.hid x_23
           obtain ⟨iT, hi0, hi1, hi2, hi3⟩ := info_parts pred_info
           have HNB : Hid (some (W2.heap.size) ≠ Value.ownBlock (.slice o.p.a o.p.n o.p.c)) := Lib.hid (fun e => by
            obtain ⟨rows0, h0, _⟩ := HO.out.preds
            have h1 := (own_lt h0 e.symm).2
            have h2 := hBx
            omega)
           clear hoW hrows hrr
           refine' wp_region_chain 9 2 _ ([none, none, none, none, none, none, none, some 0, some 1] : List (Option Nat)) (fun p x W => match p with | 0 => (At W rb 87 (rdc TA ts.length tc q22 sz o) ∧ At W (W2.heap.size) 73 #[.string (bs nm), .slice tA tys.length tC, .string ⟨#[]⟩, .int .i64 (-1), .bool true, .int .i64 kn, .int .i64 ((tokAt ts sz i).pos : Int)]) ∧ Below W17.heap.size W17 W | 1 => (At W rb 87 (rdc TA ts.length tc q22 sz o) ∧ At W (W2.heap.size) 73 #[.string (bs nm), .slice tA tys.length tC, .string ⟨#[]⟩, .int .i64 (-1), .bool true, .int .i64 kn, .int .i64 ((tokAt ts sz i).pos : Int)]) ∧ ∃ bb, x = .slice (some ⟨bb, 0, none⟩) 1 1 ∧ At W bb 73 #[.string (bs nm), .slice tA tys.length tC, .string ⟨#[]⟩, .int .i64 (-1), .bool true, .int .i64 kn, .int .i64 ((tokAt ts sz i).pos : Int)] ∧ Below W17.heap.size W17 W | _ => (At W rb 87 (rdc TA ts.length tc q22 sz o) ∧ At W (W2.heap.size) 73 #[.string (bs nm), .slice tA tys.length tC, .string ⟨#[]⟩, .int .i64 (-1), .bool true, .int .i64 kn, .int .i64 ((tokAt ts sz i).pos : Int)]) ∧ ∃ WG, Below W17.heap.size W17 WG ∧ WG.ownsRow B 73 7 (.slice o.p.a o.p.n o.p.c) P.preds.length rows.flatten ∧ WG.grownBy W (Value.ownBlock (.slice o.p.a o.p.n o.p.c)) ∧ W.ownsRow B 73 7 x (P.preds.length + 1) (rows.flatten ++ [.string (bs nm), .slice tA tys.length tC, .string ⟨#[]⟩, .int .i64 (-1), .bool true, .int .i64 kn, .int .i64 ((tokAt ts sz i).pos : Int)])) (fun W => (At W rb 87 (rdc TA ts.length tc q22 sz o) ∧ At W (W2.heap.size) 73 #[.string (bs nm), .slice tA tys.length tC, .string ⟨#[]⟩, .int .i64 (-1), .bool true, .int .i64 kn, .int .i64 ((tokAt ts sz i).pos : Int)])) (Pv :: Pv :: Pv :: Pv :: Pv :: Pv :: Pv :: Fv :: Fv :: []) ?hF (by kernel_rfl) (by kernel_rfl) (by kernel_rfl) (of_decide_eq_true (by kernel_rfl)) (by kernel_rfl) (by kernel_rfl) (by kernel_rfl) (by kernel_rfl) (by kernel_rfl) ?hW ?hJ ?hops ?htail
           case hF => (intro v; simp only [over, Act.put, List.setIfInBounds_toArray, List.set_cons_zero, List.set_cons_succ, Nat.zero_add, Nat.reduceAdd]; exact rfl)
           case hW =>
            intro _
            have hbN : Below W17.heap.size W17 W17.drew := (Below.refl W17.heap.size W17).drew
            exact ⟨⟨HBX.out.next hbN, HAX.out.next hbN⟩, hbN⟩
           case hJ =>
            intro p x W2 h
            match p, h with
            | 0, h => exact h.1
            | 1, h => exact h.1
            | _ + 2, h => exact h.1
           case hops =>
            refine ⟨?_, ?_⟩
            ·intro v w' hj hd K hK
             have hk := hK.out
             simp only [Act.put, List.setIfInBounds_toArray, List.set_cons_zero, List.set_cons_succ] at hk
             have HK := Lib.hid hk
             clear hd hk hK
             go_simp
             exact HK.out _ (show _ = _ from rfl)
            refine ⟨?_, ?_⟩
            ·intro v w' hj hd K hK
             have hk := hK.out
             simp only [Act.put, List.setIfInBounds_toArray, List.set_cons_zero, List.set_cons_succ] at hk
             have HK := Lib.hid hk
             clear hd hk hK
             go_simp
             exact HK.out _ (show _ = _ from rfl)
            refine ⟨?_, ?_⟩
            ·intro v w' hj hd K hK
             have t1 : v 1 = _ := hd.out 1 (by kernel_rfl) rfl
             have hk := hK.out
             simp only [t1, Act.put, List.setIfInBounds_toArray, List.set_cons_zero, List.set_cons_succ] at hk
             have HK := Lib.hid hk
             clear hd hk hK
             go_simp
             exact HK.out _ (show _ = _ from rfl)
            refine ⟨?_, ?_⟩
            ·intro v w' hj hd K hK
             have t2 : v 2 = _ := hd.out 2 (by kernel_rfl) rfl
             have hk := hK.out
             simp only [t2, Act.put, List.setIfInBounds_toArray, List.set_cons_zero, List.set_cons_succ] at hk
             have HK := Lib.hid hk
             clear hd hk hK
             go_simp
             exact HK.out _ (show _ = _ from rfl)
            refine ⟨?_, ?_⟩
            ·intro v w' hj hd K hK
             have t3 : v 3 = _ := hd.out 3 (by kernel_rfl) rfl
             have hk := hK.out
             simp only [t3, Act.put, List.setIfInBounds_toArray, List.set_cons_zero, List.set_cons_succ] at hk
             have HK := Lib.hid hk
             clear hd hk hK
             go_simp
             exact HK.out _ (show _ = _ from rfl)
            refine ⟨?_, ?_⟩
            ·intro v w' hj hd K hK
             have t4 : v 4 = _ := hd.out 4 (by kernel_rfl) rfl
             have yx : w'.cell? ⟨rb, 5, none⟩ = some (.slice o.p.a o.p.n o.p.c) := hj.out.1.cell 5
             have hk := hK.out
             simp only [t4, Act.put, List.setIfInBounds_toArray, List.set_cons_zero, List.set_cons_succ] at hk
             have HK := Lib.hid hk
             clear hd hk hK
             go_simp
             exact HK.out _ (show _ = _ from rfl)
            refine ⟨?_, ?_⟩
            ·intro v w' hj hd K hK
             have yx0 := hj.out.2.cell 0
             have yx1 := hj.out.2.cell 1
             have yx2 := hj.out.2.cell 2
             have yx3 := hj.out.2.cell 3
             have yx4 := hj.out.2.cell 4
             have yx5 := hj.out.2.cell 5
             have yx6 := hj.out.2.cell 6
             simp only [List.getElem?_toArray, List.getElem?_cons_zero, List.getElem?_cons_succ] at yx0 yx1 yx2 yx3 yx4 yx5 yx6
             have hk := hK.out
             simp only [Act.put, List.setIfInBounds_toArray, List.set_cons_zero, List.set_cons_succ] at hk
             have HK := Lib.hid hk
             clear hd hk hK
             go_simp
             exact HK.out _ (show _ = _ from rfl)
            refine ⟨?_, ?_⟩
            ·intro v w' x hw hx hd K hK
             have t6 : v 6 = _ := hd.out 6 (by kernel_rfl) rfl
             have hk := hK.out
             simp only [t6, Act.put, List.setIfInBounds_toArray, List.set_cons_zero, List.set_cons_succ] at hk
             have HK := Lib.hid hk
             obtain ⟨hj, hb0⟩ := hw.out
             clear hd hk hK
             go_simp
             have hbN : Below W17.heap.size W17 (w'.alloc (.cells #[.string (bs nm), .slice tA tys.length tC, .string ⟨#[]⟩, .int .i64 (-1), .bool true, .int .i64 kn, .int .i64 ((tokAt ts sz i).pos : Int)] 73)) := hb0.alloc hb0.size _
             exact HK.out _ _ ⟨⟨HBX.out.next hbN, HAX.out.next hbN⟩, _, rfl, At.new _ _ _, hbN⟩
            refine ⟨?_, ?_⟩
            ·intro v w' x hw hx hd K hK
             have t5 : v 5 = _ := hd.out 5 (by kernel_rfl) rfl
             have t7 : v 7 = x := hx.out 7 _ rfl rfl
             have hk := hK.out
             rw [if_pos (show Region.wanted _ _ = true from rfl)]
             simp only [t5, t7] at hk ⊢
             have HK := Lib.hid hk
             obtain ⟨hj, bb, rfl, hbb, hb0⟩ := hw.out
             have hoN := own_below HROWS.out hb0
             clear hx hd hw
             refine wp_append_keep (.tmp 60) (.tmp 62) 31 rfl B 73 iT (.agg #[.string ⟨#[]⟩, .slice none 0 0, .string ⟨#[]⟩, .int .i64 0, .bool false, .int .i64 0, .int .i64 0]) 7 88 Tryd.underlying31 hi0 hi1 hi2 hi3 rfl (by decide) _ P.preds.length rows.flatten rfl hoN ⟨bb, 0, none⟩ 1 1 [.string (bs nm), .slice tA tys.length tC, .string ⟨#[]⟩, .int .i64 (-1), .bool true, .int .i64 kn, .int .i64 ((tokAt ts sz i).pos : Int)] rfl rfl (At.news hbb) (by intro u hu; simp at hu; rcases hu with rfl | rfl | rfl | rfl | rfl | rfl | rfl <;> rfl) (by have := HP.out; unfold maxLen; omega) (by have := HP.out; omega) (Nat.le_trans HBS.out (Nat.le_trans hm23.size hb0.size)) fun v5 w5 o5 o6 g5 => ?_
             exact HK.out _ _ ⟨⟨hj.1.grown g5 (own_far hoN hj.1 (by decide)), hj.2.grown g5 HNB.out⟩, w', hb0, hoN, g5, o5⟩
            trivial
           case htail =>
            intro v w' x hw hx hd
            have t0 : v 0 = _ := hd.out 0 (by decide) rfl
            have t8 : v 8 = x := hx.out 8 _ rfl rfl
            simp only [t0, t8, List.drop_succ_cons, List.drop_zero]
            clear hx hd t0 t8
            obtain ⟨⟨hbx9, hax9⟩, WG, h91, h92, h93, h95⟩ := hw.out
            obtain ⟨A9, c9, rfl⟩ := own_len h95
            have y9 := hbx9.cell 5
            have f9 := hbx9.frozen 5
            have l9 := hbx9.lt
            clear hw
            go_wp2_with fail
            obtain ⟨e1, e2, e3, e4⟩ := end_preds (x := (⟨nm, tys, [], true, kn, i⟩ : Px.Pr).ap (offI ts sz)) hr23 HOW.out HB.out h91 h92 HRR2.out h93 h95 HXR.out
            subst hRR
            first
             | go_end0
             | refine bodyPost_ret (results_none rfl _ _ _) rfl ?_
            exact ⟨rfl, (hm23.belowR hl).trans e3, (KeptX.mv HR.out hm23).trans e4, _, e1, e2⟩
        ·skip
         rw [Px.bind_ok hp] at hRR
         try dsimp only at hRR
         rw [if_neg (by simp)] at hRR
         have HC := Lib.hid (take_any hr17 Px.sKey (by decide))
         rw [hp] at HC
         clear hp
         rw [Px.bind_ret] at hRR
         try dsimp only at hRR
         go_wp2_with (go_at_call 42; refine (HC.out).mono ?_; rintro e W14 ⟨⟨_, rfl, rfl⟩, hn18, hr18⟩; have hm18 := hm17.trans hl hn18; have x_18 := hn18.at x_17 hnex; have ty_18 := own_mv hlB ty_17 hn18; clear HC)
         cases hp : Px.need [59] (Px.kts ts) q14 with
         | fail q19 =>
          rw [Px.bind_fail (hp)] at hRR
          subst hRR
          have HC := Lib.hid (need_any hr18 [59] (by decide))
          rw [hp] at HC
          clear hp
          go_wp2_with (go_at_call 55; refine (HC.out).mono ?_; rintro e wF ⟨rfl, hnF, hrF⟩)
          exact ⟨rfl, IPost.failed HR.out HO.out HB.out (hm18.trans hl hnF) hrF⟩
         | ok u q19 =>
          rw [Px.bind_ok (hp)] at hRR
          try dsimp only at hRR
          have HC := Lib.hid (need_any hr18 [59] (by decide))
          rw [hp] at HC
          have HQ19 := Lib.hid hp
          clear hp
          go_wp2_with (go_at_call 55; refine (HC.out).mono ?_; rintro e W15 ⟨⟨_, rfl, rfl⟩, hn20, hr20⟩; have hm20 := hm18.trans hl hn20; have x_20 := hn20.at x_18 hnex; have ty_20 := own_mv hlB ty_18 hn20; clear HC)
          have hoW := HO.out.mv HB.out HR.out.box hm20
          obtain ⟨rows, hrows, hrr⟩ := hoW.preds
          have HOW := Lib.hid hoW
          have HROWS := Lib.hid hrows
          have HRR2 := Lib.hid hrr
          have HXR := Lib.hid (show PrR W15 [.string (bs nm), .slice tA tys.length tC, .string ⟨#[]⟩, .int .i64 (-1), .bool true, .int .i64 (tys.length : Int), .int .i64 ((tokAt ts sz i).pos : Int)] ((⟨nm, tys, [], true, (tys.length : Int), i⟩ : Px.Pr).ap (offI ts sz)) from ⟨_, rfl, TRow.of_own ty_20⟩)
          have HBX := Lib.hid hr20.box
          have HAX := Lib.hid x_20
          obtain ⟨iT, hi0, hi1, hi2, hi3⟩ := info_parts pred_info
          have HNB : Hid (some (W2.heap.size) ≠ Value.ownBlock (.slice o.p.a o.p.n o.p.c)) := Lib.hid (fun e => by
           obtain ⟨rows0, h0, _⟩ := HO.out.preds
           have h1 := (own_lt h0 e.symm).2
           have h2 := hBx
           omega)
          clear hoW hrows hrr
          refine' wp_region_chain 9 2 _ ([none, none, none, none, none, none, none, some 0, some 1] : List (Option Nat)) (fun p x W => match p with | 0 => (At W rb 87 (rdc TA ts.length tc q19 sz o) ∧ At W (W2.heap.size) 73 #[.string (bs nm), .slice tA tys.length tC, .string ⟨#[]⟩, .int .i64 (-1), .bool true, .int .i64 (tys.length : Int), .int .i64 ((tokAt ts sz i).pos : Int)]) ∧ Below W15.heap.size W15 W | 1 => (At W rb 87 (rdc TA ts.length tc q19 sz o) ∧ At W (W2.heap.size) 73 #[.string (bs nm), .slice tA tys.length tC, .string ⟨#[]⟩, .int .i64 (-1), .bool true, .int .i64 (tys.length : Int), .int .i64 ((tokAt ts sz i).pos : Int)]) ∧ ∃ bb, x = .slice (some ⟨bb, 0, none⟩) 1 1 ∧ At W bb 73 #[.string (bs nm), .slice tA tys.length tC, .string ⟨#[]⟩, .int .i64 (-1), .bool true, .int .i64 (tys.length : Int), .int .i64 ((tokAt ts sz i).pos : Int)] ∧ Below W15.heap.size W15 W | _ => (At W rb 87 (rdc TA ts.length tc q19 sz o) ∧ At W (W2.heap.size) 73 #[.string (bs nm), .slice tA tys.length tC, .string ⟨#[]⟩, .int .i64 (-1), .bool true, .int .i64 (tys.length : Int), .int .i64 ((tokAt ts sz i).pos : Int)]) ∧ ∃ WG, Below W15.heap.size W15 WG ∧ WG.ownsRow B 73 7 (.slice o.p.a o.p.n o.p.c) P.preds.length rows.flatten ∧ WG.grownBy W (Value.ownBlock (.slice o.p.a o.p.n o.p.c)) ∧ W.ownsRow B 73 7 x (P.preds.length + 1) (rows.flatten ++ [.string (bs nm), .slice tA tys.length tC, .string ⟨#[]⟩, .int .i64 (-1), .bool true, .int .i64 (tys.length : Int), .int .i64 ((tokAt ts sz i).pos : Int)])) (fun W => (At W rb 87 (rdc TA ts.length tc q19 sz o) ∧ At W (W2.heap.size) 73 #[.string (bs nm), .slice tA tys.length tC, .string ⟨#[]⟩, .int .i64 (-1), .bool true, .int .i64 (tys.length : Int), .int .i64 ((tokAt ts sz i).pos : Int)])) (Pv :: Pv :: Pv :: Pv :: Pv :: Pv :: Pv :: Fv :: Fv :: []) ?hF (by kernel_rfl) (by kernel_rfl) (by kernel_rfl) (of_decide_eq_true (by kernel_rfl)) (by kernel_rfl) (by kernel_rfl) (by kernel_rfl) (by kernel_rfl) (by kernel_rfl) ?hW ?hJ ?hops ?htail
          case hF => (intro v; simp only [over, Act.put, List.setIfInBounds_toArray, List.set_cons_zero, List.set_cons_succ, Nat.zero_add, Nat.reduceAdd]; exact rfl)
          case hW =>
           intro _
           have hbN : Below W15.heap.size W15 W15.drew := (Below.refl W15.heap.size W15).drew
           exact ⟨⟨HBX.out.next hbN, HAX.out.next hbN⟩, hbN⟩
          case hJ =>
           intro p x W2 h
           match p, h with
           | 0, h => exact h.1
           | 1, h => exact h.1
           | _ + 2, h => exact h.1
          case hops =>
           refine ⟨?_, ?_⟩
           ·intro v w' hj hd K hK
            have hk := hK.out
            simp only [Act.put, List.setIfInBounds_toArray, List.set_cons_zero, List.set_cons_succ] at hk
            have HK := Lib.hid hk
            clear hd hk hK
            go_simp
            exact HK.out _ (show _ = _ from rfl)
           refine ⟨?_, ?_⟩
           ·intro v w' hj hd K hK
            have hk := hK.out
            simp only [Act.put, List.setIfInBounds_toArray, List.set_cons_zero, List.set_cons_succ] at hk
            have HK := Lib.hid hk
            clear hd hk hK
            go_simp
            exact HK.out _ (show _ = _ from rfl)
           refine ⟨?_, ?_⟩
           ·intro v w' hj hd K hK
            have t1 : v 1 = _ := hd.out 1 (by kernel_rfl) rfl
            have hk := hK.out
            simp only [t1, Act.put, List.setIfInBounds_toArray, List.set_cons_zero, List.set_cons_succ] at hk
            have HK := Lib.hid hk
            clear hd hk hK
            go_simp
            exact HK.out _ (show _ = _ from rfl)
           refine ⟨?_, ?_⟩
           ·intro v w' hj hd K hK
            have t2 : v 2 = _ := hd.out 2 (by kernel_rfl) rfl
            have hk := hK.out
            simp only [t2, Act.put, List.setIfInBounds_toArray, List.set_cons_zero, List.set_cons_succ] at hk
            have HK := Lib.hid hk
            clear hd hk hK
            go_simp
            exact HK.out _ (show _ = _ from rfl)
           refine ⟨?_, ?_⟩
           ·intro v w' hj hd K hK
            have t3 : v 3 = _ := hd.out 3 (by kernel_rfl) rfl
            have hk := hK.out
            simp only [t3, Act.put, List.setIfInBounds_toArray, List.set_cons_zero, List.set_cons_succ] at hk
            have HK := Lib.hid hk
            clear hd hk hK
            go_simp
            exact HK.out _ (show _ = _ from rfl)
           refine ⟨?_, ?_⟩
           ·intro v w' hj hd K hK
            have t4 : v 4 = _ := hd.out 4 (by kernel_rfl) rfl
            have yx : w'.cell? ⟨rb, 5, none⟩ = some (.slice o.p.a o.p.n o.p.c) := hj.out.1.cell 5
            have hk := hK.out
            simp only [t4, Act.put, List.setIfInBounds_toArray, List.set_cons_zero, List.set_cons_succ] at hk
            have HK := Lib.hid hk
            clear hd hk hK
            go_simp
            exact HK.out _ (show _ = _ from rfl)
           refine ⟨?_, ?_⟩
           ·intro v w' hj hd K hK
            have yx0 := hj.out.2.cell 0
            have yx1 := hj.out.2.cell 1
            have yx2 := hj.out.2.cell 2
            have yx3 := hj.out.2.cell 3
            have yx4 := hj.out.2.cell 4
            have yx5 := hj.out.2.cell 5
            have yx6 := hj.out.2.cell 6
            simp only [List.getElem?_toArray, List.getElem?_cons_zero, List.getElem?_cons_succ] at yx0 yx1 yx2 yx3 yx4 yx5 yx6
            have hk := hK.out
            simp only [Act.put, List.setIfInBounds_toArray, List.set_cons_zero, List.set_cons_succ] at hk
            have HK := Lib.hid hk
            clear hd hk hK
            go_simp
            exact HK.out _ (show _ = _ from rfl)
           refine ⟨?_, ?_⟩
           ·intro v w' x hw hx hd K hK
            have t6 : v 6 = _ := hd.out 6 (by kernel_rfl) rfl
            have hk := hK.out
            simp only [t6, Act.put, List.setIfInBounds_toArray, List.set_cons_zero, List.set_cons_succ] at hk
            have HK := Lib.hid hk
            obtain ⟨hj, hb0⟩ := hw.out
            clear hd hk hK
            go_simp
            have hbN : Below W15.heap.size W15 (w'.alloc (.cells #[.string (bs nm), .slice tA tys.length tC, .string ⟨#[]⟩, .int .i64 (-1), .bool true, .int .i64 (tys.length : Int), .int .i64 ((tokAt ts sz i).pos : Int)] 73)) := hb0.alloc hb0.size _
            exact HK.out _ _ ⟨⟨HBX.out.next hbN, HAX.out.next hbN⟩, _, rfl, At.new _ _ _, hbN⟩
           refine ⟨?_, ?_⟩
           ·intro v w' x hw hx hd K hK
            have t5 : v 5 = _ := hd.out 5 (by kernel_rfl) rfl
            have t7 : v 7 = x := hx.out 7 _ rfl rfl
            have hk := hK.out
            rw [if_pos (show Region.wanted _ _ = true from rfl)]
            simp only [t5, t7] at hk ⊢
            have HK := Lib.hid hk
            obtain ⟨hj, bb, rfl, hbb, hb0⟩ := hw.out
            have hoN := own_below HROWS.out hb0
            clear hx hd hw
            refine wp_append_keep (.tmp 60) (.tmp 62) 31 rfl B 73 iT (.agg #[.string ⟨#[]⟩, .slice none 0 0, .string ⟨#[]⟩, .int .i64 0, .bool false, .int .i64 0, .int .i64 0]) 7 88 Tryd.underlying31 hi0 hi1 hi2 hi3 rfl (by decide) _ P.preds.length rows.flatten rfl hoN ⟨bb, 0, none⟩ 1 1 [.string (bs nm), .slice tA tys.length tC, .string ⟨#[]⟩, .int .i64 (-1), .bool true, .int .i64 (tys.length : Int), .int .i64 ((tokAt ts sz i).pos : Int)] rfl rfl (At.news hbb) (by intro u hu; simp at hu; rcases hu with rfl | rfl | rfl | rfl | rfl | rfl | rfl <;> rfl) (by have := HP.out; unfold maxLen; omega) (by have := HP.out; omega) (Nat.le_trans HBS.out (Nat.le_trans hm20.size hb0.size)) fun v5 w5 o5 o6 g5 => ?_
            exact HK.out _ _ ⟨⟨hj.1.grown g5 (own_far hoN hj.1 (by decide)), hj.2.grown g5 HNB.out⟩, w', hb0, hoN, g5, o5⟩
           trivial
          case htail =>
           intro v w' x hw hx hd
           have t0 : v 0 = _ := hd.out 0 (by decide) rfl
           have t8 : v 8 = x := hx.out 8 _ rfl rfl
           simp only [t0, t8, List.drop_succ_cons, List.drop_zero]
           clear hx hd t0 t8
           obtain ⟨⟨hbx9, hax9⟩, WG, h91, h92, h93, h95⟩ := hw.out
           obtain ⟨A9, c9, rfl⟩ := own_len h95
           have y9 := hbx9.cell 5
           have f9 := hbx9.frozen 5
           have l9 := hbx9.lt
           clear hw
           go_wp2_with fail
           obtain ⟨e1, e2, e3, e4⟩ := end_preds (x := (⟨nm, tys, [], true, (tys.length : Int), i⟩ : Px.Pr).ap (offI ts sz)) hr20 HOW.out HB.out h91 h92 HRR2.out h93 h95 HXR.out
           subst hRR
           first
            | go_end0
            | refine bodyPost_ret (results_none rfl _ _ _) rfl ?_
           exact ⟨rfl, (hm20.belowR hl).trans e3, (KeptX.mv HR.out hm20).trans e4, _, e1, e2⟩
end
end Go.Proofs.YtpcmlkpnjimbiaaDoor
