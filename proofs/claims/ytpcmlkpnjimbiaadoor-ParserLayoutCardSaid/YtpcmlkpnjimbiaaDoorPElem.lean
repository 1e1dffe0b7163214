/- The reader's terms. -/
import Derived.Test.YtpcmlkpnjimbiaaDoorPList
namespace Go.Proofs.YtpcmlkpnjimbiaaDoor
set_option linter.unusedVariables false
set_option linter.unusedSimpArgs false
open Go.RowKit
theorem bs_eqc (a b : List UInt8) : ((bs a).toList == b) = decide (a = b) := by
 rw [bs_list, Bool.eq_iff_iff, beq_iff_eq, decide_eq_true_iff]
section
variable {w : World} {rb : Nat} {TA : Option Addr} {tc : Nat} {ts : List Lx.Tok} {sz i : Nat} {o : Outs}
set_option maxRecDepth 100000 in
theorem terms_term (h : Rd w rb TA tc ts sz i o) : Calls Tryd.prog 40 #[.pointer (some ⟨rb, 0, none⟩), .func (.func 41) #[.pointer (some ⟨rb, 0, none⟩)] #[]] w (Post w rb TA tc ts sz o (fun l v W => W.ownsRow w.heap.size 71 4 v l.length (tmCells l)) (Px.terms Px.term (Px.kts ts) i)) := by
 have HP := Lib.hid (peek_any h 0 (by omega))
 unfold tokV at HP
 rw [Nat.add_zero] at HP
 have ff := fun W => field_tok1 (tokAt ts sz i).kind 0 (tokAt ts sz i).pos (bs (tokAt ts sz i).text) W
 have HR := Lib.hid h
 have hl := h.box.lt
 unfold Px.terms
 rw [tx_at ts sz]
 have HL := Lib.hid (fun W (hb : Below w.heap.size w W) => list_term (h.next hb))
 clear h
 by_cases h1 : (tokAt ts sz i).text = [41]
 ·have t1 : ((bs (tokAt ts sz i).text).toList == [41]) = true := (bs_eqc _ [41]).trans (decide_eq_true h1)
  rw [if_pos (Or.inl h1)]
  clear h1
  go_enter Tryd.func40, Tryd.ntmps40
  go_wp2_with (go_at_call 29; refine HP.out.mono ?_; rintro e w2 ⟨rfl, hb⟩)
  go_ret
  exact ⟨⟨_, rfl, World.ownsRow_nil _ _ _ _⟩, Mv.still HR.out hb, HR.out.next hb⟩
 ·have t1 : ((bs (tokAt ts sz i).text).toList == [41]) = false := (bs_eqc _ [41]).trans (decide_eq_false h1)
  by_cases h2 : (tokAt ts sz i).text = [59]
  ·have t2 : ((bs (tokAt ts sz i).text).toList == [59]) = true := (bs_eqc _ [59]).trans (decide_eq_true h2)
   rw [if_pos (Or.inr h2)]
   clear h1 h2
   go_enter Tryd.func40, Tryd.ntmps40
   go_wp2_with (go_at_call 29; refine HP.out.mono ?_; rintro e w2 ⟨rfl, hb⟩)
   go_ret
   exact ⟨⟨_, rfl, World.ownsRow_nil _ _ _ _⟩, Mv.still HR.out hb, HR.out.next hb⟩
  ·have t2 : ((bs (tokAt ts sz i).text).toList == [59]) = false := (bs_eqc _ [59]).trans (decide_eq_false h2)
   rw [if_neg (by rintro (h | h) <;> contradiction)]
   clear h1 h2
   cases hp : Px.list Px.term (Px.kts ts) i with
   | fail j =>
    rw [hp] at HL
    clear hp
    go_enter Tryd.func40, Tryd.ntmps40
    go_wp2_with first
     | (go_at_call 65; refine (HL.out _ hb).mono ?_; rintro e w3 ⟨rfl, hm, hr⟩)
     | (go_at_call 29; refine HP.out.mono ?_; rintro e w2 ⟨rfl, hb⟩)
    exact ⟨rfl, rfl, (Mv.still HR.out hb).trans hl hm, hr⟩
   | ok a j =>
    rw [hp] at HL
    clear hp
    go_enter Tryd.func40, Tryd.ntmps40
    go_wp2_with first
     | (go_at_call 65; refine (HL.out _ hb).mono ?_; rintro e w3 ⟨⟨v, rfl, ho⟩, hm, hr⟩)
     | (go_at_call 29; refine HP.out.mono ?_; rintro e w2 ⟨rfl, hb⟩)
    have ho3 := own_mono ho hb.size
    obtain ⟨A1, c1, rfl⟩ := own_len ho3
    go_wp2_with fail
    go_ret
    exact ⟨⟨_, rfl, ho3⟩, (Mv.still HR.out hb).trans hl hm, hr⟩
set_option maxRecDepth 100000 in
theorem terms_constant (h : Rd w rb TA tc ts sz i o) : Calls Tryd.prog 40 #[.pointer (some ⟨rb, 0, none⟩), .func (.func 45) #[.pointer (some ⟨rb, 0, none⟩)] #[]] w (Post w rb TA tc ts sz o (fun l v W => W.ownsRow w.heap.size 71 4 v l.length (tmCells l)) (Px.terms Px.constant (Px.kts ts) i)) := by
 have HP := Lib.hid (peek_any h 0 (by omega))
 unfold tokV at HP
 rw [Nat.add_zero] at HP
 have ff := fun W => field_tok1 (tokAt ts sz i).kind 0 (tokAt ts sz i).pos (bs (tokAt ts sz i).text) W
 have HR := Lib.hid h
 have hl := h.box.lt
 unfold Px.terms
 rw [tx_at ts sz]
 have HL := Lib.hid (fun W (hb : Below w.heap.size w W) => list_constant (h.next hb))
 clear h
 by_cases h1 : (tokAt ts sz i).text = [41]
 ·have t1 : ((bs (tokAt ts sz i).text).toList == [41]) = true := (bs_eqc _ [41]).trans (decide_eq_true h1)
  rw [if_pos (Or.inl h1)]
  clear h1
  go_enter Tryd.func40, Tryd.ntmps40
  go_wp2_with (go_at_call 29; refine HP.out.mono ?_; rintro e w2 ⟨rfl, hb⟩)
  go_ret
  exact ⟨⟨_, rfl, World.ownsRow_nil _ _ _ _⟩, Mv.still HR.out hb, HR.out.next hb⟩
 ·have t1 : ((bs (tokAt ts sz i).text).toList == [41]) = false := (bs_eqc _ [41]).trans (decide_eq_false h1)
  by_cases h2 : (tokAt ts sz i).text = [59]
  ·have t2 : ((bs (tokAt ts sz i).text).toList == [59]) = true := (bs_eqc _ [59]).trans (decide_eq_true h2)
   rw [if_pos (Or.inr h2)]
   clear h1 h2
   go_enter Tryd.func40, Tryd.ntmps40
   go_wp2_with (go_at_call 29; refine HP.out.mono ?_; rintro e w2 ⟨rfl, hb⟩)
   go_ret
   exact ⟨⟨_, rfl, World.ownsRow_nil _ _ _ _⟩, Mv.still HR.out hb, HR.out.next hb⟩
  ·have t2 : ((bs (tokAt ts sz i).text).toList == [59]) = false := (bs_eqc _ [59]).trans (decide_eq_false h2)
   rw [if_neg (by rintro (h | h) <;> contradiction)]
   clear h1 h2
   cases hp : Px.list Px.constant (Px.kts ts) i with
   | fail j =>
    rw [hp] at HL
    clear hp
    go_enter Tryd.func40, Tryd.ntmps40
    go_wp2_with first
     | (go_at_call 65; refine (HL.out _ hb).mono ?_; rintro e w3 ⟨rfl, hm, hr⟩)
     | (go_at_call 29; refine HP.out.mono ?_; rintro e w2 ⟨rfl, hb⟩)
    exact ⟨rfl, rfl, (Mv.still HR.out hb).trans hl hm, hr⟩
   | ok a j =>
    rw [hp] at HL
    clear hp
    go_enter Tryd.func40, Tryd.ntmps40
    go_wp2_with first
     | (go_at_call 65; refine (HL.out _ hb).mono ?_; rintro e w3 ⟨⟨v, rfl, ho⟩, hm, hr⟩)
     | (go_at_call 29; refine HP.out.mono ?_; rintro e w2 ⟨rfl, hb⟩)
    have ho3 := own_mono ho hb.size
    obtain ⟨A1, c1, rfl⟩ := own_len ho3
    go_wp2_with fail
    go_ret
    exact ⟨⟨_, rfl, ho3⟩, (Mv.still HR.out hb).trans hl hm, hr⟩
end
end Go.Proofs.YtpcmlkpnjimbiaaDoor
namespace Go.Proofs.YtpcmlkpnjimbiaaDoor
set_option linter.unusedVariables false
set_option linter.unusedSimpArgs false
open Go.RowKit
namespace Px
theorem bind_ok {α β : Type} {p : P α} {f : α → P β} {ts : List Kt} {i j : Nat} {a : α} (h : p ts i = .ok a j) : bind p f ts i = f a ts j := by unfold bind; rw [h]
theorem bind_fail {α β : Type} {p : P α} {f : α → P β} {ts : List Kt} {i j : Nat} (h : p ts i = .fail j) : bind p f ts i = .fail j := by unfold bind; rw [h]
theorem take_two (t : List UInt8) (ts : List Kt) (i : Nat) : take t ts i = .ok true (i + 1) ∨ take t ts i = .ok false i := by
 unfold take
 split <;> simp
end Px
section
variable {w : World} {rb : Nat} {TA : Option Addr} {tc : Nat} {ts : List Lx.Tok} {sz i : Nat} {o : Outs}
def elV (x : Px.E) : Value := .agg #[.int .i64 x.kind, .string (bs x.name), .string (bs x.var), .int .i64 (-1)]
set_option maxRecDepth 100000 in
theorem element_any (h : Rd w rb TA tc ts sz i o) : Calls Tryd.prog 56 #[.pointer (some ⟨rb, 0, none⟩)] w (Post w rb TA tc ts sz o (fun x v _ => v = elV x) (Px.element (Px.kts ts) i)) := by
 obtain ⟨RR, hRR⟩ : ∃ RR, Px.element (Px.kts ts) i = RR := ⟨_, rfl⟩
 rw [hRR]
 unfold Px.element at hRR
 have HR := Lib.hid h
 have hl := h.box.lt
 have hlB : rb < w.heap.size := hl
 have hm := Mv.still h (Below.refl _ _)
 go_enter Tryd.func56, Tryd.ntmps56
 go_wp2_with fail
 have hq1 : w.heap.size = w.heap.size := rfl
 have ra_1 := At.newAt hq1 63 #[.int .i64 0, .string ⟨#[]⟩, .string ⟨#[]⟩, .int .i64 0]
 have hm1 := hm.trans hl (Mv.still h (below1 w (.cells #[.int .i64 0, .string ⟨#[]⟩, .string ⟨#[]⟩, .int .i64 0] 63)))
 have hr1 := h.next (below1 w (.cells #[.int .i64 0, .string ⟨#[]⟩, .string ⟨#[]⟩, .int .i64 0] 63))
 have hBra : w.heap.size ≤ w.heap.size := by have := hm.size; omega
 have hnera : w.heap.size ≠ rb := by have := h.box.lt; omega
 generalize hw1 : w.alloc (.cells #[.int .i64 0, .string ⟨#[]⟩, .string ⟨#[]⟩, .int .i64 0] 63) = W1 at ra_1 hm1 hr1 ⊢
 clear hw1 hq1
 cases hz : Px.isK 2 (Px.kts ts) i
 ·skip
  rw [hz, if_neg (by simp)] at hRR
  have HC := Lib.hid (is_any hr1 2 (by omega))
  rw [hz] at HC
  clear hz
  go_wp2_with (go_at_call 66; refine (HC.out).mono ?_; rintro e W2 ⟨rfl, hn2⟩; have hn2 := Mv.still hr1 hn2; have hr2 := hn2.rd hr1 hr1.few.2.2; have hm2 := hm1.trans hl hn2; have ra_2 := hn2.at ra_1 hnera; clear HC)
  cases hp : Px.word 1 (Px.kts ts) i with
  | fail q3 =>
   rw [Px.bind_fail (hp)] at hRR
   subst hRR
   have HC := Lib.hid (pword_any hr2 1 (by omega))
   rw [hp] at HC
   clear hp
   go_wp2_with (go_at_call 43; refine (HC.out).mono ?_; rintro e wF ⟨rfl, hnF, hrF⟩)
   exact ⟨rfl, rfl, hm2.trans hl hnF, hrF⟩
  | ok s q3 =>
   rw [Px.bind_ok (hp)] at hRR
   try dsimp only at hRR
   have HC := Lib.hid (pword_any hr2 1 (by omega))
   rw [hp] at HC
   have HQ3 := Lib.hid hp
   clear hp
   go_wp2_with (go_at_call 43; refine (HC.out).mono ?_; rintro e W3 ⟨⟨_, rfl, rfl⟩, hn4, hr4⟩; have hm4 := hm2.trans hl hn4; have ra_4 := hn4.at ra_2 hnera; clear HC)
   have hq5 : W3.heap.size = W3.heap.size := rfl
   have x_5 := At.newAt hq5 63 #[.int .i64 1, .string (bs s), .string ⟨#[]⟩, .int .i64 (-1)]
   have hm5 := hm4.trans hl (Mv.still hr4 (below1 W3 (.cells #[.int .i64 1, .string (bs s), .string ⟨#[]⟩, .int .i64 (-1)] 63)))
   have hr5 := hr4.next (below1 W3 (.cells #[.int .i64 1, .string (bs s), .string ⟨#[]⟩, .int .i64 (-1)] 63))
   have hBx : w.heap.size ≤ W3.heap.size := by have := hm4.size; omega
   have hnex : W3.heap.size ≠ rb := by have := hr4.box.lt; omega
   have NExra : W3.heap.size ≠ w.heap.size := by have := ra_4.lt; omega
   have ra_5 := ra_4.alloc (.cells #[.int .i64 1, .string (bs s), .string ⟨#[]⟩, .int .i64 (-1)] 63)
   generalize hw5 : W3.alloc (.cells #[.int .i64 1, .string (bs s), .string ⟨#[]⟩, .int .i64 (-1)] 63) = W4 at x_5 hm5 hr5 ra_5 ⊢
   clear hw5 hq5
   rcases Px.take_two [40] (Px.kts ts) q3 with hp | hp
   ·skip
    rw [Px.bind_ok hp] at hRR
    try dsimp only at hRR
    first | rw [if_pos rfl] at hRR | rw [if_pos trivial] at hRR
    have HC := Lib.hid (take_any hr5 [40] (by decide))
    rw [hp] at HC
    clear hp
    go_wp2_with (go_at_call 42; refine (HC.out).mono ?_; rintro e W5 ⟨⟨_, rfl, rfl⟩, hn6, hr6⟩; have hm6 := hm5.trans hl hn6; have ra_6 := hn6.at ra_5 hnera; have x_6 := hn6.at x_5 hnex; clear HC)
    cases hp : Px.word 2 (Px.kts ts) (q3 + 1) with
    | fail q7 =>
     rw [Px.bind_fail (hp)] at hRR
     subst hRR
     have HC := Lib.hid (pword_any hr6 2 (by omega))
     rw [hp] at HC
     clear hp
     go_wp2_with (go_at_call 43; refine (HC.out).mono ?_; rintro e wF ⟨rfl, hnF, hrF⟩)
     exact ⟨rfl, rfl, hm6.trans hl hnF, hrF⟩
    | ok v q7 =>
     rw [Px.bind_ok (hp)] at hRR
     try dsimp only at hRR
     have HC := Lib.hid (pword_any hr6 2 (by omega))
     rw [hp] at HC
     have HQ7 := Lib.hid hp
     clear hp
     go_wp2_with (go_at_call 43; refine (HC.out).mono ?_; rintro e W6 ⟨⟨_, rfl, rfl⟩, hn8, hr8⟩; have hm8 := hm6.trans hl hn8; have ra_8 := hn8.at ra_6 hnera; have x_8 := hn8.at x_6 hnex; clear HC; have yx0 := x_8.cell 0; have yx1 := x_8.cell 1; have yx2 := x_8.cell 2; have yx3 := x_8.cell 3; have fx0 := x_8.frozen 0; have fx1 := x_8.frozen 1; have fx2 := x_8.frozen 2; have fx3 := x_8.frozen 3; have ylx := x_8.lt; simp only [List.getElem?_toArray, List.getElem?_cons_zero, List.getElem?_cons_succ] at yx0 yx1 yx2 yx3)
     clear yx0 fx0 yx1 fx1 yx2 fx2 yx3 fx3 ylx
     have x_9 := ((x_8.put 0 (.int .i64 3)).put 2 (.string (bs v)))
     simp only [List.setIfInBounds_toArray, List.set_cons_zero, List.set_cons_succ] at x_9
     have hm9 := hm8.after (((Below.refl (W3.heap.size) W6).setCell (p := ⟨W3.heap.size, 0, none⟩) (Nat.le_refl _) (.int .i64 3)).setCell (p := ⟨W3.heap.size, 2, none⟩) (Nat.le_refl _) (.string (bs v))) hBx
     have hr9 := hm9.rd HR.out hr8.few.2.2
     have ra_9 := ((ra_8.far (p := ⟨W3.heap.size, 0, none⟩) (Ne.symm NExra) (.int .i64 3)).far (p := ⟨W3.heap.size, 2, none⟩) (Ne.symm NExra) (.string (bs v)))
     have hz9 : ((W6.setCell ⟨W3.heap.size, 0, none⟩ (.int .i64 3)).setCell ⟨W3.heap.size, 2, none⟩ (.string (bs v))).heap.size = W6.heap.size := (by simp : ((W6.setCell ⟨W3.heap.size, 0, none⟩ (.int .i64 3)).setCell ⟨W3.heap.size, 2, none⟩ (.string (bs v))).heap.size = W6.heap.size).trans rfl
     generalize hw9 : ((W6.setCell ⟨W3.heap.size, 0, none⟩ (.int .i64 3)).setCell ⟨W3.heap.size, 2, none⟩ (.string (bs v))) = W7 at x_9 hm9 hr9 ra_9 hz9 ⊢
     clear hw9
     cases hp : Px.need [41] (Px.kts ts) q7 with
     | fail q10 =>
      rw [Px.bind_fail (hp)] at hRR
      subst hRR
      have HC := Lib.hid (need_any hr9 [41] (by decide))
      rw [hp] at HC
      clear hp
      go_wp2_with (go_at_call 55; refine (HC.out).mono ?_; rintro e wF ⟨rfl, hnF, hrF⟩)
      exact ⟨rfl, rfl, hm9.trans hl hnF, hrF⟩
     | ok u q10 =>
      rw [Px.bind_ok (hp)] at hRR
      try dsimp only at hRR
      have HC := Lib.hid (need_any hr9 [41] (by decide))
      rw [hp] at HC
      have HQ10 := Lib.hid hp
      clear hp
      go_wp2_with (go_at_call 55; refine (HC.out).mono ?_; rintro e W8 ⟨⟨_, rfl, rfl⟩, hn11, hr11⟩; have hm11 := hm9.trans hl hn11; have ra_11 := hn11.at ra_9 hnera; have x_11 := hn11.at x_9 hnex; clear HC; have yx0 := x_11.cell 0; have yx1 := x_11.cell 1; have yx2 := x_11.cell 2; have yx3 := x_11.cell 3; have fx0 := x_11.frozen 0; have fx1 := x_11.frozen 1; have fx2 := x_11.frozen 2; have fx3 := x_11.frozen 3; have ylx := x_11.lt; simp only [List.getElem?_toArray, List.getElem?_cons_zero, List.getElem?_cons_succ] at yx0 yx1 yx2 yx3; have yra0 := ra_11.cell 0; have yra1 := ra_11.cell 1; have yra2 := ra_11.cell 2; have yra3 := ra_11.cell 3; have fra0 := ra_11.frozen 0; have fra1 := ra_11.frozen 1; have fra2 := ra_11.frozen 2; have fra3 := ra_11.frozen 3; have ylra := ra_11.lt; simp only [List.getElem?_toArray, List.getElem?_cons_zero, List.getElem?_cons_succ] at yra0 yra1 yra2 yra3)
      clear yx0 fx0 yx1 fx1 yx2 fx2 yx3 fx3 ylx
      clear yra0 fra0 yra1 fra1 yra2 fra2 yra3 fra3 ylra
      have ra_12 := ((((ra_11.put 0 (.int .i64 3)).put 1 (.string (bs s))).put 2 (.string (bs v))).put 3 (.int .i64 (-1)))
      simp only [List.setIfInBounds_toArray, List.set_cons_zero, List.set_cons_succ] at ra_12
      have hm12 := hm11.after (((((Below.refl (w.heap.size) W8).setCell (p := ⟨w.heap.size, 0, none⟩) (Nat.le_refl _) (.int .i64 3)).setCell (p := ⟨w.heap.size, 1, none⟩) (Nat.le_refl _) (.string (bs s))).setCell (p := ⟨w.heap.size, 2, none⟩) (Nat.le_refl _) (.string (bs v))).setCell (p := ⟨w.heap.size, 3, none⟩) (Nat.le_refl _) (.int .i64 (-1))) hBra
      have hr12 := hm12.rd HR.out hr11.few.2.2
      have x_12 := ((((x_11.far (p := ⟨w.heap.size, 0, none⟩) NExra (.int .i64 3)).far (p := ⟨w.heap.size, 1, none⟩) NExra (.string (bs s))).far (p := ⟨w.heap.size, 2, none⟩) NExra (.string (bs v))).far (p := ⟨w.heap.size, 3, none⟩) NExra (.int .i64 (-1)))
      have hz12 : ((((W8.setCell ⟨w.heap.size, 0, none⟩ (.int .i64 3)).setCell ⟨w.heap.size, 1, none⟩ (.string (bs s))).setCell ⟨w.heap.size, 2, none⟩ (.string (bs v))).setCell ⟨w.heap.size, 3, none⟩ (.int .i64 (-1))).heap.size = W8.heap.size := (by simp : ((((W8.setCell ⟨w.heap.size, 0, none⟩ (.int .i64 3)).setCell ⟨w.heap.size, 1, none⟩ (.string (bs s))).setCell ⟨w.heap.size, 2, none⟩ (.string (bs v))).setCell ⟨w.heap.size, 3, none⟩ (.int .i64 (-1))).heap.size = W8.heap.size).trans rfl
      generalize hw12 : ((((W8.setCell ⟨w.heap.size, 0, none⟩ (.int .i64 3)).setCell ⟨w.heap.size, 1, none⟩ (.string (bs s))).setCell ⟨w.heap.size, 2, none⟩ (.string (bs v))).setCell ⟨w.heap.size, 3, none⟩ (.int .i64 (-1))) = W9 at ra_12 hm12 hr12 x_12 hz12 ⊢
      clear hw12
      try unfold Px.ret at hRR
      try dsimp only at hRR
      subst hRR
      refine bodyPost_ret (results_cell_row rfl _ _ (w.heap.size) 63 _ (0, 0) _ rfl ra_12 Tryd.underlying63 rfl (by kernel_rfl)) rfl ?_
      exact ⟨⟨_, rfl, rfl⟩, hm12, hr12⟩
   ·skip
    rw [Px.bind_ok hp] at hRR
    try dsimp only at hRR
    rw [if_neg (by simp)] at hRR
    have HC := Lib.hid (take_any hr5 [40] (by decide))
    rw [hp] at HC
    clear hp
    go_wp2_with (go_at_call 42; refine (HC.out).mono ?_; rintro e W5 ⟨⟨_, rfl, rfl⟩, hn6, hr6⟩; have hm6 := hm5.trans hl hn6; have ra_6 := hn6.at ra_5 hnera; have x_6 := hn6.at x_5 hnex; clear HC; have yx0 := x_6.cell 0; have yx1 := x_6.cell 1; have yx2 := x_6.cell 2; have yx3 := x_6.cell 3; have fx0 := x_6.frozen 0; have fx1 := x_6.frozen 1; have fx2 := x_6.frozen 2; have fx3 := x_6.frozen 3; have ylx := x_6.lt; simp only [List.getElem?_toArray, List.getElem?_cons_zero, List.getElem?_cons_succ] at yx0 yx1 yx2 yx3; have yra0 := ra_6.cell 0; have yra1 := ra_6.cell 1; have yra2 := ra_6.cell 2; have yra3 := ra_6.cell 3; have fra0 := ra_6.frozen 0; have fra1 := ra_6.frozen 1; have fra2 := ra_6.frozen 2; have fra3 := ra_6.frozen 3; have ylra := ra_6.lt; simp only [List.getElem?_toArray, List.getElem?_cons_zero, List.getElem?_cons_succ] at yra0 yra1 yra2 yra3)
    clear yx0 fx0 yx1 fx1 yx2 fx2 yx3 fx3 ylx
    clear yra0 fra0 yra1 fra1 yra2 fra2 yra3 fra3 ylra
    have ra_7 := ((((ra_6.put 0 (.int .i64 1)).put 1 (.string (bs s))).put 2 (.string ⟨#[]⟩)).put 3 (.int .i64 (-1)))
    simp only [List.setIfInBounds_toArray, List.set_cons_zero, List.set_cons_succ] at ra_7
    have hm7 := hm6.after (((((Below.refl (w.heap.size) W5).setCell (p := ⟨w.heap.size, 0, none⟩) (Nat.le_refl _) (.int .i64 1)).setCell (p := ⟨w.heap.size, 1, none⟩) (Nat.le_refl _) (.string (bs s))).setCell (p := ⟨w.heap.size, 2, none⟩) (Nat.le_refl _) (.string ⟨#[]⟩)).setCell (p := ⟨w.heap.size, 3, none⟩) (Nat.le_refl _) (.int .i64 (-1))) hBra
    have hr7 := hm7.rd HR.out hr6.few.2.2
    have x_7 := ((((x_6.far (p := ⟨w.heap.size, 0, none⟩) NExra (.int .i64 1)).far (p := ⟨w.heap.size, 1, none⟩) NExra (.string (bs s))).far (p := ⟨w.heap.size, 2, none⟩) NExra (.string ⟨#[]⟩)).far (p := ⟨w.heap.size, 3, none⟩) NExra (.int .i64 (-1)))
    have hz7 : ((((W5.setCell ⟨w.heap.size, 0, none⟩ (.int .i64 1)).setCell ⟨w.heap.size, 1, none⟩ (.string (bs s))).setCell ⟨w.heap.size, 2, none⟩ (.string ⟨#[]⟩)).setCell ⟨w.heap.size, 3, none⟩ (.int .i64 (-1))).heap.size = W5.heap.size := (by simp : ((((W5.setCell ⟨w.heap.size, 0, none⟩ (.int .i64 1)).setCell ⟨w.heap.size, 1, none⟩ (.string (bs s))).setCell ⟨w.heap.size, 2, none⟩ (.string ⟨#[]⟩)).setCell ⟨w.heap.size, 3, none⟩ (.int .i64 (-1))).heap.size = W5.heap.size).trans rfl
    generalize hw7 : ((((W5.setCell ⟨w.heap.size, 0, none⟩ (.int .i64 1)).setCell ⟨w.heap.size, 1, none⟩ (.string (bs s))).setCell ⟨w.heap.size, 2, none⟩ (.string ⟨#[]⟩)).setCell ⟨w.heap.size, 3, none⟩ (.int .i64 (-1))) = W6 at ra_7 hm7 hr7 x_7 hz7 ⊢
    clear hw7
    try unfold Px.ret at hRR
    try dsimp only at hRR
    subst hRR
    refine bodyPost_ret (results_cell_row rfl _ _ (w.heap.size) 63 _ (0, 0) _ rfl ra_7 Tryd.underlying63 rfl (by kernel_rfl)) rfl ?_
    exact ⟨⟨_, rfl, rfl⟩, hm7, hr7⟩
 ·skip
  rw [hz, if_pos rfl] at hRR
  have HC := Lib.hid (is_any hr1 2 (by omega))
  rw [hz] at HC
  clear hz
  go_wp2_with (go_at_call 66; refine (HC.out).mono ?_; rintro e W2 ⟨rfl, hn2⟩; have hn2 := Mv.still hr1 hn2; have hr2 := hn2.rd hr1 hr1.few.2.2; have hm2 := hm1.trans hl hn2; have ra_2 := hn2.at ra_1 hnera; clear HC)
  cases hp : Px.word 2 (Px.kts ts) i with
  | fail q3 =>
   rw [Px.bind_fail (hp)] at hRR
   subst hRR
   have HC := Lib.hid (pword_any hr2 2 (by omega))
   rw [hp] at HC
   clear hp
   go_wp2_with (go_at_call 43; refine (HC.out).mono ?_; rintro e wF ⟨rfl, hnF, hrF⟩)
   exact ⟨rfl, rfl, hm2.trans hl hnF, hrF⟩
  | ok s q3 =>
   rw [Px.bind_ok (hp)] at hRR
   try dsimp only at hRR
   have HC := Lib.hid (pword_any hr2 2 (by omega))
   rw [hp] at HC
   have HQ3 := Lib.hid hp
   clear hp
   go_wp2_with (go_at_call 43; refine (HC.out).mono ?_; rintro e W3 ⟨⟨_, rfl, rfl⟩, hn4, hr4⟩; have hm4 := hm2.trans hl hn4; have ra_4 := hn4.at ra_2 hnera; clear HC; have yra0 := ra_4.cell 0; have yra1 := ra_4.cell 1; have yra2 := ra_4.cell 2; have yra3 := ra_4.cell 3; have fra0 := ra_4.frozen 0; have fra1 := ra_4.frozen 1; have fra2 := ra_4.frozen 2; have fra3 := ra_4.frozen 3; have ylra := ra_4.lt; simp only [List.getElem?_toArray, List.getElem?_cons_zero, List.getElem?_cons_succ] at yra0 yra1 yra2 yra3)
   clear yra0 fra0 yra1 fra1 yra2 fra2 yra3 fra3 ylra
   have ra_5 := ((((ra_4.put 0 (.int .i64 2)).put 1 (.string ⟨#[]⟩)).put 2 (.string (bs s))).put 3 (.int .i64 (-1)))
   simp only [List.setIfInBounds_toArray, List.set_cons_zero, List.set_cons_succ] at ra_5
   have hm5 := hm4.after (((((Below.refl (w.heap.size) W3).setCell (p := ⟨w.heap.size, 0, none⟩) (Nat.le_refl _) (.int .i64 2)).setCell (p := ⟨w.heap.size, 1, none⟩) (Nat.le_refl _) (.string ⟨#[]⟩)).setCell (p := ⟨w.heap.size, 2, none⟩) (Nat.le_refl _) (.string (bs s))).setCell (p := ⟨w.heap.size, 3, none⟩) (Nat.le_refl _) (.int .i64 (-1))) hBra
   have hr5 := hm5.rd HR.out hr4.few.2.2
   have hz5 : ((((W3.setCell ⟨w.heap.size, 0, none⟩ (.int .i64 2)).setCell ⟨w.heap.size, 1, none⟩ (.string ⟨#[]⟩)).setCell ⟨w.heap.size, 2, none⟩ (.string (bs s))).setCell ⟨w.heap.size, 3, none⟩ (.int .i64 (-1))).heap.size = W3.heap.size := (by simp : ((((W3.setCell ⟨w.heap.size, 0, none⟩ (.int .i64 2)).setCell ⟨w.heap.size, 1, none⟩ (.string ⟨#[]⟩)).setCell ⟨w.heap.size, 2, none⟩ (.string (bs s))).setCell ⟨w.heap.size, 3, none⟩ (.int .i64 (-1))).heap.size = W3.heap.size).trans rfl
   generalize hw5 : ((((W3.setCell ⟨w.heap.size, 0, none⟩ (.int .i64 2)).setCell ⟨w.heap.size, 1, none⟩ (.string ⟨#[]⟩)).setCell ⟨w.heap.size, 2, none⟩ (.string (bs s))).setCell ⟨w.heap.size, 3, none⟩ (.int .i64 (-1))) = W4 at ra_5 hm5 hr5 hz5 ⊢
   clear hw5
   try unfold Px.ret at hRR
   try dsimp only at hRR
   subst hRR
   refine bodyPost_ret (results_cell_row rfl _ _ (w.heap.size) 63 _ (0, 0) _ rfl ra_5 Tryd.underlying63 rfl (by kernel_rfl)) rfl ?_
   exact ⟨⟨_, rfl, rfl⟩, hm5, hr5⟩
end
end Go.Proofs.YtpcmlkpnjimbiaaDoor
