/- The reader's literals. -/
import Derived.Test.YtpcmlkpnjimbiaaDoorPDat
import Derived.Test.YtpcmlkpnjimbiaaDoorInv8
namespace Go.Proofs.YtpcmlkpnjimbiaaDoor
set_option linter.unusedVariables false
set_option linter.unusedSimpArgs false
open Go.RowKit
namespace Px
theorem bind_ret {α β : Type} (a : α) (f : α → P β) (ts : List Kt) (i : Nat) : bind (ret a) f ts i = f a ts i := rfl
theorem bind_assoc {α β γ : Type} (p : P α) (f : α → P β) (g : β → P γ) : bind (bind p f) g = bind p (fun a => bind (f a) g) := by
 funext ts i
 unfold bind
 cases p ts i <;> rfl
theorem opOf_in {s : List UInt8} (h : ¬opOf s = 0) : s ≠ [] := by
 rintro rfl
 exact h (by decide)
end Px
theorem tm_one (t : Px.T) : ∀ u ∈ tmFs t, u.oneCell' = true := by
 intro u hu
 unfold tmFs at hu
 simp at hu
 rcases hu with rfl | rfl | rfl | rfl <;> rfl
abbrev FitS (s : ByteArray) : Prop := s.size ≤ maxLen
theorem str_enc : KEnc Tryd.prog 9 Value.string FitS :=
 ⟨Maps.string_keyed Tryd.underlying9, fun x h => ⟨.string x.data.toList, by simp [keyOf, Tryd.underlying9, mapKey]; exact h⟩, fun x y h => by simpa using h⟩
theorem eenc_int5 {P : Program} {e : TypeId} (he : P.underlying e = some (.int .i64)) : EEnc (plainElem P e) imk idat := by
 refine ⟨fun a => ?_, fun v a ps h => ?_⟩
 ·unfold plainElem imk idat
  rw [he]
  have : (Lit.int IntKind.i64 (a.val : Int)).wf = true := by
   have := a.isLt
   refine WalkArith.wf_i64 ?_
   omega
  simp [this]
 ·unfold plainElem at h
  rw [he] at h
  cases v with
  | int q b =>
   have h' : (if q = .i64 ∧ (Lit.int .i64 b).wf = true then some (DataW.lit (Lit.int .i64 b), ([] : List MemPlace)) else none) = some (idat a, ps) := h
   split at h'
   ·rename_i hc
    injection h' with h'
    injection h' with h1 h2
    unfold idat at h1
    injection h1 with h1
    injection h1 with _ h1
    rw [hc.1, h1]
    rfl
   ·cases h'
  | _ => cases h
theorem int_eenc : EEnc (plainElem Tryd.prog 3) imk idat := eenc_int5 Tryd.underlying3
section
variable {w : World} {rb : Nat} {TA : Option Addr} {tc : Nat} {ts : List Lx.Tok} {sz i : Nat} {o : Outs}
theorem peek0_any (h : Rd w rb TA tc ts sz i o) : Calls Tryd.prog 29 #[.pointer (some ⟨rb, 0, none⟩), .int .i64 0] w fun e w' => e = .returned (.agg #[.int .i64 (tokAt ts sz i).kind, .string (bs (tokAt ts sz i).text), .int .i64 (tokAt ts sz i).pos]) ∧ Below w.heap.size w w' := by
 have := peek_any h 0 (by omega)
 unfold tokV at this
 rw [Nat.add_zero] at this
 exact this
theorem fit_at (h : Rd w rb TA tc ts sz i o) (k : Nat) : FitS (bs (tokAt ts sz k).text) := by
 have h1 : (bs (tokAt ts sz k).text).size = (tokAt ts sz k).text.length := by rw [← size_len]; rfl
 have h2 : (tokAt ts sz k).text.length ≤ 1000000 := by
  unfold tokAt
  cases hk : ts[k]? with
  | none => simp
  | some t => exact h.dig.2 t (List.mem_of_getElem? hk)
 show _ ≤ maxLen
 unfold maxLen
 omega
theorem ops_look (h : Rd w rb TA tc ts sz i o) : ∃ mb, (∀ z : Held w.heap.size w, z.w.cell? ⟨2, 0, none⟩ = some (.map (some mb))) ∧ (∀ z : Held w.heap.size w, (Instr.lookup 130 (.map (some mb)) (.string (bs (tokAt ts sz i).text)) true).run Tryd.prog z.w = .ok (.tuple #[imk ((opF (bs (tokAt ts sz i).text)).getD 0), .bool (opF (bs (tokAt ts sz i).text)).isSome]) z.w) := by
 obtain ⟨h0, mb, mn, h1, h2, h3⟩ := h.tb.ops
 have hl := h.box.lt
 refine ⟨mb, fun z => z.cell (Nat.lt_trans h0 hl) h1, fun z => ?_⟩
 exact (h3.below z.ok (by omega)).look_ok str_enc int_eenc Tryd.underlying130 (a0 := 0) (by kernel_rfl) (bs (tokAt ts sz i).text) (fit_at h i)
theorem opF_at (ts : List Lx.Tok) (sz i : Nat) : opF (bs (tokAt ts sz i).text) = if Px.opOf (Px.tx (Px.kts ts) i) = 0 then none else some (opN (Px.tx (Px.kts ts) i)) := by
 rw [tx_at ts sz]; rfl
theorem ops_look0 (h : Rd w rb TA tc ts sz i o) (ho : Px.opOf (Px.tx (Px.kts ts) i) = 0) : ∃ mb, True ∧ (∀ z : Held w.heap.size w, z.w.cell? ⟨2, 0, none⟩ = some (.map (some mb))) ∧ (∀ z : Held w.heap.size w, (Instr.lookup 130 (.map (some mb)) (.string (bs (tokAt ts sz i).text)) true).run Tryd.prog z.w = .ok (.tuple #[.int .i64 0, .bool false]) z.w) := by
 obtain ⟨mb, h1, h2⟩ := ops_look h
 rw [opF_at, if_pos ho] at h2
 exact ⟨mb, trivial, h1, h2⟩
theorem ops_look1 (h : Rd w rb TA tc ts sz i o) (ho : ¬Px.opOf (Px.tx (Px.kts ts) i) = 0) : ∃ mb, True ∧ (∀ z : Held w.heap.size w, z.w.cell? ⟨2, 0, none⟩ = some (.map (some mb))) ∧ (∀ z : Held w.heap.size w, (Instr.lookup 130 (.map (some mb)) (.string (bs (tokAt ts sz i).text)) true).run Tryd.prog z.w = .ok (.tuple #[.int .i64 (Px.opOf (Px.tx (Px.kts ts) i)), .bool true]) z.w) := by
 obtain ⟨mb, h1, h2⟩ := ops_look h
 rw [opF_at, if_neg ho] at h2
 refine ⟨mb, trivial, h1, fun z => (h2 z).trans ?_⟩
 unfold imk
 rw [Option.getD_some, opN_of]
 rfl
theorem op_in (ho : ¬Px.opOf (Px.tx (Px.kts ts) i) = 0) : i < ts.length := by
 have := Px.opOf_in ho
 rw [tx_at ts 0] at this
 exact tx_in this
set_option maxHeartbeats 8000000 in
set_option maxRecDepth 100000 in
theorem literal_any (h : Rd w rb TA tc ts sz i o) : Calls Tryd.prog 58 #[.pointer (some ⟨rb, 0, none⟩)] w (Post w rb TA tc ts sz o (fun x v W => ∃ a, v = .agg (liFs (x.ap (offI ts sz)) a).toArray ∧ TRow W 71 4 a x.args.length (tmCells x.args)) (Px.literal (Px.kts ts) i)) := by
 obtain ⟨RR, hRR⟩ : ∃ RR, Px.literal (Px.kts ts) i = RR := ⟨_, rfl⟩
 rw [hRR]
 unfold Px.literal at hRR
 have HR := Lib.hid h
 have hl := h.box.lt
 have hlB : rb < w.heap.size := hl
 have hm := Mv.still h (Below.refl _ _)
 go_enter Tryd.func58, Tryd.ntmps58
 go_wp2_with fail
 have hq1 : w.heap.size = w.heap.size := rfl
 have ra_1 := At.newAt hq1 58 #[.int .i64 0, .string ⟨#[]⟩, .int .i64 0, .slice none 0 0, .string ⟨#[]⟩, .string ⟨#[]⟩, .int .i64 0, .int .i64 0, .int .i64 0]
 have hm1 := hm.trans hl (Mv.still h (below1 w (.cells #[.int .i64 0, .string ⟨#[]⟩, .int .i64 0, .slice none 0 0, .string ⟨#[]⟩, .string ⟨#[]⟩, .int .i64 0, .int .i64 0, .int .i64 0] 58)))
 have hr1 := h.next (below1 w (.cells #[.int .i64 0, .string ⟨#[]⟩, .int .i64 0, .slice none 0 0, .string ⟨#[]⟩, .string ⟨#[]⟩, .int .i64 0, .int .i64 0, .int .i64 0] 58))
 have hBra : w.heap.size ≤ w.heap.size := by have := hm.size; omega
 have hnera : w.heap.size ≠ rb := by have := h.box.lt; omega
 generalize hw1 : w.alloc (.cells #[.int .i64 0, .string ⟨#[]⟩, .int .i64 0, .slice none 0 0, .string ⟨#[]⟩, .string ⟨#[]⟩, .int .i64 0, .int .i64 0, .int .i64 0] 58) = W1 at ra_1 hm1 hr1 ⊢
 clear hw1 hq1
 have HC := Lib.hid (offset_any hr1)
 go_wp2_with (go_at_call 54; refine (HC.out).mono ?_; rintro e W2 ⟨rfl, hn2⟩; have hn2 := Mv.still hr1 hn2; have hr2 := hn2.rd hr1 hr1.few.2.2; have hm2 := hm1.trans hl hn2; have ra_2 := hn2.at ra_1 hnera; clear HC)
 have hq3 : W2.heap.size = W2.heap.size := rfl
 have x_3 := At.newAt hq3 58 #[.int .i64 1, .string ⟨#[]⟩, .int .i64 (-1), .slice none 0 0, .string ⟨#[]⟩, .string ⟨#[]⟩, .int .i64 (-1), .int .i64 0, .int .i64 ((tokAt ts sz i).pos : Int)]
 have hm3 := hm2.trans hl (Mv.still hr2 (below1 W2 (.cells #[.int .i64 1, .string ⟨#[]⟩, .int .i64 (-1), .slice none 0 0, .string ⟨#[]⟩, .string ⟨#[]⟩, .int .i64 (-1), .int .i64 0, .int .i64 ((tokAt ts sz i).pos : Int)] 58)))
 have hr3 := hr2.next (below1 W2 (.cells #[.int .i64 1, .string ⟨#[]⟩, .int .i64 (-1), .slice none 0 0, .string ⟨#[]⟩, .string ⟨#[]⟩, .int .i64 (-1), .int .i64 0, .int .i64 ((tokAt ts sz i).pos : Int)] 58))
 have hBx : w.heap.size ≤ W2.heap.size := by have := hm2.size; omega
 have hnex : W2.heap.size ≠ rb := by have := hr2.box.lt; omega
 have NExra : W2.heap.size ≠ w.heap.size := by have := ra_2.lt; omega
 have ra_3 := ra_2.alloc (.cells #[.int .i64 1, .string ⟨#[]⟩, .int .i64 (-1), .slice none 0 0, .string ⟨#[]⟩, .string ⟨#[]⟩, .int .i64 (-1), .int .i64 0, .int .i64 ((tokAt ts sz i).pos : Int)] 58)
 generalize hw3 : W2.alloc (.cells #[.int .i64 1, .string ⟨#[]⟩, .int .i64 (-1), .slice none 0 0, .string ⟨#[]⟩, .string ⟨#[]⟩, .int .i64 (-1), .int .i64 0, .int .i64 ((tokAt ts sz i).pos : Int)] 58) = W3 at x_3 hm3 hr3 ra_3 ⊢
 clear hw3 hq3
 rcases Px.take_two Px.sNot (Px.kts ts) i with hp | hp
 ·skip
  rw [Px.bind_ok hp] at hRR
  try dsimp only at hRR
  first | rw [if_pos rfl] at hRR | rw [if_pos trivial] at hRR
  have HC := Lib.hid (take_any hr3 Px.sNot (by decide))
  rw [hp] at HC
  clear hp
  unfold Px.atom at hRR
  go_wp2_with (go_at_call 42; refine (HC.out).mono ?_; rintro e W4 ⟨⟨_, rfl, rfl⟩, hn4, hr4⟩; have hm4 := hm3.trans hl hn4; have ra_4 := hn4.at ra_3 hnera; have x_4 := hn4.at x_3 hnex; clear HC)
  cases hp : Px.word 1 (Px.kts ts) (i + 1) with
  | fail q5 =>
   rw [Px.bind_fail (hp)] at hRR
   subst hRR
   have HC := Lib.hid (pword_any hr4 1 (by omega))
   rw [hp] at HC
   clear hp
   go_wp2_with (go_at_call 43; refine (HC.out).mono ?_; rintro e wF ⟨rfl, hnF, hrF⟩)
   exact ⟨rfl, rfl, hm4.trans hl hnF, hrF⟩
  | ok nm q5 =>
   rw [Px.bind_ok (hp)] at hRR
   try dsimp only at hRR
   have HC := Lib.hid (pword_any hr4 1 (by omega))
   rw [hp] at HC
   have HQ5 := Lib.hid hp
   clear hp
   go_wp2_with (go_at_call 43; refine (HC.out).mono ?_; rintro e W5 ⟨⟨_, rfl, rfl⟩, hn6, hr6⟩; have hm6 := hm4.trans hl hn6; have ra_6 := hn6.at ra_4 hnera; have x_6 := hn6.at x_4 hnex; clear HC; have yx0 := x_6.cell 0; have yx1 := x_6.cell 1; have yx2 := x_6.cell 2; have yx3 := x_6.cell 3; have yx4 := x_6.cell 4; have yx5 := x_6.cell 5; have yx6 := x_6.cell 6; have yx7 := x_6.cell 7; have yx8 := x_6.cell 8; have fx0 := x_6.frozen 0; have fx1 := x_6.frozen 1; have fx2 := x_6.frozen 2; have fx3 := x_6.frozen 3; have fx4 := x_6.frozen 4; have fx5 := x_6.frozen 5; have fx6 := x_6.frozen 6; have fx7 := x_6.frozen 7; have fx8 := x_6.frozen 8; have ylx := x_6.lt; simp only [List.getElem?_toArray, List.getElem?_cons_zero, List.getElem?_cons_succ] at yx0 yx1 yx2 yx3 yx4 yx5 yx6 yx7 yx8)
   clear yx0 fx0 yx1 fx1 yx2 fx2 yx3 fx3 yx4 fx4 yx5 fx5 yx6 fx6 yx7 fx7 yx8 fx8 ylx
   have x_7 := (x_6.put 1 (.string (bs nm)))
   simp only [List.setIfInBounds_toArray, List.set_cons_zero, List.set_cons_succ] at x_7
   have hm7 := hm6.after ((Below.refl (W2.heap.size) W5).setCell (p := ⟨W2.heap.size, 1, none⟩) (Nat.le_refl _) (.string (bs nm))) hBx
   have hr7 := hm7.rd HR.out hr6.few.2.2
   have ra_7 := (ra_6.far (p := ⟨W2.heap.size, 1, none⟩) (Ne.symm NExra) (.string (bs nm)))
   have hz7 : (W5.setCell ⟨W2.heap.size, 1, none⟩ (.string (bs nm))).heap.size = W5.heap.size := (by simp : (W5.setCell ⟨W2.heap.size, 1, none⟩ (.string (bs nm))).heap.size = W5.heap.size).trans rfl
   generalize hw7 : (W5.setCell ⟨W2.heap.size, 1, none⟩ (.string (bs nm))) = W6 at x_7 hm7 hr7 ra_7 hz7 ⊢
   clear hw7
   cases hp : Px.need [40] (Px.kts ts) q5 with
   | fail q8 =>
    rw [Px.bind_fail (hp)] at hRR
    subst hRR
    have HC := Lib.hid (need_any hr7 [40] (by decide))
    rw [hp] at HC
    clear hp
    go_wp2_with (go_at_call 55; refine (HC.out).mono ?_; rintro e wF ⟨rfl, hnF, hrF⟩)
    exact ⟨rfl, rfl, hm7.trans hl hnF, hrF⟩
   | ok u q8 =>
    rw [Px.bind_ok (hp)] at hRR
    try dsimp only at hRR
    have HC := Lib.hid (need_any hr7 [40] (by decide))
    rw [hp] at HC
    have HQ8 := Lib.hid hp
    clear hp
    go_wp2_with (go_at_call 55; refine (HC.out).mono ?_; rintro e W7 ⟨⟨_, rfl, rfl⟩, hn9, hr9⟩; have hm9 := hm7.trans hl hn9; have ra_9 := hn9.at ra_7 hnera; have x_9 := hn9.at x_7 hnex; clear HC)
    cases hp : Px.terms Px.term (Px.kts ts) q8 with
    | fail q10 =>
     rw [Px.bind_fail (hp)] at hRR
     subst hRR
     have HC := Lib.hid (terms_term hr9)
     rw [hp] at HC
     clear hp
     go_wp2_with (go_at_call 40; refine (HC.out).mono ?_; rintro e wF ⟨rfl, hnF, hrF⟩)
     exact ⟨rfl, rfl, hm9.trans hl hnF, hrF⟩
    | ok ag q10 =>
     rw [Px.bind_ok (hp)] at hRR
     try dsimp only at hRR
     have HC := Lib.hid (terms_term hr9)
     rw [hp] at HC
     have HQ10 := Lib.hid hp
     clear hp
     go_wp2_with (go_at_call 40; refine (HC.out).mono ?_; rintro e W8 ⟨⟨av, rfl, ho0⟩, hn11, hr11⟩; have hm11 := hm9.trans hl hn11; have ra_11 := hn11.at ra_9 hnera; have x_11 := hn11.at x_9 hnex; obtain ⟨aA, aC, rfl⟩ := own_len ho0; have ar_11 := own_mono ho0 hm9.size; clear HC; have yx0 := x_11.cell 0; have yx1 := x_11.cell 1; have yx2 := x_11.cell 2; have yx3 := x_11.cell 3; have yx4 := x_11.cell 4; have yx5 := x_11.cell 5; have yx6 := x_11.cell 6; have yx7 := x_11.cell 7; have yx8 := x_11.cell 8; have fx0 := x_11.frozen 0; have fx1 := x_11.frozen 1; have fx2 := x_11.frozen 2; have fx3 := x_11.frozen 3; have fx4 := x_11.frozen 4; have fx5 := x_11.frozen 5; have fx6 := x_11.frozen 6; have fx7 := x_11.frozen 7; have fx8 := x_11.frozen 8; have ylx := x_11.lt; simp only [List.getElem?_toArray, List.getElem?_cons_zero, List.getElem?_cons_succ] at yx0 yx1 yx2 yx3 yx4 yx5 yx6 yx7 yx8)
     clear yx0 fx0 yx1 fx1 yx2 fx2 yx3 fx3 yx4 fx4 yx5 fx5 yx6 fx6 yx7 fx7 yx8 fx8 ylx
     have x_12 := (x_11.put 3 (.slice aA ag.length aC))
     simp only [List.setIfInBounds_toArray, List.set_cons_zero, List.set_cons_succ] at x_12
     have hm12 := hm11.after ((Below.refl (W2.heap.size) W8).setCell (p := ⟨W2.heap.size, 3, none⟩) (Nat.le_refl _) (.slice aA ag.length aC)) hBx
     have hr12 := hm12.rd HR.out hr11.few.2.2
     have ra_12 := (ra_11.far (p := ⟨W2.heap.size, 3, none⟩) (Ne.symm NExra) (.slice aA ag.length aC))
     have ar_12 := ar_11
     replace ar_12 := own_putne ar_12 (p := ⟨W2.heap.size, 3, none⟩) (own_far ar_12 x_11 (by decide)) (.slice aA ag.length aC)
     have hz12 : (W8.setCell ⟨W2.heap.size, 3, none⟩ (.slice aA ag.length aC)).heap.size = W8.heap.size := (by simp : (W8.setCell ⟨W2.heap.size, 3, none⟩ (.slice aA ag.length aC)).heap.size = W8.heap.size).trans rfl
     generalize hw12 : (W8.setCell ⟨W2.heap.size, 3, none⟩ (.slice aA ag.length aC)) = W9 at x_12 hm12 hr12 ra_12 ar_12 hz12 ⊢
     clear hw12
     first | rw [if_pos rfl] at hRR | rw [if_pos trivial] at hRR
     rw [Px.bind_ret] at hRR
     try dsimp only at hRR
     cases hp : Px.need [41] (Px.kts ts) q10 with
     | fail q13 =>
      rw [Px.bind_fail (hp)] at hRR
      subst hRR
      have HC := Lib.hid (need_any hr12 [41] (by decide))
      rw [hp] at HC
      clear hp
      go_wp2_with (go_at_call 55; refine (HC.out).mono ?_; rintro e wF ⟨rfl, hnF, hrF⟩)
      exact ⟨rfl, rfl, hm12.trans hl hnF, hrF⟩
     | ok u q13 =>
      rw [Px.bind_ok (hp)] at hRR
      try dsimp only at hRR
      have HC := Lib.hid (need_any hr12 [41] (by decide))
      rw [hp] at HC
      have HQ13 := Lib.hid hp
      clear hp
      go_wp2_with (go_at_call 55; refine (HC.out).mono ?_; rintro e W10 ⟨⟨_, rfl, rfl⟩, hn14, hr14⟩; have hm14 := hm12.trans hl hn14; have ra_14 := hn14.at ra_12 hnera; have x_14 := hn14.at x_12 hnex; have ar_14 := own_mv hlB ar_12 hn14; clear HC; have yx0 := x_14.cell 0; have yx1 := x_14.cell 1; have yx2 := x_14.cell 2; have yx3 := x_14.cell 3; have yx4 := x_14.cell 4; have yx5 := x_14.cell 5; have yx6 := x_14.cell 6; have yx7 := x_14.cell 7; have yx8 := x_14.cell 8; have fx0 := x_14.frozen 0; have fx1 := x_14.frozen 1; have fx2 := x_14.frozen 2; have fx3 := x_14.frozen 3; have fx4 := x_14.frozen 4; have fx5 := x_14.frozen 5; have fx6 := x_14.frozen 6; have fx7 := x_14.frozen 7; have fx8 := x_14.frozen 8; have ylx := x_14.lt; simp only [List.getElem?_toArray, List.getElem?_cons_zero, List.getElem?_cons_succ] at yx0 yx1 yx2 yx3 yx4 yx5 yx6 yx7 yx8)
      clear yx0 fx0 yx1 fx1 yx2 fx2 yx3 fx3 yx4 fx4 yx5 fx5 yx6 fx6 yx7 fx7 yx8 fx8 ylx
      first | rw [if_pos rfl] at hRR | rw [if_pos trivial] at hRR
      rcases Px.take_two [62, 61] (Px.kts ts) q13 with hp | hp
      ·skip
       rw [Px.bind_ok hp] at hRR
       try dsimp only at hRR
       first | rw [if_pos rfl] at hRR | rw [if_pos trivial] at hRR
       have HC := Lib.hid (take_any hr14 [62, 61] (by decide))
       rw [hp] at HC
       clear hp
       go_wp2_with (go_at_call 42; refine (HC.out).mono ?_; rintro e W11 ⟨⟨_, rfl, rfl⟩, hn15, hr15⟩; have hm15 := hm14.trans hl hn15; have ra_15 := hn15.at ra_14 hnera; have x_15 := hn15.at x_14 hnex; have ar_15 := own_mv hlB ar_14 hn15; clear HC)
       cases hp : Px.word 1 (Px.kts ts) (q13 + 1) with
       | fail q16 =>
        rw [Px.bind_fail (hp)] at hRR
        subst hRR
        have HC := Lib.hid (pword_any hr15 1 (by omega))
        rw [hp] at HC
        clear hp
        go_wp2_with (go_at_call 43; refine (HC.out).mono ?_; rintro e wF ⟨rfl, hnF, hrF⟩)
        exact ⟨rfl, rfl, hm15.trans hl hnF, hrF⟩
       | ok el q16 =>
        rw [Px.bind_ok (hp)] at hRR
        try dsimp only at hRR
        have HC := Lib.hid (pword_any hr15 1 (by omega))
        rw [hp] at HC
        have HQ16 := Lib.hid hp
        clear hp
        go_wp2_with (go_at_call 43; refine (HC.out).mono ?_; rintro e W12 ⟨⟨_, rfl, rfl⟩, hn17, hr17⟩; have hm17 := hm15.trans hl hn17; have ra_17 := hn17.at ra_15 hnera; have x_17 := hn17.at x_15 hnex; have ar_17 := own_mv hlB ar_15 hn17; clear HC; have yx0 := x_17.cell 0; have yx1 := x_17.cell 1; have yx2 := x_17.cell 2; have yx3 := x_17.cell 3; have yx4 := x_17.cell 4; have yx5 := x_17.cell 5; have yx6 := x_17.cell 6; have yx7 := x_17.cell 7; have yx8 := x_17.cell 8; have fx0 := x_17.frozen 0; have fx1 := x_17.frozen 1; have fx2 := x_17.frozen 2; have fx3 := x_17.frozen 3; have fx4 := x_17.frozen 4; have fx5 := x_17.frozen 5; have fx6 := x_17.frozen 6; have fx7 := x_17.frozen 7; have fx8 := x_17.frozen 8; have ylx := x_17.lt; simp only [List.getElem?_toArray, List.getElem?_cons_zero, List.getElem?_cons_succ] at yx0 yx1 yx2 yx3 yx4 yx5 yx6 yx7 yx8; have yra0 := ra_17.cell 0; have yra1 := ra_17.cell 1; have yra2 := ra_17.cell 2; have yra3 := ra_17.cell 3; have yra4 := ra_17.cell 4; have yra5 := ra_17.cell 5; have yra6 := ra_17.cell 6; have yra7 := ra_17.cell 7; have yra8 := ra_17.cell 8; have fra0 := ra_17.frozen 0; have fra1 := ra_17.frozen 1; have fra2 := ra_17.frozen 2; have fra3 := ra_17.frozen 3; have fra4 := ra_17.frozen 4; have fra5 := ra_17.frozen 5; have fra6 := ra_17.frozen 6; have fra7 := ra_17.frozen 7; have fra8 := ra_17.frozen 8; have ylra := ra_17.lt; simp only [List.getElem?_toArray, List.getElem?_cons_zero, List.getElem?_cons_succ] at yra0 yra1 yra2 yra3 yra4 yra5 yra6 yra7 yra8)
        clear yx0 fx0 yx1 fx1 yx2 fx2 yx3 fx3 yx4 fx4 yx5 fx5 yx6 fx6 yx7 fx7 yx8 fx8 ylx
        clear yra0 fra0 yra1 fra1 yra2 fra2 yra3 fra3 yra4 fra4 yra5 fra5 yra6 fra6 yra7 fra7 yra8 fra8 ylra
        have x_18 := ((x_17.put 5 (.string (bs el))).put 0 (.int .i64 4))
        simp only [List.setIfInBounds_toArray, List.set_cons_zero, List.set_cons_succ] at x_18
        have hm18 := hm17.after (((Below.refl (W2.heap.size) W12).setCell (p := ⟨W2.heap.size, 5, none⟩) (Nat.le_refl _) (.string (bs el))).setCell (p := ⟨W2.heap.size, 0, none⟩) (Nat.le_refl _) (.int .i64 4)) hBx
        have hr18 := hm18.rd HR.out hr17.few.2.2
        have ra_18 := ((ra_17.far (p := ⟨W2.heap.size, 5, none⟩) (Ne.symm NExra) (.string (bs el))).far (p := ⟨W2.heap.size, 0, none⟩) (Ne.symm NExra) (.int .i64 4))
        have ar_18 := ar_17
        replace ar_18 := own_putne ar_18 (p := ⟨W2.heap.size, 5, none⟩) (own_far ar_18 x_17 (by decide)) (.string (bs el))
        replace ar_18 := own_putne ar_18 (p := ⟨W2.heap.size, 0, none⟩) (own_far ar_18 (x_17.put 5 (.string (bs el))) (by decide)) (.int .i64 4)
        have hz18 : ((W12.setCell ⟨W2.heap.size, 5, none⟩ (.string (bs el))).setCell ⟨W2.heap.size, 0, none⟩ (.int .i64 4)).heap.size = W12.heap.size := (by simp : ((W12.setCell ⟨W2.heap.size, 5, none⟩ (.string (bs el))).setCell ⟨W2.heap.size, 0, none⟩ (.int .i64 4)).heap.size = W12.heap.size).trans rfl
        generalize hw18 : ((W12.setCell ⟨W2.heap.size, 5, none⟩ (.string (bs el))).setCell ⟨W2.heap.size, 0, none⟩ (.int .i64 4)) = W13 at x_18 hm18 hr18 ra_18 ar_18 hz18 ⊢
        clear hw18
        have ra_19 := (((((((((ra_18.put 0 (.int .i64 4)).put 1 (.string (bs nm))).put 2 (.int .i64 (-1))).put 3 (.slice aA ag.length aC)).put 4 (.string ⟨#[]⟩)).put 5 (.string (bs el))).put 6 (.int .i64 (-1))).put 7 (.int .i64 0)).put 8 (.int .i64 ((tokAt ts sz i).pos : Int)))
        simp only [List.setIfInBounds_toArray, List.set_cons_zero, List.set_cons_succ] at ra_19
        have hm19 := hm18.after ((((((((((Below.refl (w.heap.size) W13).setCell (p := ⟨w.heap.size, 0, none⟩) (Nat.le_refl _) (.int .i64 4)).setCell (p := ⟨w.heap.size, 1, none⟩) (Nat.le_refl _) (.string (bs nm))).setCell (p := ⟨w.heap.size, 2, none⟩) (Nat.le_refl _) (.int .i64 (-1))).setCell (p := ⟨w.heap.size, 3, none⟩) (Nat.le_refl _) (.slice aA ag.length aC)).setCell (p := ⟨w.heap.size, 4, none⟩) (Nat.le_refl _) (.string ⟨#[]⟩)).setCell (p := ⟨w.heap.size, 5, none⟩) (Nat.le_refl _) (.string (bs el))).setCell (p := ⟨w.heap.size, 6, none⟩) (Nat.le_refl _) (.int .i64 (-1))).setCell (p := ⟨w.heap.size, 7, none⟩) (Nat.le_refl _) (.int .i64 0)).setCell (p := ⟨w.heap.size, 8, none⟩) (Nat.le_refl _) (.int .i64 ((tokAt ts sz i).pos : Int))) hBra
        have hr19 := hm19.rd HR.out hr18.few.2.2
        have x_19 := (((((((((x_18.far (p := ⟨w.heap.size, 0, none⟩) NExra (.int .i64 4)).far (p := ⟨w.heap.size, 1, none⟩) NExra (.string (bs nm))).far (p := ⟨w.heap.size, 2, none⟩) NExra (.int .i64 (-1))).far (p := ⟨w.heap.size, 3, none⟩) NExra (.slice aA ag.length aC)).far (p := ⟨w.heap.size, 4, none⟩) NExra (.string ⟨#[]⟩)).far (p := ⟨w.heap.size, 5, none⟩) NExra (.string (bs el))).far (p := ⟨w.heap.size, 6, none⟩) NExra (.int .i64 (-1))).far (p := ⟨w.heap.size, 7, none⟩) NExra (.int .i64 0)).far (p := ⟨w.heap.size, 8, none⟩) NExra (.int .i64 ((tokAt ts sz i).pos : Int)))
        have ar_19 := ar_18
        replace ar_19 := own_putne ar_19 (p := ⟨w.heap.size, 0, none⟩) (own_far ar_19 ra_18 (by decide)) (.int .i64 4)
        replace ar_19 := own_putne ar_19 (p := ⟨w.heap.size, 1, none⟩) (own_far ar_19 (ra_18.put 0 (.int .i64 4)) (by decide)) (.string (bs nm))
        replace ar_19 := own_putne ar_19 (p := ⟨w.heap.size, 2, none⟩) (own_far ar_19 ((ra_18.put 0 (.int .i64 4)).put 1 (.string (bs nm))) (by decide)) (.int .i64 (-1))
        replace ar_19 := own_putne ar_19 (p := ⟨w.heap.size, 3, none⟩) (own_far ar_19 (((ra_18.put 0 (.int .i64 4)).put 1 (.string (bs nm))).put 2 (.int .i64 (-1))) (by decide)) (.slice aA ag.length aC)
        replace ar_19 := own_putne ar_19 (p := ⟨w.heap.size, 4, none⟩) (own_far ar_19 ((((ra_18.put 0 (.int .i64 4)).put 1 (.string (bs nm))).put 2 (.int .i64 (-1))).put 3 (.slice aA ag.length aC)) (by decide)) (.string ⟨#[]⟩)
        replace ar_19 := own_putne ar_19 (p := ⟨w.heap.size, 5, none⟩) (own_far ar_19 (((((ra_18.put 0 (.int .i64 4)).put 1 (.string (bs nm))).put 2 (.int .i64 (-1))).put 3 (.slice aA ag.length aC)).put 4 (.string ⟨#[]⟩)) (by decide)) (.string (bs el))
        replace ar_19 := own_putne ar_19 (p := ⟨w.heap.size, 6, none⟩) (own_far ar_19 ((((((ra_18.put 0 (.int .i64 4)).put 1 (.string (bs nm))).put 2 (.int .i64 (-1))).put 3 (.slice aA ag.length aC)).put 4 (.string ⟨#[]⟩)).put 5 (.string (bs el))) (by decide)) (.int .i64 (-1))
        replace ar_19 := own_putne ar_19 (p := ⟨w.heap.size, 7, none⟩) (own_far ar_19 (((((((ra_18.put 0 (.int .i64 4)).put 1 (.string (bs nm))).put 2 (.int .i64 (-1))).put 3 (.slice aA ag.length aC)).put 4 (.string ⟨#[]⟩)).put 5 (.string (bs el))).put 6 (.int .i64 (-1))) (by decide)) (.int .i64 0)
        replace ar_19 := own_putne ar_19 (p := ⟨w.heap.size, 8, none⟩) (own_far ar_19 ((((((((ra_18.put 0 (.int .i64 4)).put 1 (.string (bs nm))).put 2 (.int .i64 (-1))).put 3 (.slice aA ag.length aC)).put 4 (.string ⟨#[]⟩)).put 5 (.string (bs el))).put 6 (.int .i64 (-1))).put 7 (.int .i64 0)) (by decide)) (.int .i64 ((tokAt ts sz i).pos : Int))
        have hz19 : (((((((((W13.setCell ⟨w.heap.size, 0, none⟩ (.int .i64 4)).setCell ⟨w.heap.size, 1, none⟩ (.string (bs nm))).setCell ⟨w.heap.size, 2, none⟩ (.int .i64 (-1))).setCell ⟨w.heap.size, 3, none⟩ (.slice aA ag.length aC)).setCell ⟨w.heap.size, 4, none⟩ (.string ⟨#[]⟩)).setCell ⟨w.heap.size, 5, none⟩ (.string (bs el))).setCell ⟨w.heap.size, 6, none⟩ (.int .i64 (-1))).setCell ⟨w.heap.size, 7, none⟩ (.int .i64 0)).setCell ⟨w.heap.size, 8, none⟩ (.int .i64 ((tokAt ts sz i).pos : Int))).heap.size = W12.heap.size := (by simp : (((((((((W13.setCell ⟨w.heap.size, 0, none⟩ (.int .i64 4)).setCell ⟨w.heap.size, 1, none⟩ (.string (bs nm))).setCell ⟨w.heap.size, 2, none⟩ (.int .i64 (-1))).setCell ⟨w.heap.size, 3, none⟩ (.slice aA ag.length aC)).setCell ⟨w.heap.size, 4, none⟩ (.string ⟨#[]⟩)).setCell ⟨w.heap.size, 5, none⟩ (.string (bs el))).setCell ⟨w.heap.size, 6, none⟩ (.int .i64 (-1))).setCell ⟨w.heap.size, 7, none⟩ (.int .i64 0)).setCell ⟨w.heap.size, 8, none⟩ (.int .i64 ((tokAt ts sz i).pos : Int))).heap.size = W13.heap.size).trans hz18
        generalize hw19 : (((((((((W13.setCell ⟨w.heap.size, 0, none⟩ (.int .i64 4)).setCell ⟨w.heap.size, 1, none⟩ (.string (bs nm))).setCell ⟨w.heap.size, 2, none⟩ (.int .i64 (-1))).setCell ⟨w.heap.size, 3, none⟩ (.slice aA ag.length aC)).setCell ⟨w.heap.size, 4, none⟩ (.string ⟨#[]⟩)).setCell ⟨w.heap.size, 5, none⟩ (.string (bs el))).setCell ⟨w.heap.size, 6, none⟩ (.int .i64 (-1))).setCell ⟨w.heap.size, 7, none⟩ (.int .i64 0)).setCell ⟨w.heap.size, 8, none⟩ (.int .i64 ((tokAt ts sz i).pos : Int))) = W14 at ra_19 hm19 hr19 x_19 ar_19 hz19 ⊢
        clear hw19
        try unfold Px.ret at hRR
        try dsimp only at hRR
        subst hRR
        refine bodyPost_ret (results_cell_row rfl _ _ (w.heap.size) 58 _ (0, 0) _ rfl ra_19 Tryd.underlying58 rfl (by kernel_rfl)) rfl ?_
        exact ⟨⟨_, rfl, ⟨_, rfl, TRow.of_own ar_19⟩⟩, hm19, hr19⟩
      ·skip
       rw [Px.bind_ok hp] at hRR
       try dsimp only at hRR
       rw [if_neg (by simp)] at hRR
       have HC := Lib.hid (take_any hr14 [62, 61] (by decide))
       rw [hp] at HC
       clear hp
       rw [Px.bind_ret] at hRR
       try dsimp only at hRR
       go_wp2_with (go_at_call 42; refine (HC.out).mono ?_; rintro e W11 ⟨⟨_, rfl, rfl⟩, hn15, hr15⟩; have hm15 := hm14.trans hl hn15; have ra_15 := hn15.at ra_14 hnera; have x_15 := hn15.at x_14 hnex; have ar_15 := own_mv hlB ar_14 hn15; clear HC; have yx0 := x_15.cell 0; have yx1 := x_15.cell 1; have yx2 := x_15.cell 2; have yx3 := x_15.cell 3; have yx4 := x_15.cell 4; have yx5 := x_15.cell 5; have yx6 := x_15.cell 6; have yx7 := x_15.cell 7; have yx8 := x_15.cell 8; have fx0 := x_15.frozen 0; have fx1 := x_15.frozen 1; have fx2 := x_15.frozen 2; have fx3 := x_15.frozen 3; have fx4 := x_15.frozen 4; have fx5 := x_15.frozen 5; have fx6 := x_15.frozen 6; have fx7 := x_15.frozen 7; have fx8 := x_15.frozen 8; have ylx := x_15.lt; simp only [List.getElem?_toArray, List.getElem?_cons_zero, List.getElem?_cons_succ] at yx0 yx1 yx2 yx3 yx4 yx5 yx6 yx7 yx8; have yra0 := ra_15.cell 0; have yra1 := ra_15.cell 1; have yra2 := ra_15.cell 2; have yra3 := ra_15.cell 3; have yra4 := ra_15.cell 4; have yra5 := ra_15.cell 5; have yra6 := ra_15.cell 6; have yra7 := ra_15.cell 7; have yra8 := ra_15.cell 8; have fra0 := ra_15.frozen 0; have fra1 := ra_15.frozen 1; have fra2 := ra_15.frozen 2; have fra3 := ra_15.frozen 3; have fra4 := ra_15.frozen 4; have fra5 := ra_15.frozen 5; have fra6 := ra_15.frozen 6; have fra7 := ra_15.frozen 7; have fra8 := ra_15.frozen 8; have ylra := ra_15.lt; simp only [List.getElem?_toArray, List.getElem?_cons_zero, List.getElem?_cons_succ] at yra0 yra1 yra2 yra3 yra4 yra5 yra6 yra7 yra8)
       clear yx0 fx0 yx1 fx1 yx2 fx2 yx3 fx3 yx4 fx4 yx5 fx5 yx6 fx6 yx7 fx7 yx8 fx8 ylx
       clear yra0 fra0 yra1 fra1 yra2 fra2 yra3 fra3 yra4 fra4 yra5 fra5 yra6 fra6 yra7 fra7 yra8 fra8 ylra
       have x_16 := (x_15.put 0 (.int .i64 2))
       simp only [List.setIfInBounds_toArray, List.set_cons_zero, List.set_cons_succ] at x_16
       have hm16 := hm15.after ((Below.refl (W2.heap.size) W11).setCell (p := ⟨W2.heap.size, 0, none⟩) (Nat.le_refl _) (.int .i64 2)) hBx
       have hr16 := hm16.rd HR.out hr15.few.2.2
       have ra_16 := (ra_15.far (p := ⟨W2.heap.size, 0, none⟩) (Ne.symm NExra) (.int .i64 2))
       have ar_16 := ar_15
       replace ar_16 := own_putne ar_16 (p := ⟨W2.heap.size, 0, none⟩) (own_far ar_16 x_15 (by decide)) (.int .i64 2)
       have hz16 : (W11.setCell ⟨W2.heap.size, 0, none⟩ (.int .i64 2)).heap.size = W11.heap.size := (by simp : (W11.setCell ⟨W2.heap.size, 0, none⟩ (.int .i64 2)).heap.size = W11.heap.size).trans rfl
       generalize hw16 : (W11.setCell ⟨W2.heap.size, 0, none⟩ (.int .i64 2)) = W12 at x_16 hm16 hr16 ra_16 ar_16 hz16 ⊢
       clear hw16
       have ra_17 := (((((((((ra_16.put 0 (.int .i64 2)).put 1 (.string (bs nm))).put 2 (.int .i64 (-1))).put 3 (.slice aA ag.length aC)).put 4 (.string ⟨#[]⟩)).put 5 (.string ⟨#[]⟩)).put 6 (.int .i64 (-1))).put 7 (.int .i64 0)).put 8 (.int .i64 ((tokAt ts sz i).pos : Int)))
       simp only [List.setIfInBounds_toArray, List.set_cons_zero, List.set_cons_succ] at ra_17
       have hm17 := hm16.after ((((((((((Below.refl (w.heap.size) W12).setCell (p := ⟨w.heap.size, 0, none⟩) (Nat.le_refl _) (.int .i64 2)).setCell (p := ⟨w.heap.size, 1, none⟩) (Nat.le_refl _) (.string (bs nm))).setCell (p := ⟨w.heap.size, 2, none⟩) (Nat.le_refl _) (.int .i64 (-1))).setCell (p := ⟨w.heap.size, 3, none⟩) (Nat.le_refl _) (.slice aA ag.length aC)).setCell (p := ⟨w.heap.size, 4, none⟩) (Nat.le_refl _) (.string ⟨#[]⟩)).setCell (p := ⟨w.heap.size, 5, none⟩) (Nat.le_refl _) (.string ⟨#[]⟩)).setCell (p := ⟨w.heap.size, 6, none⟩) (Nat.le_refl _) (.int .i64 (-1))).setCell (p := ⟨w.heap.size, 7, none⟩) (Nat.le_refl _) (.int .i64 0)).setCell (p := ⟨w.heap.size, 8, none⟩) (Nat.le_refl _) (.int .i64 ((tokAt ts sz i).pos : Int))) hBra
       have hr17 := hm17.rd HR.out hr16.few.2.2
       have x_17 := (((((((((x_16.far (p := ⟨w.heap.size, 0, none⟩) NExra (.int .i64 2)).far (p := ⟨w.heap.size, 1, none⟩) NExra (.string (bs nm))).far (p := ⟨w.heap.size, 2, none⟩) NExra (.int .i64 (-1))).far (p := ⟨w.heap.size, 3, none⟩) NExra (.slice aA ag.length aC)).far (p := ⟨w.heap.size, 4, none⟩) NExra (.string ⟨#[]⟩)).far (p := ⟨w.heap.size, 5, none⟩) NExra (.string ⟨#[]⟩)).far (p := ⟨w.heap.size, 6, none⟩) NExra (.int .i64 (-1))).far (p := ⟨w.heap.size, 7, none⟩) NExra (.int .i64 0)).far (p := ⟨w.heap.size, 8, none⟩) NExra (.int .i64 ((tokAt ts sz i).pos : Int)))
       have ar_17 := ar_16
       replace ar_17 := own_putne ar_17 (p := ⟨w.heap.size, 0, none⟩) (own_far ar_17 ra_16 (by decide)) (.int .i64 2)
       replace ar_17 := own_putne ar_17 (p := ⟨w.heap.size, 1, none⟩) (own_far ar_17 (ra_16.put 0 (.int .i64 2)) (by decide)) (.string (bs nm))
       replace ar_17 := own_putne ar_17 (p := ⟨w.heap.size, 2, none⟩) (own_far ar_17 ((ra_16.put 0 (.int .i64 2)).put 1 (.string (bs nm))) (by decide)) (.int .i64 (-1))
       replace ar_17 := own_putne ar_17 (p := ⟨w.heap.size, 3, none⟩) (own_far ar_17 (((ra_16.put 0 (.int .i64 2)).put 1 (.string (bs nm))).put 2 (.int .i64 (-1))) (by decide)) (.slice aA ag.length aC)
       replace ar_17 := own_putne ar_17 (p := ⟨w.heap.size, 4, none⟩) (own_far ar_17 ((((ra_16.put 0 (.int .i64 2)).put 1 (.string (bs nm))).put 2 (.int .i64 (-1))).put 3 (.slice aA ag.length aC)) (by decide)) (.string ⟨#[]⟩)
       replace ar_17 := own_putne ar_17 (p := ⟨w.heap.size, 5, none⟩) (own_far ar_17 (((((ra_16.put 0 (.int .i64 2)).put 1 (.string (bs nm))).put 2 (.int .i64 (-1))).put 3 (.slice aA ag.length aC)).put 4 (.string ⟨#[]⟩)) (by decide)) (.string ⟨#[]⟩)
       replace ar_17 := own_putne ar_17 (p := ⟨w.heap.size, 6, none⟩) (own_far ar_17 ((((((ra_16.put 0 (.int .i64 2)).put 1 (.string (bs nm))).put 2 (.int .i64 (-1))).put 3 (.slice aA ag.length aC)).put 4 (.string ⟨#[]⟩)).put 5 (.string ⟨#[]⟩)) (by decide)) (.int .i64 (-1))
       replace ar_17 := own_putne ar_17 (p := ⟨w.heap.size, 7, none⟩) (own_far ar_17 (((((((ra_16.put 0 (.int .i64 2)).put 1 (.string (bs nm))).put 2 (.int .i64 (-1))).put 3 (.slice aA ag.length aC)).put 4 (.string ⟨#[]⟩)).put 5 (.string ⟨#[]⟩)).put 6 (.int .i64 (-1))) (by decide)) (.int .i64 0)
       replace ar_17 := own_putne ar_17 (p := ⟨w.heap.size, 8, none⟩) (own_far ar_17 ((((((((ra_16.put 0 (.int .i64 2)).put 1 (.string (bs nm))).put 2 (.int .i64 (-1))).put 3 (.slice aA ag.length aC)).put 4 (.string ⟨#[]⟩)).put 5 (.string ⟨#[]⟩)).put 6 (.int .i64 (-1))).put 7 (.int .i64 0)) (by decide)) (.int .i64 ((tokAt ts sz i).pos : Int))
       have hz17 : (((((((((W12.setCell ⟨w.heap.size, 0, none⟩ (.int .i64 2)).setCell ⟨w.heap.size, 1, none⟩ (.string (bs nm))).setCell ⟨w.heap.size, 2, none⟩ (.int .i64 (-1))).setCell ⟨w.heap.size, 3, none⟩ (.slice aA ag.length aC)).setCell ⟨w.heap.size, 4, none⟩ (.string ⟨#[]⟩)).setCell ⟨w.heap.size, 5, none⟩ (.string ⟨#[]⟩)).setCell ⟨w.heap.size, 6, none⟩ (.int .i64 (-1))).setCell ⟨w.heap.size, 7, none⟩ (.int .i64 0)).setCell ⟨w.heap.size, 8, none⟩ (.int .i64 ((tokAt ts sz i).pos : Int))).heap.size = W11.heap.size := (by simp : (((((((((W12.setCell ⟨w.heap.size, 0, none⟩ (.int .i64 2)).setCell ⟨w.heap.size, 1, none⟩ (.string (bs nm))).setCell ⟨w.heap.size, 2, none⟩ (.int .i64 (-1))).setCell ⟨w.heap.size, 3, none⟩ (.slice aA ag.length aC)).setCell ⟨w.heap.size, 4, none⟩ (.string ⟨#[]⟩)).setCell ⟨w.heap.size, 5, none⟩ (.string ⟨#[]⟩)).setCell ⟨w.heap.size, 6, none⟩ (.int .i64 (-1))).setCell ⟨w.heap.size, 7, none⟩ (.int .i64 0)).setCell ⟨w.heap.size, 8, none⟩ (.int .i64 ((tokAt ts sz i).pos : Int))).heap.size = W12.heap.size).trans hz16
       generalize hw17 : (((((((((W12.setCell ⟨w.heap.size, 0, none⟩ (.int .i64 2)).setCell ⟨w.heap.size, 1, none⟩ (.string (bs nm))).setCell ⟨w.heap.size, 2, none⟩ (.int .i64 (-1))).setCell ⟨w.heap.size, 3, none⟩ (.slice aA ag.length aC)).setCell ⟨w.heap.size, 4, none⟩ (.string ⟨#[]⟩)).setCell ⟨w.heap.size, 5, none⟩ (.string ⟨#[]⟩)).setCell ⟨w.heap.size, 6, none⟩ (.int .i64 (-1))).setCell ⟨w.heap.size, 7, none⟩ (.int .i64 0)).setCell ⟨w.heap.size, 8, none⟩ (.int .i64 ((tokAt ts sz i).pos : Int))) = W13 at ra_17 hm17 hr17 x_17 ar_17 hz17 ⊢
       clear hw17
       try unfold Px.ret at hRR
       try dsimp only at hRR
       subst hRR
       refine bodyPost_ret (results_cell_row rfl _ _ (w.heap.size) 58 _ (0, 0) _ rfl ra_17 Tryd.underlying58 rfl (by kernel_rfl)) rfl ?_
       exact ⟨⟨_, rfl, ⟨_, rfl, TRow.of_own ar_17⟩⟩, hm17, hr17⟩
 ·skip
  rw [Px.bind_ok hp] at hRR
  try dsimp only at hRR
  rw [if_neg (by simp)] at hRR
  have HC := Lib.hid (take_any hr3 Px.sNot (by decide))
  rw [hp] at HC
  clear hp
  unfold Px.litPos at hRR
  go_wp2_with (go_at_call 42; refine (HC.out).mono ?_; rintro e W4 ⟨⟨_, rfl, rfl⟩, hn4, hr4⟩; have hm4 := hm3.trans hl hn4; have ra_4 := hn4.at ra_3 hnera; have x_4 := hn4.at x_3 hnex; clear HC)
  cases hz : Px.isK 1 (Px.kts ts) i
  ·skip
   rw [hz, if_neg (by simp)] at hRR
   have HC := Lib.hid (is_any hr4 1 (by omega))
   rw [hz] at HC
   clear hz
   unfold Px.compare at hRR
   go_wp2_with (go_at_call 66; refine (HC.out).mono ?_; rintro e W5 ⟨rfl, hn5⟩; have hn5 := Mv.still hr4 hn5; have hr5 := hn5.rd hr4 hr4.few.2.2; have hm5 := hm4.trans hl hn5; have ra_5 := hn5.at ra_4 hnera; have x_5 := hn5.at x_4 hnex; clear HC)
   cases hp : Px.term (Px.kts ts) i with
   | fail q6 =>
    rw [Px.bind_fail (hp)] at hRR
    subst hRR
    have HC := Lib.hid (term_any hr5)
    rw [hp] at HC
    clear hp
    go_wp2_with (go_at_call 41; refine (HC.out).mono ?_; rintro e wF ⟨rfl, hnF, hrF⟩)
    exact ⟨rfl, rfl, hm5.trans hl hnF, hrF⟩
   | ok ta q6 =>
    rw [Px.bind_ok (hp)] at hRR
    try dsimp only at hRR
    have HC := Lib.hid (term_any hr5)
    rw [hp] at HC
    unfold tmV at HC
    have HQ6 := Lib.hid hp
    clear hp
    go_wp2_with (go_at_call 41; refine (HC.out).mono ?_; rintro e W6 ⟨⟨_, rfl, rfl⟩, hn7, hr7⟩; have hm7 := hm5.trans hl hn7; have ra_7 := hn7.at ra_5 hnera; have x_7 := hn7.at x_5 hnex; clear HC; have yx0 := x_7.cell 0; have yx1 := x_7.cell 1; have yx2 := x_7.cell 2; have yx3 := x_7.cell 3; have yx4 := x_7.cell 4; have yx5 := x_7.cell 5; have yx6 := x_7.cell 6; have yx7 := x_7.cell 7; have yx8 := x_7.cell 8; have fx0 := x_7.frozen 0; have fx1 := x_7.frozen 1; have fx2 := x_7.frozen 2; have fx3 := x_7.frozen 3; have fx4 := x_7.frozen 4; have fx5 := x_7.frozen 5; have fx6 := x_7.frozen 6; have fx7 := x_7.frozen 7; have fx8 := x_7.frozen 8; have ylx := x_7.lt; simp only [List.getElem?_toArray, List.getElem?_cons_zero, List.getElem?_cons_succ] at yx0 yx1 yx2 yx3 yx4 yx5 yx6 yx7 yx8)
    clear yx0 fx0 yx1 fx1 yx2 fx2 yx3 fx3 yx4 fx4 yx5 fx5 yx6 fx6 yx7 fx7 yx8 fx8 ylx
    have x_8 := ((x_7.put 0 (.int .i64 5)).put 3 (.slice (some ⟨W6.heap.size, 0, none⟩) 1 1))
    simp only [List.setIfInBounds_toArray, List.set_cons_zero, List.set_cons_succ] at x_8
    have hm8 := hm7.after (((Below.refl (W2.heap.size) W6).setCell (p := ⟨W2.heap.size, 0, none⟩) (Nat.le_refl _) (.int .i64 5)).setCell (p := ⟨W2.heap.size, 3, none⟩) (Nat.le_refl _) (.slice (some ⟨W6.heap.size, 0, none⟩) 1 1)) hBx
    have hr8 := hm8.rd HR.out hr7.few.2.2
    have ra_8 := ((ra_7.far (p := ⟨W2.heap.size, 0, none⟩) (Ne.symm NExra) (.int .i64 5)).far (p := ⟨W2.heap.size, 3, none⟩) (Ne.symm NExra) (.slice (some ⟨W6.heap.size, 0, none⟩) 1 1))
    have hz8 : ((W6.setCell ⟨W2.heap.size, 0, none⟩ (.int .i64 5)).setCell ⟨W2.heap.size, 3, none⟩ (.slice (some ⟨W6.heap.size, 0, none⟩) 1 1)).heap.size = W6.heap.size := (by simp : ((W6.setCell ⟨W2.heap.size, 0, none⟩ (.int .i64 5)).setCell ⟨W2.heap.size, 3, none⟩ (.slice (some ⟨W6.heap.size, 0, none⟩) 1 1)).heap.size = W6.heap.size).trans rfl
    generalize hw8 : ((W6.setCell ⟨W2.heap.size, 0, none⟩ (.int .i64 5)).setCell ⟨W2.heap.size, 3, none⟩ (.slice (some ⟨W6.heap.size, 0, none⟩) 1 1)) = W7 at x_8 hm8 hr8 ra_8 hz8 ⊢
    clear hw8
    have ar_9 : (W7.alloc (.cells #[.string (bs ta.v), .int .i64 ta.t, .int .i64 ta.n, .string (bs ta.s)] 71)).ownsRow w.heap.size 71 4 (.slice (some ⟨W6.heap.size, 0, none⟩) 1 1) 1 (tmCells [ta]) := ⟨rfl, Or.inr ⟨W6.heap.size, 1, _, rfl, by rw [← (show W7.heap.size = W6.heap.size from hz8)]; exact hm8.size, At.newAt hz8 _ _, Nat.le_refl _, by unfold maxLen; omega, rfl, rfl⟩⟩
    have hm9 := hm8.trans hl (Mv.still hr8 (below1 W7 (.cells #[.string (bs ta.v), .int .i64 ta.t, .int .i64 ta.n, .string (bs ta.s)] 71)))
    have hr9 := hr8.next (below1 W7 (.cells #[.string (bs ta.v), .int .i64 ta.t, .int .i64 ta.n, .string (bs ta.s)] 71))
    have ra_9 := ra_8.alloc (.cells #[.string (bs ta.v), .int .i64 ta.t, .int .i64 ta.n, .string (bs ta.s)] 71)
    have x_9 := x_8.alloc (.cells #[.string (bs ta.v), .int .i64 ta.t, .int .i64 ta.n, .string (bs ta.s)] 71)
    generalize hw9 : W7.alloc (.cells #[.string (bs ta.v), .int .i64 ta.t, .int .i64 ta.n, .string (bs ta.s)] 71) = W8 at ar_9 hm9 hr9 ra_9 x_9 ⊢
    clear hw9
    by_cases ho : Px.opOf (Px.tx (Px.kts ts) q6) = 0
    ·skip
     rw [Px.bind_fail (show Px.operator (Px.kts ts) q6 = .fail q6 from if_pos ho)] at hRR
     obtain ⟨mb, mc, fG, fL⟩ := ops_look0 hr9 ho
     have ff := fun W => field_tok1 (tokAt ts sz q6).kind 0 (tokAt ts sz q6).pos (bs (tokAt ts sz q6).text) W
     have HPK := Lib.hid (fun z : Held W8.heap.size W8 => peek0_any (hr9.next z.ok))
     have hlt : True := trivial
     clear ho
     refine wp_region_held W8.heap.size W8 (Below.refl _ _) (by kernel_rfl) (by kernel_rfl) ?_
     repeat (go_big_quiet_step ((go_at_call 29; exact held_call _ (Nat.le_refl _) (HPK.out _))))
     refine wpQuiet_nil ?_
     rintro wt ⟨⟨_, bt⟩, rfl⟩
     have hn10 := Mv.still hr9 bt
     have hr10 := hn10.rd hr9 hr9.few.2.2
     have hm10 := hm9.trans hl hn10
     have ra_10 := hn10.at ra_9 hnera
     have x_10 := hn10.at x_9 hnex
     have ar_10 := own_mv hlB ar_9 hn10
     clear fG fL ff HPK
     subst hRR
     have HC := Lib.hid (fail_any hr10)
     go_wp2_with (go_at_call 64; refine (HC.out).mono ?_; rintro e wF ⟨rfl, hnF⟩)
     have hnF := Mv.still hr10 hnF
     exact ⟨rfl, rfl, hm10.trans hl hnF, (hnF.rd hr10 hr10.few.2.2)⟩
    ·skip
     rw [Px.bind_ok (show Px.operator (Px.kts ts) q6 = .ok _ _ from if_neg ho)] at hRR
     try dsimp only at hRR
     obtain ⟨mb, mc, fG, fL⟩ := ops_look1 hr9 ho
     have ff := fun W => field_tok1 (tokAt ts sz q6).kind 0 (tokAt ts sz q6).pos (bs (tokAt ts sz q6).text) W
     have HPK := Lib.hid (fun z : Held W8.heap.size W8 => peek0_any (hr9.next z.ok))
     have hlt : q6 < ts.length := op_in ho
     clear ho
     refine wp_region_held W8.heap.size W8 (Below.refl _ _) (by kernel_rfl) (by kernel_rfl) ?_
     repeat (go_big_quiet_step ((go_at_call 29; exact held_call _ (Nat.le_refl _) (HPK.out _))))
     refine wpQuiet_nil ?_
     rintro wt ⟨⟨_, bt⟩, rfl⟩
     have hn10 := Mv.still hr9 bt
     have hr10 := hn10.rd hr9 hr9.few.2.2
     have hm10 := hm9.trans hl hn10
     have ra_10 := hn10.at ra_9 hnera
     have x_10 := hn10.at x_9 hnex
     have ar_10 := own_mv hlB ar_9 hn10
     clear fG fL ff HPK
     obtain ⟨m11, hm0m11⟩ : ∃ m11, q6 + 1 = m11 := ⟨_, rfl⟩
     have e0m11 : ((q6 : Nat) : Int) + 1 = (m11 : Int) := by omega
     have wmm11 : IntKind.i64.wrap (m11 : Int) = (m11 : Int) := IntWalk.i64_in _ (by have := hr10.few; have := hlt; omega)
     have hmlm11 : m11 ≤ ts.length := by have := hlt; omega
     try rw [hm0m11] at hRR
     have r1 := hr10.cells.2.1
     have yf := hr10.box.frozen 1
     have yl := hr10.box.lt
     go_wp2_with fail
     clear r1 yf yl
     have hn11 := Mv.step hr10 (Below.refl _ _) m11
     have hr11 := hn11.rd hr10 hmlm11
     have hm11 := hm10.trans hl hn11
     have ra_11 := hn11.at ra_10 hnera
     have x_11 := hn11.at x_10 hnex
     have ar_11 := own_mv hlB ar_10 hn11
     have hz11 : (wt.setCell ⟨rb, 1, none⟩ (.int .i64 (m11 : Int))).heap.size = wt.heap.size := (by simp : (wt.setCell ⟨rb, 1, none⟩ (.int .i64 (m11 : Int))).heap.size = wt.heap.size).trans rfl
     generalize hw11 : wt.setCell ⟨rb, 1, none⟩ (.int .i64 (m11 : Int)) = W9 at hn11 hr11 hm11 hz11 ra_11 x_11 ar_11 ⊢
     clear hw11 e0m11 wmm11
     cases hp : Px.term (Px.kts ts) m11 with
     | fail q9 =>
      rw [Px.bind_fail hp] at hRR
      subst hRR
      have HC0 := fun W2 (hr2 : Rd W2 rb TA tc ts sz m11 o) => term_any hr2
      rw [hp] at HC0
      unfold tmV at HC0
      have HC := Lib.hid HC0
      clear HC0 hp
      have HX := Lib.hid x_11
      have HRA := Lib.hid ra_11
      have HAR := Lib.hid ar_11
      obtain ⟨iT, hi0, hi1, hi2, hi3⟩ := info_parts term_info
      refine' wp_region_chain 8 3 _ ([none, none, none, none, some 0, some 1, some 2, none] : List (Option Nat)) (fun p x W => match p with | 0 => (At W (W2.heap.size) 58 #[.int .i64 5, .string ⟨#[]⟩, .int .i64 (-1), .slice (some ⟨W6.heap.size, 0, none⟩) 1 1, .string ⟨#[]⟩, .string ⟨#[]⟩, .int .i64 (-1), .int .i64 0, .int .i64 ((tokAt ts sz i).pos : Int)] ∧ At W (w.heap.size) 58 #[.int .i64 0, .string ⟨#[]⟩, .int .i64 0, .slice none 0 0, .string ⟨#[]⟩, .string ⟨#[]⟩, .int .i64 0, .int .i64 0, .int .i64 0]) ∧ Mv rb m11 W9 W | 1 => False | 2 => False | _ => False) (fun W => (At W (W2.heap.size) 58 #[.int .i64 5, .string ⟨#[]⟩, .int .i64 (-1), .slice (some ⟨W6.heap.size, 0, none⟩) 1 1, .string ⟨#[]⟩, .string ⟨#[]⟩, .int .i64 (-1), .int .i64 0, .int .i64 ((tokAt ts sz i).pos : Int)] ∧ At W (w.heap.size) 58 #[.int .i64 0, .string ⟨#[]⟩, .int .i64 0, .slice none 0 0, .string ⟨#[]⟩, .string ⟨#[]⟩, .int .i64 0, .int .i64 0, .int .i64 0])) (Pv :: Pv :: Pv :: Pv :: Fv :: Fv :: Fv :: Pv :: []) ?hF (by kernel_rfl) (by kernel_rfl) (by kernel_rfl) (of_decide_eq_true (by kernel_rfl)) (by kernel_rfl) (by kernel_rfl) (by kernel_rfl) (by kernel_rfl) (by kernel_rfl) ?hW ?hJ ?hops ?htail
      case hF => (intro v; simp only [over, Act.put, List.setIfInBounds_toArray, List.set_cons_zero, List.set_cons_succ, Nat.zero_add, Nat.reduceAdd]; exact rfl)
      case hW =>
       refine fun _ => ⟨?_, Mv.still hr11 ((Below.refl W9.heap.size W9).drew)⟩
       have hN := Mv.still hr11 ((Below.refl W9.heap.size W9).drew)
       exact ⟨hN.at x_11 hnex, hN.at ra_11 hnera⟩
      case hJ =>
       intro p x W2 h
       match p, h with
       | 0, h => exact h.1
       | 1, h => exact h.elim
       | 2, h => exact h.elim
       | _ + 3, h => exact h.elim
      case hops =>
       refine ⟨?_, ?_⟩
       ·intro v w' hj hd K hK
        have hk := hK.out
        simp only [Act.put, List.setIfInBounds_toArray, List.set_cons_zero, List.set_cons_succ] at hk
        have HK := Lib.hid hk
        clear hd hk hK
        go_simp
        exact HK.out _ (show _ = _ from rfl)
       refine ⟨?_, ?_⟩
       ·intro v w' hj hd K hK
        have hk := hK.out
        simp only [Act.put, List.setIfInBounds_toArray, List.set_cons_zero, List.set_cons_succ] at hk
        have HK := Lib.hid hk
        clear hd hk hK
        go_simp
        exact HK.out _ (show _ = _ from rfl)
       refine ⟨?_, ?_⟩
       ·intro v w' hj hd K hK
        have t1 : v 1 = _ := hd.out 1 (by kernel_rfl) rfl
        have yx := hj.out.1.cell 3
        simp only [List.getElem?_toArray, List.getElem?_cons_zero, List.getElem?_cons_succ] at yx
        have hk := hK.out
        simp only [t1, Act.put, List.setIfInBounds_toArray, List.set_cons_zero, List.set_cons_succ] at hk
        have HK := Lib.hid hk
        clear hd hk hK
        go_simp
        exact HK.out _ (show _ = _ from rfl)
       refine ⟨?_, ?_⟩
       ·intro v w' hj hd K hK
        have hk := hK.out
        simp only [Act.put, List.setIfInBounds_toArray, List.set_cons_zero, List.set_cons_succ] at hk
        have HK := Lib.hid hk
        clear hd hk hK
        go_simp
        exact HK.out _ (show _ = _ from rfl)
       refine ⟨?_, ?_⟩
       ·intro v w' x hw hx hd K hK
        have t3 : v 3 = _ := hd.out 3 (by kernel_rfl) rfl
        have hk := hK.out
        simp only [t3, Act.put, List.setIfInBounds_toArray, List.set_cons_zero, List.set_cons_succ] at hk
        have HK := Lib.hid hk
        obtain ⟨hj, hmN⟩ := hw.out
        clear hd hw hx hk hK
        have hrN := hmN.rd hr11 hr11.few.2.2
        go_simp
        go_at_call 41
        refine (HC.out _ hrN).mono ?_
        rintro e wF ⟨rfl, hnF, hrF⟩
        exact ⟨rfl, rfl, (hm11.trans hl hmN).trans hl hnF, hrF⟩
       refine ⟨?_, ?_⟩
       ·intro v w' x hw hx hd K hK
        have t4 : v 4 = x := hx.out 4 _ rfl rfl
        have hk := hK.out
        simp only [t4, Act.put, List.setIfInBounds_toArray, List.set_cons_zero, List.set_cons_succ] at hk
        have HK := Lib.hid hk
        exact hw.out.elim
       refine ⟨?_, ?_⟩
       ·intro v w' x hw hx hd K hK
        have t2 : v 2 = _ := hd.out 2 (by kernel_rfl) rfl
        have t5 : v 5 = x := hx.out 5 _ rfl rfl
        have hk := hK.out
        simp only [t2, t5, Act.put, List.setIfInBounds_toArray, List.set_cons_zero, List.set_cons_succ] at hk
        have HK := Lib.hid hk
        exact hw.out.elim
       refine ⟨?_, ?_⟩
       ·intro v w' hj hd K hK
        have hk := hK.out
        simp only [Act.put, List.setIfInBounds_toArray, List.set_cons_zero, List.set_cons_succ] at hk
        have HK := Lib.hid hk
        clear hd hk hK
        go_simp
        exact HK.out _ (show _ = _ from rfl)
       trivial
      case htail =>
       intro v w' x hw hx hd
       have t0 : v 0 = _ := hd.out 0 (by decide) rfl
       have t6 : v 6 = x := hx.out 6 _ rfl rfl
       have t7 : v 7 = _ := hd.out 7 (by decide) rfl
       simp only [t0, t6, t7, List.drop_succ_cons, List.drop_zero]
       clear hx hd t0 t6 t7
       exact hw.out.elim
     | ok tb q9 =>
      rw [Px.bind_ok hp] at hRR
      try dsimp only at hRR
      have HC0 := fun W2 (hr2 : Rd W2 rb TA tc ts sz m11 o) => term_any hr2
      rw [hp] at HC0
      unfold tmV at HC0
      have HC := Lib.hid HC0
      clear HC0 hp
      have HX := Lib.hid x_11
      have HRA := Lib.hid ra_11
      have HAR := Lib.hid ar_11
      obtain ⟨iT, hi0, hi1, hi2, hi3⟩ := info_parts term_info
      refine' wp_region_chain 8 3 _ ([none, none, none, none, some 0, some 1, some 2, none] : List (Option Nat)) (fun p x W => match p with | 0 => (At W (W2.heap.size) 58 #[.int .i64 5, .string ⟨#[]⟩, .int .i64 (-1), .slice (some ⟨W6.heap.size, 0, none⟩) 1 1, .string ⟨#[]⟩, .string ⟨#[]⟩, .int .i64 (-1), .int .i64 0, .int .i64 ((tokAt ts sz i).pos : Int)] ∧ At W (w.heap.size) 58 #[.int .i64 0, .string ⟨#[]⟩, .int .i64 0, .slice none 0 0, .string ⟨#[]⟩, .string ⟨#[]⟩, .int .i64 0, .int .i64 0, .int .i64 0]) ∧ Mv rb m11 W9 W | 1 => (At W (W2.heap.size) 58 #[.int .i64 5, .string ⟨#[]⟩, .int .i64 (-1), .slice (some ⟨W6.heap.size, 0, none⟩) 1 1, .string ⟨#[]⟩, .string ⟨#[]⟩, .int .i64 (-1), .int .i64 0, .int .i64 ((tokAt ts sz i).pos : Int)] ∧ At W (w.heap.size) 58 #[.int .i64 0, .string ⟨#[]⟩, .int .i64 0, .slice none 0 0, .string ⟨#[]⟩, .string ⟨#[]⟩, .int .i64 0, .int .i64 0, .int .i64 0]) ∧ x = .agg #[.string (bs tb.v), .int .i64 tb.t, .int .i64 tb.n, .string (bs tb.s)] ∧ Mv rb q9 W9 W ∧ Rd W rb TA tc ts sz q9 o | 2 => (At W (W2.heap.size) 58 #[.int .i64 5, .string ⟨#[]⟩, .int .i64 (-1), .slice (some ⟨W6.heap.size, 0, none⟩) 1 1, .string ⟨#[]⟩, .string ⟨#[]⟩, .int .i64 (-1), .int .i64 0, .int .i64 ((tokAt ts sz i).pos : Int)] ∧ At W (w.heap.size) 58 #[.int .i64 0, .string ⟨#[]⟩, .int .i64 0, .slice none 0 0, .string ⟨#[]⟩, .string ⟨#[]⟩, .int .i64 0, .int .i64 0, .int .i64 0]) ∧ ∃ bb, x = .slice (some ⟨bb, 0, none⟩) 1 1 ∧ At W bb 71 (tmFs tb).toArray ∧ Mv rb q9 W9 W ∧ Rd W rb TA tc ts sz q9 o | _ => (At W (W2.heap.size) 58 #[.int .i64 5, .string ⟨#[]⟩, .int .i64 (-1), .slice (some ⟨W6.heap.size, 0, none⟩) 1 1, .string ⟨#[]⟩, .string ⟨#[]⟩, .int .i64 (-1), .int .i64 0, .int .i64 ((tokAt ts sz i).pos : Int)] ∧ At W (w.heap.size) 58 #[.int .i64 0, .string ⟨#[]⟩, .int .i64 0, .slice none 0 0, .string ⟨#[]⟩, .string ⟨#[]⟩, .int .i64 0, .int .i64 0, .int .i64 0]) ∧ W.ownsRow w.heap.size 71 4 x 2 (tmCells [ta, tb]) ∧ Mv rb q9 w W ∧ q9 ≤ ts.length) (fun W => (At W (W2.heap.size) 58 #[.int .i64 5, .string ⟨#[]⟩, .int .i64 (-1), .slice (some ⟨W6.heap.size, 0, none⟩) 1 1, .string ⟨#[]⟩, .string ⟨#[]⟩, .int .i64 (-1), .int .i64 0, .int .i64 ((tokAt ts sz i).pos : Int)] ∧ At W (w.heap.size) 58 #[.int .i64 0, .string ⟨#[]⟩, .int .i64 0, .slice none 0 0, .string ⟨#[]⟩, .string ⟨#[]⟩, .int .i64 0, .int .i64 0, .int .i64 0])) (Pv :: Pv :: Pv :: Pv :: Fv :: Fv :: Fv :: Pv :: []) ?hF (by kernel_rfl) (by kernel_rfl) (by kernel_rfl) (of_decide_eq_true (by kernel_rfl)) (by kernel_rfl) (by kernel_rfl) (by kernel_rfl) (by kernel_rfl) (by kernel_rfl) ?hW ?hJ ?hops ?htail
      case hF => (intro v; simp only [over, Act.put, List.setIfInBounds_toArray, List.set_cons_zero, List.set_cons_succ, Nat.zero_add, Nat.reduceAdd]; exact rfl)
      case hW =>
       refine fun _ => ⟨?_, Mv.still hr11 ((Below.refl W9.heap.size W9).drew)⟩
       have hN := Mv.still hr11 ((Below.refl W9.heap.size W9).drew)
       exact ⟨hN.at x_11 hnex, hN.at ra_11 hnera⟩
      case hJ =>
       intro p x W2 h
       match p, h with
       | 0, h => exact h.1
       | 1, h => exact h.1
       | 2, h => exact h.1
       | _ + 3, h => exact h.1
      case hops =>
       refine ⟨?_, ?_⟩
       ·intro v w' hj hd K hK
        have hk := hK.out
        simp only [Act.put, List.setIfInBounds_toArray, List.set_cons_zero, List.set_cons_succ] at hk
        have HK := Lib.hid hk
        clear hd hk hK
        go_simp
        exact HK.out _ (show _ = _ from rfl)
       refine ⟨?_, ?_⟩
       ·intro v w' hj hd K hK
        have hk := hK.out
        simp only [Act.put, List.setIfInBounds_toArray, List.set_cons_zero, List.set_cons_succ] at hk
        have HK := Lib.hid hk
        clear hd hk hK
        go_simp
        exact HK.out _ (show _ = _ from rfl)
       refine ⟨?_, ?_⟩
       ·intro v w' hj hd K hK
        have t1 : v 1 = _ := hd.out 1 (by kernel_rfl) rfl
        have yx := hj.out.1.cell 3
        simp only [List.getElem?_toArray, List.getElem?_cons_zero, List.getElem?_cons_succ] at yx
        have hk := hK.out
        simp only [t1, Act.put, List.setIfInBounds_toArray, List.set_cons_zero, List.set_cons_succ] at hk
        have HK := Lib.hid hk
        clear hd hk hK
        go_simp
        exact HK.out _ (show _ = _ from rfl)
       refine ⟨?_, ?_⟩
       ·intro v w' hj hd K hK
        have hk := hK.out
        simp only [Act.put, List.setIfInBounds_toArray, List.set_cons_zero, List.set_cons_succ] at hk
        have HK := Lib.hid hk
        clear hd hk hK
        go_simp
        exact HK.out _ (show _ = _ from rfl)
       refine ⟨?_, ?_⟩
       ·intro v w' x hw hx hd K hK
        have t3 : v 3 = _ := hd.out 3 (by kernel_rfl) rfl
        have hk := hK.out
        simp only [t3, Act.put, List.setIfInBounds_toArray, List.set_cons_zero, List.set_cons_succ] at hk
        have HK := Lib.hid hk
        obtain ⟨hj, hmN⟩ := hw.out
        clear hd hw hx hk hK
        have hrN := hmN.rd hr11 hr11.few.2.2
        go_simp
        go_at_call 41
        refine (HC.out _ hrN).mono ?_
        rintro e wF ⟨⟨_, rfl, rfl⟩, hnF, hrF⟩
        have hN := hmN.trans hr11.box.lt hnF
        exact HK.out _ _ ⟨⟨hN.at x_11 hnex, hN.at ra_11 hnera⟩, rfl, hN, hrF⟩
       refine ⟨?_, ?_⟩
       ·intro v w' x hw hx hd K hK
        have t4 : v 4 = x := hx.out 4 _ rfl rfl
        have hk := hK.out
        simp only [t4, Act.put, List.setIfInBounds_toArray, List.set_cons_zero, List.set_cons_succ] at hk
        have HK := Lib.hid hk
        obtain ⟨hj, rfl, hmN, hrN⟩ := hw.out
        clear hd hw hx hk hK
        go_simp
        have hN := hmN.trans hr11.box.lt (Mv.still hrN (below1 w' (.cells #[.string (bs tb.v), .int .i64 tb.t, .int .i64 tb.n, .string (bs tb.s)] 71)))
        exact HK.out _ _ ⟨⟨hN.at x_11 hnex, hN.at ra_11 hnera⟩, _, rfl, At.new _ _ _, hN, hrN.next (below1 _ _)⟩
       refine ⟨?_, ?_⟩
       ·intro v w' x hw hx hd K hK
        have t2 : v 2 = _ := hd.out 2 (by kernel_rfl) rfl
        have t5 : v 5 = x := hx.out 5 _ rfl rfl
        have hk := hK.out
        rw [if_pos (show Region.wanted _ _ = true from rfl)]
        simp only [t2, t5] at hk ⊢
        have HK := Lib.hid hk
        obtain ⟨hj, bb, rfl, hbb, hmN, hrN⟩ := hw.out
        have hoN := own_mv hlB HAR.out hmN
        refine wp_append_keep (.tmp 52) (.tmp 55) 56 rfl w.heap.size 71 iT (.agg #[.string ⟨#[]⟩, .int .i64 0, .int .i64 0, .string ⟨#[]⟩]) 4 48 Tryd.underlying56 hi0 hi1 hi2 hi3 rfl (by decide) _ 1 (tmCells [ta]) rfl hoN ⟨bb, 0, none⟩ 1 1 (tmFs tb) rfl rfl (At.news hbb) (tm_one tb) (by unfold maxLen; omega) (by omega) (Nat.le_trans hm11.size hmN.size) fun v5 w5 o5 o6 g5 => ?_
        exact HK.out _ _ ⟨⟨hj.1.grown g5 (own_far hoN hj.1 (by decide)), hj.2.grown g5 (own_far hoN hj.2 (by decide))⟩, o5, (hm11.trans hl hmN).grown g5 (fun z hz => (own_lt hoN hz).1), hrN.few.2.2⟩
       refine ⟨?_, ?_⟩
       ·intro v w' hj hd K hK
        have hk := hK.out
        simp only [Act.put, List.setIfInBounds_toArray, List.set_cons_zero, List.set_cons_succ] at hk
        have HK := Lib.hid hk
        clear hd hk hK
        go_simp
        exact HK.out _ (show _ = _ from rfl)
       trivial
      case htail =>
       intro v w' x hw hx hd
       have t0 : v 0 = _ := hd.out 0 (by decide) rfl
       have t6 : v 6 = x := hx.out 6 _ rfl rfl
       have t7 : v 7 = _ := hd.out 7 (by decide) rfl
       simp only [t0, t6, t7, List.drop_succ_cons, List.drop_zero]
       clear hx hd t0 t6 t7
       obtain ⟨⟨x_9, ra_9⟩, ar_9, hm9, hq9⟩ := hw.out
       have hr9 := hm9.rd HR.out hq9
       obtain ⟨A9, c9, rfl⟩ := own_len ar_9
       clear hw
       have yx0 := x_9.cell 0
       have yx1 := x_9.cell 1
       have yx2 := x_9.cell 2
       have yx3 := x_9.cell 3
       have yx4 := x_9.cell 4
       have yx5 := x_9.cell 5
       have yx6 := x_9.cell 6
       have yx7 := x_9.cell 7
       have yx8 := x_9.cell 8
       have fx0 := x_9.frozen 0
       have fx1 := x_9.frozen 1
       have fx2 := x_9.frozen 2
       have fx3 := x_9.frozen 3
       have fx4 := x_9.frozen 4
       have fx5 := x_9.frozen 5
       have fx6 := x_9.frozen 6
       have fx7 := x_9.frozen 7
       have fx8 := x_9.frozen 8
       have ylx := x_9.lt
       simp only [List.getElem?_toArray, List.getElem?_cons_zero, List.getElem?_cons_succ] at yx0 yx1 yx2 yx3 yx4 yx5 yx6 yx7 yx8
       have yra0 := ra_9.cell 0
       have yra1 := ra_9.cell 1
       have yra2 := ra_9.cell 2
       have yra3 := ra_9.cell 3
       have yra4 := ra_9.cell 4
       have yra5 := ra_9.cell 5
       have yra6 := ra_9.cell 6
       have yra7 := ra_9.cell 7
       have yra8 := ra_9.cell 8
       have fra0 := ra_9.frozen 0
       have fra1 := ra_9.frozen 1
       have fra2 := ra_9.frozen 2
       have fra3 := ra_9.frozen 3
       have fra4 := ra_9.frozen 4
       have fra5 := ra_9.frozen 5
       have fra6 := ra_9.frozen 6
       have fra7 := ra_9.frozen 7
       have fra8 := ra_9.frozen 8
       have ylra := ra_9.lt
       simp only [List.getElem?_toArray, List.getElem?_cons_zero, List.getElem?_cons_succ] at yra0 yra1 yra2 yra3 yra4 yra5 yra6 yra7 yra8
       go_wp2_with fail
       clear yx0 fx0 yx1 fx1 yx2 fx2 yx3 fx3 yx4 fx4 yx5 fx5 yx6 fx6 yx7 fx7 yx8 fx8 ylx
       clear yra0 fra0 yra1 fra1 yra2 fra2 yra3 fra3 yra4 fra4 yra5 fra5 yra6 fra6 yra7 fra7 yra8 fra8 ylra
       have x_10 := ((x_9.put 7 (.int .i64 (Px.opOf (Px.tx (Px.kts ts) q6)))).put 3 (.slice A9 2 c9))
       simp only [List.setIfInBounds_toArray, List.set_cons_zero, List.set_cons_succ] at x_10
       have hm10 := hm9.after (((Below.refl (W2.heap.size) w').setCell (p := ⟨W2.heap.size, 7, none⟩) (Nat.le_refl _) (.int .i64 (Px.opOf (Px.tx (Px.kts ts) q6)))).setCell (p := ⟨W2.heap.size, 3, none⟩) (Nat.le_refl _) (.slice A9 2 c9)) hBx
       have hr10 := hm10.rd HR.out hr9.few.2.2
       have ra_10 := ((ra_9.far (p := ⟨W2.heap.size, 7, none⟩) (Ne.symm NExra) (.int .i64 (Px.opOf (Px.tx (Px.kts ts) q6)))).far (p := ⟨W2.heap.size, 3, none⟩) (Ne.symm NExra) (.slice A9 2 c9))
       have ar_10 := ar_9
       replace ar_10 := own_putne ar_10 (p := ⟨W2.heap.size, 7, none⟩) (own_far ar_10 x_9 (by decide)) (.int .i64 (Px.opOf (Px.tx (Px.kts ts) q6)))
       replace ar_10 := own_putne ar_10 (p := ⟨W2.heap.size, 3, none⟩) (own_far ar_10 (x_9.put 7 (.int .i64 (Px.opOf (Px.tx (Px.kts ts) q6)))) (by decide)) (.slice A9 2 c9)
       have hz10 : ((w'.setCell ⟨W2.heap.size, 7, none⟩ (.int .i64 (Px.opOf (Px.tx (Px.kts ts) q6)))).setCell ⟨W2.heap.size, 3, none⟩ (.slice A9 2 c9)).heap.size = w'.heap.size := (by simp : ((w'.setCell ⟨W2.heap.size, 7, none⟩ (.int .i64 (Px.opOf (Px.tx (Px.kts ts) q6)))).setCell ⟨W2.heap.size, 3, none⟩ (.slice A9 2 c9)).heap.size = w'.heap.size).trans rfl
       generalize hw10 : ((w'.setCell ⟨W2.heap.size, 7, none⟩ (.int .i64 (Px.opOf (Px.tx (Px.kts ts) q6)))).setCell ⟨W2.heap.size, 3, none⟩ (.slice A9 2 c9)) = W100 at x_10 hm10 hr10 ra_10 ar_10 hz10 ⊢
       clear hw10
       have ra_11 := (((((((((ra_10.put 0 (.int .i64 5)).put 1 (.string ⟨#[]⟩)).put 2 (.int .i64 (-1))).put 3 (.slice A9 2 c9)).put 4 (.string ⟨#[]⟩)).put 5 (.string ⟨#[]⟩)).put 6 (.int .i64 (-1))).put 7 (.int .i64 (Px.opOf (Px.tx (Px.kts ts) q6)))).put 8 (.int .i64 ((tokAt ts sz i).pos : Int)))
       simp only [List.setIfInBounds_toArray, List.set_cons_zero, List.set_cons_succ] at ra_11
       have hm11 := hm10.after ((((((((((Below.refl (w.heap.size) W100).setCell (p := ⟨w.heap.size, 0, none⟩) (Nat.le_refl _) (.int .i64 5)).setCell (p := ⟨w.heap.size, 1, none⟩) (Nat.le_refl _) (.string ⟨#[]⟩)).setCell (p := ⟨w.heap.size, 2, none⟩) (Nat.le_refl _) (.int .i64 (-1))).setCell (p := ⟨w.heap.size, 3, none⟩) (Nat.le_refl _) (.slice A9 2 c9)).setCell (p := ⟨w.heap.size, 4, none⟩) (Nat.le_refl _) (.string ⟨#[]⟩)).setCell (p := ⟨w.heap.size, 5, none⟩) (Nat.le_refl _) (.string ⟨#[]⟩)).setCell (p := ⟨w.heap.size, 6, none⟩) (Nat.le_refl _) (.int .i64 (-1))).setCell (p := ⟨w.heap.size, 7, none⟩) (Nat.le_refl _) (.int .i64 (Px.opOf (Px.tx (Px.kts ts) q6)))).setCell (p := ⟨w.heap.size, 8, none⟩) (Nat.le_refl _) (.int .i64 ((tokAt ts sz i).pos : Int))) hBra
       have hr11 := hm11.rd HR.out hr10.few.2.2
       have x_11 := (((((((((x_10.far (p := ⟨w.heap.size, 0, none⟩) NExra (.int .i64 5)).far (p := ⟨w.heap.size, 1, none⟩) NExra (.string ⟨#[]⟩)).far (p := ⟨w.heap.size, 2, none⟩) NExra (.int .i64 (-1))).far (p := ⟨w.heap.size, 3, none⟩) NExra (.slice A9 2 c9)).far (p := ⟨w.heap.size, 4, none⟩) NExra (.string ⟨#[]⟩)).far (p := ⟨w.heap.size, 5, none⟩) NExra (.string ⟨#[]⟩)).far (p := ⟨w.heap.size, 6, none⟩) NExra (.int .i64 (-1))).far (p := ⟨w.heap.size, 7, none⟩) NExra (.int .i64 (Px.opOf (Px.tx (Px.kts ts) q6)))).far (p := ⟨w.heap.size, 8, none⟩) NExra (.int .i64 ((tokAt ts sz i).pos : Int)))
       have ar_11 := ar_10
       replace ar_11 := own_putne ar_11 (p := ⟨w.heap.size, 0, none⟩) (own_far ar_11 ra_10 (by decide)) (.int .i64 5)
       replace ar_11 := own_putne ar_11 (p := ⟨w.heap.size, 1, none⟩) (own_far ar_11 (ra_10.put 0 (.int .i64 5)) (by decide)) (.string ⟨#[]⟩)
       replace ar_11 := own_putne ar_11 (p := ⟨w.heap.size, 2, none⟩) (own_far ar_11 ((ra_10.put 0 (.int .i64 5)).put 1 (.string ⟨#[]⟩)) (by decide)) (.int .i64 (-1))
       replace ar_11 := own_putne ar_11 (p := ⟨w.heap.size, 3, none⟩) (own_far ar_11 (((ra_10.put 0 (.int .i64 5)).put 1 (.string ⟨#[]⟩)).put 2 (.int .i64 (-1))) (by decide)) (.slice A9 2 c9)
       replace ar_11 := own_putne ar_11 (p := ⟨w.heap.size, 4, none⟩) (own_far ar_11 ((((ra_10.put 0 (.int .i64 5)).put 1 (.string ⟨#[]⟩)).put 2 (.int .i64 (-1))).put 3 (.slice A9 2 c9)) (by decide)) (.string ⟨#[]⟩)
       replace ar_11 := own_putne ar_11 (p := ⟨w.heap.size, 5, none⟩) (own_far ar_11 (((((ra_10.put 0 (.int .i64 5)).put 1 (.string ⟨#[]⟩)).put 2 (.int .i64 (-1))).put 3 (.slice A9 2 c9)).put 4 (.string ⟨#[]⟩)) (by decide)) (.string ⟨#[]⟩)
       replace ar_11 := own_putne ar_11 (p := ⟨w.heap.size, 6, none⟩) (own_far ar_11 ((((((ra_10.put 0 (.int .i64 5)).put 1 (.string ⟨#[]⟩)).put 2 (.int .i64 (-1))).put 3 (.slice A9 2 c9)).put 4 (.string ⟨#[]⟩)).put 5 (.string ⟨#[]⟩)) (by decide)) (.int .i64 (-1))
       replace ar_11 := own_putne ar_11 (p := ⟨w.heap.size, 7, none⟩) (own_far ar_11 (((((((ra_10.put 0 (.int .i64 5)).put 1 (.string ⟨#[]⟩)).put 2 (.int .i64 (-1))).put 3 (.slice A9 2 c9)).put 4 (.string ⟨#[]⟩)).put 5 (.string ⟨#[]⟩)).put 6 (.int .i64 (-1))) (by decide)) (.int .i64 (Px.opOf (Px.tx (Px.kts ts) q6)))
       replace ar_11 := own_putne ar_11 (p := ⟨w.heap.size, 8, none⟩) (own_far ar_11 ((((((((ra_10.put 0 (.int .i64 5)).put 1 (.string ⟨#[]⟩)).put 2 (.int .i64 (-1))).put 3 (.slice A9 2 c9)).put 4 (.string ⟨#[]⟩)).put 5 (.string ⟨#[]⟩)).put 6 (.int .i64 (-1))).put 7 (.int .i64 (Px.opOf (Px.tx (Px.kts ts) q6)))) (by decide)) (.int .i64 ((tokAt ts sz i).pos : Int))
       have hz11 : (((((((((W100.setCell ⟨w.heap.size, 0, none⟩ (.int .i64 5)).setCell ⟨w.heap.size, 1, none⟩ (.string ⟨#[]⟩)).setCell ⟨w.heap.size, 2, none⟩ (.int .i64 (-1))).setCell ⟨w.heap.size, 3, none⟩ (.slice A9 2 c9)).setCell ⟨w.heap.size, 4, none⟩ (.string ⟨#[]⟩)).setCell ⟨w.heap.size, 5, none⟩ (.string ⟨#[]⟩)).setCell ⟨w.heap.size, 6, none⟩ (.int .i64 (-1))).setCell ⟨w.heap.size, 7, none⟩ (.int .i64 (Px.opOf (Px.tx (Px.kts ts) q6)))).setCell ⟨w.heap.size, 8, none⟩ (.int .i64 ((tokAt ts sz i).pos : Int))).heap.size = w'.heap.size := (by simp : (((((((((W100.setCell ⟨w.heap.size, 0, none⟩ (.int .i64 5)).setCell ⟨w.heap.size, 1, none⟩ (.string ⟨#[]⟩)).setCell ⟨w.heap.size, 2, none⟩ (.int .i64 (-1))).setCell ⟨w.heap.size, 3, none⟩ (.slice A9 2 c9)).setCell ⟨w.heap.size, 4, none⟩ (.string ⟨#[]⟩)).setCell ⟨w.heap.size, 5, none⟩ (.string ⟨#[]⟩)).setCell ⟨w.heap.size, 6, none⟩ (.int .i64 (-1))).setCell ⟨w.heap.size, 7, none⟩ (.int .i64 (Px.opOf (Px.tx (Px.kts ts) q6)))).setCell ⟨w.heap.size, 8, none⟩ (.int .i64 ((tokAt ts sz i).pos : Int))).heap.size = W100.heap.size).trans hz10
       generalize hw11 : (((((((((W100.setCell ⟨w.heap.size, 0, none⟩ (.int .i64 5)).setCell ⟨w.heap.size, 1, none⟩ (.string ⟨#[]⟩)).setCell ⟨w.heap.size, 2, none⟩ (.int .i64 (-1))).setCell ⟨w.heap.size, 3, none⟩ (.slice A9 2 c9)).setCell ⟨w.heap.size, 4, none⟩ (.string ⟨#[]⟩)).setCell ⟨w.heap.size, 5, none⟩ (.string ⟨#[]⟩)).setCell ⟨w.heap.size, 6, none⟩ (.int .i64 (-1))).setCell ⟨w.heap.size, 7, none⟩ (.int .i64 (Px.opOf (Px.tx (Px.kts ts) q6)))).setCell ⟨w.heap.size, 8, none⟩ (.int .i64 ((tokAt ts sz i).pos : Int))) = W101 at ra_11 hm11 hr11 x_11 ar_11 hz11 ⊢
       clear hw11
       try unfold Px.ret at hRR
       try dsimp only at hRR
       subst hRR
       refine bodyPost_ret (results_cell_row rfl _ _ (w.heap.size) 58 _ (0, 0) _ rfl ra_11 Tryd.underlying58 rfl (by kernel_rfl)) rfl ?_
       exact ⟨⟨_, rfl, ⟨_, rfl, TRow.of_own ar_11⟩⟩, hm11, hr11⟩
  ·skip
   rw [hz, if_pos rfl] at hRR
   have HC := Lib.hid (is_any hr4 1 (by omega))
   rw [hz] at HC
   clear hz
   go_wp2_with (go_at_call 66; refine (HC.out).mono ?_; rintro e W5 ⟨rfl, hn5⟩; have hn5 := Mv.still hr4 hn5; have hr5 := hn5.rd hr4 hr4.few.2.2; have hm5 := hm4.trans hl hn5; have ra_5 := hn5.at ra_4 hnera; have x_5 := hn5.at x_4 hnex; clear HC)
   by_cases hx : Px.tx (Px.kts ts) (i + 1) = [40]
   ·skip
    rw [if_pos hx] at hRR
    have tE : ((bs (tokAt ts sz (i + 1)).text).toList == [40]) = true := (bs_eqc _ _).trans (decide_eq_true (by rw [← tx_at ts sz]; exact hx))
    have tN : ((bs (tokAt ts sz (i + 1)).text).toList != [40]) = false := by rw [bne, tE]; rfl
    have ff := fun W => field_tok1 (tokAt ts sz (i + 1)).kind 0 (tokAt ts sz (i + 1)).pos (bs (tokAt ts sz (i + 1)).text) W
    have HC0 := peek_any hr5 1 (by omega)
    unfold tokV at HC0
    try rw [Nat.add_zero] at HC0
    have HC := Lib.hid HC0
    clear HC0 hx
    unfold Px.atom at hRR
    go_wp2_with (go_at_call 29; refine (HC.out).mono ?_; rintro e W6 ⟨rfl, hn6⟩; have hn6 := Mv.still hr5 hn6; have hr6 := hn6.rd hr5 hr5.few.2.2; have hm6 := hm5.trans hl hn6; have ra_6 := hn6.at ra_5 hnera; have x_6 := hn6.at x_5 hnex; clear HC)
    cases hp : Px.word 1 (Px.kts ts) i with
    | fail q7 =>
     rw [Px.bind_fail (hp)] at hRR
     subst hRR
     have HC := Lib.hid (pword_any hr6 1 (by omega))
     rw [hp] at HC
     clear hp
     go_wp2_with (go_at_call 43; refine (HC.out).mono ?_; rintro e wF ⟨rfl, hnF, hrF⟩)
     exact ⟨rfl, rfl, hm6.trans hl hnF, hrF⟩
    | ok nm q7 =>
     rw [Px.bind_ok (hp)] at hRR
     try dsimp only at hRR
     have HC := Lib.hid (pword_any hr6 1 (by omega))
     rw [hp] at HC
     have HQ7 := Lib.hid hp
     clear hp
     go_wp2_with (go_at_call 43; refine (HC.out).mono ?_; rintro e W7 ⟨⟨_, rfl, rfl⟩, hn8, hr8⟩; have hm8 := hm6.trans hl hn8; have ra_8 := hn8.at ra_6 hnera; have x_8 := hn8.at x_6 hnex; clear HC; have yx0 := x_8.cell 0; have yx1 := x_8.cell 1; have yx2 := x_8.cell 2; have yx3 := x_8.cell 3; have yx4 := x_8.cell 4; have yx5 := x_8.cell 5; have yx6 := x_8.cell 6; have yx7 := x_8.cell 7; have yx8 := x_8.cell 8; have fx0 := x_8.frozen 0; have fx1 := x_8.frozen 1; have fx2 := x_8.frozen 2; have fx3 := x_8.frozen 3; have fx4 := x_8.frozen 4; have fx5 := x_8.frozen 5; have fx6 := x_8.frozen 6; have fx7 := x_8.frozen 7; have fx8 := x_8.frozen 8; have ylx := x_8.lt; simp only [List.getElem?_toArray, List.getElem?_cons_zero, List.getElem?_cons_succ] at yx0 yx1 yx2 yx3 yx4 yx5 yx6 yx7 yx8)
     clear yx0 fx0 yx1 fx1 yx2 fx2 yx3 fx3 yx4 fx4 yx5 fx5 yx6 fx6 yx7 fx7 yx8 fx8 ylx
     have x_9 := (x_8.put 1 (.string (bs nm)))
     simp only [List.setIfInBounds_toArray, List.set_cons_zero, List.set_cons_succ] at x_9
     have hm9 := hm8.after ((Below.refl (W2.heap.size) W7).setCell (p := ⟨W2.heap.size, 1, none⟩) (Nat.le_refl _) (.string (bs nm))) hBx
     have hr9 := hm9.rd HR.out hr8.few.2.2
     have ra_9 := (ra_8.far (p := ⟨W2.heap.size, 1, none⟩) (Ne.symm NExra) (.string (bs nm)))
     have hz9 : (W7.setCell ⟨W2.heap.size, 1, none⟩ (.string (bs nm))).heap.size = W7.heap.size := (by simp : (W7.setCell ⟨W2.heap.size, 1, none⟩ (.string (bs nm))).heap.size = W7.heap.size).trans rfl
     generalize hw9 : (W7.setCell ⟨W2.heap.size, 1, none⟩ (.string (bs nm))) = W8 at x_9 hm9 hr9 ra_9 hz9 ⊢
     clear hw9
     cases hp : Px.need [40] (Px.kts ts) q7 with
     | fail q10 =>
      rw [Px.bind_fail (hp)] at hRR
      subst hRR
      have HC := Lib.hid (need_any hr9 [40] (by decide))
      rw [hp] at HC
      clear hp
      go_wp2_with (go_at_call 55; refine (HC.out).mono ?_; rintro e wF ⟨rfl, hnF, hrF⟩)
      exact ⟨rfl, rfl, hm9.trans hl hnF, hrF⟩
     | ok u q10 =>
      rw [Px.bind_ok (hp)] at hRR
      try dsimp only at hRR
      have HC := Lib.hid (need_any hr9 [40] (by decide))
      rw [hp] at HC
      have HQ10 := Lib.hid hp
      clear hp
      go_wp2_with (go_at_call 55; refine (HC.out).mono ?_; rintro e W9 ⟨⟨_, rfl, rfl⟩, hn11, hr11⟩; have hm11 := hm9.trans hl hn11; have ra_11 := hn11.at ra_9 hnera; have x_11 := hn11.at x_9 hnex; clear HC)
      cases hp : Px.terms Px.term (Px.kts ts) q10 with
      | fail q12 =>
       rw [Px.bind_fail (hp)] at hRR
       subst hRR
       have HC := Lib.hid (terms_term hr11)
       rw [hp] at HC
       clear hp
       go_wp2_with (go_at_call 40; refine (HC.out).mono ?_; rintro e wF ⟨rfl, hnF, hrF⟩)
       exact ⟨rfl, rfl, hm11.trans hl hnF, hrF⟩
      | ok ag q12 =>
       rw [Px.bind_ok (hp)] at hRR
       try dsimp only at hRR
       have HC := Lib.hid (terms_term hr11)
       rw [hp] at HC
       have HQ12 := Lib.hid hp
       clear hp
       go_wp2_with (go_at_call 40; refine (HC.out).mono ?_; rintro e W10 ⟨⟨av, rfl, ho0⟩, hn13, hr13⟩; have hm13 := hm11.trans hl hn13; have ra_13 := hn13.at ra_11 hnera; have x_13 := hn13.at x_11 hnex; obtain ⟨aA, aC, rfl⟩ := own_len ho0; have ar_13 := own_mono ho0 hm11.size; clear HC; have yx0 := x_13.cell 0; have yx1 := x_13.cell 1; have yx2 := x_13.cell 2; have yx3 := x_13.cell 3; have yx4 := x_13.cell 4; have yx5 := x_13.cell 5; have yx6 := x_13.cell 6; have yx7 := x_13.cell 7; have yx8 := x_13.cell 8; have fx0 := x_13.frozen 0; have fx1 := x_13.frozen 1; have fx2 := x_13.frozen 2; have fx3 := x_13.frozen 3; have fx4 := x_13.frozen 4; have fx5 := x_13.frozen 5; have fx6 := x_13.frozen 6; have fx7 := x_13.frozen 7; have fx8 := x_13.frozen 8; have ylx := x_13.lt; simp only [List.getElem?_toArray, List.getElem?_cons_zero, List.getElem?_cons_succ] at yx0 yx1 yx2 yx3 yx4 yx5 yx6 yx7 yx8)
       clear yx0 fx0 yx1 fx1 yx2 fx2 yx3 fx3 yx4 fx4 yx5 fx5 yx6 fx6 yx7 fx7 yx8 fx8 ylx
       have x_14 := (x_13.put 3 (.slice aA ag.length aC))
       simp only [List.setIfInBounds_toArray, List.set_cons_zero, List.set_cons_succ] at x_14
       have hm14 := hm13.after ((Below.refl (W2.heap.size) W10).setCell (p := ⟨W2.heap.size, 3, none⟩) (Nat.le_refl _) (.slice aA ag.length aC)) hBx
       have hr14 := hm14.rd HR.out hr13.few.2.2
       have ra_14 := (ra_13.far (p := ⟨W2.heap.size, 3, none⟩) (Ne.symm NExra) (.slice aA ag.length aC))
       have ar_14 := ar_13
       replace ar_14 := own_putne ar_14 (p := ⟨W2.heap.size, 3, none⟩) (own_far ar_14 x_13 (by decide)) (.slice aA ag.length aC)
       have hz14 : (W10.setCell ⟨W2.heap.size, 3, none⟩ (.slice aA ag.length aC)).heap.size = W10.heap.size := (by simp : (W10.setCell ⟨W2.heap.size, 3, none⟩ (.slice aA ag.length aC)).heap.size = W10.heap.size).trans rfl
       generalize hw14 : (W10.setCell ⟨W2.heap.size, 3, none⟩ (.slice aA ag.length aC)) = W11 at x_14 hm14 hr14 ra_14 ar_14 hz14 ⊢
       clear hw14
       rw [if_neg (by simp)] at hRR
       unfold Px.optBind at hRR
       rw [Px.bind_assoc] at hRR
       try dsimp only at hRR
       rcases Px.take_two [59] (Px.kts ts) q12 with hp | hp
       ·skip
        rw [Px.bind_ok hp] at hRR
        try dsimp only at hRR
        first | rw [if_pos rfl] at hRR | rw [if_pos trivial] at hRR
        have HC := Lib.hid (take_any hr14 [59] (by decide))
        rw [hp] at HC
        clear hp
        go_wp2_with (go_at_call 42; refine (HC.out).mono ?_; rintro e W12 ⟨⟨_, rfl, rfl⟩, hn15, hr15⟩; have hm15 := hm14.trans hl hn15; have ra_15 := hn15.at ra_14 hnera; have x_15 := hn15.at x_14 hnex; have ar_15 := own_mv hlB ar_14 hn15; clear HC)
        cases hp : Px.word 2 (Px.kts ts) (q12 + 1) with
        | fail q16 =>
         rw [Px.bind_fail (hp)] at hRR
         subst hRR
         have HC := Lib.hid (pword_any hr15 2 (by omega))
         rw [hp] at HC
         clear hp
         go_wp2_with (go_at_call 43; refine (HC.out).mono ?_; rintro e wF ⟨rfl, hnF, hrF⟩)
         exact ⟨rfl, rfl, hm15.trans hl hnF, hrF⟩
        | ok bn q16 =>
         rw [Px.bind_ok (hp)] at hRR
         try dsimp only at hRR
         have HC := Lib.hid (pword_any hr15 2 (by omega))
         rw [hp] at HC
         have HQ16 := Lib.hid hp
         clear hp
         go_wp2_with (go_at_call 43; refine (HC.out).mono ?_; rintro e W13 ⟨⟨_, rfl, rfl⟩, hn17, hr17⟩; have hm17 := hm15.trans hl hn17; have ra_17 := hn17.at ra_15 hnera; have x_17 := hn17.at x_15 hnex; have ar_17 := own_mv hlB ar_15 hn17; clear HC; have yx0 := x_17.cell 0; have yx1 := x_17.cell 1; have yx2 := x_17.cell 2; have yx3 := x_17.cell 3; have yx4 := x_17.cell 4; have yx5 := x_17.cell 5; have yx6 := x_17.cell 6; have yx7 := x_17.cell 7; have yx8 := x_17.cell 8; have fx0 := x_17.frozen 0; have fx1 := x_17.frozen 1; have fx2 := x_17.frozen 2; have fx3 := x_17.frozen 3; have fx4 := x_17.frozen 4; have fx5 := x_17.frozen 5; have fx6 := x_17.frozen 6; have fx7 := x_17.frozen 7; have fx8 := x_17.frozen 8; have ylx := x_17.lt; simp only [List.getElem?_toArray, List.getElem?_cons_zero, List.getElem?_cons_succ] at yx0 yx1 yx2 yx3 yx4 yx5 yx6 yx7 yx8)
         clear yx0 fx0 yx1 fx1 yx2 fx2 yx3 fx3 yx4 fx4 yx5 fx5 yx6 fx6 yx7 fx7 yx8 fx8 ylx
         have x_18 := (x_17.put 4 (.string (bs bn)))
         simp only [List.setIfInBounds_toArray, List.set_cons_zero, List.set_cons_succ] at x_18
         have hm18 := hm17.after ((Below.refl (W2.heap.size) W13).setCell (p := ⟨W2.heap.size, 4, none⟩) (Nat.le_refl _) (.string (bs bn))) hBx
         have hr18 := hm18.rd HR.out hr17.few.2.2
         have ra_18 := (ra_17.far (p := ⟨W2.heap.size, 4, none⟩) (Ne.symm NExra) (.string (bs bn)))
         have ar_18 := ar_17
         replace ar_18 := own_putne ar_18 (p := ⟨W2.heap.size, 4, none⟩) (own_far ar_18 x_17 (by decide)) (.string (bs bn))
         have hz18 : (W13.setCell ⟨W2.heap.size, 4, none⟩ (.string (bs bn))).heap.size = W13.heap.size := (by simp : (W13.setCell ⟨W2.heap.size, 4, none⟩ (.string (bs bn))).heap.size = W13.heap.size).trans rfl
         generalize hw18 : (W13.setCell ⟨W2.heap.size, 4, none⟩ (.string (bs bn))) = W14 at x_18 hm18 hr18 ra_18 ar_18 hz18 ⊢
         clear hw18
         cases hp : Px.need [41] (Px.kts ts) q16 with
         | fail q19 =>
          rw [Px.bind_fail (hp)] at hRR
          subst hRR
          have HC := Lib.hid (need_any hr18 [41] (by decide))
          rw [hp] at HC
          clear hp
          go_wp2_with (go_at_call 55; refine (HC.out).mono ?_; rintro e wF ⟨rfl, hnF, hrF⟩)
          exact ⟨rfl, rfl, hm18.trans hl hnF, hrF⟩
         | ok u q19 =>
          rw [Px.bind_ok (hp)] at hRR
          try dsimp only at hRR
          have HC := Lib.hid (need_any hr18 [41] (by decide))
          rw [hp] at HC
          have HQ19 := Lib.hid hp
          clear hp
          by_cases hb : bn = []
          ·skip
           rw [if_pos hb] at hRR
           have tZ : ((bs bn).toList == []) = true := (bs_eqc _ _).trans (decide_eq_true hb)
           have tY : (bs bn).toList.isEmpty = true := by rw [bs_list]; cases bn <;> simp_all
           clear hb
           go_wp2_with (go_at_call 55; refine (HC.out).mono ?_; rintro e W15 ⟨⟨_, rfl, rfl⟩, hn20, hr20⟩; have hm20 := hm18.trans hl hn20; have ra_20 := hn20.at ra_18 hnera; have x_20 := hn20.at x_18 hnex; have ar_20 := own_mv hlB ar_18 hn20; clear HC; have yx0 := x_20.cell 0; have yx1 := x_20.cell 1; have yx2 := x_20.cell 2; have yx3 := x_20.cell 3; have yx4 := x_20.cell 4; have yx5 := x_20.cell 5; have yx6 := x_20.cell 6; have yx7 := x_20.cell 7; have yx8 := x_20.cell 8; have fx0 := x_20.frozen 0; have fx1 := x_20.frozen 1; have fx2 := x_20.frozen 2; have fx3 := x_20.frozen 3; have fx4 := x_20.frozen 4; have fx5 := x_20.frozen 5; have fx6 := x_20.frozen 6; have fx7 := x_20.frozen 7; have fx8 := x_20.frozen 8; have ylx := x_20.lt; simp only [List.getElem?_toArray, List.getElem?_cons_zero, List.getElem?_cons_succ] at yx0 yx1 yx2 yx3 yx4 yx5 yx6 yx7 yx8)
           clear yx0 fx0 yx1 fx1 yx2 fx2 yx3 fx3 yx4 fx4 yx5 fx5 yx6 fx6 yx7 fx7 yx8 fx8 ylx
           rcases Px.take_two [62, 61] (Px.kts ts) q19 with hp | hp
           ·skip
            rw [Px.bind_ok hp] at hRR
            try dsimp only at hRR
            first | rw [if_pos rfl] at hRR | rw [if_pos trivial] at hRR
            have HC := Lib.hid (take_any hr20 [62, 61] (by decide))
            rw [hp] at HC
            clear hp
            go_wp2_with (go_at_call 42; refine (HC.out).mono ?_; rintro e W16 ⟨⟨_, rfl, rfl⟩, hn21, hr21⟩; have hm21 := hm20.trans hl hn21; have ra_21 := hn21.at ra_20 hnera; have x_21 := hn21.at x_20 hnex; have ar_21 := own_mv hlB ar_20 hn21; clear HC)
            cases hp : Px.word 1 (Px.kts ts) (q19 + 1) with
            | fail q22 =>
             rw [Px.bind_fail (hp)] at hRR
             subst hRR
             have HC := Lib.hid (pword_any hr21 1 (by omega))
             rw [hp] at HC
             clear hp
             go_wp2_with (go_at_call 43; refine (HC.out).mono ?_; rintro e wF ⟨rfl, hnF, hrF⟩)
             exact ⟨rfl, rfl, hm21.trans hl hnF, hrF⟩
            | ok el q22 =>
             rw [Px.bind_ok (hp)] at hRR
             try dsimp only at hRR
             have HC := Lib.hid (pword_any hr21 1 (by omega))
             rw [hp] at HC
             have HQ22 := Lib.hid hp
             clear hp
             go_wp2_with (go_at_call 43; refine (HC.out).mono ?_; rintro e W17 ⟨⟨_, rfl, rfl⟩, hn23, hr23⟩; have hm23 := hm21.trans hl hn23; have ra_23 := hn23.at ra_21 hnera; have x_23 := hn23.at x_21 hnex; have ar_23 := own_mv hlB ar_21 hn23; clear HC; have yx0 := x_23.cell 0; have yx1 := x_23.cell 1; have yx2 := x_23.cell 2; have yx3 := x_23.cell 3; have yx4 := x_23.cell 4; have yx5 := x_23.cell 5; have yx6 := x_23.cell 6; have yx7 := x_23.cell 7; have yx8 := x_23.cell 8; have fx0 := x_23.frozen 0; have fx1 := x_23.frozen 1; have fx2 := x_23.frozen 2; have fx3 := x_23.frozen 3; have fx4 := x_23.frozen 4; have fx5 := x_23.frozen 5; have fx6 := x_23.frozen 6; have fx7 := x_23.frozen 7; have fx8 := x_23.frozen 8; have ylx := x_23.lt; simp only [List.getElem?_toArray, List.getElem?_cons_zero, List.getElem?_cons_succ] at yx0 yx1 yx2 yx3 yx4 yx5 yx6 yx7 yx8; have yra0 := ra_23.cell 0; have yra1 := ra_23.cell 1; have yra2 := ra_23.cell 2; have yra3 := ra_23.cell 3; have yra4 := ra_23.cell 4; have yra5 := ra_23.cell 5; have yra6 := ra_23.cell 6; have yra7 := ra_23.cell 7; have yra8 := ra_23.cell 8; have fra0 := ra_23.frozen 0; have fra1 := ra_23.frozen 1; have fra2 := ra_23.frozen 2; have fra3 := ra_23.frozen 3; have fra4 := ra_23.frozen 4; have fra5 := ra_23.frozen 5; have fra6 := ra_23.frozen 6; have fra7 := ra_23.frozen 7; have fra8 := ra_23.frozen 8; have ylra := ra_23.lt; simp only [List.getElem?_toArray, List.getElem?_cons_zero, List.getElem?_cons_succ] at yra0 yra1 yra2 yra3 yra4 yra5 yra6 yra7 yra8)
             clear yx0 fx0 yx1 fx1 yx2 fx2 yx3 fx3 yx4 fx4 yx5 fx5 yx6 fx6 yx7 fx7 yx8 fx8 ylx
             clear yra0 fra0 yra1 fra1 yra2 fra2 yra3 fra3 yra4 fra4 yra5 fra5 yra6 fra6 yra7 fra7 yra8 fra8 ylra
             have x_24 := ((x_23.put 5 (.string (bs el))).put 0 (.int .i64 3))
             simp only [List.setIfInBounds_toArray, List.set_cons_zero, List.set_cons_succ] at x_24
             have hm24 := hm23.after (((Below.refl (W2.heap.size) W17).setCell (p := ⟨W2.heap.size, 5, none⟩) (Nat.le_refl _) (.string (bs el))).setCell (p := ⟨W2.heap.size, 0, none⟩) (Nat.le_refl _) (.int .i64 3)) hBx
             have hr24 := hm24.rd HR.out hr23.few.2.2
             have ra_24 := ((ra_23.far (p := ⟨W2.heap.size, 5, none⟩) (Ne.symm NExra) (.string (bs el))).far (p := ⟨W2.heap.size, 0, none⟩) (Ne.symm NExra) (.int .i64 3))
             have ar_24 := ar_23
             replace ar_24 := own_putne ar_24 (p := ⟨W2.heap.size, 5, none⟩) (own_far ar_24 x_23 (by decide)) (.string (bs el))
             replace ar_24 := own_putne ar_24 (p := ⟨W2.heap.size, 0, none⟩) (own_far ar_24 (x_23.put 5 (.string (bs el))) (by decide)) (.int .i64 3)
             have hz24 : ((W17.setCell ⟨W2.heap.size, 5, none⟩ (.string (bs el))).setCell ⟨W2.heap.size, 0, none⟩ (.int .i64 3)).heap.size = W17.heap.size := (by simp : ((W17.setCell ⟨W2.heap.size, 5, none⟩ (.string (bs el))).setCell ⟨W2.heap.size, 0, none⟩ (.int .i64 3)).heap.size = W17.heap.size).trans rfl
             generalize hw24 : ((W17.setCell ⟨W2.heap.size, 5, none⟩ (.string (bs el))).setCell ⟨W2.heap.size, 0, none⟩ (.int .i64 3)) = W18 at x_24 hm24 hr24 ra_24 ar_24 hz24 ⊢
             clear hw24
             have ra_25 := (((((((((ra_24.put 0 (.int .i64 3)).put 1 (.string (bs nm))).put 2 (.int .i64 (-1))).put 3 (.slice aA ag.length aC)).put 4 (.string (bs bn))).put 5 (.string (bs el))).put 6 (.int .i64 (-1))).put 7 (.int .i64 0)).put 8 (.int .i64 ((tokAt ts sz i).pos : Int)))
             simp only [List.setIfInBounds_toArray, List.set_cons_zero, List.set_cons_succ] at ra_25
             have hm25 := hm24.after ((((((((((Below.refl (w.heap.size) W18).setCell (p := ⟨w.heap.size, 0, none⟩) (Nat.le_refl _) (.int .i64 3)).setCell (p := ⟨w.heap.size, 1, none⟩) (Nat.le_refl _) (.string (bs nm))).setCell (p := ⟨w.heap.size, 2, none⟩) (Nat.le_refl _) (.int .i64 (-1))).setCell (p := ⟨w.heap.size, 3, none⟩) (Nat.le_refl _) (.slice aA ag.length aC)).setCell (p := ⟨w.heap.size, 4, none⟩) (Nat.le_refl _) (.string (bs bn))).setCell (p := ⟨w.heap.size, 5, none⟩) (Nat.le_refl _) (.string (bs el))).setCell (p := ⟨w.heap.size, 6, none⟩) (Nat.le_refl _) (.int .i64 (-1))).setCell (p := ⟨w.heap.size, 7, none⟩) (Nat.le_refl _) (.int .i64 0)).setCell (p := ⟨w.heap.size, 8, none⟩) (Nat.le_refl _) (.int .i64 ((tokAt ts sz i).pos : Int))) hBra
             have hr25 := hm25.rd HR.out hr24.few.2.2
             have x_25 := (((((((((x_24.far (p := ⟨w.heap.size, 0, none⟩) NExra (.int .i64 3)).far (p := ⟨w.heap.size, 1, none⟩) NExra (.string (bs nm))).far (p := ⟨w.heap.size, 2, none⟩) NExra (.int .i64 (-1))).far (p := ⟨w.heap.size, 3, none⟩) NExra (.slice aA ag.length aC)).far (p := ⟨w.heap.size, 4, none⟩) NExra (.string (bs bn))).far (p := ⟨w.heap.size, 5, none⟩) NExra (.string (bs el))).far (p := ⟨w.heap.size, 6, none⟩) NExra (.int .i64 (-1))).far (p := ⟨w.heap.size, 7, none⟩) NExra (.int .i64 0)).far (p := ⟨w.heap.size, 8, none⟩) NExra (.int .i64 ((tokAt ts sz i).pos : Int)))
             have ar_25 := ar_24
             replace ar_25 := own_putne ar_25 (p := ⟨w.heap.size, 0, none⟩) (own_far ar_25 ra_24 (by decide)) (.int .i64 3)
             replace ar_25 := own_putne ar_25 (p := ⟨w.heap.size, 1, none⟩) (own_far ar_25 (ra_24.put 0 (.int .i64 3)) (by decide)) (.string (bs nm))
             replace ar_25 := own_putne ar_25 (p := ⟨w.heap.size, 2, none⟩) (own_far ar_25 ((ra_24.put 0 (.int .i64 3)).put 1 (.string (bs nm))) (by decide)) (.int .i64 (-1))
             replace ar_25 := own_putne ar_25 (p := ⟨w.heap.size, 3, none⟩) (own_far ar_25 (((ra_24.put 0 (.int .i64 3)).put 1 (.string (bs nm))).put 2 (.int .i64 (-1))) (by decide)) (.slice aA ag.length aC)
             replace ar_25 := own_putne ar_25 (p := ⟨w.heap.size, 4, none⟩) (own_far ar_25 ((((ra_24.put 0 (.int .i64 3)).put 1 (.string (bs nm))).put 2 (.int .i64 (-1))).put 3 (.slice aA ag.length aC)) (by decide)) (.string (bs bn))
             replace ar_25 := own_putne ar_25 (p := ⟨w.heap.size, 5, none⟩) (own_far ar_25 (((((ra_24.put 0 (.int .i64 3)).put 1 (.string (bs nm))).put 2 (.int .i64 (-1))).put 3 (.slice aA ag.length aC)).put 4 (.string (bs bn))) (by decide)) (.string (bs el))
             replace ar_25 := own_putne ar_25 (p := ⟨w.heap.size, 6, none⟩) (own_far ar_25 ((((((ra_24.put 0 (.int .i64 3)).put 1 (.string (bs nm))).put 2 (.int .i64 (-1))).put 3 (.slice aA ag.length aC)).put 4 (.string (bs bn))).put 5 (.string (bs el))) (by decide)) (.int .i64 (-1))
             replace ar_25 := own_putne ar_25 (p := ⟨w.heap.size, 7, none⟩) (own_far ar_25 (((((((ra_24.put 0 (.int .i64 3)).put 1 (.string (bs nm))).put 2 (.int .i64 (-1))).put 3 (.slice aA ag.length aC)).put 4 (.string (bs bn))).put 5 (.string (bs el))).put 6 (.int .i64 (-1))) (by decide)) (.int .i64 0)
             replace ar_25 := own_putne ar_25 (p := ⟨w.heap.size, 8, none⟩) (own_far ar_25 ((((((((ra_24.put 0 (.int .i64 3)).put 1 (.string (bs nm))).put 2 (.int .i64 (-1))).put 3 (.slice aA ag.length aC)).put 4 (.string (bs bn))).put 5 (.string (bs el))).put 6 (.int .i64 (-1))).put 7 (.int .i64 0)) (by decide)) (.int .i64 ((tokAt ts sz i).pos : Int))
             have hz25 : (((((((((W18.setCell ⟨w.heap.size, 0, none⟩ (.int .i64 3)).setCell ⟨w.heap.size, 1, none⟩ (.string (bs nm))).setCell ⟨w.heap.size, 2, none⟩ (.int .i64 (-1))).setCell ⟨w.heap.size, 3, none⟩ (.slice aA ag.length aC)).setCell ⟨w.heap.size, 4, none⟩ (.string (bs bn))).setCell ⟨w.heap.size, 5, none⟩ (.string (bs el))).setCell ⟨w.heap.size, 6, none⟩ (.int .i64 (-1))).setCell ⟨w.heap.size, 7, none⟩ (.int .i64 0)).setCell ⟨w.heap.size, 8, none⟩ (.int .i64 ((tokAt ts sz i).pos : Int))).heap.size = W17.heap.size := (by simp : (((((((((W18.setCell ⟨w.heap.size, 0, none⟩ (.int .i64 3)).setCell ⟨w.heap.size, 1, none⟩ (.string (bs nm))).setCell ⟨w.heap.size, 2, none⟩ (.int .i64 (-1))).setCell ⟨w.heap.size, 3, none⟩ (.slice aA ag.length aC)).setCell ⟨w.heap.size, 4, none⟩ (.string (bs bn))).setCell ⟨w.heap.size, 5, none⟩ (.string (bs el))).setCell ⟨w.heap.size, 6, none⟩ (.int .i64 (-1))).setCell ⟨w.heap.size, 7, none⟩ (.int .i64 0)).setCell ⟨w.heap.size, 8, none⟩ (.int .i64 ((tokAt ts sz i).pos : Int))).heap.size = W18.heap.size).trans hz24
             generalize hw25 : (((((((((W18.setCell ⟨w.heap.size, 0, none⟩ (.int .i64 3)).setCell ⟨w.heap.size, 1, none⟩ (.string (bs nm))).setCell ⟨w.heap.size, 2, none⟩ (.int .i64 (-1))).setCell ⟨w.heap.size, 3, none⟩ (.slice aA ag.length aC)).setCell ⟨w.heap.size, 4, none⟩ (.string (bs bn))).setCell ⟨w.heap.size, 5, none⟩ (.string (bs el))).setCell ⟨w.heap.size, 6, none⟩ (.int .i64 (-1))).setCell ⟨w.heap.size, 7, none⟩ (.int .i64 0)).setCell ⟨w.heap.size, 8, none⟩ (.int .i64 ((tokAt ts sz i).pos : Int))) = W19 at ra_25 hm25 hr25 x_25 ar_25 hz25 ⊢
             clear hw25
             try unfold Px.ret at hRR
             try dsimp only at hRR
             subst hRR
             refine bodyPost_ret (results_cell_row rfl _ _ (w.heap.size) 58 _ (0, 0) _ rfl ra_25 Tryd.underlying58 rfl (by kernel_rfl)) rfl ?_
             exact ⟨⟨_, rfl, ⟨_, rfl, TRow.of_own ar_25⟩⟩, hm25, hr25⟩
           ·skip
            rw [Px.bind_ok hp] at hRR
            try dsimp only at hRR
            rw [if_neg (by simp)] at hRR
            have HC := Lib.hid (take_any hr20 [62, 61] (by decide))
            rw [hp] at HC
            clear hp
            rw [Px.bind_ret] at hRR
            try dsimp only at hRR
            go_wp2_with (go_at_call 42; refine (HC.out).mono ?_; rintro e W16 ⟨⟨_, rfl, rfl⟩, hn21, hr21⟩; have hm21 := hm20.trans hl hn21; have ra_21 := hn21.at ra_20 hnera; have x_21 := hn21.at x_20 hnex; have ar_21 := own_mv hlB ar_20 hn21; clear HC; have yx0 := x_21.cell 0; have yx1 := x_21.cell 1; have yx2 := x_21.cell 2; have yx3 := x_21.cell 3; have yx4 := x_21.cell 4; have yx5 := x_21.cell 5; have yx6 := x_21.cell 6; have yx7 := x_21.cell 7; have yx8 := x_21.cell 8; have fx0 := x_21.frozen 0; have fx1 := x_21.frozen 1; have fx2 := x_21.frozen 2; have fx3 := x_21.frozen 3; have fx4 := x_21.frozen 4; have fx5 := x_21.frozen 5; have fx6 := x_21.frozen 6; have fx7 := x_21.frozen 7; have fx8 := x_21.frozen 8; have ylx := x_21.lt; simp only [List.getElem?_toArray, List.getElem?_cons_zero, List.getElem?_cons_succ] at yx0 yx1 yx2 yx3 yx4 yx5 yx6 yx7 yx8; have yra0 := ra_21.cell 0; have yra1 := ra_21.cell 1; have yra2 := ra_21.cell 2; have yra3 := ra_21.cell 3; have yra4 := ra_21.cell 4; have yra5 := ra_21.cell 5; have yra6 := ra_21.cell 6; have yra7 := ra_21.cell 7; have yra8 := ra_21.cell 8; have fra0 := ra_21.frozen 0; have fra1 := ra_21.frozen 1; have fra2 := ra_21.frozen 2; have fra3 := ra_21.frozen 3; have fra4 := ra_21.frozen 4; have fra5 := ra_21.frozen 5; have fra6 := ra_21.frozen 6; have fra7 := ra_21.frozen 7; have fra8 := ra_21.frozen 8; have ylra := ra_21.lt; simp only [List.getElem?_toArray, List.getElem?_cons_zero, List.getElem?_cons_succ] at yra0 yra1 yra2 yra3 yra4 yra5 yra6 yra7 yra8)
            clear yx0 fx0 yx1 fx1 yx2 fx2 yx3 fx3 yx4 fx4 yx5 fx5 yx6 fx6 yx7 fx7 yx8 fx8 ylx
            clear yra0 fra0 yra1 fra1 yra2 fra2 yra3 fra3 yra4 fra4 yra5 fra5 yra6 fra6 yra7 fra7 yra8 fra8 ylra
            have ra_22 := (((((((((ra_21.put 0 (.int .i64 1)).put 1 (.string (bs nm))).put 2 (.int .i64 (-1))).put 3 (.slice aA ag.length aC)).put 4 (.string (bs bn))).put 5 (.string ⟨#[]⟩)).put 6 (.int .i64 (-1))).put 7 (.int .i64 0)).put 8 (.int .i64 ((tokAt ts sz i).pos : Int)))
            simp only [List.setIfInBounds_toArray, List.set_cons_zero, List.set_cons_succ] at ra_22
            have hm22 := hm21.after ((((((((((Below.refl (w.heap.size) W16).setCell (p := ⟨w.heap.size, 0, none⟩) (Nat.le_refl _) (.int .i64 1)).setCell (p := ⟨w.heap.size, 1, none⟩) (Nat.le_refl _) (.string (bs nm))).setCell (p := ⟨w.heap.size, 2, none⟩) (Nat.le_refl _) (.int .i64 (-1))).setCell (p := ⟨w.heap.size, 3, none⟩) (Nat.le_refl _) (.slice aA ag.length aC)).setCell (p := ⟨w.heap.size, 4, none⟩) (Nat.le_refl _) (.string (bs bn))).setCell (p := ⟨w.heap.size, 5, none⟩) (Nat.le_refl _) (.string ⟨#[]⟩)).setCell (p := ⟨w.heap.size, 6, none⟩) (Nat.le_refl _) (.int .i64 (-1))).setCell (p := ⟨w.heap.size, 7, none⟩) (Nat.le_refl _) (.int .i64 0)).setCell (p := ⟨w.heap.size, 8, none⟩) (Nat.le_refl _) (.int .i64 ((tokAt ts sz i).pos : Int))) hBra
            have hr22 := hm22.rd HR.out hr21.few.2.2
            have x_22 := (((((((((x_21.far (p := ⟨w.heap.size, 0, none⟩) NExra (.int .i64 1)).far (p := ⟨w.heap.size, 1, none⟩) NExra (.string (bs nm))).far (p := ⟨w.heap.size, 2, none⟩) NExra (.int .i64 (-1))).far (p := ⟨w.heap.size, 3, none⟩) NExra (.slice aA ag.length aC)).far (p := ⟨w.heap.size, 4, none⟩) NExra (.string (bs bn))).far (p := ⟨w.heap.size, 5, none⟩) NExra (.string ⟨#[]⟩)).far (p := ⟨w.heap.size, 6, none⟩) NExra (.int .i64 (-1))).far (p := ⟨w.heap.size, 7, none⟩) NExra (.int .i64 0)).far (p := ⟨w.heap.size, 8, none⟩) NExra (.int .i64 ((tokAt ts sz i).pos : Int)))
            have ar_22 := ar_21
            replace ar_22 := own_putne ar_22 (p := ⟨w.heap.size, 0, none⟩) (own_far ar_22 ra_21 (by decide)) (.int .i64 1)
            replace ar_22 := own_putne ar_22 (p := ⟨w.heap.size, 1, none⟩) (own_far ar_22 (ra_21.put 0 (.int .i64 1)) (by decide)) (.string (bs nm))
            replace ar_22 := own_putne ar_22 (p := ⟨w.heap.size, 2, none⟩) (own_far ar_22 ((ra_21.put 0 (.int .i64 1)).put 1 (.string (bs nm))) (by decide)) (.int .i64 (-1))
            replace ar_22 := own_putne ar_22 (p := ⟨w.heap.size, 3, none⟩) (own_far ar_22 (((ra_21.put 0 (.int .i64 1)).put 1 (.string (bs nm))).put 2 (.int .i64 (-1))) (by decide)) (.slice aA ag.length aC)
            replace ar_22 := own_putne ar_22 (p := ⟨w.heap.size, 4, none⟩) (own_far ar_22 ((((ra_21.put 0 (.int .i64 1)).put 1 (.string (bs nm))).put 2 (.int .i64 (-1))).put 3 (.slice aA ag.length aC)) (by decide)) (.string (bs bn))
            replace ar_22 := own_putne ar_22 (p := ⟨w.heap.size, 5, none⟩) (own_far ar_22 (((((ra_21.put 0 (.int .i64 1)).put 1 (.string (bs nm))).put 2 (.int .i64 (-1))).put 3 (.slice aA ag.length aC)).put 4 (.string (bs bn))) (by decide)) (.string ⟨#[]⟩)
            replace ar_22 := own_putne ar_22 (p := ⟨w.heap.size, 6, none⟩) (own_far ar_22 ((((((ra_21.put 0 (.int .i64 1)).put 1 (.string (bs nm))).put 2 (.int .i64 (-1))).put 3 (.slice aA ag.length aC)).put 4 (.string (bs bn))).put 5 (.string ⟨#[]⟩)) (by decide)) (.int .i64 (-1))
            replace ar_22 := own_putne ar_22 (p := ⟨w.heap.size, 7, none⟩) (own_far ar_22 (((((((ra_21.put 0 (.int .i64 1)).put 1 (.string (bs nm))).put 2 (.int .i64 (-1))).put 3 (.slice aA ag.length aC)).put 4 (.string (bs bn))).put 5 (.string ⟨#[]⟩)).put 6 (.int .i64 (-1))) (by decide)) (.int .i64 0)
            replace ar_22 := own_putne ar_22 (p := ⟨w.heap.size, 8, none⟩) (own_far ar_22 ((((((((ra_21.put 0 (.int .i64 1)).put 1 (.string (bs nm))).put 2 (.int .i64 (-1))).put 3 (.slice aA ag.length aC)).put 4 (.string (bs bn))).put 5 (.string ⟨#[]⟩)).put 6 (.int .i64 (-1))).put 7 (.int .i64 0)) (by decide)) (.int .i64 ((tokAt ts sz i).pos : Int))
            have hz22 : (((((((((W16.setCell ⟨w.heap.size, 0, none⟩ (.int .i64 1)).setCell ⟨w.heap.size, 1, none⟩ (.string (bs nm))).setCell ⟨w.heap.size, 2, none⟩ (.int .i64 (-1))).setCell ⟨w.heap.size, 3, none⟩ (.slice aA ag.length aC)).setCell ⟨w.heap.size, 4, none⟩ (.string (bs bn))).setCell ⟨w.heap.size, 5, none⟩ (.string ⟨#[]⟩)).setCell ⟨w.heap.size, 6, none⟩ (.int .i64 (-1))).setCell ⟨w.heap.size, 7, none⟩ (.int .i64 0)).setCell ⟨w.heap.size, 8, none⟩ (.int .i64 ((tokAt ts sz i).pos : Int))).heap.size = W16.heap.size := (by simp : (((((((((W16.setCell ⟨w.heap.size, 0, none⟩ (.int .i64 1)).setCell ⟨w.heap.size, 1, none⟩ (.string (bs nm))).setCell ⟨w.heap.size, 2, none⟩ (.int .i64 (-1))).setCell ⟨w.heap.size, 3, none⟩ (.slice aA ag.length aC)).setCell ⟨w.heap.size, 4, none⟩ (.string (bs bn))).setCell ⟨w.heap.size, 5, none⟩ (.string ⟨#[]⟩)).setCell ⟨w.heap.size, 6, none⟩ (.int .i64 (-1))).setCell ⟨w.heap.size, 7, none⟩ (.int .i64 0)).setCell ⟨w.heap.size, 8, none⟩ (.int .i64 ((tokAt ts sz i).pos : Int))).heap.size = W16.heap.size).trans rfl
            generalize hw22 : (((((((((W16.setCell ⟨w.heap.size, 0, none⟩ (.int .i64 1)).setCell ⟨w.heap.size, 1, none⟩ (.string (bs nm))).setCell ⟨w.heap.size, 2, none⟩ (.int .i64 (-1))).setCell ⟨w.heap.size, 3, none⟩ (.slice aA ag.length aC)).setCell ⟨w.heap.size, 4, none⟩ (.string (bs bn))).setCell ⟨w.heap.size, 5, none⟩ (.string ⟨#[]⟩)).setCell ⟨w.heap.size, 6, none⟩ (.int .i64 (-1))).setCell ⟨w.heap.size, 7, none⟩ (.int .i64 0)).setCell ⟨w.heap.size, 8, none⟩ (.int .i64 ((tokAt ts sz i).pos : Int))) = W17 at ra_22 hm22 hr22 x_22 ar_22 hz22 ⊢
            clear hw22
            try unfold Px.ret at hRR
            try dsimp only at hRR
            subst hRR
            refine bodyPost_ret (results_cell_row rfl _ _ (w.heap.size) 58 _ (0, 0) _ rfl ra_22 Tryd.underlying58 rfl (by kernel_rfl)) rfl ?_
            exact ⟨⟨_, rfl, ⟨_, rfl, TRow.of_own ar_22⟩⟩, hm22, hr22⟩
          ·skip
           rw [if_neg hb] at hRR
           have tZ : ((bs bn).toList == []) = false := (bs_eqc _ _).trans (decide_eq_false hb)
           have tY : (bs bn).toList.isEmpty = false := by rw [bs_list]; cases bn <;> simp_all
           clear hb
           go_wp2_with (go_at_call 55; refine (HC.out).mono ?_; rintro e W15 ⟨⟨_, rfl, rfl⟩, hn20, hr20⟩; have hm20 := hm18.trans hl hn20; have ra_20 := hn20.at ra_18 hnera; have x_20 := hn20.at x_18 hnex; have ar_20 := own_mv hlB ar_18 hn20; clear HC; have yx0 := x_20.cell 0; have yx1 := x_20.cell 1; have yx2 := x_20.cell 2; have yx3 := x_20.cell 3; have yx4 := x_20.cell 4; have yx5 := x_20.cell 5; have yx6 := x_20.cell 6; have yx7 := x_20.cell 7; have yx8 := x_20.cell 8; have fx0 := x_20.frozen 0; have fx1 := x_20.frozen 1; have fx2 := x_20.frozen 2; have fx3 := x_20.frozen 3; have fx4 := x_20.frozen 4; have fx5 := x_20.frozen 5; have fx6 := x_20.frozen 6; have fx7 := x_20.frozen 7; have fx8 := x_20.frozen 8; have ylx := x_20.lt; simp only [List.getElem?_toArray, List.getElem?_cons_zero, List.getElem?_cons_succ] at yx0 yx1 yx2 yx3 yx4 yx5 yx6 yx7 yx8; have yra0 := ra_20.cell 0; have yra1 := ra_20.cell 1; have yra2 := ra_20.cell 2; have yra3 := ra_20.cell 3; have yra4 := ra_20.cell 4; have yra5 := ra_20.cell 5; have yra6 := ra_20.cell 6; have yra7 := ra_20.cell 7; have yra8 := ra_20.cell 8; have fra0 := ra_20.frozen 0; have fra1 := ra_20.frozen 1; have fra2 := ra_20.frozen 2; have fra3 := ra_20.frozen 3; have fra4 := ra_20.frozen 4; have fra5 := ra_20.frozen 5; have fra6 := ra_20.frozen 6; have fra7 := ra_20.frozen 7; have fra8 := ra_20.frozen 8; have ylra := ra_20.lt; simp only [List.getElem?_toArray, List.getElem?_cons_zero, List.getElem?_cons_succ] at yra0 yra1 yra2 yra3 yra4 yra5 yra6 yra7 yra8)
           clear yx0 fx0 yx1 fx1 yx2 fx2 yx3 fx3 yx4 fx4 yx5 fx5 yx6 fx6 yx7 fx7 yx8 fx8 ylx
           clear yra0 fra0 yra1 fra1 yra2 fra2 yra3 fra3 yra4 fra4 yra5 fra5 yra6 fra6 yra7 fra7 yra8 fra8 ylra
           rw [Px.bind_ret] at hRR
           try dsimp only at hRR
           rw [if_neg (by simp), Px.bind_ret] at hRR
           try dsimp only at hRR
           have ra_21 := (((((((((ra_20.put 0 (.int .i64 1)).put 1 (.string (bs nm))).put 2 (.int .i64 (-1))).put 3 (.slice aA ag.length aC)).put 4 (.string (bs bn))).put 5 (.string ⟨#[]⟩)).put 6 (.int .i64 (-1))).put 7 (.int .i64 0)).put 8 (.int .i64 ((tokAt ts sz i).pos : Int)))
           simp only [List.setIfInBounds_toArray, List.set_cons_zero, List.set_cons_succ] at ra_21
           have hm21 := hm20.after ((((((((((Below.refl (w.heap.size) W15).setCell (p := ⟨w.heap.size, 0, none⟩) (Nat.le_refl _) (.int .i64 1)).setCell (p := ⟨w.heap.size, 1, none⟩) (Nat.le_refl _) (.string (bs nm))).setCell (p := ⟨w.heap.size, 2, none⟩) (Nat.le_refl _) (.int .i64 (-1))).setCell (p := ⟨w.heap.size, 3, none⟩) (Nat.le_refl _) (.slice aA ag.length aC)).setCell (p := ⟨w.heap.size, 4, none⟩) (Nat.le_refl _) (.string (bs bn))).setCell (p := ⟨w.heap.size, 5, none⟩) (Nat.le_refl _) (.string ⟨#[]⟩)).setCell (p := ⟨w.heap.size, 6, none⟩) (Nat.le_refl _) (.int .i64 (-1))).setCell (p := ⟨w.heap.size, 7, none⟩) (Nat.le_refl _) (.int .i64 0)).setCell (p := ⟨w.heap.size, 8, none⟩) (Nat.le_refl _) (.int .i64 ((tokAt ts sz i).pos : Int))) hBra
           have hr21 := hm21.rd HR.out hr20.few.2.2
           have x_21 := (((((((((x_20.far (p := ⟨w.heap.size, 0, none⟩) NExra (.int .i64 1)).far (p := ⟨w.heap.size, 1, none⟩) NExra (.string (bs nm))).far (p := ⟨w.heap.size, 2, none⟩) NExra (.int .i64 (-1))).far (p := ⟨w.heap.size, 3, none⟩) NExra (.slice aA ag.length aC)).far (p := ⟨w.heap.size, 4, none⟩) NExra (.string (bs bn))).far (p := ⟨w.heap.size, 5, none⟩) NExra (.string ⟨#[]⟩)).far (p := ⟨w.heap.size, 6, none⟩) NExra (.int .i64 (-1))).far (p := ⟨w.heap.size, 7, none⟩) NExra (.int .i64 0)).far (p := ⟨w.heap.size, 8, none⟩) NExra (.int .i64 ((tokAt ts sz i).pos : Int)))
           have ar_21 := ar_20
           replace ar_21 := own_putne ar_21 (p := ⟨w.heap.size, 0, none⟩) (own_far ar_21 ra_20 (by decide)) (.int .i64 1)
           replace ar_21 := own_putne ar_21 (p := ⟨w.heap.size, 1, none⟩) (own_far ar_21 (ra_20.put 0 (.int .i64 1)) (by decide)) (.string (bs nm))
           replace ar_21 := own_putne ar_21 (p := ⟨w.heap.size, 2, none⟩) (own_far ar_21 ((ra_20.put 0 (.int .i64 1)).put 1 (.string (bs nm))) (by decide)) (.int .i64 (-1))
           replace ar_21 := own_putne ar_21 (p := ⟨w.heap.size, 3, none⟩) (own_far ar_21 (((ra_20.put 0 (.int .i64 1)).put 1 (.string (bs nm))).put 2 (.int .i64 (-1))) (by decide)) (.slice aA ag.length aC)
           replace ar_21 := own_putne ar_21 (p := ⟨w.heap.size, 4, none⟩) (own_far ar_21 ((((ra_20.put 0 (.int .i64 1)).put 1 (.string (bs nm))).put 2 (.int .i64 (-1))).put 3 (.slice aA ag.length aC)) (by decide)) (.string (bs bn))
           replace ar_21 := own_putne ar_21 (p := ⟨w.heap.size, 5, none⟩) (own_far ar_21 (((((ra_20.put 0 (.int .i64 1)).put 1 (.string (bs nm))).put 2 (.int .i64 (-1))).put 3 (.slice aA ag.length aC)).put 4 (.string (bs bn))) (by decide)) (.string ⟨#[]⟩)
           replace ar_21 := own_putne ar_21 (p := ⟨w.heap.size, 6, none⟩) (own_far ar_21 ((((((ra_20.put 0 (.int .i64 1)).put 1 (.string (bs nm))).put 2 (.int .i64 (-1))).put 3 (.slice aA ag.length aC)).put 4 (.string (bs bn))).put 5 (.string ⟨#[]⟩)) (by decide)) (.int .i64 (-1))
           replace ar_21 := own_putne ar_21 (p := ⟨w.heap.size, 7, none⟩) (own_far ar_21 (((((((ra_20.put 0 (.int .i64 1)).put 1 (.string (bs nm))).put 2 (.int .i64 (-1))).put 3 (.slice aA ag.length aC)).put 4 (.string (bs bn))).put 5 (.string ⟨#[]⟩)).put 6 (.int .i64 (-1))) (by decide)) (.int .i64 0)
           replace ar_21 := own_putne ar_21 (p := ⟨w.heap.size, 8, none⟩) (own_far ar_21 ((((((((ra_20.put 0 (.int .i64 1)).put 1 (.string (bs nm))).put 2 (.int .i64 (-1))).put 3 (.slice aA ag.length aC)).put 4 (.string (bs bn))).put 5 (.string ⟨#[]⟩)).put 6 (.int .i64 (-1))).put 7 (.int .i64 0)) (by decide)) (.int .i64 ((tokAt ts sz i).pos : Int))
           have hz21 : (((((((((W15.setCell ⟨w.heap.size, 0, none⟩ (.int .i64 1)).setCell ⟨w.heap.size, 1, none⟩ (.string (bs nm))).setCell ⟨w.heap.size, 2, none⟩ (.int .i64 (-1))).setCell ⟨w.heap.size, 3, none⟩ (.slice aA ag.length aC)).setCell ⟨w.heap.size, 4, none⟩ (.string (bs bn))).setCell ⟨w.heap.size, 5, none⟩ (.string ⟨#[]⟩)).setCell ⟨w.heap.size, 6, none⟩ (.int .i64 (-1))).setCell ⟨w.heap.size, 7, none⟩ (.int .i64 0)).setCell ⟨w.heap.size, 8, none⟩ (.int .i64 ((tokAt ts sz i).pos : Int))).heap.size = W15.heap.size := (by simp : (((((((((W15.setCell ⟨w.heap.size, 0, none⟩ (.int .i64 1)).setCell ⟨w.heap.size, 1, none⟩ (.string (bs nm))).setCell ⟨w.heap.size, 2, none⟩ (.int .i64 (-1))).setCell ⟨w.heap.size, 3, none⟩ (.slice aA ag.length aC)).setCell ⟨w.heap.size, 4, none⟩ (.string (bs bn))).setCell ⟨w.heap.size, 5, none⟩ (.string ⟨#[]⟩)).setCell ⟨w.heap.size, 6, none⟩ (.int .i64 (-1))).setCell ⟨w.heap.size, 7, none⟩ (.int .i64 0)).setCell ⟨w.heap.size, 8, none⟩ (.int .i64 ((tokAt ts sz i).pos : Int))).heap.size = W15.heap.size).trans rfl
           generalize hw21 : (((((((((W15.setCell ⟨w.heap.size, 0, none⟩ (.int .i64 1)).setCell ⟨w.heap.size, 1, none⟩ (.string (bs nm))).setCell ⟨w.heap.size, 2, none⟩ (.int .i64 (-1))).setCell ⟨w.heap.size, 3, none⟩ (.slice aA ag.length aC)).setCell ⟨w.heap.size, 4, none⟩ (.string (bs bn))).setCell ⟨w.heap.size, 5, none⟩ (.string ⟨#[]⟩)).setCell ⟨w.heap.size, 6, none⟩ (.int .i64 (-1))).setCell ⟨w.heap.size, 7, none⟩ (.int .i64 0)).setCell ⟨w.heap.size, 8, none⟩ (.int .i64 ((tokAt ts sz i).pos : Int))) = W16 at ra_21 hm21 hr21 x_21 ar_21 hz21 ⊢
           clear hw21
           try unfold Px.ret at hRR
           try dsimp only at hRR
           subst hRR
           refine bodyPost_ret (results_cell_row rfl _ _ (w.heap.size) 58 _ (0, 0) _ rfl ra_21 Tryd.underlying58 rfl (by kernel_rfl)) rfl ?_
           exact ⟨⟨_, rfl, ⟨_, rfl, TRow.of_own ar_21⟩⟩, hm21, hr21⟩
       ·skip
        rw [Px.bind_ok hp] at hRR
        try dsimp only at hRR
        rw [if_neg (by simp)] at hRR
        have HC := Lib.hid (take_any hr14 [59] (by decide))
        rw [hp] at HC
        clear hp
        rw [Px.bind_ret] at hRR
        try dsimp only at hRR
        go_wp2_with (go_at_call 42; refine (HC.out).mono ?_; rintro e W12 ⟨⟨_, rfl, rfl⟩, hn15, hr15⟩; have hm15 := hm14.trans hl hn15; have ra_15 := hn15.at ra_14 hnera; have x_15 := hn15.at x_14 hnex; have ar_15 := own_mv hlB ar_14 hn15; clear HC)
        cases hp : Px.need [41] (Px.kts ts) q12 with
        | fail q16 =>
         rw [Px.bind_fail (hp)] at hRR
         subst hRR
         have HC := Lib.hid (need_any hr15 [41] (by decide))
         rw [hp] at HC
         clear hp
         go_wp2_with (go_at_call 55; refine (HC.out).mono ?_; rintro e wF ⟨rfl, hnF, hrF⟩)
         exact ⟨rfl, rfl, hm15.trans hl hnF, hrF⟩
        | ok u q16 =>
         rw [Px.bind_ok (hp)] at hRR
         try dsimp only at hRR
         have HC := Lib.hid (need_any hr15 [41] (by decide))
         rw [hp] at HC
         have HQ16 := Lib.hid hp
         clear hp
         go_wp2_with (go_at_call 55; refine (HC.out).mono ?_; rintro e W13 ⟨⟨_, rfl, rfl⟩, hn17, hr17⟩; have hm17 := hm15.trans hl hn17; have ra_17 := hn17.at ra_15 hnera; have x_17 := hn17.at x_15 hnex; have ar_17 := own_mv hlB ar_15 hn17; clear HC; have yx0 := x_17.cell 0; have yx1 := x_17.cell 1; have yx2 := x_17.cell 2; have yx3 := x_17.cell 3; have yx4 := x_17.cell 4; have yx5 := x_17.cell 5; have yx6 := x_17.cell 6; have yx7 := x_17.cell 7; have yx8 := x_17.cell 8; have fx0 := x_17.frozen 0; have fx1 := x_17.frozen 1; have fx2 := x_17.frozen 2; have fx3 := x_17.frozen 3; have fx4 := x_17.frozen 4; have fx5 := x_17.frozen 5; have fx6 := x_17.frozen 6; have fx7 := x_17.frozen 7; have fx8 := x_17.frozen 8; have ylx := x_17.lt; simp only [List.getElem?_toArray, List.getElem?_cons_zero, List.getElem?_cons_succ] at yx0 yx1 yx2 yx3 yx4 yx5 yx6 yx7 yx8)
         clear yx0 fx0 yx1 fx1 yx2 fx2 yx3 fx3 yx4 fx4 yx5 fx5 yx6 fx6 yx7 fx7 yx8 fx8 ylx
         first | rw [if_pos rfl] at hRR | rw [if_pos trivial] at hRR
         rcases Px.take_two [62, 61] (Px.kts ts) q16 with hp | hp
         ·skip
          rw [Px.bind_ok hp] at hRR
          try dsimp only at hRR
          first | rw [if_pos rfl] at hRR | rw [if_pos trivial] at hRR
          have HC := Lib.hid (take_any hr17 [62, 61] (by decide))
          rw [hp] at HC
          clear hp
          go_wp2_with (go_at_call 42; refine (HC.out).mono ?_; rintro e W14 ⟨⟨_, rfl, rfl⟩, hn18, hr18⟩; have hm18 := hm17.trans hl hn18; have ra_18 := hn18.at ra_17 hnera; have x_18 := hn18.at x_17 hnex; have ar_18 := own_mv hlB ar_17 hn18; clear HC)
          cases hp : Px.word 1 (Px.kts ts) (q16 + 1) with
          | fail q19 =>
           rw [Px.bind_fail (hp)] at hRR
           subst hRR
           have HC := Lib.hid (pword_any hr18 1 (by omega))
           rw [hp] at HC
           clear hp
           go_wp2_with (go_at_call 43; refine (HC.out).mono ?_; rintro e wF ⟨rfl, hnF, hrF⟩)
           exact ⟨rfl, rfl, hm18.trans hl hnF, hrF⟩
          | ok el q19 =>
           rw [Px.bind_ok (hp)] at hRR
           try dsimp only at hRR
           have HC := Lib.hid (pword_any hr18 1 (by omega))
           rw [hp] at HC
           have HQ19 := Lib.hid hp
           clear hp
           go_wp2_with (go_at_call 43; refine (HC.out).mono ?_; rintro e W15 ⟨⟨_, rfl, rfl⟩, hn20, hr20⟩; have hm20 := hm18.trans hl hn20; have ra_20 := hn20.at ra_18 hnera; have x_20 := hn20.at x_18 hnex; have ar_20 := own_mv hlB ar_18 hn20; clear HC; have yx0 := x_20.cell 0; have yx1 := x_20.cell 1; have yx2 := x_20.cell 2; have yx3 := x_20.cell 3; have yx4 := x_20.cell 4; have yx5 := x_20.cell 5; have yx6 := x_20.cell 6; have yx7 := x_20.cell 7; have yx8 := x_20.cell 8; have fx0 := x_20.frozen 0; have fx1 := x_20.frozen 1; have fx2 := x_20.frozen 2; have fx3 := x_20.frozen 3; have fx4 := x_20.frozen 4; have fx5 := x_20.frozen 5; have fx6 := x_20.frozen 6; have fx7 := x_20.frozen 7; have fx8 := x_20.frozen 8; have ylx := x_20.lt; simp only [List.getElem?_toArray, List.getElem?_cons_zero, List.getElem?_cons_succ] at yx0 yx1 yx2 yx3 yx4 yx5 yx6 yx7 yx8; have yra0 := ra_20.cell 0; have yra1 := ra_20.cell 1; have yra2 := ra_20.cell 2; have yra3 := ra_20.cell 3; have yra4 := ra_20.cell 4; have yra5 := ra_20.cell 5; have yra6 := ra_20.cell 6; have yra7 := ra_20.cell 7; have yra8 := ra_20.cell 8; have fra0 := ra_20.frozen 0; have fra1 := ra_20.frozen 1; have fra2 := ra_20.frozen 2; have fra3 := ra_20.frozen 3; have fra4 := ra_20.frozen 4; have fra5 := ra_20.frozen 5; have fra6 := ra_20.frozen 6; have fra7 := ra_20.frozen 7; have fra8 := ra_20.frozen 8; have ylra := ra_20.lt; simp only [List.getElem?_toArray, List.getElem?_cons_zero, List.getElem?_cons_succ] at yra0 yra1 yra2 yra3 yra4 yra5 yra6 yra7 yra8)
           clear yx0 fx0 yx1 fx1 yx2 fx2 yx3 fx3 yx4 fx4 yx5 fx5 yx6 fx6 yx7 fx7 yx8 fx8 ylx
           clear yra0 fra0 yra1 fra1 yra2 fra2 yra3 fra3 yra4 fra4 yra5 fra5 yra6 fra6 yra7 fra7 yra8 fra8 ylra
           have x_21 := ((x_20.put 5 (.string (bs el))).put 0 (.int .i64 3))
           simp only [List.setIfInBounds_toArray, List.set_cons_zero, List.set_cons_succ] at x_21
           have hm21 := hm20.after (((Below.refl (W2.heap.size) W15).setCell (p := ⟨W2.heap.size, 5, none⟩) (Nat.le_refl _) (.string (bs el))).setCell (p := ⟨W2.heap.size, 0, none⟩) (Nat.le_refl _) (.int .i64 3)) hBx
           have hr21 := hm21.rd HR.out hr20.few.2.2
           have ra_21 := ((ra_20.far (p := ⟨W2.heap.size, 5, none⟩) (Ne.symm NExra) (.string (bs el))).far (p := ⟨W2.heap.size, 0, none⟩) (Ne.symm NExra) (.int .i64 3))
           have ar_21 := ar_20
           replace ar_21 := own_putne ar_21 (p := ⟨W2.heap.size, 5, none⟩) (own_far ar_21 x_20 (by decide)) (.string (bs el))
           replace ar_21 := own_putne ar_21 (p := ⟨W2.heap.size, 0, none⟩) (own_far ar_21 (x_20.put 5 (.string (bs el))) (by decide)) (.int .i64 3)
           have hz21 : ((W15.setCell ⟨W2.heap.size, 5, none⟩ (.string (bs el))).setCell ⟨W2.heap.size, 0, none⟩ (.int .i64 3)).heap.size = W15.heap.size := (by simp : ((W15.setCell ⟨W2.heap.size, 5, none⟩ (.string (bs el))).setCell ⟨W2.heap.size, 0, none⟩ (.int .i64 3)).heap.size = W15.heap.size).trans rfl
           generalize hw21 : ((W15.setCell ⟨W2.heap.size, 5, none⟩ (.string (bs el))).setCell ⟨W2.heap.size, 0, none⟩ (.int .i64 3)) = W16 at x_21 hm21 hr21 ra_21 ar_21 hz21 ⊢
           clear hw21
           have ra_22 := (((((((((ra_21.put 0 (.int .i64 3)).put 1 (.string (bs nm))).put 2 (.int .i64 (-1))).put 3 (.slice aA ag.length aC)).put 4 (.string ⟨#[]⟩)).put 5 (.string (bs el))).put 6 (.int .i64 (-1))).put 7 (.int .i64 0)).put 8 (.int .i64 ((tokAt ts sz i).pos : Int)))
           simp only [List.setIfInBounds_toArray, List.set_cons_zero, List.set_cons_succ] at ra_22
           have hm22 := hm21.after ((((((((((Below.refl (w.heap.size) W16).setCell (p := ⟨w.heap.size, 0, none⟩) (Nat.le_refl _) (.int .i64 3)).setCell (p := ⟨w.heap.size, 1, none⟩) (Nat.le_refl _) (.string (bs nm))).setCell (p := ⟨w.heap.size, 2, none⟩) (Nat.le_refl _) (.int .i64 (-1))).setCell (p := ⟨w.heap.size, 3, none⟩) (Nat.le_refl _) (.slice aA ag.length aC)).setCell (p := ⟨w.heap.size, 4, none⟩) (Nat.le_refl _) (.string ⟨#[]⟩)).setCell (p := ⟨w.heap.size, 5, none⟩) (Nat.le_refl _) (.string (bs el))).setCell (p := ⟨w.heap.size, 6, none⟩) (Nat.le_refl _) (.int .i64 (-1))).setCell (p := ⟨w.heap.size, 7, none⟩) (Nat.le_refl _) (.int .i64 0)).setCell (p := ⟨w.heap.size, 8, none⟩) (Nat.le_refl _) (.int .i64 ((tokAt ts sz i).pos : Int))) hBra
           have hr22 := hm22.rd HR.out hr21.few.2.2
           have x_22 := (((((((((x_21.far (p := ⟨w.heap.size, 0, none⟩) NExra (.int .i64 3)).far (p := ⟨w.heap.size, 1, none⟩) NExra (.string (bs nm))).far (p := ⟨w.heap.size, 2, none⟩) NExra (.int .i64 (-1))).far (p := ⟨w.heap.size, 3, none⟩) NExra (.slice aA ag.length aC)).far (p := ⟨w.heap.size, 4, none⟩) NExra (.string ⟨#[]⟩)).far (p := ⟨w.heap.size, 5, none⟩) NExra (.string (bs el))).far (p := ⟨w.heap.size, 6, none⟩) NExra (.int .i64 (-1))).far (p := ⟨w.heap.size, 7, none⟩) NExra (.int .i64 0)).far (p := ⟨w.heap.size, 8, none⟩) NExra (.int .i64 ((tokAt ts sz i).pos : Int)))
           have ar_22 := ar_21
           replace ar_22 := own_putne ar_22 (p := ⟨w.heap.size, 0, none⟩) (own_far ar_22 ra_21 (by decide)) (.int .i64 3)
           replace ar_22 := own_putne ar_22 (p := ⟨w.heap.size, 1, none⟩) (own_far ar_22 (ra_21.put 0 (.int .i64 3)) (by decide)) (.string (bs nm))
           replace ar_22 := own_putne ar_22 (p := ⟨w.heap.size, 2, none⟩) (own_far ar_22 ((ra_21.put 0 (.int .i64 3)).put 1 (.string (bs nm))) (by decide)) (.int .i64 (-1))
           replace ar_22 := own_putne ar_22 (p := ⟨w.heap.size, 3, none⟩) (own_far ar_22 (((ra_21.put 0 (.int .i64 3)).put 1 (.string (bs nm))).put 2 (.int .i64 (-1))) (by decide)) (.slice aA ag.length aC)
           replace ar_22 := own_putne ar_22 (p := ⟨w.heap.size, 4, none⟩) (own_far ar_22 ((((ra_21.put 0 (.int .i64 3)).put 1 (.string (bs nm))).put 2 (.int .i64 (-1))).put 3 (.slice aA ag.length aC)) (by decide)) (.string ⟨#[]⟩)
           replace ar_22 := own_putne ar_22 (p := ⟨w.heap.size, 5, none⟩) (own_far ar_22 (((((ra_21.put 0 (.int .i64 3)).put 1 (.string (bs nm))).put 2 (.int .i64 (-1))).put 3 (.slice aA ag.length aC)).put 4 (.string ⟨#[]⟩)) (by decide)) (.string (bs el))
           replace ar_22 := own_putne ar_22 (p := ⟨w.heap.size, 6, none⟩) (own_far ar_22 ((((((ra_21.put 0 (.int .i64 3)).put 1 (.string (bs nm))).put 2 (.int .i64 (-1))).put 3 (.slice aA ag.length aC)).put 4 (.string ⟨#[]⟩)).put 5 (.string (bs el))) (by decide)) (.int .i64 (-1))
           replace ar_22 := own_putne ar_22 (p := ⟨w.heap.size, 7, none⟩) (own_far ar_22 (((((((ra_21.put 0 (.int .i64 3)).put 1 (.string (bs nm))).put 2 (.int .i64 (-1))).put 3 (.slice aA ag.length aC)).put 4 (.string ⟨#[]⟩)).put 5 (.string (bs el))).put 6 (.int .i64 (-1))) (by decide)) (.int .i64 0)
           replace ar_22 := own_putne ar_22 (p := ⟨w.heap.size, 8, none⟩) (own_far ar_22 ((((((((ra_21.put 0 (.int .i64 3)).put 1 (.string (bs nm))).put 2 (.int .i64 (-1))).put 3 (.slice aA ag.length aC)).put 4 (.string ⟨#[]⟩)).put 5 (.string (bs el))).put 6 (.int .i64 (-1))).put 7 (.int .i64 0)) (by decide)) (.int .i64 ((tokAt ts sz i).pos : Int))
           have hz22 : (((((((((W16.setCell ⟨w.heap.size, 0, none⟩ (.int .i64 3)).setCell ⟨w.heap.size, 1, none⟩ (.string (bs nm))).setCell ⟨w.heap.size, 2, none⟩ (.int .i64 (-1))).setCell ⟨w.heap.size, 3, none⟩ (.slice aA ag.length aC)).setCell ⟨w.heap.size, 4, none⟩ (.string ⟨#[]⟩)).setCell ⟨w.heap.size, 5, none⟩ (.string (bs el))).setCell ⟨w.heap.size, 6, none⟩ (.int .i64 (-1))).setCell ⟨w.heap.size, 7, none⟩ (.int .i64 0)).setCell ⟨w.heap.size, 8, none⟩ (.int .i64 ((tokAt ts sz i).pos : Int))).heap.size = W15.heap.size := (by simp : (((((((((W16.setCell ⟨w.heap.size, 0, none⟩ (.int .i64 3)).setCell ⟨w.heap.size, 1, none⟩ (.string (bs nm))).setCell ⟨w.heap.size, 2, none⟩ (.int .i64 (-1))).setCell ⟨w.heap.size, 3, none⟩ (.slice aA ag.length aC)).setCell ⟨w.heap.size, 4, none⟩ (.string ⟨#[]⟩)).setCell ⟨w.heap.size, 5, none⟩ (.string (bs el))).setCell ⟨w.heap.size, 6, none⟩ (.int .i64 (-1))).setCell ⟨w.heap.size, 7, none⟩ (.int .i64 0)).setCell ⟨w.heap.size, 8, none⟩ (.int .i64 ((tokAt ts sz i).pos : Int))).heap.size = W16.heap.size).trans hz21
           generalize hw22 : (((((((((W16.setCell ⟨w.heap.size, 0, none⟩ (.int .i64 3)).setCell ⟨w.heap.size, 1, none⟩ (.string (bs nm))).setCell ⟨w.heap.size, 2, none⟩ (.int .i64 (-1))).setCell ⟨w.heap.size, 3, none⟩ (.slice aA ag.length aC)).setCell ⟨w.heap.size, 4, none⟩ (.string ⟨#[]⟩)).setCell ⟨w.heap.size, 5, none⟩ (.string (bs el))).setCell ⟨w.heap.size, 6, none⟩ (.int .i64 (-1))).setCell ⟨w.heap.size, 7, none⟩ (.int .i64 0)).setCell ⟨w.heap.size, 8, none⟩ (.int .i64 ((tokAt ts sz i).pos : Int))) = W17 at ra_22 hm22 hr22 x_22 ar_22 hz22 ⊢
           clear hw22
           try unfold Px.ret at hRR
           try dsimp only at hRR
           subst hRR
           refine bodyPost_ret (results_cell_row rfl _ _ (w.heap.size) 58 _ (0, 0) _ rfl ra_22 Tryd.underlying58 rfl (by kernel_rfl)) rfl ?_
           exact ⟨⟨_, rfl, ⟨_, rfl, TRow.of_own ar_22⟩⟩, hm22, hr22⟩
         ·skip
          rw [Px.bind_ok hp] at hRR
          try dsimp only at hRR
          rw [if_neg (by simp)] at hRR
          have HC := Lib.hid (take_any hr17 [62, 61] (by decide))
          rw [hp] at HC
          clear hp
          rw [Px.bind_ret] at hRR
          try dsimp only at hRR
          go_wp2_with (go_at_call 42; refine (HC.out).mono ?_; rintro e W14 ⟨⟨_, rfl, rfl⟩, hn18, hr18⟩; have hm18 := hm17.trans hl hn18; have ra_18 := hn18.at ra_17 hnera; have x_18 := hn18.at x_17 hnex; have ar_18 := own_mv hlB ar_17 hn18; clear HC; have yx0 := x_18.cell 0; have yx1 := x_18.cell 1; have yx2 := x_18.cell 2; have yx3 := x_18.cell 3; have yx4 := x_18.cell 4; have yx5 := x_18.cell 5; have yx6 := x_18.cell 6; have yx7 := x_18.cell 7; have yx8 := x_18.cell 8; have fx0 := x_18.frozen 0; have fx1 := x_18.frozen 1; have fx2 := x_18.frozen 2; have fx3 := x_18.frozen 3; have fx4 := x_18.frozen 4; have fx5 := x_18.frozen 5; have fx6 := x_18.frozen 6; have fx7 := x_18.frozen 7; have fx8 := x_18.frozen 8; have ylx := x_18.lt; simp only [List.getElem?_toArray, List.getElem?_cons_zero, List.getElem?_cons_succ] at yx0 yx1 yx2 yx3 yx4 yx5 yx6 yx7 yx8; have yra0 := ra_18.cell 0; have yra1 := ra_18.cell 1; have yra2 := ra_18.cell 2; have yra3 := ra_18.cell 3; have yra4 := ra_18.cell 4; have yra5 := ra_18.cell 5; have yra6 := ra_18.cell 6; have yra7 := ra_18.cell 7; have yra8 := ra_18.cell 8; have fra0 := ra_18.frozen 0; have fra1 := ra_18.frozen 1; have fra2 := ra_18.frozen 2; have fra3 := ra_18.frozen 3; have fra4 := ra_18.frozen 4; have fra5 := ra_18.frozen 5; have fra6 := ra_18.frozen 6; have fra7 := ra_18.frozen 7; have fra8 := ra_18.frozen 8; have ylra := ra_18.lt; simp only [List.getElem?_toArray, List.getElem?_cons_zero, List.getElem?_cons_succ] at yra0 yra1 yra2 yra3 yra4 yra5 yra6 yra7 yra8)
          clear yx0 fx0 yx1 fx1 yx2 fx2 yx3 fx3 yx4 fx4 yx5 fx5 yx6 fx6 yx7 fx7 yx8 fx8 ylx
          clear yra0 fra0 yra1 fra1 yra2 fra2 yra3 fra3 yra4 fra4 yra5 fra5 yra6 fra6 yra7 fra7 yra8 fra8 ylra
          have ra_19 := (((((((((ra_18.put 0 (.int .i64 1)).put 1 (.string (bs nm))).put 2 (.int .i64 (-1))).put 3 (.slice aA ag.length aC)).put 4 (.string ⟨#[]⟩)).put 5 (.string ⟨#[]⟩)).put 6 (.int .i64 (-1))).put 7 (.int .i64 0)).put 8 (.int .i64 ((tokAt ts sz i).pos : Int)))
          simp only [List.setIfInBounds_toArray, List.set_cons_zero, List.set_cons_succ] at ra_19
          have hm19 := hm18.after ((((((((((Below.refl (w.heap.size) W14).setCell (p := ⟨w.heap.size, 0, none⟩) (Nat.le_refl _) (.int .i64 1)).setCell (p := ⟨w.heap.size, 1, none⟩) (Nat.le_refl _) (.string (bs nm))).setCell (p := ⟨w.heap.size, 2, none⟩) (Nat.le_refl _) (.int .i64 (-1))).setCell (p := ⟨w.heap.size, 3, none⟩) (Nat.le_refl _) (.slice aA ag.length aC)).setCell (p := ⟨w.heap.size, 4, none⟩) (Nat.le_refl _) (.string ⟨#[]⟩)).setCell (p := ⟨w.heap.size, 5, none⟩) (Nat.le_refl _) (.string ⟨#[]⟩)).setCell (p := ⟨w.heap.size, 6, none⟩) (Nat.le_refl _) (.int .i64 (-1))).setCell (p := ⟨w.heap.size, 7, none⟩) (Nat.le_refl _) (.int .i64 0)).setCell (p := ⟨w.heap.size, 8, none⟩) (Nat.le_refl _) (.int .i64 ((tokAt ts sz i).pos : Int))) hBra
          have hr19 := hm19.rd HR.out hr18.few.2.2
          have x_19 := (((((((((x_18.far (p := ⟨w.heap.size, 0, none⟩) NExra (.int .i64 1)).far (p := ⟨w.heap.size, 1, none⟩) NExra (.string (bs nm))).far (p := ⟨w.heap.size, 2, none⟩) NExra (.int .i64 (-1))).far (p := ⟨w.heap.size, 3, none⟩) NExra (.slice aA ag.length aC)).far (p := ⟨w.heap.size, 4, none⟩) NExra (.string ⟨#[]⟩)).far (p := ⟨w.heap.size, 5, none⟩) NExra (.string ⟨#[]⟩)).far (p := ⟨w.heap.size, 6, none⟩) NExra (.int .i64 (-1))).far (p := ⟨w.heap.size, 7, none⟩) NExra (.int .i64 0)).far (p := ⟨w.heap.size, 8, none⟩) NExra (.int .i64 ((tokAt ts sz i).pos : Int)))
          have ar_19 := ar_18
          replace ar_19 := own_putne ar_19 (p := ⟨w.heap.size, 0, none⟩) (own_far ar_19 ra_18 (by decide)) (.int .i64 1)
          replace ar_19 := own_putne ar_19 (p := ⟨w.heap.size, 1, none⟩) (own_far ar_19 (ra_18.put 0 (.int .i64 1)) (by decide)) (.string (bs nm))
          replace ar_19 := own_putne ar_19 (p := ⟨w.heap.size, 2, none⟩) (own_far ar_19 ((ra_18.put 0 (.int .i64 1)).put 1 (.string (bs nm))) (by decide)) (.int .i64 (-1))
          replace ar_19 := own_putne ar_19 (p := ⟨w.heap.size, 3, none⟩) (own_far ar_19 (((ra_18.put 0 (.int .i64 1)).put 1 (.string (bs nm))).put 2 (.int .i64 (-1))) (by decide)) (.slice aA ag.length aC)
          replace ar_19 := own_putne ar_19 (p := ⟨w.heap.size, 4, none⟩) (own_far ar_19 ((((ra_18.put 0 (.int .i64 1)).put 1 (.string (bs nm))).put 2 (.int .i64 (-1))).put 3 (.slice aA ag.length aC)) (by decide)) (.string ⟨#[]⟩)
          replace ar_19 := own_putne ar_19 (p := ⟨w.heap.size, 5, none⟩) (own_far ar_19 (((((ra_18.put 0 (.int .i64 1)).put 1 (.string (bs nm))).put 2 (.int .i64 (-1))).put 3 (.slice aA ag.length aC)).put 4 (.string ⟨#[]⟩)) (by decide)) (.string ⟨#[]⟩)
          replace ar_19 := own_putne ar_19 (p := ⟨w.heap.size, 6, none⟩) (own_far ar_19 ((((((ra_18.put 0 (.int .i64 1)).put 1 (.string (bs nm))).put 2 (.int .i64 (-1))).put 3 (.slice aA ag.length aC)).put 4 (.string ⟨#[]⟩)).put 5 (.string ⟨#[]⟩)) (by decide)) (.int .i64 (-1))
          replace ar_19 := own_putne ar_19 (p := ⟨w.heap.size, 7, none⟩) (own_far ar_19 (((((((ra_18.put 0 (.int .i64 1)).put 1 (.string (bs nm))).put 2 (.int .i64 (-1))).put 3 (.slice aA ag.length aC)).put 4 (.string ⟨#[]⟩)).put 5 (.string ⟨#[]⟩)).put 6 (.int .i64 (-1))) (by decide)) (.int .i64 0)
          replace ar_19 := own_putne ar_19 (p := ⟨w.heap.size, 8, none⟩) (own_far ar_19 ((((((((ra_18.put 0 (.int .i64 1)).put 1 (.string (bs nm))).put 2 (.int .i64 (-1))).put 3 (.slice aA ag.length aC)).put 4 (.string ⟨#[]⟩)).put 5 (.string ⟨#[]⟩)).put 6 (.int .i64 (-1))).put 7 (.int .i64 0)) (by decide)) (.int .i64 ((tokAt ts sz i).pos : Int))
          have hz19 : (((((((((W14.setCell ⟨w.heap.size, 0, none⟩ (.int .i64 1)).setCell ⟨w.heap.size, 1, none⟩ (.string (bs nm))).setCell ⟨w.heap.size, 2, none⟩ (.int .i64 (-1))).setCell ⟨w.heap.size, 3, none⟩ (.slice aA ag.length aC)).setCell ⟨w.heap.size, 4, none⟩ (.string ⟨#[]⟩)).setCell ⟨w.heap.size, 5, none⟩ (.string ⟨#[]⟩)).setCell ⟨w.heap.size, 6, none⟩ (.int .i64 (-1))).setCell ⟨w.heap.size, 7, none⟩ (.int .i64 0)).setCell ⟨w.heap.size, 8, none⟩ (.int .i64 ((tokAt ts sz i).pos : Int))).heap.size = W14.heap.size := (by simp : (((((((((W14.setCell ⟨w.heap.size, 0, none⟩ (.int .i64 1)).setCell ⟨w.heap.size, 1, none⟩ (.string (bs nm))).setCell ⟨w.heap.size, 2, none⟩ (.int .i64 (-1))).setCell ⟨w.heap.size, 3, none⟩ (.slice aA ag.length aC)).setCell ⟨w.heap.size, 4, none⟩ (.string ⟨#[]⟩)).setCell ⟨w.heap.size, 5, none⟩ (.string ⟨#[]⟩)).setCell ⟨w.heap.size, 6, none⟩ (.int .i64 (-1))).setCell ⟨w.heap.size, 7, none⟩ (.int .i64 0)).setCell ⟨w.heap.size, 8, none⟩ (.int .i64 ((tokAt ts sz i).pos : Int))).heap.size = W14.heap.size).trans rfl
          generalize hw19 : (((((((((W14.setCell ⟨w.heap.size, 0, none⟩ (.int .i64 1)).setCell ⟨w.heap.size, 1, none⟩ (.string (bs nm))).setCell ⟨w.heap.size, 2, none⟩ (.int .i64 (-1))).setCell ⟨w.heap.size, 3, none⟩ (.slice aA ag.length aC)).setCell ⟨w.heap.size, 4, none⟩ (.string ⟨#[]⟩)).setCell ⟨w.heap.size, 5, none⟩ (.string ⟨#[]⟩)).setCell ⟨w.heap.size, 6, none⟩ (.int .i64 (-1))).setCell ⟨w.heap.size, 7, none⟩ (.int .i64 0)).setCell ⟨w.heap.size, 8, none⟩ (.int .i64 ((tokAt ts sz i).pos : Int))) = W15 at ra_19 hm19 hr19 x_19 ar_19 hz19 ⊢
          clear hw19
          try unfold Px.ret at hRR
          try dsimp only at hRR
          subst hRR
          refine bodyPost_ret (results_cell_row rfl _ _ (w.heap.size) 58 _ (0, 0) _ rfl ra_19 Tryd.underlying58 rfl (by kernel_rfl)) rfl ?_
          exact ⟨⟨_, rfl, ⟨_, rfl, TRow.of_own ar_19⟩⟩, hm19, hr19⟩
   ·skip
    rw [if_neg hx] at hRR
    have tE : ((bs (tokAt ts sz (i + 1)).text).toList == [40]) = false := (bs_eqc _ _).trans (decide_eq_false (by rw [← tx_at ts sz]; exact hx))
    have tN : ((bs (tokAt ts sz (i + 1)).text).toList != [40]) = true := by rw [bne, tE]; rfl
    have ff := fun W => field_tok1 (tokAt ts sz (i + 1)).kind 0 (tokAt ts sz (i + 1)).pos (bs (tokAt ts sz (i + 1)).text) W
    have HC0 := peek_any hr5 1 (by omega)
    unfold tokV at HC0
    try rw [Nat.add_zero] at HC0
    have HC := Lib.hid HC0
    clear HC0 hx
    unfold Px.compare at hRR
    go_wp2_with (go_at_call 29; refine (HC.out).mono ?_; rintro e W6 ⟨rfl, hn6⟩; have hn6 := Mv.still hr5 hn6; have hr6 := hn6.rd hr5 hr5.few.2.2; have hm6 := hm5.trans hl hn6; have ra_6 := hn6.at ra_5 hnera; have x_6 := hn6.at x_5 hnex; clear HC)
    cases hp : Px.term (Px.kts ts) i with
    | fail q7 =>
     rw [Px.bind_fail (hp)] at hRR
     subst hRR
     have HC := Lib.hid (term_any hr6)
     rw [hp] at HC
     clear hp
     go_wp2_with (go_at_call 41; refine (HC.out).mono ?_; rintro e wF ⟨rfl, hnF, hrF⟩)
     exact ⟨rfl, rfl, hm6.trans hl hnF, hrF⟩
    | ok ta q7 =>
     rw [Px.bind_ok (hp)] at hRR
     try dsimp only at hRR
     have HC := Lib.hid (term_any hr6)
     rw [hp] at HC
     unfold tmV at HC
     have HQ7 := Lib.hid hp
     clear hp
     go_wp2_with (go_at_call 41; refine (HC.out).mono ?_; rintro e W7 ⟨⟨_, rfl, rfl⟩, hn8, hr8⟩; have hm8 := hm6.trans hl hn8; have ra_8 := hn8.at ra_6 hnera; have x_8 := hn8.at x_6 hnex; clear HC; have yx0 := x_8.cell 0; have yx1 := x_8.cell 1; have yx2 := x_8.cell 2; have yx3 := x_8.cell 3; have yx4 := x_8.cell 4; have yx5 := x_8.cell 5; have yx6 := x_8.cell 6; have yx7 := x_8.cell 7; have yx8 := x_8.cell 8; have fx0 := x_8.frozen 0; have fx1 := x_8.frozen 1; have fx2 := x_8.frozen 2; have fx3 := x_8.frozen 3; have fx4 := x_8.frozen 4; have fx5 := x_8.frozen 5; have fx6 := x_8.frozen 6; have fx7 := x_8.frozen 7; have fx8 := x_8.frozen 8; have ylx := x_8.lt; simp only [List.getElem?_toArray, List.getElem?_cons_zero, List.getElem?_cons_succ] at yx0 yx1 yx2 yx3 yx4 yx5 yx6 yx7 yx8)
     clear yx0 fx0 yx1 fx1 yx2 fx2 yx3 fx3 yx4 fx4 yx5 fx5 yx6 fx6 yx7 fx7 yx8 fx8 ylx
     have x_9 := ((x_8.put 0 (.int .i64 5)).put 3 (.slice (some ⟨W7.heap.size, 0, none⟩) 1 1))
     simp only [List.setIfInBounds_toArray, List.set_cons_zero, List.set_cons_succ] at x_9
     have hm9 := hm8.after (((Below.refl (W2.heap.size) W7).setCell (p := ⟨W2.heap.size, 0, none⟩) (Nat.le_refl _) (.int .i64 5)).setCell (p := ⟨W2.heap.size, 3, none⟩) (Nat.le_refl _) (.slice (some ⟨W7.heap.size, 0, none⟩) 1 1)) hBx
     have hr9 := hm9.rd HR.out hr8.few.2.2
     have ra_9 := ((ra_8.far (p := ⟨W2.heap.size, 0, none⟩) (Ne.symm NExra) (.int .i64 5)).far (p := ⟨W2.heap.size, 3, none⟩) (Ne.symm NExra) (.slice (some ⟨W7.heap.size, 0, none⟩) 1 1))
     have hz9 : ((W7.setCell ⟨W2.heap.size, 0, none⟩ (.int .i64 5)).setCell ⟨W2.heap.size, 3, none⟩ (.slice (some ⟨W7.heap.size, 0, none⟩) 1 1)).heap.size = W7.heap.size := (by simp : ((W7.setCell ⟨W2.heap.size, 0, none⟩ (.int .i64 5)).setCell ⟨W2.heap.size, 3, none⟩ (.slice (some ⟨W7.heap.size, 0, none⟩) 1 1)).heap.size = W7.heap.size).trans rfl
     generalize hw9 : ((W7.setCell ⟨W2.heap.size, 0, none⟩ (.int .i64 5)).setCell ⟨W2.heap.size, 3, none⟩ (.slice (some ⟨W7.heap.size, 0, none⟩) 1 1)) = W8 at x_9 hm9 hr9 ra_9 hz9 ⊢
     clear hw9
     have ar_10 : (W8.alloc (.cells #[.string (bs ta.v), .int .i64 ta.t, .int .i64 ta.n, .string (bs ta.s)] 71)).ownsRow w.heap.size 71 4 (.slice (some ⟨W7.heap.size, 0, none⟩) 1 1) 1 (tmCells [ta]) := ⟨rfl, Or.inr ⟨W7.heap.size, 1, _, rfl, by rw [← (show W8.heap.size = W7.heap.size from hz9)]; exact hm9.size, At.newAt hz9 _ _, Nat.le_refl _, by unfold maxLen; omega, rfl, rfl⟩⟩
     have hm10 := hm9.trans hl (Mv.still hr9 (below1 W8 (.cells #[.string (bs ta.v), .int .i64 ta.t, .int .i64 ta.n, .string (bs ta.s)] 71)))
     have hr10 := hr9.next (below1 W8 (.cells #[.string (bs ta.v), .int .i64 ta.t, .int .i64 ta.n, .string (bs ta.s)] 71))
     have ra_10 := ra_9.alloc (.cells #[.string (bs ta.v), .int .i64 ta.t, .int .i64 ta.n, .string (bs ta.s)] 71)
     have x_10 := x_9.alloc (.cells #[.string (bs ta.v), .int .i64 ta.t, .int .i64 ta.n, .string (bs ta.s)] 71)
     generalize hw10 : W8.alloc (.cells #[.string (bs ta.v), .int .i64 ta.t, .int .i64 ta.n, .string (bs ta.s)] 71) = W9 at ar_10 hm10 hr10 ra_10 x_10 ⊢
     clear hw10
     by_cases ho : Px.opOf (Px.tx (Px.kts ts) q7) = 0
     ·skip
      rw [Px.bind_fail (show Px.operator (Px.kts ts) q7 = .fail q7 from if_pos ho)] at hRR
      obtain ⟨mb, mc, fG, fL⟩ := ops_look0 hr10 ho
      have ff := fun W => field_tok1 (tokAt ts sz q7).kind 0 (tokAt ts sz q7).pos (bs (tokAt ts sz q7).text) W
      have HPK := Lib.hid (fun z : Held W9.heap.size W9 => peek0_any (hr10.next z.ok))
      have hlt : True := trivial
      clear ho
      refine wp_region_held W9.heap.size W9 (Below.refl _ _) (by kernel_rfl) (by kernel_rfl) ?_
      repeat (go_big_quiet_step ((go_at_call 29; exact held_call _ (Nat.le_refl _) (HPK.out _))))
      refine wpQuiet_nil ?_
      rintro wt ⟨⟨_, bt⟩, rfl⟩
      have hn11 := Mv.still hr10 bt
      have hr11 := hn11.rd hr10 hr10.few.2.2
      have hm11 := hm10.trans hl hn11
      have ra_11 := hn11.at ra_10 hnera
      have x_11 := hn11.at x_10 hnex
      have ar_11 := own_mv hlB ar_10 hn11
      clear fG fL ff HPK
      subst hRR
      have HC := Lib.hid (fail_any hr11)
      go_wp2_with (go_at_call 64; refine (HC.out).mono ?_; rintro e wF ⟨rfl, hnF⟩)
      have hnF := Mv.still hr11 hnF
      exact ⟨rfl, rfl, hm11.trans hl hnF, (hnF.rd hr11 hr11.few.2.2)⟩
     ·skip
      rw [Px.bind_ok (show Px.operator (Px.kts ts) q7 = .ok _ _ from if_neg ho)] at hRR
      try dsimp only at hRR
      obtain ⟨mb, mc, fG, fL⟩ := ops_look1 hr10 ho
      have ff := fun W => field_tok1 (tokAt ts sz q7).kind 0 (tokAt ts sz q7).pos (bs (tokAt ts sz q7).text) W
      have HPK := Lib.hid (fun z : Held W9.heap.size W9 => peek0_any (hr10.next z.ok))
      have hlt : q7 < ts.length := op_in ho
      clear ho
      refine wp_region_held W9.heap.size W9 (Below.refl _ _) (by kernel_rfl) (by kernel_rfl) ?_
      repeat (go_big_quiet_step ((go_at_call 29; exact held_call _ (Nat.le_refl _) (HPK.out _))))
      refine wpQuiet_nil ?_
      rintro wt ⟨⟨_, bt⟩, rfl⟩
      have hn11 := Mv.still hr10 bt
      have hr11 := hn11.rd hr10 hr10.few.2.2
      have hm11 := hm10.trans hl hn11
      have ra_11 := hn11.at ra_10 hnera
      have x_11 := hn11.at x_10 hnex
      have ar_11 := own_mv hlB ar_10 hn11
      clear fG fL ff HPK
      obtain ⟨m12, hm0m12⟩ : ∃ m12, q7 + 1 = m12 := ⟨_, rfl⟩
      have e0m12 : ((q7 : Nat) : Int) + 1 = (m12 : Int) := by omega
      have wmm12 : IntKind.i64.wrap (m12 : Int) = (m12 : Int) := IntWalk.i64_in _ (by have := hr11.few; have := hlt; omega)
      have hmlm12 : m12 ≤ ts.length := by have := hlt; omega
      try rw [hm0m12] at hRR
      have r1 := hr11.cells.2.1
      have yf := hr11.box.frozen 1
      have yl := hr11.box.lt
      go_wp2_with fail
      clear r1 yf yl
      have hn12 := Mv.step hr11 (Below.refl _ _) m12
      have hr12 := hn12.rd hr11 hmlm12
      have hm12 := hm11.trans hl hn12
      have ra_12 := hn12.at ra_11 hnera
      have x_12 := hn12.at x_11 hnex
      have ar_12 := own_mv hlB ar_11 hn12
      have hz12 : (wt.setCell ⟨rb, 1, none⟩ (.int .i64 (m12 : Int))).heap.size = wt.heap.size := (by simp : (wt.setCell ⟨rb, 1, none⟩ (.int .i64 (m12 : Int))).heap.size = wt.heap.size).trans rfl
      generalize hw12 : wt.setCell ⟨rb, 1, none⟩ (.int .i64 (m12 : Int)) = W10 at hn12 hr12 hm12 hz12 ra_12 x_12 ar_12 ⊢
      clear hw12 e0m12 wmm12
      cases hp : Px.term (Px.kts ts) m12 with
      | fail q9 =>
       rw [Px.bind_fail hp] at hRR
       subst hRR
       have HC0 := fun W2 (hr2 : Rd W2 rb TA tc ts sz m12 o) => term_any hr2
       rw [hp] at HC0
       unfold tmV at HC0
       have HC := Lib.hid HC0
       clear HC0 hp
       have HX := Lib.hid x_12
       have HRA := Lib.hid ra_12
       have HAR := Lib.hid ar_12
       obtain ⟨iT, hi0, hi1, hi2, hi3⟩ := info_parts term_info
       refine' wp_region_chain 8 3 _ ([none, none, none, none, some 0, some 1, some 2, none] : List (Option Nat)) (fun p x W => match p with | 0 => (At W (W2.heap.size) 58 #[.int .i64 5, .string ⟨#[]⟩, .int .i64 (-1), .slice (some ⟨W7.heap.size, 0, none⟩) 1 1, .string ⟨#[]⟩, .string ⟨#[]⟩, .int .i64 (-1), .int .i64 0, .int .i64 ((tokAt ts sz i).pos : Int)] ∧ At W (w.heap.size) 58 #[.int .i64 0, .string ⟨#[]⟩, .int .i64 0, .slice none 0 0, .string ⟨#[]⟩, .string ⟨#[]⟩, .int .i64 0, .int .i64 0, .int .i64 0]) ∧ Mv rb m12 W10 W | 1 => False | 2 => False | _ => False) (fun W => (At W (W2.heap.size) 58 #[.int .i64 5, .string ⟨#[]⟩, .int .i64 (-1), .slice (some ⟨W7.heap.size, 0, none⟩) 1 1, .string ⟨#[]⟩, .string ⟨#[]⟩, .int .i64 (-1), .int .i64 0, .int .i64 ((tokAt ts sz i).pos : Int)] ∧ At W (w.heap.size) 58 #[.int .i64 0, .string ⟨#[]⟩, .int .i64 0, .slice none 0 0, .string ⟨#[]⟩, .string ⟨#[]⟩, .int .i64 0, .int .i64 0, .int .i64 0])) (Pv :: Pv :: Pv :: Pv :: Fv :: Fv :: Fv :: Pv :: []) ?hF (by kernel_rfl) (by kernel_rfl) (by kernel_rfl) (of_decide_eq_true (by kernel_rfl)) (by kernel_rfl) (by kernel_rfl) (by kernel_rfl) (by kernel_rfl) (by kernel_rfl) ?hW ?hJ ?hops ?htail
       case hF => (intro v; simp only [over, Act.put, List.setIfInBounds_toArray, List.set_cons_zero, List.set_cons_succ, Nat.zero_add, Nat.reduceAdd]; exact rfl)
       case hW =>
        refine fun _ => ⟨?_, Mv.still hr12 ((Below.refl W10.heap.size W10).drew)⟩
        have hN := Mv.still hr12 ((Below.refl W10.heap.size W10).drew)
        exact ⟨hN.at x_12 hnex, hN.at ra_12 hnera⟩
       case hJ =>
        intro p x W2 h
        match p, h with
        | 0, h => exact h.1
        | 1, h => exact h.elim
        | 2, h => exact h.elim
        | _ + 3, h => exact h.elim
       case hops =>
        refine ⟨?_, ?_⟩
        ·intro v w' hj hd K hK
         have hk := hK.out
         simp only [Act.put, List.setIfInBounds_toArray, List.set_cons_zero, List.set_cons_succ] at hk
         have HK := Lib.hid hk
         clear hd hk hK
         go_simp
         exact HK.out _ (show _ = _ from rfl)
        refine ⟨?_, ?_⟩
        ·intro v w' hj hd K hK
         have hk := hK.out
         simp only [Act.put, List.setIfInBounds_toArray, List.set_cons_zero, List.set_cons_succ] at hk
         have HK := Lib.hid hk
         clear hd hk hK
         go_simp
         exact HK.out _ (show _ = _ from rfl)
        refine ⟨?_, ?_⟩
        ·intro v w' hj hd K hK
         have t1 : v 1 = _ := hd.out 1 (by kernel_rfl) rfl
         have yx := hj.out.1.cell 3
         simp only [List.getElem?_toArray, List.getElem?_cons_zero, List.getElem?_cons_succ] at yx
         have hk := hK.out
         simp only [t1, Act.put, List.setIfInBounds_toArray, List.set_cons_zero, List.set_cons_succ] at hk
         have HK := Lib.hid hk
         clear hd hk hK
         go_simp
         exact HK.out _ (show _ = _ from rfl)
        refine ⟨?_, ?_⟩
        ·intro v w' hj hd K hK
         have hk := hK.out
         simp only [Act.put, List.setIfInBounds_toArray, List.set_cons_zero, List.set_cons_succ] at hk
         have HK := Lib.hid hk
         clear hd hk hK
         go_simp
         exact HK.out _ (show _ = _ from rfl)
        refine ⟨?_, ?_⟩
        ·intro v w' x hw hx hd K hK
         have t3 : v 3 = _ := hd.out 3 (by kernel_rfl) rfl
         have hk := hK.out
         simp only [t3, Act.put, List.setIfInBounds_toArray, List.set_cons_zero, List.set_cons_succ] at hk
         have HK := Lib.hid hk
         obtain ⟨hj, hmN⟩ := hw.out
         clear hd hw hx hk hK
         have hrN := hmN.rd hr12 hr12.few.2.2
         go_simp
         go_at_call 41
         refine (HC.out _ hrN).mono ?_
         rintro e wF ⟨rfl, hnF, hrF⟩
         exact ⟨rfl, rfl, (hm12.trans hl hmN).trans hl hnF, hrF⟩
        refine ⟨?_, ?_⟩
        ·intro v w' x hw hx hd K hK
         have t4 : v 4 = x := hx.out 4 _ rfl rfl
         have hk := hK.out
         simp only [t4, Act.put, List.setIfInBounds_toArray, List.set_cons_zero, List.set_cons_succ] at hk
         have HK := Lib.hid hk
         exact hw.out.elim
        refine ⟨?_, ?_⟩
        ·intro v w' x hw hx hd K hK
         have t2 : v 2 = _ := hd.out 2 (by kernel_rfl) rfl
         have t5 : v 5 = x := hx.out 5 _ rfl rfl
         have hk := hK.out
         simp only [t2, t5, Act.put, List.setIfInBounds_toArray, List.set_cons_zero, List.set_cons_succ] at hk
         have HK := Lib.hid hk
         exact hw.out.elim
        refine ⟨?_, ?_⟩
        ·intro v w' hj hd K hK
         have hk := hK.out
         simp only [Act.put, List.setIfInBounds_toArray, List.set_cons_zero, List.set_cons_succ] at hk
         have HK := Lib.hid hk
         clear hd hk hK
         go_simp
         exact HK.out _ (show _ = _ from rfl)
        trivial
       case htail =>
        intro v w' x hw hx hd
        have t0 : v 0 = _ := hd.out 0 (by decide) rfl
        have t6 : v 6 = x := hx.out 6 _ rfl rfl
        have t7 : v 7 = _ := hd.out 7 (by decide) rfl
        simp only [t0, t6, t7, List.drop_succ_cons, List.drop_zero]
        clear hx hd t0 t6 t7
        exact hw.out.elim
      | ok tb q9 =>
       rw [Px.bind_ok hp] at hRR
       try dsimp only at hRR
       have HC0 := fun W2 (hr2 : Rd W2 rb TA tc ts sz m12 o) => term_any hr2
       rw [hp] at HC0
       unfold tmV at HC0
       have HC := Lib.hid HC0
       clear HC0 hp
       have HX := Lib.hid x_12
       have HRA := Lib.hid ra_12
       have HAR := Lib.hid ar_12
       obtain ⟨iT, hi0, hi1, hi2, hi3⟩ := info_parts term_info
       refine' wp_region_chain 8 3 _ ([none, none, none, none, some 0, some 1, some 2, none] : List (Option Nat)) (fun p x W => match p with | 0 => (At W (W2.heap.size) 58 #[.int .i64 5, .string ⟨#[]⟩, .int .i64 (-1), .slice (some ⟨W7.heap.size, 0, none⟩) 1 1, .string ⟨#[]⟩, .string ⟨#[]⟩, .int .i64 (-1), .int .i64 0, .int .i64 ((tokAt ts sz i).pos : Int)] ∧ At W (w.heap.size) 58 #[.int .i64 0, .string ⟨#[]⟩, .int .i64 0, .slice none 0 0, .string ⟨#[]⟩, .string ⟨#[]⟩, .int .i64 0, .int .i64 0, .int .i64 0]) ∧ Mv rb m12 W10 W | 1 => (At W (W2.heap.size) 58 #[.int .i64 5, .string ⟨#[]⟩, .int .i64 (-1), .slice (some ⟨W7.heap.size, 0, none⟩) 1 1, .string ⟨#[]⟩, .string ⟨#[]⟩, .int .i64 (-1), .int .i64 0, .int .i64 ((tokAt ts sz i).pos : Int)] ∧ At W (w.heap.size) 58 #[.int .i64 0, .string ⟨#[]⟩, .int .i64 0, .slice none 0 0, .string ⟨#[]⟩, .string ⟨#[]⟩, .int .i64 0, .int .i64 0, .int .i64 0]) ∧ x = .agg #[.string (bs tb.v), .int .i64 tb.t, .int .i64 tb.n, .string (bs tb.s)] ∧ Mv rb q9 W10 W ∧ Rd W rb TA tc ts sz q9 o | 2 => (At W (W2.heap.size) 58 #[.int .i64 5, .string ⟨#[]⟩, .int .i64 (-1), .slice (some ⟨W7.heap.size, 0, none⟩) 1 1, .string ⟨#[]⟩, .string ⟨#[]⟩, .int .i64 (-1), .int .i64 0, .int .i64 ((tokAt ts sz i).pos : Int)] ∧ At W (w.heap.size) 58 #[.int .i64 0, .string ⟨#[]⟩, .int .i64 0, .slice none 0 0, .string ⟨#[]⟩, .string ⟨#[]⟩, .int .i64 0, .int .i64 0, .int .i64 0]) ∧ ∃ bb, x = .slice (some ⟨bb, 0, none⟩) 1 1 ∧ At W bb 71 (tmFs tb).toArray ∧ Mv rb q9 W10 W ∧ Rd W rb TA tc ts sz q9 o | _ => (At W (W2.heap.size) 58 #[.int .i64 5, .string ⟨#[]⟩, .int .i64 (-1), .slice (some ⟨W7.heap.size, 0, none⟩) 1 1, .string ⟨#[]⟩, .string ⟨#[]⟩, .int .i64 (-1), .int .i64 0, .int .i64 ((tokAt ts sz i).pos : Int)] ∧ At W (w.heap.size) 58 #[.int .i64 0, .string ⟨#[]⟩, .int .i64 0, .slice none 0 0, .string ⟨#[]⟩, .string ⟨#[]⟩, .int .i64 0, .int .i64 0, .int .i64 0]) ∧ W.ownsRow w.heap.size 71 4 x 2 (tmCells [ta, tb]) ∧ Mv rb q9 w W ∧ q9 ≤ ts.length) (fun W => (At W (W2.heap.size) 58 #[.int .i64 5, .string ⟨#[]⟩, .int .i64 (-1), .slice (some ⟨W7.heap.size, 0, none⟩) 1 1, .string ⟨#[]⟩, .string ⟨#[]⟩, .int .i64 (-1), .int .i64 0, .int .i64 ((tokAt ts sz i).pos : Int)] ∧ At W (w.heap.size) 58 #[.int .i64 0, .string ⟨#[]⟩, .int .i64 0, .slice none 0 0, .string ⟨#[]⟩, .string ⟨#[]⟩, .int .i64 0, .int .i64 0, .int .i64 0])) (Pv :: Pv :: Pv :: Pv :: Fv :: Fv :: Fv :: Pv :: []) ?hF (by kernel_rfl) (by kernel_rfl) (by kernel_rfl) (of_decide_eq_true (by kernel_rfl)) (by kernel_rfl) (by kernel_rfl) (by kernel_rfl) (by kernel_rfl) (by kernel_rfl) ?hW ?hJ ?hops ?htail
       case hF => (intro v; simp only [over, Act.put, List.setIfInBounds_toArray, List.set_cons_zero, List.set_cons_succ, Nat.zero_add, Nat.reduceAdd]; exact rfl)
       case hW =>
        refine fun _ => ⟨?_, Mv.still hr12 ((Below.refl W10.heap.size W10).drew)⟩
        have hN := Mv.still hr12 ((Below.refl W10.heap.size W10).drew)
        exact ⟨hN.at x_12 hnex, hN.at ra_12 hnera⟩
       case hJ =>
        intro p x W2 h
        match p, h with
        | 0, h => exact h.1
        | 1, h => exact h.1
        | 2, h => exact h.1
        | _ + 3, h => exact h.1
       case hops =>
        refine ⟨?_, ?_⟩
        ·intro v w' hj hd K hK
         have hk := hK.out
         simp only [Act.put, List.setIfInBounds_toArray, List.set_cons_zero, List.set_cons_succ] at hk
         have HK := Lib.hid hk
         clear hd hk hK
         go_simp
         exact HK.out _ (show _ = _ from rfl)
        refine ⟨?_, ?_⟩
        ·intro v w' hj hd K hK
         have hk := hK.out
         simp only [Act.put, List.setIfInBounds_toArray, List.set_cons_zero, List.set_cons_succ] at hk
         have HK := Lib.hid hk
         clear hd hk hK
         go_simp
         exact HK.out _ (show _ = _ from rfl)
        refine ⟨?_, ?_⟩
        ·intro v w' hj hd K hK
         have t1 : v 1 = _ := hd.out 1 (by kernel_rfl) rfl
         have yx := hj.out.1.cell 3
         simp only [List.getElem?_toArray, List.getElem?_cons_zero, List.getElem?_cons_succ] at yx
         have hk := hK.out
         simp only [t1, Act.put, List.setIfInBounds_toArray, List.set_cons_zero, List.set_cons_succ] at hk
         have HK := Lib.hid hk
         clear hd hk hK
         go_simp
         exact HK.out _ (show _ = _ from rfl)
        refine ⟨?_, ?_⟩
        ·intro v w' hj hd K hK
         have hk := hK.out
         simp only [Act.put, List.setIfInBounds_toArray, List.set_cons_zero, List.set_cons_succ] at hk
         have HK := Lib.hid hk
         clear hd hk hK
         go_simp
         exact HK.out _ (show _ = _ from rfl)
        refine ⟨?_, ?_⟩
        ·intro v w' x hw hx hd K hK
         have t3 : v 3 = _ := hd.out 3 (by kernel_rfl) rfl
         have hk := hK.out
         simp only [t3, Act.put, List.setIfInBounds_toArray, List.set_cons_zero, List.set_cons_succ] at hk
         have HK := Lib.hid hk
         obtain ⟨hj, hmN⟩ := hw.out
         clear hd hw hx hk hK
         have hrN := hmN.rd hr12 hr12.few.2.2
         go_simp
         go_at_call 41
         refine (HC.out _ hrN).mono ?_
         rintro e wF ⟨⟨_, rfl, rfl⟩, hnF, hrF⟩
         have hN := hmN.trans hr12.box.lt hnF
         exact HK.out _ _ ⟨⟨hN.at x_12 hnex, hN.at ra_12 hnera⟩, rfl, hN, hrF⟩
        refine ⟨?_, ?_⟩
        ·intro v w' x hw hx hd K hK
         have t4 : v 4 = x := hx.out 4 _ rfl rfl
         have hk := hK.out
         simp only [t4, Act.put, List.setIfInBounds_toArray, List.set_cons_zero, List.set_cons_succ] at hk
         have HK := Lib.hid hk
         obtain ⟨hj, rfl, hmN, hrN⟩ := hw.out
         clear hd hw hx hk hK
         go_simp
         have hN := hmN.trans hr12.box.lt (Mv.still hrN (below1 w' (.cells #[.string (bs tb.v), .int .i64 tb.t, .int .i64 tb.n, .string (bs tb.s)] 71)))
         exact HK.out _ _ ⟨⟨hN.at x_12 hnex, hN.at ra_12 hnera⟩, _, rfl, At.new _ _ _, hN, hrN.next (below1 _ _)⟩
        refine ⟨?_, ?_⟩
        ·intro v w' x hw hx hd K hK
         have t2 : v 2 = _ := hd.out 2 (by kernel_rfl) rfl
         have t5 : v 5 = x := hx.out 5 _ rfl rfl
         have hk := hK.out
         rw [if_pos (show Region.wanted _ _ = true from rfl)]
         simp only [t2, t5] at hk ⊢
         have HK := Lib.hid hk
         obtain ⟨hj, bb, rfl, hbb, hmN, hrN⟩ := hw.out
         have hoN := own_mv hlB HAR.out hmN
         refine wp_append_keep (.tmp 52) (.tmp 55) 56 rfl w.heap.size 71 iT (.agg #[.string ⟨#[]⟩, .int .i64 0, .int .i64 0, .string ⟨#[]⟩]) 4 48 Tryd.underlying56 hi0 hi1 hi2 hi3 rfl (by decide) _ 1 (tmCells [ta]) rfl hoN ⟨bb, 0, none⟩ 1 1 (tmFs tb) rfl rfl (At.news hbb) (tm_one tb) (by unfold maxLen; omega) (by omega) (Nat.le_trans hm12.size hmN.size) fun v5 w5 o5 o6 g5 => ?_
         exact HK.out _ _ ⟨⟨hj.1.grown g5 (own_far hoN hj.1 (by decide)), hj.2.grown g5 (own_far hoN hj.2 (by decide))⟩, o5, (hm12.trans hl hmN).grown g5 (fun z hz => (own_lt hoN hz).1), hrN.few.2.2⟩
        refine ⟨?_, ?_⟩
        ·intro v w' hj hd K hK
         have hk := hK.out
         simp only [Act.put, List.setIfInBounds_toArray, List.set_cons_zero, List.set_cons_succ] at hk
         have HK := Lib.hid hk
         clear hd hk hK
         go_simp
         exact HK.out _ (show _ = _ from rfl)
        trivial
       case htail =>
        intro v w' x hw hx hd
        have t0 : v 0 = _ := hd.out 0 (by decide) rfl
        have t6 : v 6 = x := hx.out 6 _ rfl rfl
        have t7 : v 7 = _ := hd.out 7 (by decide) rfl
        simp only [t0, t6, t7, List.drop_succ_cons, List.drop_zero]
        clear hx hd t0 t6 t7
        obtain ⟨⟨x_9, ra_9⟩, ar_9, hm9, hq9⟩ := hw.out
        have hr9 := hm9.rd HR.out hq9
        obtain ⟨A9, c9, rfl⟩ := own_len ar_9
        clear hw
        have yx0 := x_9.cell 0
        have yx1 := x_9.cell 1
        have yx2 := x_9.cell 2
        have yx3 := x_9.cell 3
        have yx4 := x_9.cell 4
        have yx5 := x_9.cell 5
        have yx6 := x_9.cell 6
        have yx7 := x_9.cell 7
        have yx8 := x_9.cell 8
        have fx0 := x_9.frozen 0
        have fx1 := x_9.frozen 1
        have fx2 := x_9.frozen 2
        have fx3 := x_9.frozen 3
        have fx4 := x_9.frozen 4
        have fx5 := x_9.frozen 5
        have fx6 := x_9.frozen 6
        have fx7 := x_9.frozen 7
        have fx8 := x_9.frozen 8
        have ylx := x_9.lt
        simp only [List.getElem?_toArray, List.getElem?_cons_zero, List.getElem?_cons_succ] at yx0 yx1 yx2 yx3 yx4 yx5 yx6 yx7 yx8
        have yra0 := ra_9.cell 0
        have yra1 := ra_9.cell 1
        have yra2 := ra_9.cell 2
        have yra3 := ra_9.cell 3
        have yra4 := ra_9.cell 4
        have yra5 := ra_9.cell 5
        have yra6 := ra_9.cell 6
        have yra7 := ra_9.cell 7
        have yra8 := ra_9.cell 8
        have fra0 := ra_9.frozen 0
        have fra1 := ra_9.frozen 1
        have fra2 := ra_9.frozen 2
        have fra3 := ra_9.frozen 3
        have fra4 := ra_9.frozen 4
        have fra5 := ra_9.frozen 5
        have fra6 := ra_9.frozen 6
        have fra7 := ra_9.frozen 7
        have fra8 := ra_9.frozen 8
        have ylra := ra_9.lt
        simp only [List.getElem?_toArray, List.getElem?_cons_zero, List.getElem?_cons_succ] at yra0 yra1 yra2 yra3 yra4 yra5 yra6 yra7 yra8
        go_wp2_with fail
        clear yx0 fx0 yx1 fx1 yx2 fx2 yx3 fx3 yx4 fx4 yx5 fx5 yx6 fx6 yx7 fx7 yx8 fx8 ylx
        clear yra0 fra0 yra1 fra1 yra2 fra2 yra3 fra3 yra4 fra4 yra5 fra5 yra6 fra6 yra7 fra7 yra8 fra8 ylra
        have x_10 := ((x_9.put 7 (.int .i64 (Px.opOf (Px.tx (Px.kts ts) q7)))).put 3 (.slice A9 2 c9))
        simp only [List.setIfInBounds_toArray, List.set_cons_zero, List.set_cons_succ] at x_10
        have hm10 := hm9.after (((Below.refl (W2.heap.size) w').setCell (p := ⟨W2.heap.size, 7, none⟩) (Nat.le_refl _) (.int .i64 (Px.opOf (Px.tx (Px.kts ts) q7)))).setCell (p := ⟨W2.heap.size, 3, none⟩) (Nat.le_refl _) (.slice A9 2 c9)) hBx
        have hr10 := hm10.rd HR.out hr9.few.2.2
        have ra_10 := ((ra_9.far (p := ⟨W2.heap.size, 7, none⟩) (Ne.symm NExra) (.int .i64 (Px.opOf (Px.tx (Px.kts ts) q7)))).far (p := ⟨W2.heap.size, 3, none⟩) (Ne.symm NExra) (.slice A9 2 c9))
        have ar_10 := ar_9
        replace ar_10 := own_putne ar_10 (p := ⟨W2.heap.size, 7, none⟩) (own_far ar_10 x_9 (by decide)) (.int .i64 (Px.opOf (Px.tx (Px.kts ts) q7)))
        replace ar_10 := own_putne ar_10 (p := ⟨W2.heap.size, 3, none⟩) (own_far ar_10 (x_9.put 7 (.int .i64 (Px.opOf (Px.tx (Px.kts ts) q7)))) (by decide)) (.slice A9 2 c9)
        have hz10 : ((w'.setCell ⟨W2.heap.size, 7, none⟩ (.int .i64 (Px.opOf (Px.tx (Px.kts ts) q7)))).setCell ⟨W2.heap.size, 3, none⟩ (.slice A9 2 c9)).heap.size = w'.heap.size := (by simp : ((w'.setCell ⟨W2.heap.size, 7, none⟩ (.int .i64 (Px.opOf (Px.tx (Px.kts ts) q7)))).setCell ⟨W2.heap.size, 3, none⟩ (.slice A9 2 c9)).heap.size = w'.heap.size).trans rfl
        generalize hw10 : ((w'.setCell ⟨W2.heap.size, 7, none⟩ (.int .i64 (Px.opOf (Px.tx (Px.kts ts) q7)))).setCell ⟨W2.heap.size, 3, none⟩ (.slice A9 2 c9)) = W100 at x_10 hm10 hr10 ra_10 ar_10 hz10 ⊢
        clear hw10
        have ra_11 := (((((((((ra_10.put 0 (.int .i64 5)).put 1 (.string ⟨#[]⟩)).put 2 (.int .i64 (-1))).put 3 (.slice A9 2 c9)).put 4 (.string ⟨#[]⟩)).put 5 (.string ⟨#[]⟩)).put 6 (.int .i64 (-1))).put 7 (.int .i64 (Px.opOf (Px.tx (Px.kts ts) q7)))).put 8 (.int .i64 ((tokAt ts sz i).pos : Int)))
        simp only [List.setIfInBounds_toArray, List.set_cons_zero, List.set_cons_succ] at ra_11
        have hm11 := hm10.after ((((((((((Below.refl (w.heap.size) W100).setCell (p := ⟨w.heap.size, 0, none⟩) (Nat.le_refl _) (.int .i64 5)).setCell (p := ⟨w.heap.size, 1, none⟩) (Nat.le_refl _) (.string ⟨#[]⟩)).setCell (p := ⟨w.heap.size, 2, none⟩) (Nat.le_refl _) (.int .i64 (-1))).setCell (p := ⟨w.heap.size, 3, none⟩) (Nat.le_refl _) (.slice A9 2 c9)).setCell (p := ⟨w.heap.size, 4, none⟩) (Nat.le_refl _) (.string ⟨#[]⟩)).setCell (p := ⟨w.heap.size, 5, none⟩) (Nat.le_refl _) (.string ⟨#[]⟩)).setCell (p := ⟨w.heap.size, 6, none⟩) (Nat.le_refl _) (.int .i64 (-1))).setCell (p := ⟨w.heap.size, 7, none⟩) (Nat.le_refl _) (.int .i64 (Px.opOf (Px.tx (Px.kts ts) q7)))).setCell (p := ⟨w.heap.size, 8, none⟩) (Nat.le_refl _) (.int .i64 ((tokAt ts sz i).pos : Int))) hBra
        have hr11 := hm11.rd HR.out hr10.few.2.2
        have x_11 := (((((((((x_10.far (p := ⟨w.heap.size, 0, none⟩) NExra (.int .i64 5)).far (p := ⟨w.heap.size, 1, none⟩) NExra (.string ⟨#[]⟩)).far (p := ⟨w.heap.size, 2, none⟩) NExra (.int .i64 (-1))).far (p := ⟨w.heap.size, 3, none⟩) NExra (.slice A9 2 c9)).far (p := ⟨w.heap.size, 4, none⟩) NExra (.string ⟨#[]⟩)).far (p := ⟨w.heap.size, 5, none⟩) NExra (.string ⟨#[]⟩)).far (p := ⟨w.heap.size, 6, none⟩) NExra (.int .i64 (-1))).far (p := ⟨w.heap.size, 7, none⟩) NExra (.int .i64 (Px.opOf (Px.tx (Px.kts ts) q7)))).far (p := ⟨w.heap.size, 8, none⟩) NExra (.int .i64 ((tokAt ts sz i).pos : Int)))
        have ar_11 := ar_10
        replace ar_11 := own_putne ar_11 (p := ⟨w.heap.size, 0, none⟩) (own_far ar_11 ra_10 (by decide)) (.int .i64 5)
        replace ar_11 := own_putne ar_11 (p := ⟨w.heap.size, 1, none⟩) (own_far ar_11 (ra_10.put 0 (.int .i64 5)) (by decide)) (.string ⟨#[]⟩)
        replace ar_11 := own_putne ar_11 (p := ⟨w.heap.size, 2, none⟩) (own_far ar_11 ((ra_10.put 0 (.int .i64 5)).put 1 (.string ⟨#[]⟩)) (by decide)) (.int .i64 (-1))
        replace ar_11 := own_putne ar_11 (p := ⟨w.heap.size, 3, none⟩) (own_far ar_11 (((ra_10.put 0 (.int .i64 5)).put 1 (.string ⟨#[]⟩)).put 2 (.int .i64 (-1))) (by decide)) (.slice A9 2 c9)
        replace ar_11 := own_putne ar_11 (p := ⟨w.heap.size, 4, none⟩) (own_far ar_11 ((((ra_10.put 0 (.int .i64 5)).put 1 (.string ⟨#[]⟩)).put 2 (.int .i64 (-1))).put 3 (.slice A9 2 c9)) (by decide)) (.string ⟨#[]⟩)
        replace ar_11 := own_putne ar_11 (p := ⟨w.heap.size, 5, none⟩) (own_far ar_11 (((((ra_10.put 0 (.int .i64 5)).put 1 (.string ⟨#[]⟩)).put 2 (.int .i64 (-1))).put 3 (.slice A9 2 c9)).put 4 (.string ⟨#[]⟩)) (by decide)) (.string ⟨#[]⟩)
        replace ar_11 := own_putne ar_11 (p := ⟨w.heap.size, 6, none⟩) (own_far ar_11 ((((((ra_10.put 0 (.int .i64 5)).put 1 (.string ⟨#[]⟩)).put 2 (.int .i64 (-1))).put 3 (.slice A9 2 c9)).put 4 (.string ⟨#[]⟩)).put 5 (.string ⟨#[]⟩)) (by decide)) (.int .i64 (-1))
        replace ar_11 := own_putne ar_11 (p := ⟨w.heap.size, 7, none⟩) (own_far ar_11 (((((((ra_10.put 0 (.int .i64 5)).put 1 (.string ⟨#[]⟩)).put 2 (.int .i64 (-1))).put 3 (.slice A9 2 c9)).put 4 (.string ⟨#[]⟩)).put 5 (.string ⟨#[]⟩)).put 6 (.int .i64 (-1))) (by decide)) (.int .i64 (Px.opOf (Px.tx (Px.kts ts) q7)))
        replace ar_11 := own_putne ar_11 (p := ⟨w.heap.size, 8, none⟩) (own_far ar_11 ((((((((ra_10.put 0 (.int .i64 5)).put 1 (.string ⟨#[]⟩)).put 2 (.int .i64 (-1))).put 3 (.slice A9 2 c9)).put 4 (.string ⟨#[]⟩)).put 5 (.string ⟨#[]⟩)).put 6 (.int .i64 (-1))).put 7 (.int .i64 (Px.opOf (Px.tx (Px.kts ts) q7)))) (by decide)) (.int .i64 ((tokAt ts sz i).pos : Int))
        have hz11 : (((((((((W100.setCell ⟨w.heap.size, 0, none⟩ (.int .i64 5)).setCell ⟨w.heap.size, 1, none⟩ (.string ⟨#[]⟩)).setCell ⟨w.heap.size, 2, none⟩ (.int .i64 (-1))).setCell ⟨w.heap.size, 3, none⟩ (.slice A9 2 c9)).setCell ⟨w.heap.size, 4, none⟩ (.string ⟨#[]⟩)).setCell ⟨w.heap.size, 5, none⟩ (.string ⟨#[]⟩)).setCell ⟨w.heap.size, 6, none⟩ (.int .i64 (-1))).setCell ⟨w.heap.size, 7, none⟩ (.int .i64 (Px.opOf (Px.tx (Px.kts ts) q7)))).setCell ⟨w.heap.size, 8, none⟩ (.int .i64 ((tokAt ts sz i).pos : Int))).heap.size = w'.heap.size := (by simp : (((((((((W100.setCell ⟨w.heap.size, 0, none⟩ (.int .i64 5)).setCell ⟨w.heap.size, 1, none⟩ (.string ⟨#[]⟩)).setCell ⟨w.heap.size, 2, none⟩ (.int .i64 (-1))).setCell ⟨w.heap.size, 3, none⟩ (.slice A9 2 c9)).setCell ⟨w.heap.size, 4, none⟩ (.string ⟨#[]⟩)).setCell ⟨w.heap.size, 5, none⟩ (.string ⟨#[]⟩)).setCell ⟨w.heap.size, 6, none⟩ (.int .i64 (-1))).setCell ⟨w.heap.size, 7, none⟩ (.int .i64 (Px.opOf (Px.tx (Px.kts ts) q7)))).setCell ⟨w.heap.size, 8, none⟩ (.int .i64 ((tokAt ts sz i).pos : Int))).heap.size = W100.heap.size).trans hz10
        generalize hw11 : (((((((((W100.setCell ⟨w.heap.size, 0, none⟩ (.int .i64 5)).setCell ⟨w.heap.size, 1, none⟩ (.string ⟨#[]⟩)).setCell ⟨w.heap.size, 2, none⟩ (.int .i64 (-1))).setCell ⟨w.heap.size, 3, none⟩ (.slice A9 2 c9)).setCell ⟨w.heap.size, 4, none⟩ (.string ⟨#[]⟩)).setCell ⟨w.heap.size, 5, none⟩ (.string ⟨#[]⟩)).setCell ⟨w.heap.size, 6, none⟩ (.int .i64 (-1))).setCell ⟨w.heap.size, 7, none⟩ (.int .i64 (Px.opOf (Px.tx (Px.kts ts) q7)))).setCell ⟨w.heap.size, 8, none⟩ (.int .i64 ((tokAt ts sz i).pos : Int))) = W101 at ra_11 hm11 hr11 x_11 ar_11 hz11 ⊢
        clear hw11
        try unfold Px.ret at hRR
        try dsimp only at hRR
        subst hRR
        refine bodyPost_ret (results_cell_row rfl _ _ (w.heap.size) 58 _ (0, 0) _ rfl ra_11 Tryd.underlying58 rfl (by kernel_rfl)) rfl ?_
        exact ⟨⟨_, rfl, ⟨_, rfl, TRow.of_own ar_11⟩⟩, hm11, hr11⟩
end
end Go.Proofs.YtpcmlkpnjimbiaaDoor
