/- The walks of the functions that read a query and a fact. -/
import Derived.Test.YtpcmlkpnjimbiaaDoorPTry
import Derived.Test.YtpcmlkpnjimbiaaDoorPRow0
namespace Go.Proofs.YtpcmlkpnjimbiaaDoor
set_option linter.unusedVariables false
set_option linter.unusedSimpArgs false
open Go.RowKit
namespace Px
def queryIn : P (List T × List UInt8) := bind (terms term) fun args => bind optBind fun b => ret (args, b)
def factIn : P (List T × List UInt8) := bind (terms constant) fun args => bind optName fun b => ret (args, b)
def queryOf (p : Nat) : P L := bind (word 1) fun name => bind (need [40]) fun _ => bind queryIn fun a => bind (need [41]) fun _ => bind atEnd fun _ => ret ⟨1, name, a.1, a.2, [], 0, p⟩
def factOf (p : Nat) : P L := bind (word 1) fun name => bind (need [40]) fun _ => bind factIn fun a => bind (need [41]) fun _ => bind atEnd fun _ => ret ⟨1, name, a.1, [], a.2, 0, p⟩
end Px
section
variable {w : World} {rb : Nat} {TA : Option Addr} {tc : Nat} {ts : List Lx.Tok} {sz i i0 : Nat} {o : Outs}
/-- How the function of a query ends. -/
def QinPost (w : World) (w1 : World) (rb : Nat) (TA : Option Addr) (tc : Nat) (ts : List Lx.Tok) (sz : Nat) (o : Outs) (bx : Nat) (b6 b3 b4 : Nat) (t6 t3 t4 : TypeId) (c6 c3 c4 : Array Value) (nm : List UInt8) (ps : Int) (r : Px.R (List Px.T × List UInt8)) (e : Ending) (w' : World) : Prop := match r with
 | .ok a j => e = .returned (.tuple #[]) ∧ Mv rb j w w' ∧ Rd w' rb TA tc ts sz j o ∧ ∃ A c, At w' bx 58 #[.int .i64 1, .string (bs nm), .int .i64 (-1), .slice A a.1.length c, .string (bs a.2), .string ⟨#[]⟩, .int .i64 (-1), .int .i64 0, .int .i64 ps] ∧ w'.ownsRow w.heap.size 71 4 (.slice A a.1.length c) a.1.length (tmCells a.1) ∧ At w' b6 t6 c6 ∧ At w' b3 t3 c3 ∧ At w' b4 t4 c4
 | .fail j => e = .panicked (wrongC ts sz j) ∧ Mv rb j w w' ∧ Rd w' rb TA tc ts sz j o ∧ At w' b4 t4 c4
def FinPost (w : World) (w1 : World) (rb : Nat) (TA : Option Addr) (tc : Nat) (ts : List Lx.Tok) (sz : Nat) (o : Outs) (bx : Nat) (b6 b3 b4 : Nat) (t6 t3 t4 : TypeId) (c6 c3 c4 : Array Value) (nm : List UInt8) (ps : Int) (r : Px.R (List Px.T × List UInt8)) (e : Ending) (w' : World) : Prop := match r with
 | .ok a j => e = .returned (.tuple #[]) ∧ Mv rb j w w' ∧ Rd w' rb TA tc ts sz j o ∧ ∃ A c, At w' bx 58 #[.int .i64 1, .string (bs nm), .int .i64 (-1), .slice A a.1.length c, .string ⟨#[]⟩, .string (bs a.2), .int .i64 (-1), .int .i64 0, .int .i64 ps] ∧ w'.ownsRow w.heap.size 71 4 (.slice A a.1.length c) a.1.length (tmCells a.1) ∧ At w' b6 t6 c6 ∧ At w' b3 t3 c3 ∧ At w' b4 t4 c4
 | .fail j => e = .panicked (wrongC ts sz j) ∧ Mv rb j w w' ∧ Rd w' rb TA tc ts sz j o ∧ At w' b4 t4 c4
set_option maxHeartbeats 2000000 in
set_option maxRecDepth 100000 in
theorem queryIn_any {w1 : World} {bx : Nat} {nm : List UInt8} {ps : Int} (h : Rd w rb TA tc ts sz i0 o) (hm1 : Mv rb i w w1) (hr1 : Rd w1 rb TA tc ts sz i o) (x_1 : At w1 bx 58 #[.int .i64 1, .string (bs nm), .int .i64 (-1), .slice none 0 0, .string ⟨#[]⟩, .string ⟨#[]⟩, .int .i64 (-1), .int .i64 0, .int .i64 ps]) (hBx : w.heap.size ≤ bx) (hbx : bx ≠ rb) {b6 b3 b4 : Nat} {t6 t3 t4 : TypeId} {c6 c3 c4 : Array Value} (rp_1 : At w1 b6 t6 c6) (fp_1 : At w1 b3 t3 c3) (dp_1 : At w1 b4 t4 c4) (hb6 : b6 ≠ rb) (hb3 : b3 ≠ rb) (hb4 : b4 ≠ rb) (NExrp : bx ≠ b6) (NExfp : bx ≠ b3) (NExdp : bx ≠ b4) :
  Calls Tryd.prog 39 #[.pointer (some ⟨rb, 0, none⟩), .pointer (some ⟨bx, 0, none⟩)] w1 (QinPost w w1 rb TA tc ts sz o bx b6 b3 b4 t6 t3 t4 c6 c3 c4 nm ps (Px.queryIn (Px.kts ts) i)) := by
 obtain ⟨RR, hRR⟩ : ∃ RR, Px.queryIn (Px.kts ts) i = RR := ⟨_, rfl⟩
 rw [hRR]
 unfold Px.queryIn at hRR
 have HR := Lib.hid h
 have hl := h.box.lt
 have hlB : rb < w.heap.size := hl
 go_enter Tryd.func39, Tryd.ntmps39
 go_wp2_with fail
 cases hp : Px.terms Px.term (Px.kts ts) i with
 | fail q1 =>
  rw [Px.bind_fail (hp)] at hRR
  subst hRR
  have HC := Lib.hid (terms_term hr1)
  rw [hp] at HC
  clear hp
  go_wp2_with (go_at_call 40; refine (HC.out).mono ?_; rintro e wF ⟨rfl, hnF, hrF⟩)
  exact ⟨rfl, rfl, hm1.trans hl hnF, hrF, hnF.at dp_1 hb4⟩
 | ok ag q1 =>
  rw [Px.bind_ok (hp)] at hRR
  try dsimp only at hRR
  have HC := Lib.hid (terms_term hr1)
  rw [hp] at HC
  have HQ1 := Lib.hid hp
  clear hp
  go_wp2_with (go_at_call 40; refine (HC.out).mono ?_; rintro e W1 ⟨⟨av, rfl, ho0⟩, hn2, hr2⟩; have hm2 := hm1.trans hl hn2; have x_2 := hn2.at x_1 hbx; have rp_2 := hn2.at rp_1 hb6; have fp_2 := hn2.at fp_1 hb3; have dp_2 := hn2.at dp_1 hb4; obtain ⟨aA, aC, rfl⟩ := own_len ho0; have ar_2 := own_mono ho0 hm1.size; clear HC; have yx0 := x_2.cell 0; have yx1 := x_2.cell 1; have yx2 := x_2.cell 2; have yx3 := x_2.cell 3; have yx4 := x_2.cell 4; have yx5 := x_2.cell 5; have yx6 := x_2.cell 6; have yx7 := x_2.cell 7; have yx8 := x_2.cell 8; have fx0 := x_2.frozen 0; have fx1 := x_2.frozen 1; have fx2 := x_2.frozen 2; have fx3 := x_2.frozen 3; have fx4 := x_2.frozen 4; have fx5 := x_2.frozen 5; have fx6 := x_2.frozen 6; have fx7 := x_2.frozen 7; have fx8 := x_2.frozen 8; have ylx := x_2.lt; simp only [List.getElem?_toArray, List.getElem?_cons_zero, List.getElem?_cons_succ] at yx0 yx1 yx2 yx3 yx4 yx5 yx6 yx7 yx8)
  clear yx0 fx0 yx1 fx1 yx2 fx2 yx3 fx3 yx4 fx4 yx5 fx5 yx6 fx6 yx7 fx7 yx8 fx8 ylx
  have x_3 := (x_2.put 3 (.slice aA ag.length aC))
  simp only [List.setIfInBounds_toArray, List.set_cons_zero, List.set_cons_succ] at x_3
  have hm3 := hm2.after ((Below.refl (bx) W1).setCell (p := ⟨bx, 3, none⟩) (Nat.le_refl _) (.slice aA ag.length aC)) hBx
  have hr3 := hm3.rd HR.out hr2.few.2.2
  have rp_3 := (rp_2.far (p := ⟨bx, 3, none⟩) (Ne.symm NExrp) (.slice aA ag.length aC))
  have fp_3 := (fp_2.far (p := ⟨bx, 3, none⟩) (Ne.symm NExfp) (.slice aA ag.length aC))
  have dp_3 := (dp_2.far (p := ⟨bx, 3, none⟩) (Ne.symm NExdp) (.slice aA ag.length aC))
  have ar_3 := ar_2
  replace ar_3 := own_putne ar_3 (p := ⟨bx, 3, none⟩) (own_far ar_3 x_2 (by decide)) (.slice aA ag.length aC)
  have hz3 : (W1.setCell ⟨bx, 3, none⟩ (.slice aA ag.length aC)).heap.size = W1.heap.size := (by simp : (W1.setCell ⟨bx, 3, none⟩ (.slice aA ag.length aC)).heap.size = W1.heap.size).trans rfl
  generalize hw3 : (W1.setCell ⟨bx, 3, none⟩ (.slice aA ag.length aC)) = W2 at x_3 hm3 hr3 rp_3 fp_3 dp_3 ar_3 hz3 ⊢
  clear hw3
  unfold Px.optBind at hRR
  simp only [Px.bind_assoc] at hRR
  rcases Px.take_two [59] (Px.kts ts) q1 with hp | hp
  ·skip
   rw [Px.bind_ok hp] at hRR
   try dsimp only at hRR
   first | rw [if_pos rfl] at hRR | rw [if_pos trivial] at hRR
   have HC := Lib.hid (take_any hr3 [59] (by decide))
   rw [hp] at HC
   clear hp
   go_wp2_with (go_at_call 42; refine (HC.out).mono ?_; rintro e W3 ⟨⟨_, rfl, rfl⟩, hn4, hr4⟩; have hm4 := hm3.trans hl hn4; have x_4 := hn4.at x_3 hbx; have rp_4 := hn4.at rp_3 hb6; have fp_4 := hn4.at fp_3 hb3; have dp_4 := hn4.at dp_3 hb4; have ar_4 := own_mv hlB ar_3 hn4; clear HC)
   cases hp : Px.word 2 (Px.kts ts) (q1 + 1) with
   | fail q5 =>
    rw [Px.bind_fail (hp)] at hRR
    subst hRR
    have HC := Lib.hid (pword_any hr4 2 (by omega))
    rw [hp] at HC
    clear hp
    go_wp2_with (go_at_call 43; refine (HC.out).mono ?_; rintro e wF ⟨rfl, hnF, hrF⟩)
    exact ⟨rfl, rfl, hm4.trans hl hnF, hrF, hnF.at dp_4 hb4⟩
   | ok bn q5 =>
    rw [Px.bind_ok (hp)] at hRR
    try dsimp only at hRR
    have HC := Lib.hid (pword_any hr4 2 (by omega))
    rw [hp] at HC
    have HQ5 := Lib.hid hp
    clear hp
    go_wp2_with (go_at_call 43; refine (HC.out).mono ?_; rintro e W4 ⟨⟨_, rfl, rfl⟩, hn6, hr6⟩; have hm6 := hm4.trans hl hn6; have x_6 := hn6.at x_4 hbx; have rp_6 := hn6.at rp_4 hb6; have fp_6 := hn6.at fp_4 hb3; have dp_6 := hn6.at dp_4 hb4; have ar_6 := own_mv hlB ar_4 hn6; clear HC; have yx0 := x_6.cell 0; have yx1 := x_6.cell 1; have yx2 := x_6.cell 2; have yx3 := x_6.cell 3; have yx4 := x_6.cell 4; have yx5 := x_6.cell 5; have yx6 := x_6.cell 6; have yx7 := x_6.cell 7; have yx8 := x_6.cell 8; have fx0 := x_6.frozen 0; have fx1 := x_6.frozen 1; have fx2 := x_6.frozen 2; have fx3 := x_6.frozen 3; have fx4 := x_6.frozen 4; have fx5 := x_6.frozen 5; have fx6 := x_6.frozen 6; have fx7 := x_6.frozen 7; have fx8 := x_6.frozen 8; have ylx := x_6.lt; simp only [List.getElem?_toArray, List.getElem?_cons_zero, List.getElem?_cons_succ] at yx0 yx1 yx2 yx3 yx4 yx5 yx6 yx7 yx8)
    clear yx0 fx0 yx1 fx1 yx2 fx2 yx3 fx3 yx4 fx4 yx5 fx5 yx6 fx6 yx7 fx7 yx8 fx8 ylx
    have x_7 := (x_6.put 4 (.string (bs bn)))
    simp only [List.setIfInBounds_toArray, List.set_cons_zero, List.set_cons_succ] at x_7
    have hm7 := hm6.after ((Below.refl (bx) W4).setCell (p := ⟨bx, 4, none⟩) (Nat.le_refl _) (.string (bs bn))) hBx
    have hr7 := hm7.rd HR.out hr6.few.2.2
    have rp_7 := (rp_6.far (p := ⟨bx, 4, none⟩) (Ne.symm NExrp) (.string (bs bn)))
    have fp_7 := (fp_6.far (p := ⟨bx, 4, none⟩) (Ne.symm NExfp) (.string (bs bn)))
    have dp_7 := (dp_6.far (p := ⟨bx, 4, none⟩) (Ne.symm NExdp) (.string (bs bn)))
    have ar_7 := ar_6
    replace ar_7 := own_putne ar_7 (p := ⟨bx, 4, none⟩) (own_far ar_7 x_6 (by decide)) (.string (bs bn))
    have hz7 : (W4.setCell ⟨bx, 4, none⟩ (.string (bs bn))).heap.size = W4.heap.size := (by simp : (W4.setCell ⟨bx, 4, none⟩ (.string (bs bn))).heap.size = W4.heap.size).trans rfl
    generalize hw7 : (W4.setCell ⟨bx, 4, none⟩ (.string (bs bn))) = W5 at x_7 hm7 hr7 rp_7 fp_7 dp_7 ar_7 hz7 ⊢
    clear hw7
    try unfold Px.ret at hRR
    try dsimp only at hRR
    subst hRR
    first
     | go_end0
     | refine bodyPost_ret (results_none rfl _ _ _) rfl ?_
    exact ⟨rfl, hm7, hr7, aA, aC, x_7, ar_7, rp_7, fp_7, dp_7⟩
  ·skip
   rw [Px.bind_ok hp] at hRR
   try dsimp only at hRR
   rw [if_neg (by simp)] at hRR
   have HC := Lib.hid (take_any hr3 [59] (by decide))
   rw [hp] at HC
   clear hp
   rw [Px.bind_ret] at hRR
   try dsimp only at hRR
   go_wp2_with (go_at_call 42; refine (HC.out).mono ?_; rintro e W3 ⟨⟨_, rfl, rfl⟩, hn4, hr4⟩; have hm4 := hm3.trans hl hn4; have x_4 := hn4.at x_3 hbx; have rp_4 := hn4.at rp_3 hb6; have fp_4 := hn4.at fp_3 hb3; have dp_4 := hn4.at dp_3 hb4; have ar_4 := own_mv hlB ar_3 hn4; clear HC)
   try unfold Px.ret at hRR
   try dsimp only at hRR
   subst hRR
   first
    | go_end0
    | refine bodyPost_ret (results_none rfl _ _ _) rfl ?_
   exact ⟨rfl, hm4, hr4, aA, aC, x_4, ar_4, rp_4, fp_4, dp_4⟩
set_option maxHeartbeats 2000000 in
set_option maxRecDepth 100000 in
theorem factIn_any {w1 : World} {bx : Nat} {nm : List UInt8} {ps : Int} (h : Rd w rb TA tc ts sz i0 o) (hm1 : Mv rb i w w1) (hr1 : Rd w1 rb TA tc ts sz i o) (x_1 : At w1 bx 58 #[.int .i64 1, .string (bs nm), .int .i64 (-1), .slice none 0 0, .string ⟨#[]⟩, .string ⟨#[]⟩, .int .i64 (-1), .int .i64 0, .int .i64 ps]) (hBx : w.heap.size ≤ bx) (hbx : bx ≠ rb) {b6 b3 b4 : Nat} {t6 t3 t4 : TypeId} {c6 c3 c4 : Array Value} (rp_1 : At w1 b6 t6 c6) (fp_1 : At w1 b3 t3 c3) (dp_1 : At w1 b4 t4 c4) (hb6 : b6 ≠ rb) (hb3 : b3 ≠ rb) (hb4 : b4 ≠ rb) (NExrp : bx ≠ b6) (NExfp : bx ≠ b3) (NExdp : bx ≠ b4) :
  Calls Tryd.prog 44 #[.pointer (some ⟨rb, 0, none⟩), .pointer (some ⟨bx, 0, none⟩)] w1 (FinPost w w1 rb TA tc ts sz o bx b6 b3 b4 t6 t3 t4 c6 c3 c4 nm ps (Px.factIn (Px.kts ts) i)) := by
 obtain ⟨RR, hRR⟩ : ∃ RR, Px.factIn (Px.kts ts) i = RR := ⟨_, rfl⟩
 rw [hRR]
 unfold Px.factIn at hRR
 have HR := Lib.hid h
 have hl := h.box.lt
 have hlB : rb < w.heap.size := hl
 go_enter Tryd.func44, Tryd.ntmps44
 go_wp2_with fail
 cases hp : Px.terms Px.constant (Px.kts ts) i with
 | fail q1 =>
  rw [Px.bind_fail (hp)] at hRR
  subst hRR
  have HC := Lib.hid (terms_constant hr1)
  rw [hp] at HC
  clear hp
  go_wp2_with (go_at_call 40; refine (HC.out).mono ?_; rintro e wF ⟨rfl, hnF, hrF⟩)
  exact ⟨rfl, rfl, hm1.trans hl hnF, hrF, hnF.at dp_1 hb4⟩
 | ok ag q1 =>
  rw [Px.bind_ok (hp)] at hRR
  try dsimp only at hRR
  have HC := Lib.hid (terms_constant hr1)
  rw [hp] at HC
  have HQ1 := Lib.hid hp
  clear hp
  go_wp2_with (go_at_call 40; refine (HC.out).mono ?_; rintro e W1 ⟨⟨av, rfl, ho0⟩, hn2, hr2⟩; have hm2 := hm1.trans hl hn2; have x_2 := hn2.at x_1 hbx; have rp_2 := hn2.at rp_1 hb6; have fp_2 := hn2.at fp_1 hb3; have dp_2 := hn2.at dp_1 hb4; obtain ⟨aA, aC, rfl⟩ := own_len ho0; have ar_2 := own_mono ho0 hm1.size; clear HC; have yx0 := x_2.cell 0; have yx1 := x_2.cell 1; have yx2 := x_2.cell 2; have yx3 := x_2.cell 3; have yx4 := x_2.cell 4; have yx5 := x_2.cell 5; have yx6 := x_2.cell 6; have yx7 := x_2.cell 7; have yx8 := x_2.cell 8; have fx0 := x_2.frozen 0; have fx1 := x_2.frozen 1; have fx2 := x_2.frozen 2; have fx3 := x_2.frozen 3; have fx4 := x_2.frozen 4; have fx5 := x_2.frozen 5; have fx6 := x_2.frozen 6; have fx7 := x_2.frozen 7; have fx8 := x_2.frozen 8; have ylx := x_2.lt; simp only [List.getElem?_toArray, List.getElem?_cons_zero, List.getElem?_cons_succ] at yx0 yx1 yx2 yx3 yx4 yx5 yx6 yx7 yx8)
  clear yx0 fx0 yx1 fx1 yx2 fx2 yx3 fx3 yx4 fx4 yx5 fx5 yx6 fx6 yx7 fx7 yx8 fx8 ylx
  have x_3 := (x_2.put 3 (.slice aA ag.length aC))
  simp only [List.setIfInBounds_toArray, List.set_cons_zero, List.set_cons_succ] at x_3
  have hm3 := hm2.after ((Below.refl (bx) W1).setCell (p := ⟨bx, 3, none⟩) (Nat.le_refl _) (.slice aA ag.length aC)) hBx
  have hr3 := hm3.rd HR.out hr2.few.2.2
  have rp_3 := (rp_2.far (p := ⟨bx, 3, none⟩) (Ne.symm NExrp) (.slice aA ag.length aC))
  have fp_3 := (fp_2.far (p := ⟨bx, 3, none⟩) (Ne.symm NExfp) (.slice aA ag.length aC))
  have dp_3 := (dp_2.far (p := ⟨bx, 3, none⟩) (Ne.symm NExdp) (.slice aA ag.length aC))
  have ar_3 := ar_2
  replace ar_3 := own_putne ar_3 (p := ⟨bx, 3, none⟩) (own_far ar_3 x_2 (by decide)) (.slice aA ag.length aC)
  have hz3 : (W1.setCell ⟨bx, 3, none⟩ (.slice aA ag.length aC)).heap.size = W1.heap.size := (by simp : (W1.setCell ⟨bx, 3, none⟩ (.slice aA ag.length aC)).heap.size = W1.heap.size).trans rfl
  generalize hw3 : (W1.setCell ⟨bx, 3, none⟩ (.slice aA ag.length aC)) = W2 at x_3 hm3 hr3 rp_3 fp_3 dp_3 ar_3 hz3 ⊢
  clear hw3
  unfold Px.optName at hRR
  simp only [Px.bind_assoc] at hRR
  rcases Px.take_two [59] (Px.kts ts) q1 with hp | hp
  ·skip
   rw [Px.bind_ok hp] at hRR
   try dsimp only at hRR
   first | rw [if_pos rfl] at hRR | rw [if_pos trivial] at hRR
   have HC := Lib.hid (take_any hr3 [59] (by decide))
   rw [hp] at HC
   clear hp
   go_wp2_with (go_at_call 42; refine (HC.out).mono ?_; rintro e W3 ⟨⟨_, rfl, rfl⟩, hn4, hr4⟩; have hm4 := hm3.trans hl hn4; have x_4 := hn4.at x_3 hbx; have rp_4 := hn4.at rp_3 hb6; have fp_4 := hn4.at fp_3 hb3; have dp_4 := hn4.at dp_3 hb4; have ar_4 := own_mv hlB ar_3 hn4; clear HC)
   cases hp : Px.word 1 (Px.kts ts) (q1 + 1) with
   | fail q5 =>
    rw [Px.bind_fail (hp)] at hRR
    subst hRR
    have HC := Lib.hid (pword_any hr4 1 (by omega))
    rw [hp] at HC
    clear hp
    go_wp2_with (go_at_call 43; refine (HC.out).mono ?_; rintro e wF ⟨rfl, hnF, hrF⟩)
    exact ⟨rfl, rfl, hm4.trans hl hnF, hrF, hnF.at dp_4 hb4⟩
   | ok bn q5 =>
    rw [Px.bind_ok (hp)] at hRR
    try dsimp only at hRR
    have HC := Lib.hid (pword_any hr4 1 (by omega))
    rw [hp] at HC
    have HQ5 := Lib.hid hp
    clear hp
    go_wp2_with (go_at_call 43; refine (HC.out).mono ?_; rintro e W4 ⟨⟨_, rfl, rfl⟩, hn6, hr6⟩; have hm6 := hm4.trans hl hn6; have x_6 := hn6.at x_4 hbx; have rp_6 := hn6.at rp_4 hb6; have fp_6 := hn6.at fp_4 hb3; have dp_6 := hn6.at dp_4 hb4; have ar_6 := own_mv hlB ar_4 hn6; clear HC; have yx0 := x_6.cell 0; have yx1 := x_6.cell 1; have yx2 := x_6.cell 2; have yx3 := x_6.cell 3; have yx4 := x_6.cell 4; have yx5 := x_6.cell 5; have yx6 := x_6.cell 6; have yx7 := x_6.cell 7; have yx8 := x_6.cell 8; have fx0 := x_6.frozen 0; have fx1 := x_6.frozen 1; have fx2 := x_6.frozen 2; have fx3 := x_6.frozen 3; have fx4 := x_6.frozen 4; have fx5 := x_6.frozen 5; have fx6 := x_6.frozen 6; have fx7 := x_6.frozen 7; have fx8 := x_6.frozen 8; have ylx := x_6.lt; simp only [List.getElem?_toArray, List.getElem?_cons_zero, List.getElem?_cons_succ] at yx0 yx1 yx2 yx3 yx4 yx5 yx6 yx7 yx8)
    clear yx0 fx0 yx1 fx1 yx2 fx2 yx3 fx3 yx4 fx4 yx5 fx5 yx6 fx6 yx7 fx7 yx8 fx8 ylx
    have x_7 := (x_6.put 5 (.string (bs bn)))
    simp only [List.setIfInBounds_toArray, List.set_cons_zero, List.set_cons_succ] at x_7
    have hm7 := hm6.after ((Below.refl (bx) W4).setCell (p := ⟨bx, 5, none⟩) (Nat.le_refl _) (.string (bs bn))) hBx
    have hr7 := hm7.rd HR.out hr6.few.2.2
    have rp_7 := (rp_6.far (p := ⟨bx, 5, none⟩) (Ne.symm NExrp) (.string (bs bn)))
    have fp_7 := (fp_6.far (p := ⟨bx, 5, none⟩) (Ne.symm NExfp) (.string (bs bn)))
    have dp_7 := (dp_6.far (p := ⟨bx, 5, none⟩) (Ne.symm NExdp) (.string (bs bn)))
    have ar_7 := ar_6
    replace ar_7 := own_putne ar_7 (p := ⟨bx, 5, none⟩) (own_far ar_7 x_6 (by decide)) (.string (bs bn))
    have hz7 : (W4.setCell ⟨bx, 5, none⟩ (.string (bs bn))).heap.size = W4.heap.size := (by simp : (W4.setCell ⟨bx, 5, none⟩ (.string (bs bn))).heap.size = W4.heap.size).trans rfl
    generalize hw7 : (W4.setCell ⟨bx, 5, none⟩ (.string (bs bn))) = W5 at x_7 hm7 hr7 rp_7 fp_7 dp_7 ar_7 hz7 ⊢
    clear hw7
    try unfold Px.ret at hRR
    try dsimp only at hRR
    subst hRR
    first
     | go_end0
     | refine bodyPost_ret (results_none rfl _ _ _) rfl ?_
    exact ⟨rfl, hm7, hr7, aA, aC, x_7, ar_7, rp_7, fp_7, dp_7⟩
  ·skip
   rw [Px.bind_ok hp] at hRR
   try dsimp only at hRR
   rw [if_neg (by simp)] at hRR
   have HC := Lib.hid (take_any hr3 [59] (by decide))
   rw [hp] at HC
   clear hp
   rw [Px.bind_ret] at hRR
   try dsimp only at hRR
   go_wp2_with (go_at_call 42; refine (HC.out).mono ?_; rintro e W3 ⟨⟨_, rfl, rfl⟩, hn4, hr4⟩; have hm4 := hm3.trans hl hn4; have x_4 := hn4.at x_3 hbx; have rp_4 := hn4.at rp_3 hb6; have fp_4 := hn4.at fp_3 hb3; have dp_4 := hn4.at dp_3 hb4; have ar_4 := own_mv hlB ar_3 hn4; clear HC)
   try unfold Px.ret at hRR
   try dsimp only at hRR
   subst hRR
   first
    | go_end0
    | refine bodyPost_ret (results_none rfl _ _ _) rfl ?_
   exact ⟨rfl, hm4, hr4, aA, aC, x_4, ar_4, rp_4, fp_4, dp_4⟩
/-- How the function ends that reads a whole text. -/
def WoPost (w : World) (rb : Nat) (TA : Option Addr) (tc : Nat) (ts : List Lx.Tok) (sz : Nat) (o : Outs) (bx b4 : Nat) (t4 : TypeId) (c4 : Array Value) (ps : Int) (r : Px.R Px.L) (e : Ending) (w' : World) : Prop := match r with
 | .ok x j => e = .returned (.tuple #[]) ∧ Mv rb j w w' ∧ Rd w' rb TA tc ts sz j o ∧ ∃ A c, At w' bx 58 #[.int .i64 x.kind, .string (bs x.name), .int .i64 (-1), .slice A x.args.length c, .string (bs x.bnd), .string (bs x.elem), .int .i64 (-1), .int .i64 x.op, .int .i64 ps] ∧ TRow w' 71 4 (.slice A x.args.length c) x.args.length (tmCells x.args) ∧ At w' b4 t4 c4
 | .fail j => e = .panicked (wrongC ts sz j) ∧ Mv rb j w w' ∧ Rd w' rb TA tc ts sz j o ∧ At w' b4 t4 c4
set_option maxHeartbeats 4000000 in
set_option maxRecDepth 100000 in
theorem queryOut_any {w1 : World} {bx b6 b3 b4 : Nat} {t4 : TypeId} {c4 : Array Value} {ps : Nat} (h : Rd w rb TA tc ts sz i0 o) (hm1 : Mv rb i w w1) (hr1 : Rd w1 rb TA tc ts sz i o) (x_1 : At w1 bx 58 #[.int .i64 1, .string ⟨#[]⟩, .int .i64 (-1), .slice none 0 0, .string ⟨#[]⟩, .string ⟨#[]⟩, .int .i64 (-1), .int .i64 0, .int .i64 (ps : Int)]) (rp_1 : At w1 b6 81 #[.pointer (some ⟨rb, 0, none⟩)]) (fp_1 : At w1 b3 103 #[.func (.func 39) #[] #[]]) (dp_1 : At w1 b4 t4 c4) (hBx : w.heap.size ≤ bx) (hbx : bx ≠ rb) (hb6 : b6 ≠ rb) (hb3 : b3 ≠ rb) (hb4 : b4 ≠ rb) (NExrp : bx ≠ b6) (NExfp : bx ≠ b3) (NExdp : bx ≠ b4) :
  Calls Tryd.prog 63 #[.pointer (some ⟨b6, 0, none⟩), .pointer (some ⟨bx, 0, none⟩), .pointer (some ⟨b3, 0, none⟩)] w1 (WoPost w rb TA tc ts sz o bx b4 t4 c4 ps (Px.queryOf i (Px.kts ts) i)) := by
 obtain ⟨RR, hRR⟩ : ∃ RR, Px.queryOf i (Px.kts ts) i = RR := ⟨_, rfl⟩
 rw [hRR]
 unfold Px.queryOf at hRR
 have HR := Lib.hid h
 have hl := h.box.lt
 have hlB : rb < w.heap.size := hl
 go_enter Tryd.func63, Tryd.ntmps63
 have yrp0 := rp_1.cell 0
 have frp0 := rp_1.frozen 0
 have ylrp := rp_1.lt
 simp only [List.getElem?_toArray, List.getElem?_cons_zero, List.getElem?_cons_succ] at yrp0
 go_wp2_with fail
 clear yrp0 frp0 ylrp
 cases hp : Px.word 1 (Px.kts ts) i with
 | fail q1 =>
  rw [Px.bind_fail (hp)] at hRR
  subst hRR
  have HC := Lib.hid (pword_any hr1 1 (by omega))
  rw [hp] at HC
  clear hp
  go_wp2_with (go_at_call 43; refine (HC.out).mono ?_; rintro e wF ⟨rfl, hnF, hrF⟩)
  exact ⟨rfl, rfl, hm1.trans hl hnF, hrF, hnF.at dp_1 hb4⟩
 | ok nm q1 =>
  rw [Px.bind_ok (hp)] at hRR
  try dsimp only at hRR
  have HC := Lib.hid (pword_any hr1 1 (by omega))
  rw [hp] at HC
  have HQ1 := Lib.hid hp
  clear hp
  go_wp2_with (go_at_call 43; refine (HC.out).mono ?_; rintro e W1 ⟨⟨_, rfl, rfl⟩, hn2, hr2⟩; have hm2 := hm1.trans hl hn2; have x_2 := hn2.at x_1 hbx; have rp_2 := hn2.at rp_1 hb6; have fp_2 := hn2.at fp_1 hb3; have dp_2 := hn2.at dp_1 hb4; clear HC; have yrp0 := rp_2.cell 0; have frp0 := rp_2.frozen 0; have ylrp := rp_2.lt; simp only [List.getElem?_toArray, List.getElem?_cons_zero, List.getElem?_cons_succ] at yrp0; have yx0 := x_2.cell 0; have yx1 := x_2.cell 1; have yx2 := x_2.cell 2; have yx3 := x_2.cell 3; have yx4 := x_2.cell 4; have yx5 := x_2.cell 5; have yx6 := x_2.cell 6; have yx7 := x_2.cell 7; have yx8 := x_2.cell 8; have fx0 := x_2.frozen 0; have fx1 := x_2.frozen 1; have fx2 := x_2.frozen 2; have fx3 := x_2.frozen 3; have fx4 := x_2.frozen 4; have fx5 := x_2.frozen 5; have fx6 := x_2.frozen 6; have fx7 := x_2.frozen 7; have fx8 := x_2.frozen 8; have ylx := x_2.lt; simp only [List.getElem?_toArray, List.getElem?_cons_zero, List.getElem?_cons_succ] at yx0 yx1 yx2 yx3 yx4 yx5 yx6 yx7 yx8)
  clear yrp0 frp0 ylrp
  clear yx0 fx0 yx1 fx1 yx2 fx2 yx3 fx3 yx4 fx4 yx5 fx5 yx6 fx6 yx7 fx7 yx8 fx8 ylx
  have x_3 := (x_2.put 1 (.string (bs nm)))
  simp only [List.setIfInBounds_toArray, List.set_cons_zero, List.set_cons_succ] at x_3
  have hm3 := hm2.after ((Below.refl (bx) W1).setCell (p := ⟨bx, 1, none⟩) (Nat.le_refl _) (.string (bs nm))) hBx
  have hr3 := hm3.rd HR.out hr2.few.2.2
  have rp_3 := (rp_2.far (p := ⟨bx, 1, none⟩) (Ne.symm NExrp) (.string (bs nm)))
  have fp_3 := (fp_2.far (p := ⟨bx, 1, none⟩) (Ne.symm NExfp) (.string (bs nm)))
  have dp_3 := (dp_2.far (p := ⟨bx, 1, none⟩) (Ne.symm NExdp) (.string (bs nm)))
  have hz3 : (W1.setCell ⟨bx, 1, none⟩ (.string (bs nm))).heap.size = W1.heap.size := (by simp : (W1.setCell ⟨bx, 1, none⟩ (.string (bs nm))).heap.size = W1.heap.size).trans rfl
  generalize hw3 : (W1.setCell ⟨bx, 1, none⟩ (.string (bs nm))) = W2 at x_3 hm3 hr3 rp_3 fp_3 dp_3 hz3 ⊢
  clear hw3
  cases hp : Px.need [40] (Px.kts ts) q1 with
  | fail q4 =>
   rw [Px.bind_fail (hp)] at hRR
   subst hRR
   have HC := Lib.hid (need_any hr3 [40] (by decide))
   rw [hp] at HC
   clear hp
   go_wp2_with (go_at_call 55; refine (HC.out).mono ?_; rintro e wF ⟨rfl, hnF, hrF⟩)
   exact ⟨rfl, rfl, hm3.trans hl hnF, hrF, hnF.at dp_3 hb4⟩
  | ok u q4 =>
   rw [Px.bind_ok (hp)] at hRR
   try dsimp only at hRR
   have HC := Lib.hid (need_any hr3 [40] (by decide))
   rw [hp] at HC
   have HQ4 := Lib.hid hp
   clear hp
   go_wp2_with (go_at_call 55; refine (HC.out).mono ?_; rintro e W3 ⟨⟨_, rfl, rfl⟩, hn5, hr5⟩; have hm5 := hm3.trans hl hn5; have x_5 := hn5.at x_3 hbx; have rp_5 := hn5.at rp_3 hb6; have fp_5 := hn5.at fp_3 hb3; have dp_5 := hn5.at dp_3 hb4; clear HC; have yrp0 := rp_5.cell 0; have frp0 := rp_5.frozen 0; have ylrp := rp_5.lt; simp only [List.getElem?_toArray, List.getElem?_cons_zero, List.getElem?_cons_succ] at yrp0; have yfp0 := fp_5.cell 0; have ffp0 := fp_5.frozen 0; have ylfp := fp_5.lt; simp only [List.getElem?_toArray, List.getElem?_cons_zero, List.getElem?_cons_succ] at yfp0)
   clear yrp0 frp0 ylrp
   clear yfp0 ffp0 ylfp
   have HC0 := queryIn_any (ps := ps) HR.out hm5 hr5 x_5 hBx hbx rp_5 fp_5 dp_5 hb6 hb3 hb4 NExrp NExfp NExdp
   cases hp : Px.queryIn (Px.kts ts) q4 with
   | fail q20 =>
    rw [Px.bind_fail hp] at hRR
    subst hRR
    rw [hp] at HC0
    have HC := Lib.hid HC0
    clear HC0 hp
    go_wp2_with (go_at_call 39; refine (HC.out).mono ?_; rintro e wF ⟨rfl, hmF, hrF, hxF⟩)
    exact ⟨rfl, rfl, hmF, hrF, hxF⟩
   | ok ab q20 =>
    obtain ⟨ag, bn⟩ := ab
    rw [Px.bind_ok hp] at hRR
    try dsimp only at hRR
    rw [hp] at HC0
    have HC := Lib.hid HC0
    clear HC0 hp
    go_wp2_with (go_at_call 39; refine (HC.out).mono ?_; rintro e W20 ⟨rfl, hm20, hr20, aA, aC, x_20, ar_20, rp_20, fp_20, dp_20⟩; have yrp0 := At.cell rp_20 0; simp only [List.getElem?_toArray, List.getElem?_cons_zero, List.getElem?_cons_succ] at yrp0; clear HC)
    clear yrp0
    cases hp : Px.need [41] (Px.kts ts) q20 with
    | fail q21 =>
     rw [Px.bind_fail (hp)] at hRR
     subst hRR
     have HC := Lib.hid (need_any hr20 [41] (by decide))
     rw [hp] at HC
     clear hp
     go_wp2_with (go_at_call 55; refine (HC.out).mono ?_; rintro e wF ⟨rfl, hnF, hrF⟩)
     exact ⟨rfl, rfl, hm20.trans hl hnF, hrF, hnF.at dp_20 hb4⟩
    | ok u q21 =>
     rw [Px.bind_ok (hp)] at hRR
     try dsimp only at hRR
     have HC := Lib.hid (need_any hr20 [41] (by decide))
     rw [hp] at HC
     have HQ21 := Lib.hid hp
     clear hp
     go_wp2_with (go_at_call 55; refine (HC.out).mono ?_; rintro e W21 ⟨⟨_, rfl, rfl⟩, hn22, hr22⟩; have hm22 := hm20.trans hl hn22; have x_22 := hn22.at x_20 hbx; have rp_22 := hn22.at rp_20 hb6; have fp_22 := hn22.at fp_20 hb3; have dp_22 := hn22.at dp_20 hb4; have ar_22 := own_mv hlB ar_20 hn22; clear HC; have yrp0 := rp_22.cell 0; have frp0 := rp_22.frozen 0; have ylrp := rp_22.lt; simp only [List.getElem?_toArray, List.getElem?_cons_zero, List.getElem?_cons_succ] at yrp0)
     clear yrp0 frp0 ylrp
     by_cases hlt : q21 < ts.length
     ·skip
      rw [Px.bind_fail (show Px.atEnd (Px.kts ts) q21 = .fail q21 from if_pos (by rw [kts_len]; exact hlt))] at hRR
      have d1 : decide ((q21 : Int) < (ts.length : Int)) = true := decide_eq_true (by omega)
      have n1 : decide (q21 < ts.length) = true := decide_eq_true hlt
      have hfew := hr22.few
      have f0 : ∀ z : Held W21.heap.size W21, z.w.cell? ⟨rb, 0, none⟩ = some (.slice TA ts.length tc) := fun z => z.cell hr22.box.lt hr22.cells.1
      have f1 : ∀ z : Held W21.heap.size W21, z.w.cell? ⟨rb, 1, none⟩ = some (.int .i64 q21) := fun z => z.cell hr22.box.lt hr22.cells.2.1
      have f2 : ∀ z : Held W21.heap.size W21, z.w.cell? ⟨b6, 0, none⟩ = some (.pointer (some ⟨rb, 0, none⟩)) := fun z => z.cell rp_22.lt (rp_22.cell 0)
      clear hlt
      refine wp_region_held W21.heap.size W21 (Below.refl _ _) (by kernel_rfl) (by kernel_rfl) ?_
      repeat (go_big_quiet_step (fail))
      refine wpQuiet_nil ?_
      rintro wt ⟨⟨_, bt⟩, rfl⟩
      clear f0 f1 f2
      have hn23 := Mv.still hr22 bt
      have hr23 := hn23.rd hr22 hr22.few.2.2
      have hm23 := hm22.trans hl hn23
      have x_23 := hn23.at x_22 hbx
      have rp_23 := hn23.at rp_22 hb6
      have fp_23 := hn23.at fp_22 hb3
      have dp_23 := hn23.at dp_22 hb4
      have ar_23 := own_mv hlB ar_22 hn23
      have yrp0 := rp_23.cell 0
      simp only [List.getElem?_toArray, List.getElem?_cons_zero, List.getElem?_cons_succ] at yrp0
      subst hRR
      have HC := Lib.hid (fail_any hr23)
      go_wp2_with (go_at_call 64; refine (HC.out).mono ?_; rintro e wF ⟨rfl, hnF⟩)
      have hnF := Mv.still hr23 hnF
      exact ⟨rfl, rfl, hm23.trans hl hnF, (hnF.rd hr23 hr23.few.2.2), hnF.at dp_23 hb4⟩
     ·skip
      rw [Px.bind_ok (show Px.atEnd (Px.kts ts) q21 = .ok () q21 from if_neg (by rw [kts_len]; exact hlt))] at hRR
      try dsimp only at hRR
      have d1 : decide ((q21 : Int) < (ts.length : Int)) = false := decide_eq_false (by omega)
      have n1 : decide (q21 < ts.length) = false := decide_eq_false hlt
      have hfew := hr22.few
      have f0 : ∀ z : Held W21.heap.size W21, z.w.cell? ⟨rb, 0, none⟩ = some (.slice TA ts.length tc) := fun z => z.cell hr22.box.lt hr22.cells.1
      have f1 : ∀ z : Held W21.heap.size W21, z.w.cell? ⟨rb, 1, none⟩ = some (.int .i64 q21) := fun z => z.cell hr22.box.lt hr22.cells.2.1
      have f2 : ∀ z : Held W21.heap.size W21, z.w.cell? ⟨b6, 0, none⟩ = some (.pointer (some ⟨rb, 0, none⟩)) := fun z => z.cell rp_22.lt (rp_22.cell 0)
      clear hlt
      refine wp_region_held W21.heap.size W21 (Below.refl _ _) (by kernel_rfl) (by kernel_rfl) ?_
      repeat (go_big_quiet_step (fail))
      refine wpQuiet_nil ?_
      rintro wt ⟨⟨_, bt⟩, rfl⟩
      clear f0 f1 f2
      have hn23 := Mv.still hr22 bt
      have hr23 := hn23.rd hr22 hr22.few.2.2
      have hm23 := hm22.trans hl hn23
      have x_23 := hn23.at x_22 hbx
      have rp_23 := hn23.at rp_22 hb6
      have fp_23 := hn23.at fp_22 hb3
      have dp_23 := hn23.at dp_22 hb4
      have ar_23 := own_mv hlB ar_22 hn23
      go_wp2_with fail
      try unfold Px.ret at hRR
      try dsimp only at hRR
      subst hRR
      first
       | go_end0
       | refine bodyPost_ret (results_none rfl _ _ _) rfl ?_
      exact ⟨rfl, hm23, hr23, aA, aC, x_23, TRow.of_own ar_23, dp_23⟩
set_option maxHeartbeats 4000000 in
set_option maxRecDepth 100000 in
theorem factOut_any {w1 : World} {bx b6 b3 b4 : Nat} {t4 : TypeId} {c4 : Array Value} {ps : Nat} (h : Rd w rb TA tc ts sz i0 o) (hm1 : Mv rb i w w1) (hr1 : Rd w1 rb TA tc ts sz i o) (x_1 : At w1 bx 58 #[.int .i64 1, .string ⟨#[]⟩, .int .i64 (-1), .slice none 0 0, .string ⟨#[]⟩, .string ⟨#[]⟩, .int .i64 (-1), .int .i64 0, .int .i64 (ps : Int)]) (rp_1 : At w1 b6 81 #[.pointer (some ⟨rb, 0, none⟩)]) (fp_1 : At w1 b3 103 #[.func (.func 44) #[] #[]]) (dp_1 : At w1 b4 t4 c4) (hBx : w.heap.size ≤ bx) (hbx : bx ≠ rb) (hb6 : b6 ≠ rb) (hb3 : b3 ≠ rb) (hb4 : b4 ≠ rb) (NExrp : bx ≠ b6) (NExfp : bx ≠ b3) (NExdp : bx ≠ b4) :
  Calls Tryd.prog 63 #[.pointer (some ⟨b6, 0, none⟩), .pointer (some ⟨bx, 0, none⟩), .pointer (some ⟨b3, 0, none⟩)] w1 (WoPost w rb TA tc ts sz o bx b4 t4 c4 ps (Px.factOf i (Px.kts ts) i)) := by
 obtain ⟨RR, hRR⟩ : ∃ RR, Px.factOf i (Px.kts ts) i = RR := ⟨_, rfl⟩
 rw [hRR]
 unfold Px.factOf at hRR
 have HR := Lib.hid h
 have hl := h.box.lt
 have hlB : rb < w.heap.size := hl
 go_enter Tryd.func63, Tryd.ntmps63
 have yrp0 := rp_1.cell 0
 have frp0 := rp_1.frozen 0
 have ylrp := rp_1.lt
 simp only [List.getElem?_toArray, List.getElem?_cons_zero, List.getElem?_cons_succ] at yrp0
 go_wp2_with fail
 clear yrp0 frp0 ylrp
 cases hp : Px.word 1 (Px.kts ts) i with
 | fail q1 =>
  rw [Px.bind_fail (hp)] at hRR
  subst hRR
  have HC := Lib.hid (pword_any hr1 1 (by omega))
  rw [hp] at HC
  clear hp
  go_wp2_with (go_at_call 43; refine (HC.out).mono ?_; rintro e wF ⟨rfl, hnF, hrF⟩)
  exact ⟨rfl, rfl, hm1.trans hl hnF, hrF, hnF.at dp_1 hb4⟩
 | ok nm q1 =>
  rw [Px.bind_ok (hp)] at hRR
  try dsimp only at hRR
  have HC := Lib.hid (pword_any hr1 1 (by omega))
  rw [hp] at HC
  have HQ1 := Lib.hid hp
  clear hp
  go_wp2_with (go_at_call 43; refine (HC.out).mono ?_; rintro e W1 ⟨⟨_, rfl, rfl⟩, hn2, hr2⟩; have hm2 := hm1.trans hl hn2; have x_2 := hn2.at x_1 hbx; have rp_2 := hn2.at rp_1 hb6; have fp_2 := hn2.at fp_1 hb3; have dp_2 := hn2.at dp_1 hb4; clear HC; have yrp0 := rp_2.cell 0; have frp0 := rp_2.frozen 0; have ylrp := rp_2.lt; simp only [List.getElem?_toArray, List.getElem?_cons_zero, List.getElem?_cons_succ] at yrp0; have yx0 := x_2.cell 0; have yx1 := x_2.cell 1; have yx2 := x_2.cell 2; have yx3 := x_2.cell 3; have yx4 := x_2.cell 4; have yx5 := x_2.cell 5; have yx6 := x_2.cell 6; have yx7 := x_2.cell 7; have yx8 := x_2.cell 8; have fx0 := x_2.frozen 0; have fx1 := x_2.frozen 1; have fx2 := x_2.frozen 2; have fx3 := x_2.frozen 3; have fx4 := x_2.frozen 4; have fx5 := x_2.frozen 5; have fx6 := x_2.frozen 6; have fx7 := x_2.frozen 7; have fx8 := x_2.frozen 8; have ylx := x_2.lt; simp only [List.getElem?_toArray, List.getElem?_cons_zero, List.getElem?_cons_succ] at yx0 yx1 yx2 yx3 yx4 yx5 yx6 yx7 yx8)
  clear yrp0 frp0 ylrp
  clear yx0 fx0 yx1 fx1 yx2 fx2 yx3 fx3 yx4 fx4 yx5 fx5 yx6 fx6 yx7 fx7 yx8 fx8 ylx
  have x_3 := (x_2.put 1 (.string (bs nm)))
  simp only [List.setIfInBounds_toArray, List.set_cons_zero, List.set_cons_succ] at x_3
  have hm3 := hm2.after ((Below.refl (bx) W1).setCell (p := ⟨bx, 1, none⟩) (Nat.le_refl _) (.string (bs nm))) hBx
  have hr3 := hm3.rd HR.out hr2.few.2.2
  have rp_3 := (rp_2.far (p := ⟨bx, 1, none⟩) (Ne.symm NExrp) (.string (bs nm)))
  have fp_3 := (fp_2.far (p := ⟨bx, 1, none⟩) (Ne.symm NExfp) (.string (bs nm)))
  have dp_3 := (dp_2.far (p := ⟨bx, 1, none⟩) (Ne.symm NExdp) (.string (bs nm)))
  have hz3 : (W1.setCell ⟨bx, 1, none⟩ (.string (bs nm))).heap.size = W1.heap.size := (by simp : (W1.setCell ⟨bx, 1, none⟩ (.string (bs nm))).heap.size = W1.heap.size).trans rfl
  generalize hw3 : (W1.setCell ⟨bx, 1, none⟩ (.string (bs nm))) = W2 at x_3 hm3 hr3 rp_3 fp_3 dp_3 hz3 ⊢
  clear hw3
  cases hp : Px.need [40] (Px.kts ts) q1 with
  | fail q4 =>
   rw [Px.bind_fail (hp)] at hRR
   subst hRR
   have HC := Lib.hid (need_any hr3 [40] (by decide))
   rw [hp] at HC
   clear hp
   go_wp2_with (go_at_call 55; refine (HC.out).mono ?_; rintro e wF ⟨rfl, hnF, hrF⟩)
   exact ⟨rfl, rfl, hm3.trans hl hnF, hrF, hnF.at dp_3 hb4⟩
  | ok u q4 =>
   rw [Px.bind_ok (hp)] at hRR
   try dsimp only at hRR
   have HC := Lib.hid (need_any hr3 [40] (by decide))
   rw [hp] at HC
   have HQ4 := Lib.hid hp
   clear hp
   go_wp2_with (go_at_call 55; refine (HC.out).mono ?_; rintro e W3 ⟨⟨_, rfl, rfl⟩, hn5, hr5⟩; have hm5 := hm3.trans hl hn5; have x_5 := hn5.at x_3 hbx; have rp_5 := hn5.at rp_3 hb6; have fp_5 := hn5.at fp_3 hb3; have dp_5 := hn5.at dp_3 hb4; clear HC; have yrp0 := rp_5.cell 0; have frp0 := rp_5.frozen 0; have ylrp := rp_5.lt; simp only [List.getElem?_toArray, List.getElem?_cons_zero, List.getElem?_cons_succ] at yrp0; have yfp0 := fp_5.cell 0; have ffp0 := fp_5.frozen 0; have ylfp := fp_5.lt; simp only [List.getElem?_toArray, List.getElem?_cons_zero, List.getElem?_cons_succ] at yfp0)
   clear yrp0 frp0 ylrp
   clear yfp0 ffp0 ylfp
   have HC0 := factIn_any (ps := ps) HR.out hm5 hr5 x_5 hBx hbx rp_5 fp_5 dp_5 hb6 hb3 hb4 NExrp NExfp NExdp
   cases hp : Px.factIn (Px.kts ts) q4 with
   | fail q20 =>
    rw [Px.bind_fail hp] at hRR
    subst hRR
    rw [hp] at HC0
    have HC := Lib.hid HC0
    clear HC0 hp
    go_wp2_with (go_at_call 44; refine (HC.out).mono ?_; rintro e wF ⟨rfl, hmF, hrF, hxF⟩)
    exact ⟨rfl, rfl, hmF, hrF, hxF⟩
   | ok ab q20 =>
    obtain ⟨ag, bn⟩ := ab
    rw [Px.bind_ok hp] at hRR
    try dsimp only at hRR
    rw [hp] at HC0
    have HC := Lib.hid HC0
    clear HC0 hp
    go_wp2_with (go_at_call 44; refine (HC.out).mono ?_; rintro e W20 ⟨rfl, hm20, hr20, aA, aC, x_20, ar_20, rp_20, fp_20, dp_20⟩; have yrp0 := At.cell rp_20 0; simp only [List.getElem?_toArray, List.getElem?_cons_zero, List.getElem?_cons_succ] at yrp0; clear HC)
    clear yrp0
    cases hp : Px.need [41] (Px.kts ts) q20 with
    | fail q21 =>
     rw [Px.bind_fail (hp)] at hRR
     subst hRR
     have HC := Lib.hid (need_any hr20 [41] (by decide))
     rw [hp] at HC
     clear hp
     go_wp2_with (go_at_call 55; refine (HC.out).mono ?_; rintro e wF ⟨rfl, hnF, hrF⟩)
     exact ⟨rfl, rfl, hm20.trans hl hnF, hrF, hnF.at dp_20 hb4⟩
    | ok u q21 =>
     rw [Px.bind_ok (hp)] at hRR
     try dsimp only at hRR
     have HC := Lib.hid (need_any hr20 [41] (by decide))
     rw [hp] at HC
     have HQ21 := Lib.hid hp
     clear hp
     go_wp2_with (go_at_call 55; refine (HC.out).mono ?_; rintro e W21 ⟨⟨_, rfl, rfl⟩, hn22, hr22⟩; have hm22 := hm20.trans hl hn22; have x_22 := hn22.at x_20 hbx; have rp_22 := hn22.at rp_20 hb6; have fp_22 := hn22.at fp_20 hb3; have dp_22 := hn22.at dp_20 hb4; have ar_22 := own_mv hlB ar_20 hn22; clear HC; have yrp0 := rp_22.cell 0; have frp0 := rp_22.frozen 0; have ylrp := rp_22.lt; simp only [List.getElem?_toArray, List.getElem?_cons_zero, List.getElem?_cons_succ] at yrp0)
     clear yrp0 frp0 ylrp
     by_cases hlt : q21 < ts.length
     ·skip
      rw [Px.bind_fail (show Px.atEnd (Px.kts ts) q21 = .fail q21 from if_pos (by rw [kts_len]; exact hlt))] at hRR
      have d1 : decide ((q21 : Int) < (ts.length : Int)) = true := decide_eq_true (by omega)
      have n1 : decide (q21 < ts.length) = true := decide_eq_true hlt
      have hfew := hr22.few
      have f0 : ∀ z : Held W21.heap.size W21, z.w.cell? ⟨rb, 0, none⟩ = some (.slice TA ts.length tc) := fun z => z.cell hr22.box.lt hr22.cells.1
      have f1 : ∀ z : Held W21.heap.size W21, z.w.cell? ⟨rb, 1, none⟩ = some (.int .i64 q21) := fun z => z.cell hr22.box.lt hr22.cells.2.1
      have f2 : ∀ z : Held W21.heap.size W21, z.w.cell? ⟨b6, 0, none⟩ = some (.pointer (some ⟨rb, 0, none⟩)) := fun z => z.cell rp_22.lt (rp_22.cell 0)
      clear hlt
      refine wp_region_held W21.heap.size W21 (Below.refl _ _) (by kernel_rfl) (by kernel_rfl) ?_
      repeat (go_big_quiet_step (fail))
      refine wpQuiet_nil ?_
      rintro wt ⟨⟨_, bt⟩, rfl⟩
      clear f0 f1 f2
      have hn23 := Mv.still hr22 bt
      have hr23 := hn23.rd hr22 hr22.few.2.2
      have hm23 := hm22.trans hl hn23
      have x_23 := hn23.at x_22 hbx
      have rp_23 := hn23.at rp_22 hb6
      have fp_23 := hn23.at fp_22 hb3
      have dp_23 := hn23.at dp_22 hb4
      have ar_23 := own_mv hlB ar_22 hn23
      have yrp0 := rp_23.cell 0
      simp only [List.getElem?_toArray, List.getElem?_cons_zero, List.getElem?_cons_succ] at yrp0
      subst hRR
      have HC := Lib.hid (fail_any hr23)
      go_wp2_with (go_at_call 64; refine (HC.out).mono ?_; rintro e wF ⟨rfl, hnF⟩)
      have hnF := Mv.still hr23 hnF
      exact ⟨rfl, rfl, hm23.trans hl hnF, (hnF.rd hr23 hr23.few.2.2), hnF.at dp_23 hb4⟩
     ·skip
      rw [Px.bind_ok (show Px.atEnd (Px.kts ts) q21 = .ok () q21 from if_neg (by rw [kts_len]; exact hlt))] at hRR
      try dsimp only at hRR
      have d1 : decide ((q21 : Int) < (ts.length : Int)) = false := decide_eq_false (by omega)
      have n1 : decide (q21 < ts.length) = false := decide_eq_false hlt
      have hfew := hr22.few
      have f0 : ∀ z : Held W21.heap.size W21, z.w.cell? ⟨rb, 0, none⟩ = some (.slice TA ts.length tc) := fun z => z.cell hr22.box.lt hr22.cells.1
      have f1 : ∀ z : Held W21.heap.size W21, z.w.cell? ⟨rb, 1, none⟩ = some (.int .i64 q21) := fun z => z.cell hr22.box.lt hr22.cells.2.1
      have f2 : ∀ z : Held W21.heap.size W21, z.w.cell? ⟨b6, 0, none⟩ = some (.pointer (some ⟨rb, 0, none⟩)) := fun z => z.cell rp_22.lt (rp_22.cell 0)
      clear hlt
      refine wp_region_held W21.heap.size W21 (Below.refl _ _) (by kernel_rfl) (by kernel_rfl) ?_
      repeat (go_big_quiet_step (fail))
      refine wpQuiet_nil ?_
      rintro wt ⟨⟨_, bt⟩, rfl⟩
      clear f0 f1 f2
      have hn23 := Mv.still hr22 bt
      have hr23 := hn23.rd hr22 hr22.few.2.2
      have hm23 := hm22.trans hl hn23
      have x_23 := hn23.at x_22 hbx
      have rp_23 := hn23.at rp_22 hb6
      have fp_23 := hn23.at fp_22 hb3
      have dp_23 := hn23.at dp_22 hb4
      have ar_23 := own_mv hlB ar_22 hn23
      go_wp2_with fail
      try unfold Px.ret at hRR
      try dsimp only at hRR
      subst hRR
      first
       | go_end0
       | refine bodyPost_ret (results_none rfl _ _ _) rfl ?_
      exact ⟨rfl, hm23, hr23, aA, aC, x_23, TRow.of_own ar_23, dp_23⟩
end
end Go.Proofs.YtpcmlkpnjimbiaaDoor
