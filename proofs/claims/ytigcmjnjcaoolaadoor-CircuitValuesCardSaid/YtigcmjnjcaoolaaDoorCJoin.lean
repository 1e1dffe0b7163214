/- The walks of Var, Two and join, Plus and Times, of circuits and of the reference. -/
import Derived.Test.YtigcmjnjcaoolaaDoorCPut2
namespace Go.Proofs.YtigcmjnjcaoolaaDoor
set_option linter.unusedVariables false
set_option linter.unusedSimpArgs false
open Go.RowKit
open Cx (N)
theorem var_any (A : Option Addr) (c : Nat) (l : List N) (n : Int) (w : World) (hl : l.length ≤ 20000) (hA : Cir w A c l) :
    Calls Tryd.prog 11 #[.slice A l.length c, .int .i64 n] w (CirNum (Cx.var l n).1 (Cx.var l n).2 w) := by
  by_cases h : n < 0
  · have d1 : decide (n < 0) = true := by simpa using h
    have HV := Lib.hid (show Cx.var l n = (l, -1) by unfold Cx.var; rw [if_pos h])
    go_enter Tryd.func11, Tryd.ntmps11
    go_wp2
    go_ret2
    exact ⟨A, c, by rw [HV.out]; rfl, by rw [HV.out]; exact hA, Below.refl _ _⟩
  · have d1 : decide (n < 0) = false := by simpa using h
    have HV := Lib.hid (show Cx.var l n = Cx.put l ⟨2, n, 0⟩ by unfold Cx.var; rw [if_neg h])
    go_enter Tryd.func11, Tryd.ntmps11
    go_wp2_with fail
    refine (intern_any A c l ⟨2, n, 0⟩ _ hl hA).mono ?_
    rintro e w1 ⟨A1, c1, rfl, h1, b1⟩
    go_wp2_with fail
    go_ret2
    exact ⟨A1, c1, by rw [HV.out]; rfl, by rw [HV.out]; exact h1, b1⟩
theorem rvar_any (A : Option Addr) (c : Nat) (l : List N) (n : Int) (w : World) (hl : l.length ≤ 20000) (hl0 : 0 < l.length) (hA : Cir w A c l) :
    Calls Tryd.prog 12 #[.slice A l.length c, .int .i64 n] w (CirNum (Cx.var l n).1 (Cx.var l n).2 w) := by
  by_cases h : n < 0
  · have d1 : decide (n < 0) = true := by simpa using h
    have HV := Lib.hid (show Cx.var l n = (l, -1) by unfold Cx.var; rw [if_pos h])
    go_enter Tryd.func12, Tryd.ntmps12
    go_wp2
    go_ret2
    exact ⟨A, c, by rw [HV.out]; rfl, by rw [HV.out]; exact hA, Below.refl _ _⟩
  · have d1 : decide (n < 0) = false := by simpa using h
    have HV := Lib.hid (show Cx.var l n = Cx.put l ⟨2, n, 0⟩ by unfold Cx.var; rw [if_neg h])
    go_enter Tryd.func12, Tryd.ntmps12
    go_wp2_with fail
    refine (put_any A c l ⟨2, n, 0⟩ _ hl hl0 hA).mono ?_
    rintro e w1 ⟨A1, c1, rfl, h1, b1⟩
    go_wp2_with fail
    go_ret2
    exact ⟨A1, c1, by rw [HV.out]; rfl, by rw [HV.out]; exact h1, b1⟩
theorem in_val (A : Option Addr) (k : Nat) (l : List N) (n : Int) (r : Bool) (w : World) (hl : l.length ≤ 9223372036854775807) (hr : Cx.isIn l n = r) : Calls Tryd.prog 39 #[.slice A l.length k, .int .i64 n] w fun e w' => e = .returned (.bool r) ∧ w = w' := by
  subst hr; exact in_any A k l n w hl
set_option maxHeartbeats 4000000 in
theorem two_any (A : Option Addr) (c : Nat) (l : List N) (op a b zr all : Int) (w : World) (hl : l.length ≤ 20000) (hl0 : 0 < l.length) (hA : Cir w A c l) (ha : -9223372036854775808 ≤ a ∧ a ≤ 9223372036854775807) (hb : -9223372036854775808 ≤ b ∧ b ≤ 9223372036854775807) :
    Calls Tryd.prog 35 #[.slice A l.length c, .int .i64 op, .int .i64 a, .int .i64 b, .int .i64 zr, .int .i64 all] w (CirNum (Cx.two l op a b zr all).1 (Cx.two l op a b zr all).2 w) := by
  have hl' : l.length ≤ 9223372036854775807 := by omega
  cases p1 : Cx.isIn l a
  · have HV := Lib.hid (show Cx.two l op a b zr all = (l, -1) by unfold Cx.two; rw [if_pos (Or.inl p1)])
    have P1 := Lib.hid p1
    clear p1
    go_enter Tryd.func35, Tryd.ntmps35
    go_wp2_with (go_at_call 39; with_reducible refine (in_val A c l a _ _ hl' P1.out).mono ?_; rintro e w' ⟨rfl, rfl⟩)
    go_ret2
    exact ⟨A, c, by rw [HV.out]; rfl, by rw [HV.out]; exact hA, Below.refl _ _⟩
  cases p2 : Cx.isIn l b
  · have HV := Lib.hid (show Cx.two l op a b zr all = (l, -1) by unfold Cx.two; rw [if_pos (Or.inr p2)])
    have P1 := Lib.hid p1; have P2 := Lib.hid p2
    clear p1 p2
    go_enter Tryd.func35, Tryd.ntmps35
    go_wp2_with fail
    refine (in_val A c l a _ _ hl' P1.out).mono ?_
    rintro e w' ⟨rfl, rfl⟩
    go_wp2_with fail
    refine (in_val A c l b _ _ hl' P2.out).mono ?_
    rintro e w' ⟨rfl, rfl⟩
    go_wp2_with fail
    go_ret2
    exact ⟨A, c, by rw [HV.out]; rfl, by rw [HV.out]; exact hA, Below.refl _ _⟩
  have h0 : Cx.two l op a b zr all = if a = all ∨ b = all then (l, all) else if a = b ∨ b = zr then (l, a) else if a = zr then (l, b) else Cx.put l ⟨op, min a b, max a b⟩ := by
    unfold Cx.two
    rw [if_neg (by rw [p1, p2]; simp)]
  have P1 := Lib.hid p1; have P2 := Lib.hid p2
  have H0 := Lib.hid h0
  clear p1 p2 h0
  go_enter Tryd.func35, Tryd.ntmps35
  go_wp2_with fail
  refine (in_val A c l a _ _ hl' P1.out).mono ?_
  rintro e w' ⟨rfl, rfl⟩
  go_wp2_with fail
  refine (in_val A c l b _ _ hl' P2.out).mono ?_
  rintro e w' ⟨rfl, rfl⟩
  by_cases q1 : a = all
  · have d1 : (a == all) = true := by simpa using q1
    have HV := Lib.hid (H0.out.trans (if_pos (Or.inl q1)))
    clear q1
    go_wp2_with fail
    go_ret2
    exact ⟨A, c, by rw [HV.out]; rfl, by rw [HV.out]; exact hA, Below.refl _ _⟩
  have d1 : (a == all) = false := by simpa using q1
  by_cases q2 : b = all
  · have d2 : (b == all) = true := by simpa using q2
    have HV := Lib.hid (H0.out.trans (if_pos (Or.inr q2)))
    clear q1 q2
    go_wp2_with fail
    go_ret2
    exact ⟨A, c, by rw [HV.out]; rfl, by rw [HV.out]; exact hA, Below.refl _ _⟩
  have d2 : (b == all) = false := by simpa using q2
  have H1 := Lib.hid (H0.out.trans (if_neg (show ¬ (a = all ∨ b = all) from fun h => h.elim q1 q2)))
  clear q1 q2 H0
  by_cases q1 : a = b
  · have d3 : (a == b) = true := by simpa using q1
    have HV := Lib.hid (H1.out.trans (if_pos (Or.inl q1)))
    clear q1
    go_wp2_with fail
    go_ret2
    exact ⟨A, c, by rw [HV.out]; rfl, by rw [HV.out]; exact hA, Below.refl _ _⟩
  have d3 : (a == b) = false := by simpa using q1
  by_cases q2 : b = zr
  · have d4 : (b == zr) = true := by simpa using q2
    have HV := Lib.hid (H1.out.trans (if_pos (Or.inr q2)))
    clear q1 q2
    go_wp2_with fail
    go_ret2
    exact ⟨A, c, by rw [HV.out]; rfl, by rw [HV.out]; exact hA, Below.refl _ _⟩
  have d4 : (b == zr) = false := by simpa using q2
  have H2 := Lib.hid (H1.out.trans (if_neg (show ¬ (a = b ∨ b = zr) from fun h => h.elim q1 q2)))
  clear q1 q2 H1
  by_cases q1 : a = zr
  · have d5 : (a == zr) = true := by simpa using q1
    have HV := Lib.hid (H2.out.trans (if_pos q1))
    clear q1
    go_wp2_with fail
    go_ret2
    exact ⟨A, c, by rw [HV.out]; rfl, by rw [HV.out]; exact hA, Below.refl _ _⟩
  have d5 : (a == zr) = false := by simpa using q1
  have HV := Lib.hid (H2.out.trans (if_neg q1))
  clear q1
  go_wp2_with fail
  refine (put_any A c l ⟨op, min a b, max a b⟩ _ hl hl0 hA).mono ?_
  rintro e w1 ⟨A1, c1, rfl, h1, b1⟩
  go_wp2_with fail
  go_ret2
  exact ⟨A1, c1, by rw [HV.out]; rfl, by rw [HV.out]; exact h1, b1⟩
def joinM (l : List N) (op m M zr al : Int) : List N × Int :=
  if m < 0 ∨ (l.length : Int) ≤ M then (l, -1) else if m = al ∨ M = al then (l, al) else if m = zr ∨ m = M then (l, M) else if M = zr then (l, m) else Cx.put l ⟨op, m, M⟩
theorem isIn_iff (l : List N) (a : Int) : Cx.isIn l a = false ↔ a < 0 ∨ (l.length : Int) ≤ a := by
  unfold Cx.isIn
  rw [Bool.eq_false_iff]
  simp only [ne_eq, Bool.and_eq_true, decide_eq_true_eq]
  omega
theorem two_join (l : List N) (op a b zr al : Int) : Cx.two l op a b zr al = joinM l op (min a b) (max a b) zr al := by
  unfold Cx.two joinM
  simp only [isIn_iff]
  rcases Int.le_total a b with h | h
  · rw [Int.min_eq_left h, Int.max_eq_right h]
    repeat' split
    all_goals first | rfl | (exfalso; omega) | (rw [Prod.mk.injEq]; exact ⟨rfl, by omega⟩)
  · rw [Int.min_eq_right h, Int.max_eq_left h]
    repeat' split
    all_goals first | rfl | (exfalso; omega) | (rw [Prod.mk.injEq]; exact ⟨rfl, by omega⟩)
set_option maxHeartbeats 4000000 in
theorem join_any (A : Option Addr) (c : Nat) (l : List N) (op a b zr al : Int) (w : World) (hl : l.length ≤ 20000) (hA : Cir w A c l) :
    Calls Tryd.prog 34 #[.slice A l.length c, .int .i64 op, .int .i64 a, .int .i64 b, .int .i64 zr, .int .i64 al] w (CirNum (Cx.two l op a b zr al).1 (Cx.two l op a b zr al).2 w) := by
  rw [two_join]
  obtain ⟨m, hm⟩ : ∃ m, min a b = m := ⟨_, rfl⟩
  obtain ⟨M, hM⟩ : ∃ M, max a b = M := ⟨_, rfl⟩
  rw [hm, hM]
  obtain ⟨J, hJ⟩ : ∃ J, joinM l op m M zr al = J := ⟨_, rfl⟩
  rw [hJ]
  have HJ := Lib.hid hJ.symm
  clear hJ
  unfold joinM at HJ
  by_cases q1 : m < 0
  · have HV := Lib.hid (HJ.out.trans (if_pos (Or.inl q1)))
    have d1 : decide (m < 0) = true := by simpa using q1
    clear q1 HJ
    go_enter Tryd.func34, Tryd.ntmps34
    go_wp2_with fail
    go_ret2
    exact ⟨A, c, by rw [HV.out]; rfl, by rw [HV.out]; exact hA, Below.refl _ _⟩
  have d1 : decide (m < 0) = false := by simpa using q1
  by_cases q2 : (l.length : Int) ≤ M
  · have HV := Lib.hid (HJ.out.trans (if_pos (Or.inr q2)))
    have d2 : decide ((l.length : Int) ≤ M) = true := by simpa using q2
    clear q1 q2 HJ
    go_enter Tryd.func34, Tryd.ntmps34
    go_wp2_with fail
    go_ret2
    exact ⟨A, c, by rw [HV.out]; rfl, by rw [HV.out]; exact hA, Below.refl _ _⟩
  have d2 : decide ((l.length : Int) ≤ M) = false := by simpa using q2
  have H1 := Lib.hid (HJ.out.trans (if_neg (fun h => h.elim q1 q2)))
  clear q1 q2 HJ
  by_cases q1 : m = al
  · have HV := Lib.hid (H1.out.trans (if_pos (Or.inl q1)))
    have d3 : (m == al) = true := by simpa using q1
    clear q1 H1
    go_enter Tryd.func34, Tryd.ntmps34
    go_wp2_with fail
    go_ret2
    exact ⟨A, c, by rw [HV.out]; rfl, by rw [HV.out]; exact hA, Below.refl _ _⟩
  have d3 : (m == al) = false := by simpa using q1
  by_cases q2 : M = al
  · have HV := Lib.hid (H1.out.trans (if_pos (Or.inr q2)))
    have d4 : (M == al) = true := by simpa using q2
    clear q1 q2 H1
    go_enter Tryd.func34, Tryd.ntmps34
    go_wp2_with fail
    go_ret2
    exact ⟨A, c, by rw [HV.out]; rfl, by rw [HV.out]; exact hA, Below.refl _ _⟩
  have d4 : (M == al) = false := by simpa using q2
  have H2 := Lib.hid (H1.out.trans (if_neg (fun h => h.elim q1 q2)))
  clear q1 q2 H1
  by_cases q1 : m = zr
  · have HV := Lib.hid (H2.out.trans (if_pos (Or.inl q1)))
    have d5 : (m == zr) = true := by simpa using q1
    clear q1 H2
    go_enter Tryd.func34, Tryd.ntmps34
    go_wp2_with fail
    go_ret2
    exact ⟨A, c, by rw [HV.out]; rfl, by rw [HV.out]; exact hA, Below.refl _ _⟩
  have d5 : (m == zr) = false := by simpa using q1
  by_cases q2 : m = M
  · have HV := Lib.hid (H2.out.trans (if_pos (Or.inr q2)))
    have d6 : (m == M) = true := by simpa using q2
    clear q1 q2 H2
    go_enter Tryd.func34, Tryd.ntmps34
    go_wp2_with fail
    go_ret2
    exact ⟨A, c, by rw [HV.out]; rfl, by rw [HV.out]; exact hA, Below.refl _ _⟩
  have d6 : (m == M) = false := by simpa using q2
  have H3 := Lib.hid (H2.out.trans (if_neg (fun h => h.elim q1 q2)))
  clear q1 q2 H2
  by_cases q1 : M = zr
  · have HV := Lib.hid (H3.out.trans (if_pos q1))
    have d7 : (M == zr) = true := by simpa using q1
    clear q1 H3
    go_enter Tryd.func34, Tryd.ntmps34
    go_wp2_with fail
    go_ret2
    exact ⟨A, c, by rw [HV.out]; rfl, by rw [HV.out]; exact hA, Below.refl _ _⟩
  have d7 : (M == zr) = false := by simpa using q1
  have HV := Lib.hid (H3.out.trans (if_neg q1))
  clear q1 H3
  go_enter Tryd.func34, Tryd.ntmps34
  go_wp2_with fail
  refine (intern_any A c l ⟨op, m, M⟩ _ hl hA).mono ?_
  rintro e w1 ⟨A1, c1, rfl, h1, b1⟩
  go_wp2_with fail
  go_ret2
  exact ⟨A1, c1, by rw [HV.out]; rfl, by rw [HV.out]; exact h1, b1⟩
theorem plus_any (A : Option Addr) (c : Nat) (l : List N) (a b : Int) (w : World) (hl : l.length ≤ 20000) (hA : Cir w A c l) :
    Calls Tryd.prog 14 #[.slice A l.length c, .int .i64 a, .int .i64 b] w (CirNum (Cx.plus l a b).1 (Cx.plus l a b).2 w) := by
  unfold Cx.plus
  go_enter Tryd.func14, Tryd.ntmps14
  go_wp2_with fail
  refine (join_any A c l 3 a b 0 1 _ hl hA).mono ?_
  rintro e w1 ⟨A1, c1, rfl, h1, b1⟩
  go_wp2_with fail
  go_ret2
  exact ⟨A1, c1, rfl, h1, b1⟩
theorem times_any (A : Option Addr) (c : Nat) (l : List N) (a b : Int) (w : World) (hl : l.length ≤ 20000) (hA : Cir w A c l) :
    Calls Tryd.prog 16 #[.slice A l.length c, .int .i64 a, .int .i64 b] w (CirNum (Cx.times l a b).1 (Cx.times l a b).2 w) := by
  unfold Cx.times
  go_enter Tryd.func16, Tryd.ntmps16
  go_wp2_with fail
  refine (join_any A c l 4 a b 1 0 _ hl hA).mono ?_
  rintro e w1 ⟨A1, c1, rfl, h1, b1⟩
  go_wp2_with fail
  go_ret2
  exact ⟨A1, c1, rfl, h1, b1⟩
theorem rplus_any (A : Option Addr) (c : Nat) (l : List N) (a b : Int) (w : World) (hl : l.length ≤ 20000) (hA : Cir w A c l) (hl0 : 0 < l.length) (ha : -9223372036854775808 ≤ a ∧ a ≤ 9223372036854775807) (hb : -9223372036854775808 ≤ b ∧ b ≤ 9223372036854775807) :
    Calls Tryd.prog 15 #[.slice A l.length c, .int .i64 a, .int .i64 b] w (CirNum (Cx.plus l a b).1 (Cx.plus l a b).2 w) := by
  unfold Cx.plus
  go_enter Tryd.func15, Tryd.ntmps15
  go_wp2_with fail
  refine (two_any A c l 3 a b 0 1 _ hl hl0 hA ha hb).mono ?_
  rintro e w1 ⟨A1, c1, rfl, h1, b1⟩
  go_wp2_with fail
  go_ret2
  exact ⟨A1, c1, rfl, h1, b1⟩
theorem rtimes_any (A : Option Addr) (c : Nat) (l : List N) (a b : Int) (w : World) (hl : l.length ≤ 20000) (hA : Cir w A c l) (hl0 : 0 < l.length) (ha : -9223372036854775808 ≤ a ∧ a ≤ 9223372036854775807) (hb : -9223372036854775808 ≤ b ∧ b ≤ 9223372036854775807) :
    Calls Tryd.prog 17 #[.slice A l.length c, .int .i64 a, .int .i64 b] w (CirNum (Cx.times l a b).1 (Cx.times l a b).2 w) := by
  unfold Cx.times
  go_enter Tryd.func17, Tryd.ntmps17
  go_wp2_with fail
  refine (two_any A c l 4 a b 1 0 _ hl hl0 hA ha hb).mono ?_
  rintro e w1 ⟨A1, c1, rfl, h1, b1⟩
  go_wp2_with fail
  go_ret2
  exact ⟨A1, c1, rfl, h1, b1⟩
end Go.Proofs.YtigcmjnjcaoolaaDoor
