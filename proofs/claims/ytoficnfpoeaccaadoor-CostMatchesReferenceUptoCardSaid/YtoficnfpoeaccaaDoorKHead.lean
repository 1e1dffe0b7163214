/- The walk of head. -/
import Derived.Test.YtoficnfpoeaccaaDoorKHd0
namespace Go.Proofs.YtoficnfpoeaccaaDoor
set_option linter.unusedVariables false
set_option linter.unusedSimpArgs false
open Go.RowKit
def nX : ByteArray := ⟨#[88]⟩
def nY : ByteArray := ⟨#[89]⟩
/-- The literal that atom makes. -/
def ltA (pred : Int) (aa : Option Addr) (ac : Nat) (vars : List ByteArray) : Lt := ⟨1, ⟨#[112]⟩, pred, aa, ac, vars.map tmV, ⟨#[]⟩, ⟨#[]⟩, -1, 0, 0⟩
def ltNe (aa : Option Addr) (ac : Nat) (vars : List ByteArray) : Lt := ⟨5, ⟨#[]⟩, -1, aa, ac, vars.map tmV, ⟨#[]⟩, ⟨#[]⟩, -1, 2, 0⟩
def rlB (ba : Option Addr) (bc : Nat) (body : List Lt) : Rl := ⟨⟨#[]⟩, 0, ⟨none, 0, 0⟩, 0, ⟨#[]⟩, ⟨#[]⟩, 0, ba, bc, body, 0⟩
def stA (a b : Option Addr) : List Sta := [⟨12, a, 2, [3, 4]⟩, ⟨5, b, 1, [5]⟩]
set_option maxRecDepth 100000 in
theorem run1 (a b x y g : Option Addr) (xc yc gc : Nat) : Ko.estimate (stA a b) (rlB g gc [ltA 0 x xc [nX, nY], ltA 1 y yc [nY]]) [] [0, 1] = 24 := by kernel_rfl
set_option maxRecDepth 100000 in
theorem run2 (a b x y g : Option Addr) (xc yc gc : Nat) : Ko.estimate (stA a b) (rlB g gc [ltA 0 x xc [nX, nY], ltA 1 y yc [nY]]) [] [1, 0] = 20 := by kernel_rfl
set_option maxRecDepth 100000 in
theorem run3 (a b x y z g : Option Addr) (xc yc zc gc : Nat) : Ko.estimate (stA a b) (rlB g gc [ltA 0 x xc [nX, nY], ltNe z zc [nX, nY], ltA 1 y yc [nY]]) [] [0, 1, 2] = 30 := by kernel_rfl
set_option maxRecDepth 100000 in
theorem run4 (a b x y z g : Option Addr) (xc yc zc gc : Nat) : Ko.estimate (stA a b) (rlB g gc [ltA 0 x xc [nX, nY], ltNe z zc [nX, nY], ltA 1 y yc [nY]]) [] [1, 0, 2] = -1 := by kernel_rfl
set_option maxRecDepth 100000 in
theorem run5 (a b x g : Option Addr) (xc gc : Nat) : Ko.estimate (stA a b) (rlB g gc [ltA 0 x xc [nX, nX]]) [] [0] = 3 := by kernel_rfl
set_option maxRecDepth 100000 in
theorem run6 (a b x y g : Option Addr) (xc yc gc : Nat) : Ko.estimate (stA a b) (rlB g gc [ltA 0 x xc [nX, nY], ltA 1 y yc [nY]]) [nX] [0, 1] = 8 := by kernel_rfl
theorem st_i64 {a : Int} {l : List Int} (h : -1000 ≤ a ∧ a ≤ 1000) (hl : ∀ x ∈ l, -1000 ≤ x ∧ x ≤ 1000) : I64 a ∧ ∀ x ∈ l, I64 x := ⟨by unfold I64; omega, fun x hx => by have := hl x hx; unfold I64; omega⟩
theorem lt_i64 {a b c : Int} (h1 : -1000 ≤ a ∧ a ≤ 1000) (h2 : -1000 ≤ b ∧ b ≤ 1000) (h3 : -1000 ≤ c ∧ c ≤ 1000) : I64 a ∧ I64 b ∧ I64 c := by unfold I64; omega
theorem same_true {f : FuncId} {args : Array Value} {w : World} {z : Bool} (h : Calls Tryd.prog f args w fun e w' => e = .returned (.bool z) ∧ Below w.heap.size w w') (hz : z = true) : Calls Tryd.prog f args w fun e w' => e = .returned (.bool true) ∧ Below w.heap.size w w' := by
  subst hz; exact h
def pdH (ta : Option Addr) : Pd := ⟨⟨#[112]⟩, ta, 2, 2, ⟨#[]⟩, -1, false, 0, 0⟩
def pmH (pa ta : Option Addr) : Pm := ⟨⟨none, 0, 0⟩, ⟨none, 0, 0⟩, pa, 1, [pdH ta], ⟨none, 0, 0⟩⟩
def vA : Qu.Vl3 := ⟨2, 0, ⟨#[97]⟩⟩
def vB : Qu.Vl3 := ⟨2, 0, ⟨#[98]⟩⟩
def v1 : Qu.Vl3 := ⟨1, 1, ⟨#[]⟩⟩
def v2 : Qu.Vl3 := ⟨1, 2, ⟨#[]⟩⟩
def rwH (a : Option Addr) (x y : Qu.Vl3) : Rw := ⟨a, 2, [x, y], ⟨none, 0, 0⟩⟩
def daH (ra g a b c : Option Addr) : Da := ⟨ra, 1, [⟨g, 3, [rwH a vA v1, rwH b vA v2, rwH c vB v2]⟩], none, 0, []⟩
set_option maxRecDepth 100000 in
theorem run7 (pa ta ra g a b c : Option Addr) : statP (pmH pa ta) (daH ra g a b c) 0 = (3, [2, 2]) := by kernel_rfl
theorem run8 (pa ta ra g a b c : Option Addr) : statP (pmH pa ta) (daH ra g a b c) 1 = (0, []) := by kernel_rfl
set_option maxHeartbeats 2000000 in
set_option maxRecDepth 100000 in
theorem head_any (w : World) (hT : Tabs w) : Calls Tryd.prog 10 #[] w fun e w' => e = .returned (.bool true) ∧ Below w.heap.size w w' := by
  have a0 : At ((((w.alloc (.cells #[.int .i64 3, .int .i64 4] 3)).alloc (.cells #[.int .i64 5] 3)).alloc (.cells #[.int .i64 12, .slice (some ⟨w.heap.size, 0, none⟩) 2 2, .int .i64 5, .slice (some ⟨w.heap.size + 1, 0, none⟩) 1 1] 46)).alloc (.cells #[.string ⟨#[88]⟩, .string ⟨#[89]⟩] 9)) w.heap.size 3 #[.int .i64 3, .int .i64 4] := (((At.new w _ _).alloc _).alloc _).alloc _
  have a1 : At ((((w.alloc (.cells #[.int .i64 3, .int .i64 4] 3)).alloc (.cells #[.int .i64 5] 3)).alloc (.cells #[.int .i64 12, .slice (some ⟨w.heap.size, 0, none⟩) 2 2, .int .i64 5, .slice (some ⟨w.heap.size + 1, 0, none⟩) 1 1] 46)).alloc (.cells #[.string ⟨#[88]⟩, .string ⟨#[89]⟩] 9)) (w.heap.size + 1) 3 #[.int .i64 5] := ((At.newAt (by simp) _ _).alloc _).alloc _
  have a2 : At ((((w.alloc (.cells #[.int .i64 3, .int .i64 4] 3)).alloc (.cells #[.int .i64 5] 3)).alloc (.cells #[.int .i64 12, .slice (some ⟨w.heap.size, 0, none⟩) 2 2, .int .i64 5, .slice (some ⟨w.heap.size + 1, 0, none⟩) 1 1] 46)).alloc (.cells #[.string ⟨#[88]⟩, .string ⟨#[89]⟩] 9)) (w.heap.size + 1 + 1) 46 #[.int .i64 12, .slice (some ⟨w.heap.size, 0, none⟩) 2 2, .int .i64 5, .slice (some ⟨w.heap.size + 1, 0, none⟩) 1 1] := (At.newAt (by simp) _ _).alloc _
  have a3 : At ((((w.alloc (.cells #[.int .i64 3, .int .i64 4] 3)).alloc (.cells #[.int .i64 5] 3)).alloc (.cells #[.int .i64 12, .slice (some ⟨w.heap.size, 0, none⟩) 2 2, .int .i64 5, .slice (some ⟨w.heap.size + 1, 0, none⟩) 1 1] 46)).alloc (.cells #[.string ⟨#[88]⟩, .string ⟨#[89]⟩] 9)) (w.heap.size + 1 + 1 + 1) 9 #[.string ⟨#[88]⟩, .string ⟨#[89]⟩] := At.newAt (by simp) _ _
  have hb1 : Below w.heap.size w ((((w.alloc (.cells #[.int .i64 3, .int .i64 4] 3)).alloc (.cells #[.int .i64 5] 3)).alloc (.cells #[.int .i64 12, .slice (some ⟨w.heap.size, 0, none⟩) 2 2, .int .i64 5, .slice (some ⟨w.heap.size + 1, 0, none⟩) 1 1] 46)).alloc (.cells #[.string ⟨#[88]⟩, .string ⟨#[89]⟩] 9)) := (((below1 _ _).alloc (by simp) _).alloc (by simp; omega) _).alloc (by simp; omega) _
  obtain ⟨w1, hw1⟩ : ∃ w1, w1 = ((((w.alloc (.cells #[.int .i64 3, .int .i64 4] 3)).alloc (.cells #[.int .i64 5] 3)).alloc (.cells #[.int .i64 12, .slice (some ⟨w.heap.size, 0, none⟩) 2 2, .int .i64 5, .slice (some ⟨w.heap.size + 1, 0, none⟩) 1 1] 46)).alloc (.cells #[.string ⟨#[88]⟩, .string ⟨#[89]⟩] 9)) := ⟨_, rfl⟩
  rw [← hw1] at a0 a1 a2 a3 hb1
  have HW1 := Lib.hid hw1
  clear hw1
  have hE1 : Env w1 (some ⟨w.heap.size + 1 + 1, 0, none⟩) (stA (some ⟨w.heap.size, 0, none⟩) (some ⟨w.heap.size + 1, 0, none⟩)) := by
    refine ⟨Str.ofAt a2 (of_decide_eq_true (by kernel_rfl)), fun s hs => ?_⟩
    rcases List.mem_cons.1 hs with rfl | hs
    · exact ⟨ints_ofAt (l := [3, 4]) a0, of_decide_eq_true (by kernel_rfl), st_i64 (of_decide_eq_true (by kernel_rfl)) (of_decide_eq_true (by kernel_rfl))⟩
    · obtain rfl : s = _ := List.mem_singleton.1 hs
      exact ⟨ints_ofAt (l := [5]) a1, of_decide_eq_true (by kernel_rfl), st_i64 (of_decide_eq_true (by kernel_rfl)) (of_decide_eq_true (by kernel_rfl))⟩
  have hN1 : NmAt w1 (some ⟨w.heap.size + 1 + 1 + 1, 0, none⟩) [nX, nY] := NmAt.ofAt a3
  clear a0 a1 a2 a3
  go_enter Tryd.func10, Tryd.ntmps10
  go_wp2_with fail
  rw [← HW1.out]
  refine (atom_any 0 _ 2 [nX, nY] w1 hN1 (by decide)).mono ?_
  rintro e w2 ⟨⟨xa, xc, rfl, hx1, hx2, hx3⟩, hb2⟩
  have hE2 := hE1.below hb2
  have hbw2 := hb1.trans (hb2.mono hb1.size)
  have HX := Lib.hid (show 2 ≤ xc ∧ xc ≤ maxLen from ⟨hx2, hx3⟩)
  clear hE1 hN1 hb1 hb2 hx2 hx3 HW1
  have b0 : At ((w2.alloc (.cells #[.int .i64 1, .string ⟨#[112]⟩, .int .i64 0, .slice xa 2 xc, .string ⟨#[]⟩, .string ⟨#[]⟩, .int .i64 (-1), .int .i64 0, .int .i64 0] 60)).alloc (.cells #[.string ⟨#[89]⟩] 9)) w2.heap.size 60 #[.int .i64 1, .string ⟨#[112]⟩, .int .i64 0, .slice xa 2 xc, .string ⟨#[]⟩, .string ⟨#[]⟩, .int .i64 (-1), .int .i64 0, .int .i64 0] := (At.new w2 _ _).alloc _
  have b1 : At ((w2.alloc (.cells #[.int .i64 1, .string ⟨#[112]⟩, .int .i64 0, .slice xa 2 xc, .string ⟨#[]⟩, .string ⟨#[]⟩, .int .i64 (-1), .int .i64 0, .int .i64 0] 60)).alloc (.cells #[.string ⟨#[89]⟩] 9)) (w2.heap.size + 1) 9 #[.string ⟨#[89]⟩] := At.newAt (by simp) _ _
  have hb3 : Below w2.heap.size w2 ((w2.alloc (.cells #[.int .i64 1, .string ⟨#[112]⟩, .int .i64 0, .slice xa 2 xc, .string ⟨#[]⟩, .string ⟨#[]⟩, .int .i64 (-1), .int .i64 0, .int .i64 0] 60)).alloc (.cells #[.string ⟨#[89]⟩] 9)) := (below1 _ _).alloc (by simp) _
  obtain ⟨w3, hw3⟩ : ∃ w3, w3 = ((w2.alloc (.cells #[.int .i64 1, .string ⟨#[112]⟩, .int .i64 0, .slice xa 2 xc, .string ⟨#[]⟩, .string ⟨#[]⟩, .int .i64 (-1), .int .i64 0, .int .i64 0] 60)).alloc (.cells #[.string ⟨#[89]⟩] 9)) := ⟨_, rfl⟩
  rw [← hw3] at b0 b1 hb3
  have HW3 := Lib.hid hw3
  clear hw3
  have hN3 : NmAt w3 (some ⟨w2.heap.size + 1, 0, none⟩) [nY] := NmAt.ofAt b1
  go_wp2_with fail
  rw [← HW3.out]
  refine (atom_any 1 _ 1 [nY] w3 hN3 (by decide)).mono ?_
  rintro e w4 ⟨⟨ya, yc, rfl, hy1, hy2, hy3⟩, hb4⟩
  have hb24 := hb3.trans (hb4.mono hb3.size)
  have hE4 := hE2.below hb24
  have hX4 := hx1.below hb24
  have hbw4 := hbw2.trans (hb24.mono hbw2.size)
  have c0 := b0.next hb4
  have HY := Lib.hid (show 1 ≤ yc ∧ yc ≤ maxLen from ⟨hy2, hy3⟩)
  have hlt4 := c0.lt
  clear hE2 hx1 hN3 hb3 hb4 hb24 hy2 hy3 hbw2 b0 b1 HW3
  have qh := c0
  have q0 : w4.cell? ⟨w2.heap.size, 0, none⟩ = some (.int .i64 1) := qh.cell 0
  have q1 : w4.cell? ⟨w2.heap.size, 1, none⟩ = some (.string ⟨#[112]⟩) := qh.cell 1
  have q2 : w4.cell? ⟨w2.heap.size, 2, none⟩ = some (.int .i64 0) := qh.cell 2
  have q3 : w4.cell? ⟨w2.heap.size, 3, none⟩ = some (.slice xa 2 xc) := qh.cell 3
  have q4 : w4.cell? ⟨w2.heap.size, 4, none⟩ = some (.string ⟨#[]⟩) := qh.cell 4
  have q5 : w4.cell? ⟨w2.heap.size, 5, none⟩ = some (.string ⟨#[]⟩) := qh.cell 5
  have q6 : w4.cell? ⟨w2.heap.size, 6, none⟩ = some (.int .i64 (-1)) := qh.cell 6
  have q7 : w4.cell? ⟨w2.heap.size, 7, none⟩ = some (.int .i64 0) := qh.cell 7
  have q8 : w4.cell? ⟨w2.heap.size, 8, none⟩ = some (.int .i64 0) := qh.cell 8
  have hlt4_1 : w2.heap.size < w4.heap.size + 1 := by omega
  have hlt4_2 : w2.heap.size < w4.heap.size + 1 + 1 := by omega
  have hlt4_3 : w2.heap.size < w4.heap.size + 1 + 1 + 1 := by omega
  have hlt4_4 : w2.heap.size < w4.heap.size + 1 + 1 + 1 + 1 := by omega
  have hlt4_5 : w2.heap.size < w4.heap.size + 1 + 1 + 1 + 1 + 1 := by omega
  have d2 : At ((((((w4.alloc (.cells #[.int .i64 1, .string ⟨#[112]⟩, .int .i64 1, .slice ya 1 yc, .string ⟨#[]⟩, .string ⟨#[]⟩, .int .i64 (-1), .int .i64 0, .int .i64 0] 60)).alloc (.cells #[.int .i64 5, .string ⟨#[]⟩, .int .i64 (-1), .slice xa 2 xc, .string ⟨#[]⟩, .string ⟨#[]⟩, .int .i64 (-1), .int .i64 2, .int .i64 0] 60)).alloc (.cells #[.int .i64 1, .string ⟨#[112]⟩, .int .i64 0, .slice xa 2 xc, .string ⟨#[]⟩, .string ⟨#[]⟩, .int .i64 (-1), .int .i64 0, .int .i64 0, .int .i64 1, .string ⟨#[112]⟩, .int .i64 1, .slice ya 1 yc, .string ⟨#[]⟩, .string ⟨#[]⟩, .int .i64 (-1), .int .i64 0, .int .i64 0] 60)).alloc (.cells #[.string ⟨#[]⟩, .int .i64 0, .slice none 0 0, .int .i64 0, .string ⟨#[]⟩, .string ⟨#[]⟩, .int .i64 0, .slice (some ⟨w4.heap.size + 1 + 1, 0, none⟩) 2 2, .int .i64 0] 38)).alloc (.cells #[.int .i64 1, .string ⟨#[112]⟩, .int .i64 0, .slice xa 2 xc, .string ⟨#[]⟩, .string ⟨#[]⟩, .int .i64 (-1), .int .i64 0, .int .i64 0, .int .i64 5, .string ⟨#[]⟩, .int .i64 (-1), .slice xa 2 xc, .string ⟨#[]⟩, .string ⟨#[]⟩, .int .i64 (-1), .int .i64 2, .int .i64 0, .int .i64 1, .string ⟨#[112]⟩, .int .i64 1, .slice ya 1 yc, .string ⟨#[]⟩, .string ⟨#[]⟩, .int .i64 (-1), .int .i64 0, .int .i64 0] 60)).alloc (.cells #[.string ⟨#[]⟩, .int .i64 0, .slice none 0 0, .int .i64 0, .string ⟨#[]⟩, .string ⟨#[]⟩, .int .i64 0, .slice (some ⟨w4.heap.size + 1 + 1 + 1 + 1, 0, none⟩) 3 3, .int .i64 0] 38)) (w4.heap.size + 1 + 1) 60 #[.int .i64 1, .string ⟨#[112]⟩, .int .i64 0, .slice xa 2 xc, .string ⟨#[]⟩, .string ⟨#[]⟩, .int .i64 (-1), .int .i64 0, .int .i64 0, .int .i64 1, .string ⟨#[112]⟩, .int .i64 1, .slice ya 1 yc, .string ⟨#[]⟩, .string ⟨#[]⟩, .int .i64 (-1), .int .i64 0, .int .i64 0] := (((At.newAt (by simp) _ _).alloc _).alloc _).alloc _
  have d3 : At ((((((w4.alloc (.cells #[.int .i64 1, .string ⟨#[112]⟩, .int .i64 1, .slice ya 1 yc, .string ⟨#[]⟩, .string ⟨#[]⟩, .int .i64 (-1), .int .i64 0, .int .i64 0] 60)).alloc (.cells #[.int .i64 5, .string ⟨#[]⟩, .int .i64 (-1), .slice xa 2 xc, .string ⟨#[]⟩, .string ⟨#[]⟩, .int .i64 (-1), .int .i64 2, .int .i64 0] 60)).alloc (.cells #[.int .i64 1, .string ⟨#[112]⟩, .int .i64 0, .slice xa 2 xc, .string ⟨#[]⟩, .string ⟨#[]⟩, .int .i64 (-1), .int .i64 0, .int .i64 0, .int .i64 1, .string ⟨#[112]⟩, .int .i64 1, .slice ya 1 yc, .string ⟨#[]⟩, .string ⟨#[]⟩, .int .i64 (-1), .int .i64 0, .int .i64 0] 60)).alloc (.cells #[.string ⟨#[]⟩, .int .i64 0, .slice none 0 0, .int .i64 0, .string ⟨#[]⟩, .string ⟨#[]⟩, .int .i64 0, .slice (some ⟨w4.heap.size + 1 + 1, 0, none⟩) 2 2, .int .i64 0] 38)).alloc (.cells #[.int .i64 1, .string ⟨#[112]⟩, .int .i64 0, .slice xa 2 xc, .string ⟨#[]⟩, .string ⟨#[]⟩, .int .i64 (-1), .int .i64 0, .int .i64 0, .int .i64 5, .string ⟨#[]⟩, .int .i64 (-1), .slice xa 2 xc, .string ⟨#[]⟩, .string ⟨#[]⟩, .int .i64 (-1), .int .i64 2, .int .i64 0, .int .i64 1, .string ⟨#[112]⟩, .int .i64 1, .slice ya 1 yc, .string ⟨#[]⟩, .string ⟨#[]⟩, .int .i64 (-1), .int .i64 0, .int .i64 0] 60)).alloc (.cells #[.string ⟨#[]⟩, .int .i64 0, .slice none 0 0, .int .i64 0, .string ⟨#[]⟩, .string ⟨#[]⟩, .int .i64 0, .slice (some ⟨w4.heap.size + 1 + 1 + 1 + 1, 0, none⟩) 3 3, .int .i64 0] 38)) (w4.heap.size + 1 + 1 + 1) 38 #[.string ⟨#[]⟩, .int .i64 0, .slice none 0 0, .int .i64 0, .string ⟨#[]⟩, .string ⟨#[]⟩, .int .i64 0, .slice (some ⟨w4.heap.size + 1 + 1, 0, none⟩) 2 2, .int .i64 0] := ((At.newAt (by simp) _ _).alloc _).alloc _
  have d4 : At ((((((w4.alloc (.cells #[.int .i64 1, .string ⟨#[112]⟩, .int .i64 1, .slice ya 1 yc, .string ⟨#[]⟩, .string ⟨#[]⟩, .int .i64 (-1), .int .i64 0, .int .i64 0] 60)).alloc (.cells #[.int .i64 5, .string ⟨#[]⟩, .int .i64 (-1), .slice xa 2 xc, .string ⟨#[]⟩, .string ⟨#[]⟩, .int .i64 (-1), .int .i64 2, .int .i64 0] 60)).alloc (.cells #[.int .i64 1, .string ⟨#[112]⟩, .int .i64 0, .slice xa 2 xc, .string ⟨#[]⟩, .string ⟨#[]⟩, .int .i64 (-1), .int .i64 0, .int .i64 0, .int .i64 1, .string ⟨#[112]⟩, .int .i64 1, .slice ya 1 yc, .string ⟨#[]⟩, .string ⟨#[]⟩, .int .i64 (-1), .int .i64 0, .int .i64 0] 60)).alloc (.cells #[.string ⟨#[]⟩, .int .i64 0, .slice none 0 0, .int .i64 0, .string ⟨#[]⟩, .string ⟨#[]⟩, .int .i64 0, .slice (some ⟨w4.heap.size + 1 + 1, 0, none⟩) 2 2, .int .i64 0] 38)).alloc (.cells #[.int .i64 1, .string ⟨#[112]⟩, .int .i64 0, .slice xa 2 xc, .string ⟨#[]⟩, .string ⟨#[]⟩, .int .i64 (-1), .int .i64 0, .int .i64 0, .int .i64 5, .string ⟨#[]⟩, .int .i64 (-1), .slice xa 2 xc, .string ⟨#[]⟩, .string ⟨#[]⟩, .int .i64 (-1), .int .i64 2, .int .i64 0, .int .i64 1, .string ⟨#[112]⟩, .int .i64 1, .slice ya 1 yc, .string ⟨#[]⟩, .string ⟨#[]⟩, .int .i64 (-1), .int .i64 0, .int .i64 0] 60)).alloc (.cells #[.string ⟨#[]⟩, .int .i64 0, .slice none 0 0, .int .i64 0, .string ⟨#[]⟩, .string ⟨#[]⟩, .int .i64 0, .slice (some ⟨w4.heap.size + 1 + 1 + 1 + 1, 0, none⟩) 3 3, .int .i64 0] 38)) (w4.heap.size + 1 + 1 + 1 + 1) 60 #[.int .i64 1, .string ⟨#[112]⟩, .int .i64 0, .slice xa 2 xc, .string ⟨#[]⟩, .string ⟨#[]⟩, .int .i64 (-1), .int .i64 0, .int .i64 0, .int .i64 5, .string ⟨#[]⟩, .int .i64 (-1), .slice xa 2 xc, .string ⟨#[]⟩, .string ⟨#[]⟩, .int .i64 (-1), .int .i64 2, .int .i64 0, .int .i64 1, .string ⟨#[112]⟩, .int .i64 1, .slice ya 1 yc, .string ⟨#[]⟩, .string ⟨#[]⟩, .int .i64 (-1), .int .i64 0, .int .i64 0] := (At.newAt (by simp) _ _).alloc _
  have d5 : At ((((((w4.alloc (.cells #[.int .i64 1, .string ⟨#[112]⟩, .int .i64 1, .slice ya 1 yc, .string ⟨#[]⟩, .string ⟨#[]⟩, .int .i64 (-1), .int .i64 0, .int .i64 0] 60)).alloc (.cells #[.int .i64 5, .string ⟨#[]⟩, .int .i64 (-1), .slice xa 2 xc, .string ⟨#[]⟩, .string ⟨#[]⟩, .int .i64 (-1), .int .i64 2, .int .i64 0] 60)).alloc (.cells #[.int .i64 1, .string ⟨#[112]⟩, .int .i64 0, .slice xa 2 xc, .string ⟨#[]⟩, .string ⟨#[]⟩, .int .i64 (-1), .int .i64 0, .int .i64 0, .int .i64 1, .string ⟨#[112]⟩, .int .i64 1, .slice ya 1 yc, .string ⟨#[]⟩, .string ⟨#[]⟩, .int .i64 (-1), .int .i64 0, .int .i64 0] 60)).alloc (.cells #[.string ⟨#[]⟩, .int .i64 0, .slice none 0 0, .int .i64 0, .string ⟨#[]⟩, .string ⟨#[]⟩, .int .i64 0, .slice (some ⟨w4.heap.size + 1 + 1, 0, none⟩) 2 2, .int .i64 0] 38)).alloc (.cells #[.int .i64 1, .string ⟨#[112]⟩, .int .i64 0, .slice xa 2 xc, .string ⟨#[]⟩, .string ⟨#[]⟩, .int .i64 (-1), .int .i64 0, .int .i64 0, .int .i64 5, .string ⟨#[]⟩, .int .i64 (-1), .slice xa 2 xc, .string ⟨#[]⟩, .string ⟨#[]⟩, .int .i64 (-1), .int .i64 2, .int .i64 0, .int .i64 1, .string ⟨#[112]⟩, .int .i64 1, .slice ya 1 yc, .string ⟨#[]⟩, .string ⟨#[]⟩, .int .i64 (-1), .int .i64 0, .int .i64 0] 60)).alloc (.cells #[.string ⟨#[]⟩, .int .i64 0, .slice none 0 0, .int .i64 0, .string ⟨#[]⟩, .string ⟨#[]⟩, .int .i64 0, .slice (some ⟨w4.heap.size + 1 + 1 + 1 + 1, 0, none⟩) 3 3, .int .i64 0] 38)) (w4.heap.size + 1 + 1 + 1 + 1 + 1) 38 #[.string ⟨#[]⟩, .int .i64 0, .slice none 0 0, .int .i64 0, .string ⟨#[]⟩, .string ⟨#[]⟩, .int .i64 0, .slice (some ⟨w4.heap.size + 1 + 1 + 1 + 1, 0, none⟩) 3 3, .int .i64 0] := At.newAt (by simp) _ _
  have hb5 : Below w4.heap.size w4 ((((((w4.alloc (.cells #[.int .i64 1, .string ⟨#[112]⟩, .int .i64 1, .slice ya 1 yc, .string ⟨#[]⟩, .string ⟨#[]⟩, .int .i64 (-1), .int .i64 0, .int .i64 0] 60)).alloc (.cells #[.int .i64 5, .string ⟨#[]⟩, .int .i64 (-1), .slice xa 2 xc, .string ⟨#[]⟩, .string ⟨#[]⟩, .int .i64 (-1), .int .i64 2, .int .i64 0] 60)).alloc (.cells #[.int .i64 1, .string ⟨#[112]⟩, .int .i64 0, .slice xa 2 xc, .string ⟨#[]⟩, .string ⟨#[]⟩, .int .i64 (-1), .int .i64 0, .int .i64 0, .int .i64 1, .string ⟨#[112]⟩, .int .i64 1, .slice ya 1 yc, .string ⟨#[]⟩, .string ⟨#[]⟩, .int .i64 (-1), .int .i64 0, .int .i64 0] 60)).alloc (.cells #[.string ⟨#[]⟩, .int .i64 0, .slice none 0 0, .int .i64 0, .string ⟨#[]⟩, .string ⟨#[]⟩, .int .i64 0, .slice (some ⟨w4.heap.size + 1 + 1, 0, none⟩) 2 2, .int .i64 0] 38)).alloc (.cells #[.int .i64 1, .string ⟨#[112]⟩, .int .i64 0, .slice xa 2 xc, .string ⟨#[]⟩, .string ⟨#[]⟩, .int .i64 (-1), .int .i64 0, .int .i64 0, .int .i64 5, .string ⟨#[]⟩, .int .i64 (-1), .slice xa 2 xc, .string ⟨#[]⟩, .string ⟨#[]⟩, .int .i64 (-1), .int .i64 2, .int .i64 0, .int .i64 1, .string ⟨#[112]⟩, .int .i64 1, .slice ya 1 yc, .string ⟨#[]⟩, .string ⟨#[]⟩, .int .i64 (-1), .int .i64 0, .int .i64 0] 60)).alloc (.cells #[.string ⟨#[]⟩, .int .i64 0, .slice none 0 0, .int .i64 0, .string ⟨#[]⟩, .string ⟨#[]⟩, .int .i64 0, .slice (some ⟨w4.heap.size + 1 + 1 + 1 + 1, 0, none⟩) 3 3, .int .i64 0] 38)) := (((((below1 _ _).alloc (by simp) _).alloc (by simp; omega) _).alloc (by simp; omega) _).alloc (by simp; omega) _).alloc (by simp; omega) _
  obtain ⟨w5, hw5⟩ : ∃ w5, w5 = ((((((w4.alloc (.cells #[.int .i64 1, .string ⟨#[112]⟩, .int .i64 1, .slice ya 1 yc, .string ⟨#[]⟩, .string ⟨#[]⟩, .int .i64 (-1), .int .i64 0, .int .i64 0] 60)).alloc (.cells #[.int .i64 5, .string ⟨#[]⟩, .int .i64 (-1), .slice xa 2 xc, .string ⟨#[]⟩, .string ⟨#[]⟩, .int .i64 (-1), .int .i64 2, .int .i64 0] 60)).alloc (.cells #[.int .i64 1, .string ⟨#[112]⟩, .int .i64 0, .slice xa 2 xc, .string ⟨#[]⟩, .string ⟨#[]⟩, .int .i64 (-1), .int .i64 0, .int .i64 0, .int .i64 1, .string ⟨#[112]⟩, .int .i64 1, .slice ya 1 yc, .string ⟨#[]⟩, .string ⟨#[]⟩, .int .i64 (-1), .int .i64 0, .int .i64 0] 60)).alloc (.cells #[.string ⟨#[]⟩, .int .i64 0, .slice none 0 0, .int .i64 0, .string ⟨#[]⟩, .string ⟨#[]⟩, .int .i64 0, .slice (some ⟨w4.heap.size + 1 + 1, 0, none⟩) 2 2, .int .i64 0] 38)).alloc (.cells #[.int .i64 1, .string ⟨#[112]⟩, .int .i64 0, .slice xa 2 xc, .string ⟨#[]⟩, .string ⟨#[]⟩, .int .i64 (-1), .int .i64 0, .int .i64 0, .int .i64 5, .string ⟨#[]⟩, .int .i64 (-1), .slice xa 2 xc, .string ⟨#[]⟩, .string ⟨#[]⟩, .int .i64 (-1), .int .i64 2, .int .i64 0, .int .i64 1, .string ⟨#[112]⟩, .int .i64 1, .slice ya 1 yc, .string ⟨#[]⟩, .string ⟨#[]⟩, .int .i64 (-1), .int .i64 0, .int .i64 0] 60)).alloc (.cells #[.string ⟨#[]⟩, .int .i64 0, .slice none 0 0, .int .i64 0, .string ⟨#[]⟩, .string ⟨#[]⟩, .int .i64 0, .slice (some ⟨w4.heap.size + 1 + 1 + 1 + 1, 0, none⟩) 3 3, .int .i64 0] 38)) := ⟨_, rfl⟩
  rw [← hw5] at d2 d3 d4 d5 hb5
  have HW5 := Lib.hid hw5
  have HS5 := Lib.hid (show w5.heap.size = w4.heap.size + 1 + 1 + 1 + 1 + 1 + 1 by rw [hw5]; simp)
  clear hw5
  have hE5 := hE4.below hb5
  have hX5 := hX4.below hb5
  have hY5 := hy1.below hb5
  have hbw5 := hbw4.trans (hb5.mono hbw4.size)
  have hl0 : LtOk w5 (ltA 0 xa xc [nX, nY]) := ⟨hX5, HX.out, lt_i64 (of_decide_eq_true (by kernel_rfl)) (of_decide_eq_true (by kernel_rfl)) (of_decide_eq_true (by kernel_rfl))⟩
  have hl1 : LtOk w5 (ltA 1 ya yc [nY]) := ⟨hY5, HY.out, lt_i64 (of_decide_eq_true (by kernel_rfl)) (of_decide_eq_true (by kernel_rfl)) (of_decide_eq_true (by kernel_rfl))⟩
  have hln : LtOk w5 (ltNe xa xc [nX, nY]) := ⟨hX5, HX.out, lt_i64 (of_decide_eq_true (by kernel_rfl)) (of_decide_eq_true (by kernel_rfl)) (of_decide_eq_true (by kernel_rfl))⟩
  have HR2 := Lib.hid (show RlOk w5 (rlB (some ⟨w4.heap.size + 1 + 1, 0, none⟩) 2 [ltA 0 xa xc [nX, nY], ltA 1 ya yc [nY]]) from ⟨Str.ofAt d2 (by intro f hf; simp [rlB] at hf; rcases hf with rfl | rfl <;> rfl), by unfold maxLen rlB; simp, fun l hl => by
    simp [rlB] at hl
    rcases hl with rfl | rfl
    · exact hl0
    · exact hl1⟩)
  have HR3 := Lib.hid (show RlOk w5 (rlB (some ⟨w4.heap.size + 1 + 1 + 1 + 1, 0, none⟩) 3 [ltA 0 xa xc [nX, nY], ltNe xa xc [nX, nY], ltA 1 ya yc [nY]]) from ⟨Str.ofAt d4 (by intro f hf; simp [rlB] at hf; rcases hf with rfl | rfl | rfl <;> rfl), by unfold maxLen rlB; simp, fun l hl => by
    simp [rlB] at hl
    rcases hl with rfl | rfl | rfl
    · exact hl0
    · exact hln
    · exact hl1⟩)
  have HB2 := Lib.hid (fun W (h : Below w5.heap.size w5 W) => d3.next h)
  have HB3 := Lib.hid (fun W (h : Below w5.heap.size w5 W) => d5.next h)
  have HE := Lib.hid hE5
  clear hE4 hX4 hy1 hbw4 hb5 hl0 hl1 hln hX5 hY5 hE5 d2 d3 d4 d5 c0 qh
  go_wp2_with fail
  rw [← HW5.out]
  clear q0 q1 q2 q3 q4 q5 q6 q7 q8 hlt4_1 hlt4_2 hlt4_3 hlt4_4 hlt4_5
  have hb_w5 := Below.refl w5.heap.size w5
  have hv1 := At.newAt (w := w5) (g := w4.heap.size + 1 + 1 + 1 + 1 + 1 + 1) HS5.out 3 #[.int .i64 0, .int .i64 1]
  have hc1 := hb_w5.alloc (by have := hb_w5.size; omega) (.cells #[.int .i64 0, .int .i64 1] 3)
  have HC1 := Lib.hid (est_call (sc := 2) (c := 0) (oc := 2) (A := none) (bd := []) (HE.out.below hc1) (HR2.out.below hc1) (fun h => absurd rfl h) (ints_ofAt (l := [0, 1]) hv1) ⟨of_decide_eq_true (by kernel_rfl), of_decide_eq_true (by kernel_rfl), of_decide_eq_true (by kernel_rfl), of_decide_eq_true (by kernel_rfl), of_decide_eq_true (by kernel_rfl), of_decide_eq_true (by kernel_rfl), of_decide_eq_true (by kernel_rfl), of_decide_eq_true (by kernel_rfl)⟩)
  rw [run1] at HC1
  refine HC1.out.mono ?_
  rintro e w6 ⟨rfl, hd1⟩
  have hb_w6 : Below w5.heap.size w5 w6 := hc1.trans (hd1.mono hc1.size)
  clear hv1 hc1 HC1 hd1
  have rh := HB2.out w6 hb_w6
  have r0 : w6.cell? ⟨w4.heap.size + 1 + 1 + 1, 0, none⟩ = some (.string ⟨#[]⟩) := rh.cell 0
  have r1 : w6.cell? ⟨w4.heap.size + 1 + 1 + 1, 1, none⟩ = some (.int .i64 0) := rh.cell 1
  have r2 : w6.cell? ⟨w4.heap.size + 1 + 1 + 1, 2, none⟩ = some (.slice none 0 0) := rh.cell 2
  have r3 : w6.cell? ⟨w4.heap.size + 1 + 1 + 1, 3, none⟩ = some (.int .i64 0) := rh.cell 3
  have r4 : w6.cell? ⟨w4.heap.size + 1 + 1 + 1, 4, none⟩ = some (.string ⟨#[]⟩) := rh.cell 4
  have r5 : w6.cell? ⟨w4.heap.size + 1 + 1 + 1, 5, none⟩ = some (.string ⟨#[]⟩) := rh.cell 5
  have r6 : w6.cell? ⟨w4.heap.size + 1 + 1 + 1, 6, none⟩ = some (.int .i64 0) := rh.cell 6
  have r7 : w6.cell? ⟨w4.heap.size + 1 + 1 + 1, 7, none⟩ = some (.slice (some ⟨w4.heap.size + 1 + 1, 0, none⟩) 2 2) := rh.cell 7
  have r8 : w6.cell? ⟨w4.heap.size + 1 + 1 + 1, 8, none⟩ = some (.int .i64 0) := rh.cell 8
  have rlt := rh.lt
  go_wp2_with fail
  clear r0 r1 r2 r3 r4 r5 r6 r7 r8 rh rlt
  have hv2 := At.new w6 3 #[.int .i64 1, .int .i64 0]
  have hc2 := hb_w6.alloc (by have := hb_w6.size; omega) (.cells #[.int .i64 1, .int .i64 0] 3)
  have HC2 := Lib.hid (est_call (sc := 2) (c := 0) (oc := 2) (A := none) (bd := []) (HE.out.below hc2) (HR2.out.below hc2) (fun h => absurd rfl h) (ints_ofAt (l := [1, 0]) hv2) ⟨of_decide_eq_true (by kernel_rfl), of_decide_eq_true (by kernel_rfl), of_decide_eq_true (by kernel_rfl), of_decide_eq_true (by kernel_rfl), of_decide_eq_true (by kernel_rfl), of_decide_eq_true (by kernel_rfl), of_decide_eq_true (by kernel_rfl), of_decide_eq_true (by kernel_rfl)⟩)
  rw [run2] at HC2
  refine HC2.out.mono ?_
  rintro e w7 ⟨rfl, hd2⟩
  have hb_w7 : Below w5.heap.size w5 w7 := hc2.trans (hd2.mono hc2.size)
  clear hv2 hc2 HC2 hd2
  have rh := HB3.out w7 hb_w7
  have r0 : w7.cell? ⟨w4.heap.size + 1 + 1 + 1 + 1 + 1, 0, none⟩ = some (.string ⟨#[]⟩) := rh.cell 0
  have r1 : w7.cell? ⟨w4.heap.size + 1 + 1 + 1 + 1 + 1, 1, none⟩ = some (.int .i64 0) := rh.cell 1
  have r2 : w7.cell? ⟨w4.heap.size + 1 + 1 + 1 + 1 + 1, 2, none⟩ = some (.slice none 0 0) := rh.cell 2
  have r3 : w7.cell? ⟨w4.heap.size + 1 + 1 + 1 + 1 + 1, 3, none⟩ = some (.int .i64 0) := rh.cell 3
  have r4 : w7.cell? ⟨w4.heap.size + 1 + 1 + 1 + 1 + 1, 4, none⟩ = some (.string ⟨#[]⟩) := rh.cell 4
  have r5 : w7.cell? ⟨w4.heap.size + 1 + 1 + 1 + 1 + 1, 5, none⟩ = some (.string ⟨#[]⟩) := rh.cell 5
  have r6 : w7.cell? ⟨w4.heap.size + 1 + 1 + 1 + 1 + 1, 6, none⟩ = some (.int .i64 0) := rh.cell 6
  have r7 : w7.cell? ⟨w4.heap.size + 1 + 1 + 1 + 1 + 1, 7, none⟩ = some (.slice (some ⟨w4.heap.size + 1 + 1 + 1 + 1, 0, none⟩) 3 3) := rh.cell 7
  have r8 : w7.cell? ⟨w4.heap.size + 1 + 1 + 1 + 1 + 1, 8, none⟩ = some (.int .i64 0) := rh.cell 8
  have rlt := rh.lt
  go_wp2_with fail
  clear r0 r1 r2 r3 r4 r5 r6 r7 r8 rh rlt
  have hv3 := At.new w7 3 #[.int .i64 0, .int .i64 1, .int .i64 2]
  have hc3 := hb_w7.alloc (by have := hb_w7.size; omega) (.cells #[.int .i64 0, .int .i64 1, .int .i64 2] 3)
  have HC3 := Lib.hid (est_call (sc := 2) (c := 0) (oc := 3) (A := none) (bd := []) (HE.out.below hc3) (HR3.out.below hc3) (fun h => absurd rfl h) (ints_ofAt (l := [0, 1, 2]) hv3) ⟨of_decide_eq_true (by kernel_rfl), of_decide_eq_true (by kernel_rfl), of_decide_eq_true (by kernel_rfl), of_decide_eq_true (by kernel_rfl), of_decide_eq_true (by kernel_rfl), of_decide_eq_true (by kernel_rfl), of_decide_eq_true (by kernel_rfl), of_decide_eq_true (by kernel_rfl)⟩)
  rw [run3] at HC3
  refine HC3.out.mono ?_
  rintro e w8 ⟨rfl, hd3⟩
  have hb_w8 : Below w5.heap.size w5 w8 := hc3.trans (hd3.mono hc3.size)
  clear hv3 hc3 HC3 hd3
  have rh := HB3.out w8 hb_w8
  have r0 : w8.cell? ⟨w4.heap.size + 1 + 1 + 1 + 1 + 1, 0, none⟩ = some (.string ⟨#[]⟩) := rh.cell 0
  have r1 : w8.cell? ⟨w4.heap.size + 1 + 1 + 1 + 1 + 1, 1, none⟩ = some (.int .i64 0) := rh.cell 1
  have r2 : w8.cell? ⟨w4.heap.size + 1 + 1 + 1 + 1 + 1, 2, none⟩ = some (.slice none 0 0) := rh.cell 2
  have r3 : w8.cell? ⟨w4.heap.size + 1 + 1 + 1 + 1 + 1, 3, none⟩ = some (.int .i64 0) := rh.cell 3
  have r4 : w8.cell? ⟨w4.heap.size + 1 + 1 + 1 + 1 + 1, 4, none⟩ = some (.string ⟨#[]⟩) := rh.cell 4
  have r5 : w8.cell? ⟨w4.heap.size + 1 + 1 + 1 + 1 + 1, 5, none⟩ = some (.string ⟨#[]⟩) := rh.cell 5
  have r6 : w8.cell? ⟨w4.heap.size + 1 + 1 + 1 + 1 + 1, 6, none⟩ = some (.int .i64 0) := rh.cell 6
  have r7 : w8.cell? ⟨w4.heap.size + 1 + 1 + 1 + 1 + 1, 7, none⟩ = some (.slice (some ⟨w4.heap.size + 1 + 1 + 1 + 1, 0, none⟩) 3 3) := rh.cell 7
  have r8 : w8.cell? ⟨w4.heap.size + 1 + 1 + 1 + 1 + 1, 8, none⟩ = some (.int .i64 0) := rh.cell 8
  have rlt := rh.lt
  go_wp2_with fail
  clear r0 r1 r2 r3 r4 r5 r6 r7 r8 rh rlt
  have hv4 := At.new w8 3 #[.int .i64 1, .int .i64 0, .int .i64 2]
  have hc4 := hb_w8.alloc (by have := hb_w8.size; omega) (.cells #[.int .i64 1, .int .i64 0, .int .i64 2] 3)
  have HC4 := Lib.hid (est_call (sc := 2) (c := 0) (oc := 3) (A := none) (bd := []) (HE.out.below hc4) (HR3.out.below hc4) (fun h => absurd rfl h) (ints_ofAt (l := [1, 0, 2]) hv4) ⟨of_decide_eq_true (by kernel_rfl), of_decide_eq_true (by kernel_rfl), of_decide_eq_true (by kernel_rfl), of_decide_eq_true (by kernel_rfl), of_decide_eq_true (by kernel_rfl), of_decide_eq_true (by kernel_rfl), of_decide_eq_true (by kernel_rfl), of_decide_eq_true (by kernel_rfl)⟩)
  rw [run4] at HC4
  refine HC4.out.mono ?_
  rintro e w9 ⟨rfl, hd4⟩
  have hb_w9 : Below w5.heap.size w5 w9 := hc4.trans (hd4.mono hc4.size)
  clear hv4 hc4 HC4 hd4
  go_wp2_with fail
  have hnx := At.new w9 9 #[.string ⟨#[88]⟩, .string ⟨#[88]⟩]
  have hn9 := hb_w9.alloc hb_w9.size (.cells #[.string ⟨#[88]⟩, .string ⟨#[88]⟩] 9)
  refine (atom_any 0 _ 2 [nX, nX] _ (NmAt.ofAt hnx) (by decide)).mono ?_
  rintro e w10 ⟨⟨za, zc, rfl, hz1, hz2, hz3⟩, hb10⟩
  have hb_w10 : Below w5.heap.size w5 w10 := hn9.trans (hb10.mono hn9.size)
  have HZ := Lib.hid (show 2 ≤ zc ∧ zc ≤ maxLen from ⟨hz2, hz3⟩)
  have HZ1 := Lib.hid hz1
  clear hnx hn9 hz1 hz2 hz3 hb10
  go_wp2_with fail
  have e0 := (At.new w10 60 #[.int .i64 1, .string ⟨#[112]⟩, .int .i64 0, .slice za 2 zc, .string ⟨#[]⟩, .string ⟨#[]⟩, .int .i64 (-1), .int .i64 0, .int .i64 0]).alloc (.cells #[.int .i64 0] 3)
  have e1 : At ((w10.alloc (.cells #[.int .i64 1, .string ⟨#[112]⟩, .int .i64 0, .slice za 2 zc, .string ⟨#[]⟩, .string ⟨#[]⟩, .int .i64 (-1), .int .i64 0, .int .i64 0] 60)).alloc (.cells #[.int .i64 0] 3)) (w10.heap.size + 1) 3 #[.int .i64 0] := At.newAt (by simp) _ _
  have hbz := (below1 w10 (.cells #[.int .i64 1, .string ⟨#[112]⟩, .int .i64 0, .slice za 2 zc, .string ⟨#[]⟩, .string ⟨#[]⟩, .int .i64 (-1), .int .i64 0, .int .i64 0] 60)).alloc (by simp) (.cells #[.int .i64 0] 3)
  have hc5 := hb_w10.trans (hbz.mono hb_w10.size)
  have hlz : LtOk _ (ltA 0 za zc [nX, nX]) := ⟨HZ1.out.below hbz, HZ.out, lt_i64 (of_decide_eq_true (by kernel_rfl)) (of_decide_eq_true (by kernel_rfl)) (of_decide_eq_true (by kernel_rfl))⟩
  have hrz : RlOk _ (rlB (some ⟨w10.heap.size, 0, none⟩) 1 [ltA 0 za zc [nX, nX]]) := ⟨Str.ofAt e0 (by intro f hf; simp [rlB] at hf; rcases hf with rfl; rfl), by unfold maxLen rlB; simp, fun l hl => by
    simp [rlB] at hl
    rcases hl with rfl
    exact hlz⟩
  have HC5 := Lib.hid (est_call (sc := 2) (c := 0) (oc := 1) (A := none) (bd := []) (HE.out.below hc5) hrz (fun h => absurd rfl h) (ints_ofAt (l := [0]) e1) ⟨of_decide_eq_true (by kernel_rfl), of_decide_eq_true (by kernel_rfl), of_decide_eq_true (by kernel_rfl), of_decide_eq_true (by kernel_rfl), of_decide_eq_true (by kernel_rfl), of_decide_eq_true (by kernel_rfl), of_decide_eq_true (by kernel_rfl), of_decide_eq_true (by kernel_rfl)⟩)
  rw [run5] at HC5
  refine HC5.out.mono ?_
  rintro e w11 ⟨rfl, hd5⟩
  have hb_w11 : Below w5.heap.size w5 w11 := hc5.trans (hd5.mono hc5.size)
  clear e0 e1 hbz hc5 hlz hrz HC5 hd5 HZ HZ1
  have rh := HB2.out w11 hb_w11
  have r0 : w11.cell? ⟨w4.heap.size + 1 + 1 + 1, 0, none⟩ = some (.string ⟨#[]⟩) := rh.cell 0
  have r1 : w11.cell? ⟨w4.heap.size + 1 + 1 + 1, 1, none⟩ = some (.int .i64 0) := rh.cell 1
  have r2 : w11.cell? ⟨w4.heap.size + 1 + 1 + 1, 2, none⟩ = some (.slice none 0 0) := rh.cell 2
  have r3 : w11.cell? ⟨w4.heap.size + 1 + 1 + 1, 3, none⟩ = some (.int .i64 0) := rh.cell 3
  have r4 : w11.cell? ⟨w4.heap.size + 1 + 1 + 1, 4, none⟩ = some (.string ⟨#[]⟩) := rh.cell 4
  have r5 : w11.cell? ⟨w4.heap.size + 1 + 1 + 1, 5, none⟩ = some (.string ⟨#[]⟩) := rh.cell 5
  have r6 : w11.cell? ⟨w4.heap.size + 1 + 1 + 1, 6, none⟩ = some (.int .i64 0) := rh.cell 6
  have r7 : w11.cell? ⟨w4.heap.size + 1 + 1 + 1, 7, none⟩ = some (.slice (some ⟨w4.heap.size + 1 + 1, 0, none⟩) 2 2) := rh.cell 7
  have r8 : w11.cell? ⟨w4.heap.size + 1 + 1 + 1, 8, none⟩ = some (.int .i64 0) := rh.cell 8
  have rlt := rh.lt
  go_wp2_with fail
  clear r0 r1 r2 r3 r4 r5 r6 r7 r8 rh rlt
  have e0 := (At.new w11 9 #[.string ⟨#[88]⟩]).alloc (.cells #[.int .i64 0, .int .i64 1] 3)
  have e1 : At ((w11.alloc (.cells #[.string ⟨#[88]⟩] 9)).alloc (.cells #[.int .i64 0, .int .i64 1] 3)) (w11.heap.size + 1) 3 #[.int .i64 0, .int .i64 1] := At.newAt (by simp) _ _
  have hbz := (below1 w11 (.cells #[.string ⟨#[88]⟩] 9)).alloc (by simp) (.cells #[.int .i64 0, .int .i64 1] 3)
  have hc6 := hb_w11.trans (hbz.mono hb_w11.size)
  have HC6 := Lib.hid (est_call (sc := 2) (c := 1) (oc := 2) (bd := [nX]) (HE.out.below hc6) (HR2.out.below hc6) (NmAt.ofAt e0) (ints_ofAt (l := [0, 1]) e1) ⟨of_decide_eq_true (by kernel_rfl), of_decide_eq_true (by kernel_rfl), of_decide_eq_true (by kernel_rfl), of_decide_eq_true (by kernel_rfl), of_decide_eq_true (by kernel_rfl), of_decide_eq_true (by kernel_rfl), of_decide_eq_true (by kernel_rfl), of_decide_eq_true (by kernel_rfl)⟩)
  rw [run6] at HC6
  refine HC6.out.mono ?_
  rintro e w12 ⟨rfl, hd6⟩
  have hb_w12 : Below w5.heap.size w5 w12 := hc6.trans (hd6.mono hc6.size)
  clear e0 e1 hbz hc6 HC6 hd6 HR2 HR3 HB2 HB3 HE
  have HW := Lib.hid (hbw5.trans (hb_w12.mono hbw5.size))
  clear hb_w5 hb_w6 hb_w7 hb_w8 hb_w9 hb_w10 hb_w11 hb_w12 hbw5 HX HY hlt4 HS5 HW5
  go_wp2_with fail
  have p0 : At (((w12.alloc (.cells #[.int .i64 2, .int .i64 1] 3)).alloc (.cells #[.string ⟨#[112]⟩, .slice (some ⟨w12.heap.size, 0, none⟩) 2 2, .string ⟨#[]⟩, .int .i64 (-1), .bool false, .int .i64 0, .int .i64 0] 51)).alloc (.cells #[.slice none 0 0, .slice none 0 0, .slice (some ⟨w12.heap.size + 1, 0, none⟩) 1 1, .slice none 0 0] 27)) (w12.heap.size + 1) 51 #[.string ⟨#[112]⟩, .slice (some ⟨w12.heap.size, 0, none⟩) 2 2, .string ⟨#[]⟩, .int .i64 (-1), .bool false, .int .i64 0, .int .i64 0] := (At.newAt (by simp) _ _).alloc _
  have p1 : At (((w12.alloc (.cells #[.int .i64 2, .int .i64 1] 3)).alloc (.cells #[.string ⟨#[112]⟩, .slice (some ⟨w12.heap.size, 0, none⟩) 2 2, .string ⟨#[]⟩, .int .i64 (-1), .bool false, .int .i64 0, .int .i64 0] 51)).alloc (.cells #[.slice none 0 0, .slice none 0 0, .slice (some ⟨w12.heap.size + 1, 0, none⟩) 1 1, .slice none 0 0] 27)) (w12.heap.size + 1 + 1) 27 #[.slice none 0 0, .slice none 0 0, .slice (some ⟨w12.heap.size + 1, 0, none⟩) 1 1, .slice none 0 0] := At.newAt (by simp) _ _
  have hba : Below w12.heap.size w12 (((w12.alloc (.cells #[.int .i64 2, .int .i64 1] 3)).alloc (.cells #[.string ⟨#[112]⟩, .slice (some ⟨w12.heap.size, 0, none⟩) 2 2, .string ⟨#[]⟩, .int .i64 (-1), .bool false, .int .i64 0, .int .i64 0] 51)).alloc (.cells #[.slice none 0 0, .slice none 0 0, .slice (some ⟨w12.heap.size + 1, 0, none⟩) 1 1, .slice none 0 0] 27)) := ((below1 _ _).alloc (by simp) _).alloc (by simp; omega) _
  refine (sym02_any ⟨#[97]⟩ _).mono ?_
  rintro e w13 ⟨rfl, hb13⟩
  have p0 := p0.next hb13
  have p1 := p1.next hb13
  have hb_13 := hba.trans (hb13.mono hba.size)
  clear hba hb13
  go_wp2_with fail
  refine (int02_any 1 _).mono ?_
  rintro e w14 ⟨rfl, hb14⟩
  have p0 := p0.next hb14
  have p1 := p1.next hb14
  have hb_14 := hb_13.trans (hb14.mono hb_13.size)
  clear hb_13 hb14
  go_wp2_with fail
  have v14 := At.new w14 62 #[.int .i64 2, .int .i64 0, .string ⟨#[97]⟩, .int .i64 1, .int .i64 1, .string ⟨#[]⟩]
  have hbv := below1 w14 (.cells #[.int .i64 2, .int .i64 0, .string ⟨#[97]⟩, .int .i64 1, .int .i64 1, .string ⟨#[]⟩] 62)
  have p0 := p0.next hbv
  have p1 := p1.next hbv
  refine (sym02_any ⟨#[97]⟩ _).mono ?_
  rintro e w15 ⟨rfl, hbs⟩
  have p0 := p0.next hbs
  have p1 := p1.next hbs
  have v14 := v14.next hbs
  have hb_15 := hb_14.trans ((hbv.trans (hbs.mono hbv.size)).mono hb_14.size)
  clear hbv hbs hb_14
  go_wp2_with fail
  refine (int02_any 2 _).mono ?_
  rintro e w16 ⟨rfl, hbs⟩
  have p0 := p0.next hbs
  have p1 := p1.next hbs
  have v14 := v14.next hbs
  have hb_16 := hb_15.trans (hbs.mono hb_15.size)
  clear hbs hb_15
  go_wp2_with fail
  have v16 := At.new w16 62 #[.int .i64 2, .int .i64 0, .string ⟨#[97]⟩, .int .i64 1, .int .i64 2, .string ⟨#[]⟩]
  have hbv := below1 w16 (.cells #[.int .i64 2, .int .i64 0, .string ⟨#[97]⟩, .int .i64 1, .int .i64 2, .string ⟨#[]⟩] 62)
  have p0 := p0.next hbv
  have p1 := p1.next hbv
  have v14 := v14.next hbv
  refine (sym02_any ⟨#[98]⟩ _).mono ?_
  rintro e w17 ⟨rfl, hbs⟩
  have p0 := p0.next hbs
  have p1 := p1.next hbs
  have v14 := v14.next hbs
  have v16 := v16.next hbs
  have hb_17 := hb_16.trans ((hbv.trans (hbs.mono hbv.size)).mono hb_16.size)
  clear hbv hbs hb_16
  go_wp2_with fail
  refine (int02_any 2 _).mono ?_
  rintro e w18 ⟨rfl, hbs⟩
  have p0 := p0.next hbs
  have p1 := p1.next hbs
  have v14 := v14.next hbs
  have v16 := v16.next hbs
  have hb_18 := hb_17.trans (hbs.mono hb_17.size)
  clear hbs hb_17
  have v18 : At ((((w18.alloc (.cells #[.int .i64 2, .int .i64 0, .string ⟨#[98]⟩, .int .i64 1, .int .i64 2, .string ⟨#[]⟩] 62)).alloc (.cells #[.slice (some ⟨w14.heap.size, 0, none⟩) 2 2, .slice none 0 0, .slice (some ⟨w16.heap.size, 0, none⟩) 2 2, .slice none 0 0, .slice (some ⟨w18.heap.size, 0, none⟩) 2 2, .slice none 0 0] 76)).alloc (.cells #[.slice (some ⟨w18.heap.size + 1, 0, none⟩) 3 3] 69)).alloc (.cells #[.slice (some ⟨w18.heap.size + 1 + 1, 0, none⟩) 1 1, .slice none 0 0] 31)) w18.heap.size 62 #[.int .i64 2, .int .i64 0, .string ⟨#[98]⟩, .int .i64 1, .int .i64 2, .string ⟨#[]⟩] := (((At.new w18 _ _).alloc _).alloc _).alloc _
  have rw0 : At ((((w18.alloc (.cells #[.int .i64 2, .int .i64 0, .string ⟨#[98]⟩, .int .i64 1, .int .i64 2, .string ⟨#[]⟩] 62)).alloc (.cells #[.slice (some ⟨w14.heap.size, 0, none⟩) 2 2, .slice none 0 0, .slice (some ⟨w16.heap.size, 0, none⟩) 2 2, .slice none 0 0, .slice (some ⟨w18.heap.size, 0, none⟩) 2 2, .slice none 0 0] 76)).alloc (.cells #[.slice (some ⟨w18.heap.size + 1, 0, none⟩) 3 3] 69)).alloc (.cells #[.slice (some ⟨w18.heap.size + 1 + 1, 0, none⟩) 1 1, .slice none 0 0] 31)) (w18.heap.size + 1) 76 #[.slice (some ⟨w14.heap.size, 0, none⟩) 2 2, .slice none 0 0, .slice (some ⟨w16.heap.size, 0, none⟩) 2 2, .slice none 0 0, .slice (some ⟨w18.heap.size, 0, none⟩) 2 2, .slice none 0 0] := ((At.newAt (by simp) _ _).alloc _).alloc _
  have rr0 : At ((((w18.alloc (.cells #[.int .i64 2, .int .i64 0, .string ⟨#[98]⟩, .int .i64 1, .int .i64 2, .string ⟨#[]⟩] 62)).alloc (.cells #[.slice (some ⟨w14.heap.size, 0, none⟩) 2 2, .slice none 0 0, .slice (some ⟨w16.heap.size, 0, none⟩) 2 2, .slice none 0 0, .slice (some ⟨w18.heap.size, 0, none⟩) 2 2, .slice none 0 0] 76)).alloc (.cells #[.slice (some ⟨w18.heap.size + 1, 0, none⟩) 3 3] 69)).alloc (.cells #[.slice (some ⟨w18.heap.size + 1 + 1, 0, none⟩) 1 1, .slice none 0 0] 31)) (w18.heap.size + 1 + 1) 69 #[.slice (some ⟨w18.heap.size + 1, 0, none⟩) 3 3] := (At.newAt (by simp) _ _).alloc _
  have db0 : At ((((w18.alloc (.cells #[.int .i64 2, .int .i64 0, .string ⟨#[98]⟩, .int .i64 1, .int .i64 2, .string ⟨#[]⟩] 62)).alloc (.cells #[.slice (some ⟨w14.heap.size, 0, none⟩) 2 2, .slice none 0 0, .slice (some ⟨w16.heap.size, 0, none⟩) 2 2, .slice none 0 0, .slice (some ⟨w18.heap.size, 0, none⟩) 2 2, .slice none 0 0] 76)).alloc (.cells #[.slice (some ⟨w18.heap.size + 1, 0, none⟩) 3 3] 69)).alloc (.cells #[.slice (some ⟨w18.heap.size + 1 + 1, 0, none⟩) 1 1, .slice none 0 0] 31)) (w18.heap.size + 1 + 1 + 1) 31 #[.slice (some ⟨w18.heap.size + 1 + 1, 0, none⟩) 1 1, .slice none 0 0] := At.newAt (by simp) _ _
  have hb9 : Below w18.heap.size w18 ((((w18.alloc (.cells #[.int .i64 2, .int .i64 0, .string ⟨#[98]⟩, .int .i64 1, .int .i64 2, .string ⟨#[]⟩] 62)).alloc (.cells #[.slice (some ⟨w14.heap.size, 0, none⟩) 2 2, .slice none 0 0, .slice (some ⟨w16.heap.size, 0, none⟩) 2 2, .slice none 0 0, .slice (some ⟨w18.heap.size, 0, none⟩) 2 2, .slice none 0 0] 76)).alloc (.cells #[.slice (some ⟨w18.heap.size + 1, 0, none⟩) 3 3] 69)).alloc (.cells #[.slice (some ⟨w18.heap.size + 1 + 1, 0, none⟩) 1 1, .slice none 0 0] 31)) := (((below1 _ _).alloc (by simp) _).alloc (by simp; omega) _).alloc (by simp; omega) _
  obtain ⟨w19, hw19⟩ : ∃ w19, w19 = ((((w18.alloc (.cells #[.int .i64 2, .int .i64 0, .string ⟨#[98]⟩, .int .i64 1, .int .i64 2, .string ⟨#[]⟩] 62)).alloc (.cells #[.slice (some ⟨w14.heap.size, 0, none⟩) 2 2, .slice none 0 0, .slice (some ⟨w16.heap.size, 0, none⟩) 2 2, .slice none 0 0, .slice (some ⟨w18.heap.size, 0, none⟩) 2 2, .slice none 0 0] 76)).alloc (.cells #[.slice (some ⟨w18.heap.size + 1, 0, none⟩) 3 3] 69)).alloc (.cells #[.slice (some ⟨w18.heap.size + 1 + 1, 0, none⟩) 1 1, .slice none 0 0] 31)) := ⟨_, rfl⟩
  rw [← hw19] at v18 rw0 rr0 db0 hb9
  have HW19 := Lib.hid hw19
  clear hw19
  have c0 : w18.cell? ⟨w12.heap.size + 1 + 1, 0, none⟩ = some (.slice none 0 0) := p1.cell 0
  have c1 : w18.cell? ⟨w12.heap.size + 1 + 1, 1, none⟩ = some (.slice none 0 0) := p1.cell 1
  have c2 : w18.cell? ⟨w12.heap.size + 1 + 1, 2, none⟩ = some (.slice (some ⟨w12.heap.size + 1, 0, none⟩) 1 1) := p1.cell 2
  have c3 : w18.cell? ⟨w12.heap.size + 1 + 1, 3, none⟩ = some (.slice none 0 0) := p1.cell 3
  have l0 := p1.lt
  have l1 : w12.heap.size + 1 + 1 < w18.heap.size + 1 := by omega
  have l2 : w12.heap.size + 1 + 1 < w18.heap.size + 1 + 1 := by omega
  have l3 : w12.heap.size + 1 + 1 < w18.heap.size + 1 + 1 + 1 := by omega
  have p0 := p0.next hb9
  have p1 := p1.next hb9
  have v14 := v14.next hb9
  have v16 := v16.next hb9
  have hb_19 := HW.out.trans ((hb_18.trans (hb9.mono hb_18.size)).mono HW.out.size)
  have hpm : PmOk w19 (pmH (some ⟨w12.heap.size + 1, 0, none⟩) (some ⟨w12.heap.size, 0, none⟩)) := ⟨Str.ofAt p0 (of_decide_eq_true (by kernel_rfl)), fun x hx => by
    obtain rfl : x = _ := List.mem_singleton.1 hx
    exact (show I64 (-1) by unfold I64; omega)⟩
  have hrw : ∀ (a : Option Addr) (x y : Qu.Vl3) (gg : Nat), a = some ⟨gg, 0, none⟩ → At w19 gg 62 (x.fs ++ y.fs).toArray → (I64 x.t ∧ I64 x.n ∧ x.s.size ≤ 1000000000000) → (I64 y.t ∧ I64 y.n ∧ y.s.size ≤ 1000000000000) → RwOk w19 (rwH a x y) := fun a x y gg ha hat h1 h2 => by
    subst ha
    refine ⟨Str.ofAt (xs := [x.fs, y.fs]) (by simpa using hat) (by intro f hf; simp at hf; rcases hf with rfl | rfl <;> rfl), fun v hv => ?_⟩
    simp [rwH] at hv
    rcases hv with rfl | rfl
    · exact h1
    · exact h2
  have hda : DaOk w19 (daH (some ⟨w18.heap.size + 1 + 1, 0, none⟩) (some ⟨w18.heap.size + 1, 0, none⟩) (some ⟨w14.heap.size, 0, none⟩) (some ⟨w16.heap.size, 0, none⟩) (some ⟨w18.heap.size, 0, none⟩)) := by
    refine ⟨Str.ofAt rr0 (of_decide_eq_true (by kernel_rfl)), fun h => absurd rfl h, fun x hx => ?_, fun x hx => by cases hx⟩
    obtain rfl : x = _ := List.mem_singleton.1 hx
    refine ⟨Str.ofAt rw0 (of_decide_eq_true (by kernel_rfl)), fun y hy => ?_⟩
    simp at hy
    rcases hy with rfl | rfl | rfl
    · exact hrw _ vA v1 _ rfl v14 (by unfold I64 vA; decide) (by unfold I64 v1; decide)
    · exact hrw _ vA v2 _ rfl v16 (by unfold I64 vA; decide) (by unfold I64 v2; decide)
    · exact hrw _ vB v2 _ rfl v18 (by unfold I64 vB; decide) (by unfold I64 v2; decide)
  have hlit : Lit (daH (some ⟨w18.heap.size + 1 + 1, 0, none⟩) (some ⟨w18.heap.size + 1, 0, none⟩) (some ⟨w14.heap.size, 0, none⟩) (some ⟨w16.heap.size, 0, none⟩) (some ⟨w18.heap.size, 0, none⟩)) := ⟨of_decide_eq_true (by kernel_rfl), of_decide_eq_true (by kernel_rfl), of_decide_eq_true (by kernel_rfl), of_decide_eq_true (by kernel_rfl)⟩
  have HS0 := Lib.hid (fun W (h : Below w19.heap.size w19 W) => stats_any _ _ 0 W (hpm.below h) (hda.below h) hlit (of_decide_eq_true (by kernel_rfl)) (hT.next (hb_19.trans (h.mono hb_19.size))) (of_decide_eq_true (by kernel_rfl)))
  have HS1 := Lib.hid (fun W (h : Below w19.heap.size w19 W) => stats_any _ _ 1 W (hpm.below h) (hda.below h) hlit (of_decide_eq_true (by kernel_rfl)) (hT.next (hb_19.trans (h.mono hb_19.size))) (of_decide_eq_true (by kernel_rfl)))
  simp only [run7] at HS0
  simp only [run8] at HS1
  have HP1 := Lib.hid (fun W (h : Below w19.heap.size w19 W) => p1.next h)
  have HD1 := Lib.hid (fun W (h : Below w19.heap.size w19 W) => db0.next h)
  have HB19 := Lib.hid hb_19
  clear hpm hrw hda hlit p0 p1 db0 rr0 rw0 v18 v14 v16 hb9 hb_18 hb_19
  go_wp2_with fail
  rw [← HW19.out]
  clear c0 c1 c2 c3 l0 l1 l2 l3
  refine (HS0.out w19 (Below.refl _ _)).mono ?_
  rintro e w20 ⟨⟨⟨sr, sa, sc, sd⟩, rfl, hso, hsr, hsd, _⟩, hb20⟩
  dsimp only at hsr hsd
  subst hsr; subst hsd
  have hx0 := At.new w20 3 #[.int .i64 2, .int .i64 2]
  have hbx := below1 w20 (.cells #[.int .i64 2, .int .i64 2] 3)
  have hst : StaOk (w20.alloc (.cells #[.int .i64 2, .int .i64 2] 3)) ⟨3, some ⟨w20.heap.size, 0, none⟩, 2, [2, 2]⟩ := ⟨ints_ofAt (l := [2, 2]) hx0, of_decide_eq_true (by kernel_rfl), st_i64 (of_decide_eq_true (by kernel_rfl)) (of_decide_eq_true (by kernel_rfl))⟩
  have HSA := Lib.hid (same_true (same_any ⟨3, sa, sc, [2, 2]⟩ ⟨3, some ⟨w20.heap.size, 0, none⟩, 2, [2, 2]⟩ _ (hso.below hbx) hst (of_decide_eq_true (by kernel_rfl))) (by kernel_rfl))
  have HBX := Lib.hid (hb20.trans (hbx.mono hb20.size))
  clear hx0 hbx hst hso hb20
  go_wp2_with fail
  refine HSA.out.mono ?_
  rintro e w21 ⟨rfl, hb21⟩
  have hb2 := HBX.out.trans (hb21.mono HBX.out.size)
  have hq := HP1.out w21 hb2
  have hqd := HD1.out w21 hb2
  have c0 : w21.cell? ⟨w12.heap.size + 1 + 1, 0, none⟩ = some (.slice none 0 0) := hq.cell 0
  have c1 : w21.cell? ⟨w12.heap.size + 1 + 1, 1, none⟩ = some (.slice none 0 0) := hq.cell 1
  have c2 : w21.cell? ⟨w12.heap.size + 1 + 1, 2, none⟩ = some (.slice (some ⟨w12.heap.size + 1, 0, none⟩) 1 1) := hq.cell 2
  have c3 : w21.cell? ⟨w12.heap.size + 1 + 1, 3, none⟩ = some (.slice none 0 0) := hq.cell 3
  have e0 : w21.cell? ⟨w18.heap.size + 1 + 1 + 1, 0, none⟩ = some (.slice (some ⟨w18.heap.size + 1 + 1, 0, none⟩) 1 1) := hqd.cell 0
  have e1 : w21.cell? ⟨w18.heap.size + 1 + 1 + 1, 1, none⟩ = some (.slice none 0 0) := hqd.cell 1
  have HB21 := Lib.hid hb2
  clear hq hqd hb2 hb21 HSA HBX
  go_wp2_with fail
  clear c0 c1 c2 c3 e0 e1
  refine (HS1.out w21 HB21.out).mono ?_
  rintro e w22 ⟨⟨⟨sr, sa2, sc2, sd⟩, rfl, hso, hsr, hsd, _⟩, hb22⟩
  dsimp only at hsr hsd
  subst hsr; subst hsd
  have HSB := Lib.hid (same_true (same_any ⟨0, sa2, sc2, []⟩ ⟨0, none, 0, []⟩ w22 hso (staOk_nil _) (of_decide_eq_true (by kernel_rfl))) (by kernel_rfl))
  have HB22 := Lib.hid (HB19.out.trans ((HB21.out.trans (hb22.mono HB21.out.size)).mono HB19.out.size))
  clear hso hb22
  go_wp2_with fail
  refine HSB.out.mono ?_
  rintro e w23 ⟨rfl, hb23⟩
  go_wp2_with fail
  go_ret
  exact ⟨rfl, HB22.out.trans (hb23.mono HB22.out.size)⟩
end Go.Proofs.YtoficnfpoeaccaaDoor
