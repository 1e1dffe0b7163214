/- The walk of the law's head: the examples. -/
import Derived.Test.YtphmicbpkljmfaaGreatSCrit
import Derived.Test.YtphmicbpkljmfaaGreatCEval2
namespace Go.Proofs.YtphmicbpkljmfaaGreat
set_option linter.unusedVariables false
set_option linter.unusedSimpArgs false
open Go.RowKit
open Cx (N fam Few)
def Hx : List N := [⟨0, 0, 0⟩, ⟨1, 0, 0⟩, ⟨2, 0, 0⟩, ⟨2, 1, 0⟩, ⟨2, 2, 0⟩, ⟨3, 2, 3⟩, ⟨4, 4, 5⟩]
theorem hx_valid : Cx.valid Hx = true := by decide
theorem hx_good : Cx.Good Hx := Cx.valid_good hx_valid
theorem hx_ng : ∀ n ∈ Hx, NGood n := by
  intro n hn
  simp only [Hx, List.mem_cons, List.not_mem_nil, or_false] at hn
  rcases hn with rfl | rfl | rfl | rfl | rfl | rfl | rfl <;> (unfold NGood I64; decide)
theorem hx_5 : fam Hx 5 = [[0], [1]] := by
  refine (Cx.fam_eq hx_good (by decide) ⟨⟨?_, ?_, ?_⟩, ?_⟩).symm
  · intro s hs; simp at hs; rcases hs with rfl | rfl <;> simp
  · decide
  · intro s hs t ht h
    simp at hs ht
    rcases hs with rfl | rfl <;> rcases ht with rfl | rfl <;> simp at h ⊢
  · intro ts
    unfold Cx.valF Fm.Up
    simp [Cx.values, Cx.valStep, Hx, List.getD]
theorem hx_6 : fam Hx 6 = [[0, 2], [1, 2]] := by
  refine (Cx.fam_eq hx_good (by decide) ⟨⟨?_, ?_, ?_⟩, ?_⟩).symm
  · intro s hs; simp at hs; rcases hs with rfl | rfl <;> simp
  · decide
  · intro s hs t ht h
    simp at hs ht
    rcases hs with rfl | rfl <;> rcases ht with rfl | rfl <;> simp at h ⊢
  · intro ts
    unfold Cx.valF Fm.Up
    simp [Cx.values, Cx.valStep, Hx, List.getD]
    by_cases h0 : (0 : Int) ∈ ts <;> by_cases h1 : (1 : Int) ∈ ts <;> by_cases h2 : (2 : Int) ∈ ts <;> simp [h0, h1, h2]
theorem hx_few : Few Hx 6 := by
  refine (Cx.few_two (l := Hx) (i := 6) (a := 4) (b := 5) rfl (Or.inr rfl) rfl rfl).2 ⟨by rw [hx_6]; decide, Cx.few_leaf hx_good (i := 4) rfl (by decide), ?_⟩
  exact (Cx.few_two (l := Hx) (i := 5) (a := 2) (b := 3) rfl (Or.inl rfl) rfl rfl).2 ⟨by rw [hx_5]; decide, Cx.few_leaf hx_good (i := 2) rfl (by decide), Cx.few_leaf hx_good (i := 3) rfl (by decide)⟩
theorem hx_w6 : wcode Hx 6 = 0 := by
  unfold wcode
  rw [if_pos (by decide)]
  exact if_pos hx_few
theorem hx_l6 : wlist Hx 6 = [[0, 2], [1, 2]] := by unfold wlist; rw [hx_w6, if_pos rfl]; exact hx_6
theorem hx_w0 : wcode Hx 0 = 0 := by
  unfold wcode
  rw [if_pos (by decide)]
  exact if_pos (Cx.few_leaf hx_good (i := 0) rfl (by decide))
theorem hx_l0 : wlist Hx 0 = [] := by unfold wlist; rw [hx_w0, if_pos rfl]; exact Cx.fam_zero hx_good
theorem hx_w7 : wcode Hx 7 = 1 := by
  unfold wcode
  rw [if_neg (by decide)]
theorem hx_c6 : ccode Hx 6 [5, 3, 1] = 0 := by
  unfold ccode
  rw [if_neg (by decide), if_neg (by rw [hx_w6]; decide), hx_l6, if_neg (by decide)]
theorem hx_s6 : cset Hx 6 [5, 3, 1] = [1, 2] := by unfold cset; rw [if_pos hx_c6, hx_l6]; decide
theorem hx_v6 : cweight Hx 6 [5, 3, 1] = 4 := by unfold cweight; rw [if_pos hx_c6, hx_l6]; decide
theorem hx_c0 : ccode Hx 0 [] = 4 := by
  unfold ccode
  rw [if_neg (by decide), if_neg (by rw [hx_w0]; decide), hx_l0, if_pos (by decide)]
theorem hx_k6 : critP Hx 6 = [2] := by decide
theorem hx_k5 : critP Hx 5 = [] := by decide
theorem hx_t1 : trustP Hx 6 [0] = true := by decide
theorem hx_t2 : trustP Hx 6 [0, 1] = false := by decide
theorem hx_t3 : trustP Hx 6 [2] = false := by decide
theorem hx_t4 : trustP Hx 1 [] = true := by decide
theorem hx_t5 : trustP Hx 0 [] = false := by decide
theorem hx_e : Cx.eval Hx 6 [1, 2] = true := by decide
theorem nums_at {w : World} {g : Nat} {t : TypeId} {xs : List Int} (h : At w g t (icells xs).toArray) : Nums w (some ⟨g, 0, none⟩) xs := fun _ => ⟨g, 0, rfl, h.lt, fun k x hk => by
  rw [Nat.zero_add, h.cell]
  simp [icells, hk]⟩
theorem example_any (w : World) : Calls Tryz.prog 23 #[] w fun e w' => e = .returned (.slice (some ⟨w.heap.size, 0, none⟩) 7 7) ∧ w.alloc (.cells (ncells Hx).toArray 58) = w' := by
  go_enter Tryz.func23, Tryz.ntmps23
  go_wp2
  go_ret
  exact ⟨rfl, rfl⟩
theorem below_a1 {w w2 : World} {o : Obj} (h : Below (w.alloc o).heap.size (w.alloc o) w2) : Below w.heap.size w w2 := (below1 w o).trans (h.mono (by simp))
theorem sets_two {w : World} {g a b : Nat} {t : TypeId} {xs ys : List Int} (h : At w g t #[.slice (some ⟨a, 0, none⟩) xs.length xs.length, .slice (some ⟨b, 0, none⟩) ys.length ys.length]) (hx : Nums w (some ⟨a, 0, none⟩) xs) (hy : Nums w (some ⟨b, 0, none⟩) ys) (h1 : xs.length ≤ maxLen := by decide) (h2 : ys.length ≤ maxLen := by decide) : Sets w (some ⟨g, 0, none⟩) [xs, ys] := fun _ => by
  refine ⟨g, 0, [.slice (some ⟨a, 0, none⟩) xs.length xs.length, .slice (some ⟨b, 0, none⟩) ys.length ys.length], rfl, h.lt, (hdrs_one ?_).snoc ?_, fun k v hk => ?_⟩
  · exact ⟨_, _, rfl, Nat.le_refl _, h1, (fun h => by cases h), hx⟩
  · exact ⟨_, _, rfl, Nat.le_refl _, h2, (fun h => by cases h), hy⟩
  · rw [Nat.zero_add, h.cell, ← hk]; simp
set_option maxHeartbeats 4000000 in
set_option maxRecDepth 100000 in
theorem head_any (w : World) : Calls Tryz.prog 5 #[] w fun e w' => e = .returned (.bool true) ∧ Below w.heap.size w w' := by
  have hl : Hx.length ≤ 20000 := by decide
  have b1 := below1 w (.cells (ncells Hx).toArray 58)
  have hA0 : Cir (w.alloc (.cells (ncells Hx).toArray 58)) (some ⟨w.heap.size, 0, none⟩) 7 Hx :=
    cir_new (l := Hx) (At.new _ _ _) (by decide)
  have HA := Lib.hid hA0
  have HB := Lib.hid b1
  clear hA0 b1
  go_enter Tryz.func5, Tryz.ntmps5
  go_wp2_with fail
  refine (example_any w).mono ?_
  rintro e w1 ⟨rfl, hw1⟩
  have hA := HA.out
  have bw := HB.out
  rw [hw1] at hA bw
  clear HA HB hw1
  go_wp2_with fail
  refine (cWitnesses_any (some ⟨w.heap.size, 0, none⟩) 7 Hx 6 w1 hl hx_ng hA).mono ?_
  rintro e w2 ⟨v1, rfl, s1, b2⟩
  rw [hx_l6] at s1
  rw [hx_w6]
  obtain ⟨⟨V1, k1, rfl, p1, p2, _, p4⟩, _, _⟩ := s1
  replace hA := hA.below b2
  replace bw := bw.trans (b2.mono bw.size)
  clear b2 p1 p2
  go_wp2_with fail
  refine (valid_any (some ⟨w.heap.size, 0, none⟩) 7 Hx _ hl hx_ng hA).mono ?_
  rintro e w3 ⟨rfl, b3⟩
  rw [hx_valid]
  replace hA := hA.below b3
  replace bw := bw.trans (b3.mono bw.size)
  replace p4 := p4.below b3
  clear b3
  go_wp2_with fail
  refine (same29_any V1 k1 [[0, 2], [1, 2]] (some ⟨w3.heap.size + 1 + 1, 0, none⟩) 2 [[0, 2], [1, 2]] _ (by decide) (by decide) (((p4.below (below1 _ _)).below (below1 _ _)).below (below1 _ _)) (sets_two (At.newAt (by simp) _ _) (nums_at (xs := [0, 2]) (((At.new _ _ _).alloc _).alloc _)) (nums_at (xs := [1, 2]) ((At.newAt (by simp) _ _).alloc _)))).mono ?_
  rintro e w4 ⟨rfl, b4⟩
  replace b4 := (below_a1 (below_a1 (below_a1 b4)))
  rw [show decide ([[(0 : Int), 2], [1, 2]] = [[0, 2], [1, 2]]) = true by decide]
  replace hA := hA.below b4
  replace bw := bw.trans (b4.mono bw.size)
  clear b4
  go_wp2_with fail
  refine (eval_any (some ⟨w.heap.size, 0, none⟩) 7 Hx 6 (some ⟨w4.heap.size, 0, none⟩) 2 [1, 2] _ hx_good hx_ng hl (by decide) (by unfold I64; decide) (hA.below (below1 _ _)) (nums_at (xs := [1, 2]) (At.new _ _ _))).mono ?_
  rintro e w5 ⟨rfl, b5⟩
  replace b5 := (below_a1 b5)
  rw [hx_e]
  replace hA := hA.below b5
  replace bw := bw.trans (b5.mono bw.size)
  clear b5
  go_wp2_with fail
  refine (trust_any (some ⟨w.heap.size, 0, none⟩) 7 Hx 6 (some ⟨w5.heap.size, 0, none⟩) 1 [0] _ hl hx_ng (hA.below (below1 _ _)) (by decide) (by unfold I64; decide) (nums_at (xs := [0]) (At.new _ _ _))).mono ?_
  rintro e w6 ⟨rfl, b6⟩
  replace b6 := (below_a1 b6)
  rw [hx_t1]
  replace hA := hA.below b6
  replace bw := bw.trans (b6.mono bw.size)
  clear b6
  go_wp2_with fail
  refine (trust_any (some ⟨w.heap.size, 0, none⟩) 7 Hx 6 (some ⟨w6.heap.size, 0, none⟩) 2 [0, 1] _ hl hx_ng (hA.below (below1 _ _)) (by decide) (by unfold I64; decide) (nums_at (xs := [0, 1]) (At.new _ _ _))).mono ?_
  rintro e w7 ⟨rfl, b7⟩
  replace b7 := (below_a1 b7)
  rw [hx_t2]
  replace hA := hA.below b7
  replace bw := bw.trans (b7.mono bw.size)
  clear b7
  go_wp2_with fail
  refine (trust_any (some ⟨w.heap.size, 0, none⟩) 7 Hx 6 (some ⟨w7.heap.size, 0, none⟩) 1 [2] _ hl hx_ng (hA.below (below1 _ _)) (by decide) (by unfold I64; decide) (nums_at (xs := [2]) (At.new _ _ _))).mono ?_
  rintro e w8 ⟨rfl, b8⟩
  replace b8 := (below_a1 b8)
  rw [hx_t3]
  replace hA := hA.below b8
  replace bw := bw.trans (b8.mono bw.size)
  clear b8
  go_wp2_with fail
  refine (trust_any (some ⟨w.heap.size, 0, none⟩) 7 Hx 1 none 0 [] _ hl hx_ng hA (by decide) (by unfold I64; decide) (fun h => absurd rfl h)).mono ?_
  rintro e w9 ⟨rfl, b9⟩
  rw [hx_t4]
  replace hA := hA.below b9
  replace bw := bw.trans (b9.mono bw.size)
  clear b9
  go_wp2_with fail
  refine (trust_any (some ⟨w.heap.size, 0, none⟩) 7 Hx 0 none 0 [] _ hl hx_ng hA (by decide) (by unfold I64; decide) (fun h => absurd rfl h)).mono ?_
  rintro e w10 ⟨rfl, b10⟩
  rw [hx_t5]
  replace hA := hA.below b10
  replace bw := bw.trans (b10.mono bw.size)
  clear b10
  go_wp2_with fail
  refine (cheapest_any (some ⟨w.heap.size, 0, none⟩) 7 Hx 6 (some ⟨w10.heap.size, 0, none⟩) 3 [5, 3, 1] _ hl hx_ng (hA.below (below1 _ _)) (by decide) (nums_at (xs := [5, 3, 1]) (At.new _ _ _))).mono ?_
  rintro e w11 ⟨v2, rfl, s2, b11⟩
  replace b11 := (below_a1 b11)
  rw [hx_c6, hx_v6]
  rw [hx_s6] at s2
  obtain ⟨V2, k2, rfl, q1, q2, _, q4⟩ := s2
  replace hA := hA.below b11
  replace bw := bw.trans (b11.mono bw.size)
  clear b11
  go_wp2_with fail
  refine (cheapest_any (some ⟨w.heap.size, 0, none⟩) 7 Hx 0 none 0 [] _ hl hx_ng hA (by decide) (fun h => absurd rfl h)).mono ?_
  rintro e w12 ⟨v3, rfl, s3, b12⟩
  rw [hx_c0]
  obtain ⟨V3, k3, rfl, _, _, _, _⟩ := s3
  replace hA := hA.below b12
  replace bw := bw.trans (b12.mono bw.size)
  replace q4 := q4.below b12
  clear b12
  go_wp2_with fail
  refine (cWitnesses_any (some ⟨w.heap.size, 0, none⟩) 7 Hx 7 _ hl hx_ng hA).mono ?_
  rintro e w13 ⟨v4, rfl, s4, b13⟩
  rw [hx_w7]
  obtain ⟨⟨V4, k4, rfl, _, _, _, _⟩, _, _⟩ := s4
  replace hA := hA.below b13
  replace bw := bw.trans (b13.mono bw.size)
  replace q4 := q4.below b13
  clear b13
  go_wp2_with fail
  refine (ints29_any V2 k2 [1, 2] (some ⟨w13.heap.size, 0, none⟩) 2 [1, 2] _ (by decide) (by decide) (q4.below (below1 _ _)) (nums_at (xs := [1, 2]) (At.new _ _ _))).mono ?_
  rintro e w14 ⟨rfl, b14⟩
  replace b14 := (below_a1 b14)
  rw [show decide ([(1 : Int), 2] = [1, 2]) = true by decide]
  replace hA := hA.below b14
  replace bw := bw.trans (b14.mono bw.size)
  clear b14
  go_wp2_with fail
  refine (critical_any (some ⟨w.heap.size, 0, none⟩) 7 Hx 6 _ hl hx_ng hA).mono ?_
  rintro e w15 ⟨v5, rfl, o5, b15⟩
  rw [hx_k6] at o5
  obtain ⟨V5, k5, rfl, n5⟩ := ns_of_own o5
  have q5 := n5.nums
  replace hA := hA.below b15
  replace bw := bw.trans (b15.mono bw.size)
  clear b15
  go_wp2_with fail
  refine (ints29_any V5 k5 [2] (some ⟨w15.heap.size, 0, none⟩) 1 [2] _ (by decide) (by decide) (q5.below (below1 _ _)) (nums_at (xs := [2]) (At.new _ _ _))).mono ?_
  rintro e w16 ⟨rfl, b16⟩
  replace b16 := (below_a1 b16)
  rw [show decide ([(2 : Int)] = [2]) = true by decide]
  replace hA := hA.below b16
  replace bw := bw.trans (b16.mono bw.size)
  clear b16
  go_wp2_with fail
  refine (critical_any (some ⟨w.heap.size, 0, none⟩) 7 Hx 5 _ hl hx_ng hA).mono ?_
  rintro e w17 ⟨v6, rfl, o6, b17⟩
  rw [hx_k5] at o6
  obtain ⟨V6, k6, rfl, n6⟩ := ns_of_own o6
  replace hA := hA.below b17
  replace bw := bw.trans (b17.mono bw.size)
  clear b17
  go_wp2_with fail
  go_ret
  exact ⟨rfl, bw⟩
end Go.Proofs.YtphmicbpkljmfaaGreat

