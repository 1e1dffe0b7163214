/- The walk of the reference's put. -/
import Derived.Test.YtigcmjnjcaoolaaDoorCPut
namespace Go.Proofs.YtigcmjnjcaoolaaDoor
set_option linter.unusedVariables false
set_option linter.unusedSimpArgs false
open Go.RowKit
open Cx (N)
theorem own_drew {w : World} {B : Nat} {e : TypeId} {size n : Nat} {v : Value} {xs : List Value} (h : w.ownsRow B e size v n xs) : w.drew.ownsRow B e size v n xs := h
theorem one_ncells (n : N) : ncells [n] = [.int .i64 n.o, .int .i64 n.a, .int .i64 n.b] := rfl
set_option maxHeartbeats 4000000 in
set_option maxRecDepth 100000 in
theorem put_any (A : Option Addr) (c : Nat) (l : List N) (n : N) (w : World) (hl : l.length ≤ 20000) (hl0 : 0 < l.length) (hA : Cir w A c l) :
    Calls Tryd.prog 33 #[.slice A l.length c, .agg #[.int .i64 n.o, .int .i64 n.a, .int .i64 n.b]] w (CirNum (Cx.put l n).1 (Cx.put l n).2 w) := by
  obtain ⟨W, hW⟩ : ∃ W, W = w.alloc (.cells #[.int .i64 n.o, .int .i64 n.a, .int .i64 n.b] 50) := ⟨_, rfl⟩
  have hb : Below w.heap.size w W := by rw [hW]; exact below1 _ _
  have hn : At W w.heap.size 50 #[.int .i64 n.o, .int .i64 n.a, .int .i64 n.b] := by rw [hW]; exact At.new _ _ _
  have HW := Lib.hid hW
  clear hW
  have hAW := hA.below hb
  obtain ⟨i0, hi, hz0, hz1, hz2⟩ := info_parts node_info
  go_enter Tryd.func33, Tryd.ntmps33
  go_wp2_with fail
  rw [← HW.out]
  go_loopw [6] (fun i wr => ∃ k q : Nat, k ≤ l.length ∧ Hid (∀ j, j < k → l[j]? ≠ some n) ∧ i = .int .i64 k ∧ wr = W.drewN q) (fun i _ => l.length - (intOf i).toNat)
  case atStart => exact ⟨0, 0, by omega, Lib.hid (fun j hj => by omega), rfl, rfl⟩
  case round =>
    obtain ⟨k, q, hk, HN, rfl, rfl⟩ := hrel
    by_cases h1 : k < l.length
    · have d1 : decide ((k : Int) < (l.length : Int)) = true := by simp; omega
      obtain ⟨g, o, rfl, hg, c0, c1, c2⟩ := hAW.circ.at h1
      have n0 := hn.cell 0; have n1 := hn.cell 1; have n2 := hn.cell 2
      simp at n0 n1 n2
      have e1 := getElem_of h1
      generalize l[k] = x at *
      have i0' : (0 : Int) ≤ (k : Int) := by omega
      have i1 : (k : Int) < (l.length : Int) := by omega
      have q1 := fun w => node_eq x n w
      cases hz : (x == n)
      · have HR := Lib.hid (show ∀ j, j < k + 1 → l[j]? ≠ some n from fun j hj => by
          by_cases e : j = k
          · rw [e, e1]; intro h; rw [Option.some.inj h] at hz; simp at hz
          · exact HN.out j (by omega))
        rw [hz] at q1
        clear e1 hz
        go_wp2_with fail
        go_quiet (fail)
        go_wp2_with fail
        go_roundw
        case rel => exact ⟨k + 1, _, by omega, HR, by go_num, rfl⟩
        case measure => simp [intOf]; omega
      · have HP := Lib.hid (put_in (idx_hit (l := l) (n := n) (by rw [e1, beq_iff_eq.1 hz]) HN.out))
        rw [hz] at q1
        clear e1 hz
        go_wp2_with fail
        go_quiet (fail)
        go_wp2_with fail
        go_ret2
        exact ⟨_, c, by rw [HP.out]; rfl, by rw [HP.out]; exact hAW.below (below_drewN (below_drewN (Below.refl _ _) _) _), below_drewN (below_drewN hb _) _⟩
    · have d1 : decide ((k : Int) < (l.length : Int)) = false := by simp; omega
      have hx := idx_none (l := l) (n := n) (fun j hj => HN.out j (by omega))
      obtain ⟨W1, hW1⟩ : ∃ W1, W1 = W.drewN q := ⟨_, rfl⟩
      rw [← hW1]
      have hb1 : Below w.heap.size w W1 := by rw [hW1]; exact below_drewN hb _
      have hn1 : At W1 w.heap.size 50 #[.int .i64 n.o, .int .i64 n.a, .int .i64 n.b] := by rw [hW1]; exact hn.next (below_drewN (Below.refl _ _) _)
      have hA1 : Cir W1 A c l := by rw [hW1]; exact hAW.below (below_drewN (Below.refl _ _) _)
      clear hW1 HN
      by_cases hf : l.length < 20000
      · have HP := Lib.hid (put_app hx hf)
        have d2 : decide ((20000 : Int) ≤ (l.length : Int)) = false := by simp; omega
        obtain ⟨ga, oa, rfl, _, _⟩ := hA1.circ.at hl0
        have LL := Lib.hid (ncells_len l)
        have n0 := hn1.cell 0; have n1 := hn1.cell 1; have n2 := hn1.cell 2
        simp at n0 n1 n2
        have hlt := hn1.lt
        have E1 := own_empty W1 50 3 w.heap.size hb1.size
        have E2 := E1.alloc (.cells #[.int .i64 n.o, .int .i64 n.a, .int .i64 n.b] 50)
        have E3 := own_empty (W1.alloc (.cells #[.int .i64 n.o, .int .i64 n.a, .int .i64 n.b] 50)) 50 3 w.heap.size (by have := hb1.size; simp; omega)
        simp at E3
        have N1 := circ_news (hA1.circ.below ((below1 W1 (.cells #[] 50)).drew)) _ rfl
        have N2 := circ_news (hA1.circ.below (((below1 W1 (.cells #[] 50)).alloc (by simp) (.cells #[.int .i64 n.o, .int .i64 n.a, .int .i64 n.b] 50)).drew)) _ rfl
        have N3 := circ_news (hA1.circ.below (((below1 W1 (.cells #[.int .i64 n.o, .int .i64 n.a, .int .i64 n.b] 50)).alloc (by simp) (.cells #[] 50)).drew)) _ rfl
        have HE1 := Lib.hid E1; have HE2 := Lib.hid E2; have HE3 := Lib.hid E3
        have HN1 := Lib.hid N1; have HN2 := Lib.hid N2; have HN3 := Lib.hid N3
        clear hx E1 E2 E3 N1 N2 N3
        go_wp2_with fail
        go_region_held_law (fun w' => w'.cell? ⟨w.heap.size, 0, none⟩ = some (.int .i64 n.o) ∧ w'.cell? ⟨w.heap.size, 1, none⟩ = some (.int .i64 n.a) ∧ w'.cell? ⟨w.heap.size, 2, none⟩ = some (.int .i64 n.b)) (first | (go_split_ands; exact ⟨by assumption, by assumption, by assumption⟩) | go_keep) ((first
          | (refine step_append_lies _ (by rfl) (.tmp 25) (.tmp 26) 24 (by rfl) w.heap.size 50 i0 _ 3 24 Tryd.underlying24 hi hz0 hz1 hz2 (by rfl) (by omega) (.slice (some ⟨W1.heap.size, 0, none⟩) 0 0) 0 [] (by rfl) (by first | exact own_drew HE1.out | exact own_drew HE2.out) ⟨ga, oa, none⟩ l.length c (ncells l) (by rfl) LL.out (by first | exact HN1.out | exact HN2.out | exact HN3.out) (ncells_one l) hl0 (by unfold maxLen; omega) (by omega) (by have := hb1.size; simp; try omega) _ rfl ?_
             intro g2 cap2 w2 o2 g2' hat2 hlt2
             have hn2 : At w2 w.heap.size 50 #[.int .i64 n.o, .int .i64 n.a, .int .i64 n.b] := At.grown (by first | exact At.drew (hn1.alloc _) | exact At.drew ((hn1.alloc _).alloc _)) g2' (fun e => by simp [Value.ownBlock] at e; omega)
             have bw2 : Below w.heap.size w w2 := Below.grown (by first | exact (hb1.alloc hb1.size _).drew | exact ((hb1.alloc hb1.size _).alloc (by have := hb1.size; simp; omega) _).drew) g2' (by have := hb1.size; simp; omega) (fun q hq => by simp [Value.ownBlock] at hq; have := hb1.size; omega)
             first
               | (have z2 : At w2 (W1.heap.size + 1) 50 #[.int .i64 n.o, .int .i64 n.a, .int .i64 n.b] := At.grown (w := ((W1.alloc (.cells #[] 50)).alloc (.cells #[.int .i64 n.o, .int .i64 n.a, .int .i64 n.b] 50)).drew) (At.drew (At.newAt (by simp) _ _)) g2' (fun e => by simp [Value.ownBlock] at e))
               | (have z2 : At w2 W1.heap.size 50 #[.int .i64 n.o, .int .i64 n.a, .int .i64 n.b] := At.grown (w := ((W1.alloc (.cells #[.int .i64 n.o, .int .i64 n.a, .int .i64 n.b] 50)).alloc (.cells #[] 50)).drew) (At.drew ((At.new _ _ _).alloc _)) g2' (fun e => by simp [Value.ownBlock] at e))
               | skip
             simp only [Nat.zero_add, List.nil_append] at o2
             have n0 := hn2.cell 0; have n1 := hn2.cell 1; have n2 := hn2.cell 2
             simp at n0 n1 n2)
          | (refine step_append_lies _ (by rfl) (.tmp 25) (.tmp 26) 24 (by rfl) w.heap.size 50 i0 _ 3 24 Tryd.underlying24 hi hz0 hz1 hz2 (by rfl) (by omega) (.slice (some ⟨W1.heap.size + 1, 0, none⟩) 0 0) 0 [] (by rfl) (own_drew HE3.out) ⟨ga, oa, none⟩ l.length c (ncells l) (by rfl) LL.out (by first | exact HN1.out | exact HN2.out | exact HN3.out) (ncells_one l) hl0 (by unfold maxLen; omega) (by omega) (by have := hb1.size; simp; try omega) _ rfl ?_
             intro g2 cap2 w2 o2 g2' hat2 hlt2
             have hn2 : At w2 w.heap.size 50 #[.int .i64 n.o, .int .i64 n.a, .int .i64 n.b] := At.grown (by first | exact At.drew (hn1.alloc _) | exact At.drew ((hn1.alloc _).alloc _)) g2' (fun e => by simp [Value.ownBlock] at e; omega)
             have bw2 : Below w.heap.size w w2 := Below.grown (by first | exact (hb1.alloc hb1.size _).drew | exact ((hb1.alloc hb1.size _).alloc (by have := hb1.size; simp; omega) _).drew) g2' (by have := hb1.size; simp; omega) (fun q hq => by simp [Value.ownBlock] at hq; have := hb1.size; omega)
             first
               | (have z2 : At w2 (W1.heap.size + 1) 50 #[.int .i64 n.o, .int .i64 n.a, .int .i64 n.b] := At.grown (w := ((W1.alloc (.cells #[] 50)).alloc (.cells #[.int .i64 n.o, .int .i64 n.a, .int .i64 n.b] 50)).drew) (At.drew (At.newAt (by simp) _ _)) g2' (fun e => by simp [Value.ownBlock] at e))
               | (have z2 : At w2 W1.heap.size 50 #[.int .i64 n.o, .int .i64 n.a, .int .i64 n.b] := At.grown (w := ((W1.alloc (.cells #[.int .i64 n.o, .int .i64 n.a, .int .i64 n.b] 50)).alloc (.cells #[] 50)).drew) (At.drew ((At.new _ _ _).alloc _)) g2' (fun e => by simp [Value.ownBlock] at e))
               | skip
             simp only [Nat.zero_add, List.nil_append] at o2
             have n0 := hn2.cell 0; have n1 := hn2.cell 1; have n2 := hn2.cell 2
             simp at n0 n1 n2)
          | (refine step_append_lies _ (by rfl) (.tmp 27) (.tmp 29) 24 (by rfl) w.heap.size 50 i0 _ 3 24 Tryd.underlying24 hi hz0 hz1 hz2 (by rfl) (by omega) (.slice (some ⟨g2, 0, none⟩) l.length cap2) l.length (ncells l) (by first | rfl | (simp only [Nat.zero_add]; rfl)) (by first | exact o2.alloc _ | exact o2) _ 1 1 [.int .i64 n.o, .int .i64 n.a, .int .i64 n.b] (by rfl) (by rfl) (by first | exact At.news (At.new _ _ _) | exact At.news z2) (one3 rfl rfl rfl) (by omega) (by unfold maxLen; omega) (by omega) (by have := bw2.size; simp; try omega) _ rfl ?_
             intro g3 cap3 w3 o3 g3' hat3 hlt3
             have hf2 : some w.heap.size ≠ (Value.slice (some ⟨g2, 0, none⟩) l.length cap2).ownBlock := fun e => by
               simp [Value.ownBlock] at e
               rcases hat2 with h | h
               · simp [Value.ownBlock] at h; omega
               · simp at h; omega
             have hn3 : At w3 w.heap.size 50 #[.int .i64 n.o, .int .i64 n.a, .int .i64 n.b] := At.grown (by first | exact hn2.alloc _ | exact hn2) g3' hf2
             have bw3 : Below w.heap.size w w3 := Below.grown (by first | exact bw2.alloc bw2.size _ | exact bw2) g3' (by have := bw2.size; simp; try omega) (fun q hq => (own_lt o2 hq).1)
             have p0 := hn3.cell 0; have p1 := hn3.cell 1; have p2 := hn3.cell 2
             simp at p0 p1 p2)))
        all_goals
          clear n0 n1 n2 p0 p1 p2
          simp only [List.getElem_toArray, List.getElem_cons_succ, List.getElem_cons_zero, List.setIfInBounds_toArray, List.set_cons_zero, List.set_cons_succ]
          go_wp2_with fail
          go_ret2
          have o3' : w3.ownsRow w.heap.size 50 3 (.slice (some ⟨g3, 0, none⟩) (l.length + 1) cap3) (l ++ [n]).length (ncells (l ++ [n])) := by rw [ncells_app, List.length_append]; exact o3
          obtain ⟨A4, c4, e4, h4⟩ := cir_of_own o3'
          injection e4 with e5 _ e6
          subst e5; subst e6
          exact ⟨_, _, by rw [HP.out]; simp only [List.length_append, List.length_cons, List.length_nil]; rfl, by rw [HP.out]; exact h4, bw3⟩
      · have HP := Lib.hid (put_full hx hf)
        have d2 : decide ((20000 : Int) ≤ (l.length : Int)) = true := by simp; omega
        go_wp2_with fail
        go_ret2
        exact ⟨A, c, by rw [HP.out]; rfl, by rw [HP.out]; exact hA1, hb1⟩
end Go.Proofs.YtigcmjnjcaoolaaDoor
