/- A circuit that has grown by a node is a row of the call's own. -/
import Derived.Test.YtphmicbpkljmfaaGreatCMisc
namespace Go.Proofs.YtphmicbpkljmfaaGreat
set_option linter.unusedVariables false
set_option linter.unusedSimpArgs false
open Go.RowKit
open Cx (N)
/-- A circuit of the call's own, and a number. -/
def OwnNum (l : List N) (n : Int) (w : World) (e : Ending) (w' : World) : Prop := ∃ v, e = .returned (.tuple #[v, .int .i64 n]) ∧ w'.ownsRow w.heap.size 58 3 v l.length (ncells l) ∧ Below w.heap.size w w'
set_option maxHeartbeats 2000000 in
set_option maxRecDepth 100000 in
theorem intern_own (A : Option Addr) (c : Nat) (l : List N) (n : N) (w : World) (hl : l.length ≤ 20000) (hA : Cir w A c l) (hx : Cx.idx l n = none) (hf : l.length < 20000) :
    Calls Tryz.prog 60 #[.slice A l.length c, .agg #[.int .i64 n.o, .int .i64 n.a, .int .i64 n.b]] w (OwnNum (l ++ [n]) l.length w) := by
  obtain ⟨W, hW⟩ : ∃ W, W = w.alloc (.cells #[.int .i64 n.o, .int .i64 n.a, .int .i64 n.b] 58) := ⟨_, rfl⟩
  have hb : Below w.heap.size w W := by rw [hW]; exact below1 _ _
  have hn : At W w.heap.size 58 #[.int .i64 n.o, .int .i64 n.a, .int .i64 n.b] := by rw [hW]; exact At.new _ _ _
  have HW := Lib.hid hW
  clear hW
  have n0 := hn.cell 0; have n1 := hn.cell 1; have n2 := hn.cell 2
  simp at n0 n1 n2
  have hAW := hA.below hb
  obtain ⟨i0, hi, hz0, hz1, hz2⟩ := info_parts node_info
  have HX := Lib.hid (show idxI l n = -1 by unfold idxI; rw [hx])
  have d2 : ((l.length : Int) == 20000) = false := beq_eq_false_iff_ne.2 (by omega)
  clear hx
  go_enter Tryz.func60, Tryz.ntmps60
  go_wp2_with fail
  rw [← HW.out]
  refine (index_any A c l n _ (by omega) hAW.circ).mono ?_
  rintro e w1 ⟨rfl, b1⟩
  rw [HX.out]
  have hn1 := hn.next b1
  have hA1 := hAW.below b1
  have bw1 := hb.trans (b1.mono hb.size)
  clear n0 n1 n2
  have n0 := hn1.cell 0; have n1 := hn1.cell 1; have n2 := hn1.cell 2
  simp at n0 n1 n2
  go_wp2_with fail
  go_region_held_law (fun w' => w'.cell? ⟨w.heap.size, 0, none⟩ = some (.int .i64 n.o) ∧ w'.cell? ⟨w.heap.size, 1, none⟩ = some (.int .i64 n.a) ∧ w'.cell? ⟨w.heap.size, 2, none⟩ = some (.int .i64 n.b)) (first | (go_split_ands; exact ⟨by assumption, by assumption, by assumption⟩) | go_keep) ((first
    | (go_at_call 68; refine (clone_any A c l _ (by omega) (hA1.below (by first | exact (Below.refl _ _).drew | exact (below1 _ _).drew))).mono ?_
       rintro e w2 ⟨⟨v2, rfl, o2⟩, b2'⟩
       have b2 : Below w1.heap.size w1 w2 := by first | exact below_drew b2' | exact ((below1 w1 _).drew).trans (b2'.mono (by simp))
       first | (have z2 : At w2 w1.heap.size 58 #[.int .i64 n.o, .int .i64 n.a, .int .i64 n.b] := (At.drew (At.new w1 _ _)).below b2' (by simp)) | skip
       obtain ⟨a2, k2, rfl⟩ := own_len o2
       have hn2 := hn1.next b2
       have bw2 := bw1.trans (b2.mono bw1.size)
       have o2' : w2.ownsRow w.heap.size 58 3 (.slice a2 l.length k2) l.length (ncells l) := own_mono o2 (by have := bw1.size; simp; omega)
       have f2 : some w.heap.size ≠ (Value.slice a2 l.length k2).ownBlock := fun e => by
         have h1 := (own_lt o2 e.symm).1
         have h2 := hn1.lt
         simp at h1
         omega
       have n0 := hn2.cell 0; have n1 := hn2.cell 1; have n2 := hn2.cell 2
       simp at n0 n1 n2)
    | (refine step_append_lies _ (by rfl) (.tmp 19) (.tmp 21) 23 (by rfl) w.heap.size 58 i0 _ 3 24 Tryz.underlying23 hi hz0 hz1 hz2 (by rfl) (by omega) (.slice a2 l.length k2) l.length (ncells l) (by rfl) (by first | exact o2'.alloc _ | exact o2') _ 1 1 [.int .i64 n.o, .int .i64 n.a, .int .i64 n.b] (by rfl) (by rfl) (by first | exact At.news (At.new _ _ _) | exact At.news z2) (one3 rfl rfl rfl) (by omega) (by unfold maxLen; omega) (by omega) (by have := bw2.size; simp; try omega) _ rfl ?_
       intro g3 cap3 w3 o3 g3' hat3 hlt3
       have hn3 : At w3 w.heap.size 58 #[.int .i64 n.o, .int .i64 n.a, .int .i64 n.b] := At.grown (by first | exact hn2.alloc _ | exact hn2) g3' f2
       have bw3 : Below w.heap.size w w3 := Below.grown (by first | exact bw2.alloc bw2.size _ | exact bw2) g3' (by have := bw2.size; simp; try omega) (fun q hq => (own_lt o2' hq).1)
       have p0 := hn3.cell 0; have p1 := hn3.cell 1; have p2 := hn3.cell 2
       simp at p0 p1 p2)))
  all_goals
    clear n0 n1 n2 p0 p1 p2
    simp only [List.getElem_toArray, List.getElem_cons_succ, List.getElem_cons_zero, List.setIfInBounds_toArray, List.set_cons_zero, List.set_cons_succ]
    go_wp2_with fail
    go_ret2
    have o3' : w3.ownsRow w.heap.size 58 3 (.slice (some ⟨g3, 0, none⟩) (l.length + 1) cap3) (l ++ [n]).length (ncells (l ++ [n])) := by rw [ncells_app, List.length_append]; exact o3
    exact ⟨.slice (some ⟨g3, 0, none⟩) (l.length + 1) cap3, rfl, by rw [List.length_append, ncells_app]; exact o3, bw3⟩
set_option maxHeartbeats 1000000 in
theorem join_own (A : Option Addr) (c : Nat) (l : List N) (a b : Nat) (w : World) (hl : l.length < 20000) (hA : Cir w A c l) (h2 : 2 ≤ a) (hab : a < b) (hb : b < l.length) (hx : Cx.idx l ⟨4, a, b⟩ = none) :
    Calls Tryz.prog 45 #[.slice A l.length c, .int .i64 4, .int .i64 (b : Int), .int .i64 (a : Int), .int .i64 1, .int .i64 0] w (OwnNum (l ++ [⟨4, a, b⟩]) l.length w) := by
  have m1 : min (b : Int) (a : Int) = (a : Int) := by omega
  have m2 : max (b : Int) (a : Int) = (b : Int) := by omega
  have d1 : decide ((a : Int) < 0) = false := by simp
  have d2 : decide ((l.length : Int) ≤ (b : Int)) = false := by simp; omega
  have d2' : decide (l.length ≤ b) = false := by simp; omega
  have d3 : ((a : Int) == 0) = false := by simp; omega
  have d4 : ((b : Int) == 0) = false := by simp; omega
  have d5 : ((a : Int) == 1) = false := by simp; omega
  have d6 : ((b : Int) == 1) = false := by simp; omega
  have d7 : ((a : Int) == (b : Int)) = false := by simp; omega
  have d7' : (a == b) = false := by simp; omega
  have HX := Lib.hid hx
  clear hx
  go_enter Tryz.func45, Tryz.ntmps45
  go_wp2_with fail
  refine (intern_own A c l ⟨4, a, b⟩ _ (by omega) hA HX.out hl).mono ?_
  rintro e w1 ⟨v, rfl, h1, b1⟩
  obtain ⟨va, vc, rfl⟩ := own_len h1
  go_wp2_with fail
  go_ret2
  exact ⟨.slice va (l.length + 1) vc, rfl, by rw [List.length_append] at h1 ⊢; exact h1, b1⟩
set_option maxHeartbeats 1000000 in
theorem times_own (A : Option Addr) (c : Nat) (l : List N) (a b : Nat) (w : World) (hl : l.length < 20000) (hA : Cir w A c l) (h2 : 2 ≤ a) (hab : a < b) (hb : b < l.length) (hx : Cx.idx l ⟨4, a, b⟩ = none) :
    Calls Tryz.prog 19 #[.slice A l.length c, .int .i64 (b : Int), .int .i64 (a : Int)] w (OwnNum (l ++ [⟨4, a, b⟩]) l.length w) := by
  have HX := Lib.hid hx
  clear hx
  go_enter Tryz.func19, Tryz.ntmps19
  go_wp2_with fail
  refine (join_own A c l a b _ hl hA h2 hab hb HX.out).mono ?_
  rintro e w1 ⟨v, rfl, h1, b1⟩
  obtain ⟨va, vc, rfl⟩ := own_len h1
  go_wp2_with fail
  go_ret2
  exact ⟨.slice va (l.length + 1) vc, rfl, by rw [List.length_append] at h1 ⊢; exact h1, b1⟩
end Go.Proofs.YtphmicbpkljmfaaGreat
