/- The walks of the functions that add a node to a circuit. -/
import Derived.Test.YtigcmjnjcaoolaaDoorCIdx
import Derived.Test.YtigcmjnjcaoolaaDoorOwn
import Derived.Deep.RegionHeldLaw
import Derived.WalkSpells
namespace Go.Proofs.YtigcmjnjcaoolaaDoor
set_option linter.unusedVariables false
set_option linter.unusedSimpArgs false
open Go.RowKit
open Cx (N)
theorem node_info : (Tryd.prog.info? 50).map (fun i => (i.zero, i.size, i.bytes)) = some (some (.agg #[.int .i64 0, .int .i64 0, .int .i64 0]), 3, 24) := by kernel_rfl
theorem ncells_app (l r : List N) : ncells (l ++ r) = ncells l ++ ncells r := by simp [ncells]
theorem ncells_len (l : List N) : (ncells l).length = l.length * 3 := by
  induction l with
  | nil => rfl
  | cons a r ih =>
    have e : ncells (a :: r) = [.int .i64 a.o, .int .i64 a.a, .int .i64 a.b] ++ ncells r := by simp [ncells]
    rw [e, List.length_append, ih]; simp; omega
theorem ncells_get (l : List N) (k : Nat) (v : N) (h : l[k]? = some v) : (ncells l)[k * 3]? = some (.int .i64 v.o) ∧ (ncells l)[k * 3 + 1]? = some (.int .i64 v.a) ∧ (ncells l)[k * 3 + 2]? = some (.int .i64 v.b) := by
  induction l generalizing k with
  | nil => simp at h
  | cons a r ih =>
    cases k with
    | zero =>
      simp at h; subst h
      exact ⟨rfl, rfl, rfl⟩
    | succ k =>
      have := ih k (by simpa using h)
      have e : ncells (a :: r) = [.int .i64 a.o, .int .i64 a.a, .int .i64 a.b] ++ ncells r := by simp [ncells]
      rw [e, List.getElem?_append_right (by simp; omega), List.getElem?_append_right (by simp; omega), List.getElem?_append_right (by simp; omega)]
      simp only [List.length_cons, List.length_nil]
      rw [show (k + 1) * 3 - (0 + 1 + 1 + 1) = k * 3 by omega, show (k + 1) * 3 + 1 - (0 + 1 + 1 + 1) = k * 3 + 1 by omega, show (k + 1) * 3 + 2 - (0 + 1 + 1 + 1) = k * 3 + 2 by omega]
      exact this
theorem ncells_one (l : List N) : ∀ u ∈ ncells l, u.oneCell' = true := by
  intro u hu
  unfold ncells at hu
  rw [List.mem_flatMap] at hu
  obtain ⟨v, _, hv⟩ := hu
  exact one3 (by rfl) (by rfl) (by rfl) u hv
theorem ncells_at (l : List N) (j : Nat) (u : Value) (h : (ncells l)[j]? = some u) : ∃ k v, l[k]? = some v ∧ ((j = k * 3 ∧ u = .int .i64 v.o) ∨ (j = k * 3 + 1 ∧ u = .int .i64 v.a) ∨ (j = k * 3 + 2 ∧ u = .int .i64 v.b)) := by
  have hj : j < l.length * 3 := by
    rw [← ncells_len]
    obtain ⟨h, _⟩ := List.getElem?_eq_some_iff.1 h
    exact h
  have hk : j / 3 < l.length := by omega
  refine ⟨j / 3, _, List.getElem?_eq_getElem hk, ?_⟩
  obtain ⟨a, b, c⟩ := ncells_get l (j / 3) _ (List.getElem?_eq_getElem hk)
  rcases (by omega : j = j / 3 * 3 ∨ j = j / 3 * 3 + 1 ∨ j = j / 3 * 3 + 2) with e | e | e
  · left; refine ⟨e, ?_⟩; rw [← e] at a; rw [a] at h; exact (Option.some.inj h).symm
  · right; left; refine ⟨e, ?_⟩; rw [← e] at b; rw [b] at h; exact (Option.some.inj h).symm
  · right; right; refine ⟨e, ?_⟩; rw [← e] at c; rw [c] at h; exact (Option.some.inj h).symm
theorem circ_news {w : World} {A : Option Addr} {l : List N} (h : Circ w A l) : ∀ ad, A = some ad → ∀ j u, (ncells l)[j]? = some u → w.cell? (ad.add j) = some u := by
  intro ad hA j u hu
  obtain ⟨k, v, hk, hc⟩ := ncells_at l j u hu
  obtain ⟨g, o, e, hg, hcell⟩ := h (by intro e; rw [e] at hk; simp at hk)
  rw [hA] at e
  obtain rfl := Option.some.inj e
  obtain ⟨a, b, c⟩ := hcell k v hk
  rw [add_at]
  rcases hc with ⟨rfl, rfl⟩ | ⟨rfl, rfl⟩ | ⟨rfl, rfl⟩
  · exact a
  · exact b
  · exact c
/-- A circuit as a slice. -/
structure Cir (w : World) (A : Option Addr) (c : Nat) (l : List N) : Prop where
  circ : Circ w A l
  le : l.length ≤ c
  cap : c ≤ maxLen
  none : A = none → l.length = 0 ∧ c = 0
theorem Cir.below {w w' : World} {A : Option Addr} {c : Nat} {l : List N} (h : Cir w A c l) (hb : Below w.heap.size w w') : Cir w' A c l := ⟨h.circ.below hb, h.le, h.cap, h.none⟩
theorem cir_of_own {w : World} {B : Nat} {v : Value} {l : List N} (h : w.ownsRow B 50 3 v l.length (ncells l)) : ∃ A c, v = .slice A l.length c ∧ Cir w A c l := by
  obtain ⟨A, c, hv, h1, h2, h3⟩ := own_cells h
  refine ⟨A, c, hv, ⟨fun hn => ?_, h1, h2, fun hA => ?_⟩⟩
  · rcases h3 with h3 | ⟨g, rfl, hB, hg, hc⟩
    · exact absurd (List.length_eq_zero_iff.1 h3) hn
    · refine ⟨g, 0, rfl, hg, fun k x hx => ?_⟩
      obtain ⟨a, b, c⟩ := ncells_get l k x hx
      simp only [Nat.zero_add]
      exact ⟨hc _ _ a, hc _ _ b, hc _ _ c⟩
  · subst hA
    rcases h.2 with ⟨e, hz⟩ | ⟨g, cap, cur, e, _⟩
    · rw [hv] at e; injection e with _ h4 h5; exact ⟨h4, h5⟩
    · rw [hv] at e; injection e with h4 _ _; cases h4
theorem cir_new {w : World} {g : Nat} {l : List N} (h : At w g 50 (ncells l).toArray) (hl : l.length ≤ maxLen) : Cir w (some ⟨g, 0, none⟩) l.length l := by
  refine ⟨fun hn => ?_, Nat.le_refl _, hl, fun h => by cases h⟩
  refine ⟨g, 0, rfl, h.lt, fun k x hx => ?_⟩
  obtain ⟨a, b, c⟩ := ncells_get l k x hx
  simp only [Nat.zero_add]
  rw [h.cell, h.cell, h.cell, List.getElem?_toArray, List.getElem?_toArray, List.getElem?_toArray]
  exact ⟨a, b, c⟩
set_option maxHeartbeats 1000000 in
set_option maxRecDepth 100000 in
theorem clone_any (A : Option Addr) (c : Nat) (l : List N) (w : World) (hl : l.length ≤ 1000000) (hA : Cir w A c l) :
    Calls Tryd.prog 51 #[.slice A l.length c] w fun e w' => (∃ v, e = .returned v ∧ w'.ownsRow w.heap.size 50 3 v l.length (ncells l)) ∧ Below w.heap.size w w' := by
  obtain ⟨i0, hi, hz0, hz1, hz2⟩ := info_parts node_info
  have LL := Lib.hid (ncells_len l)
  cases A with
  | none =>
    obtain ⟨h1, h2⟩ := hA.none rfl
    have hl0 : l = [] := List.length_eq_zero_iff.1 h1
    subst hl0
    subst h2
    have q1 := Lib.run_eql_slice_nil (P := Tryd.prog)
    go_enter Tryd.func51, Tryd.ntmps51
    go_wp2_with fail
    go_ret
    exact ⟨⟨_, rfl, World.ownsRow_nil _ _ _ _⟩, Below.refl _ _⟩
  | some ad =>
    have o0 := own_empty w 50 3 w.heap.size (Nat.le_refl _)
    have hA1 := hA.circ.below (below1 w (.cells #[] 50))
    have q1 := Lib.run_eql_slice_nil (P := Tryd.prog)
    go_enter Tryd.func51, Tryd.ntmps51
    go_wp2_with (first
      | (at_builtin; refine wpList_append_from rfl (.tmp 5) (.tmp 6) 24 rfl w.heap.size 50 i0 _ 3 24 Tryd.underlying24 hi hz0 hz1 hz2 rfl (by omega) (.slice (some ⟨w.heap.size, 0, none⟩) 0 0) 0 [] rfl o0 (some ad) l.length c (ncells l) rfl LL.out (fun h => by cases h) (circ_news hA1) (ncells_one l) (by unfold maxLen; omega) (by omega) (by simp) ?_; intro v1 w1 o1 g1))
    simp only [Nat.zero_add, List.nil_append] at o1
    have b1 : Below w.heap.size w w1 := (below1 w _).grown g1 (by simp) (fun q hq => by simp [Value.ownBlock] at hq; omega)
    go_ret
    exact ⟨⟨_, rfl, o1⟩, b1⟩
/-- A circuit and a number. -/
def CirNum (l : List N) (n : Int) (w : World) (e : Ending) (w' : World) : Prop := ∃ A c, e = .returned (.tuple #[.slice A l.length c, .int .i64 n]) ∧ Cir w' A c l ∧ Below w.heap.size w w'
theorem put_in {l : List N} {n : N} {i : Nat} (h : Cx.idx l n = some i) : Cx.put l n = (l, (i : Int)) := by unfold Cx.put; rw [h]
theorem put_full {l : List N} {n : N} (h : Cx.idx l n = none) (hl : ¬ l.length < 20000) : Cx.put l n = (l, -1) := by unfold Cx.put; rw [h]; simp [hl]
theorem put_app {l : List N} {n : N} (h : Cx.idx l n = none) (hl : l.length < 20000) : Cx.put l n = (l ++ [n], (l.length : Int)) := by unfold Cx.put; rw [h]; simp [hl]
set_option maxHeartbeats 2000000 in
set_option maxRecDepth 100000 in
theorem intern_any (A : Option Addr) (c : Nat) (l : List N) (n : N) (w : World) (hl : l.length ≤ 20000) (hA : Cir w A c l) :
    Calls Tryd.prog 32 #[.slice A l.length c, .agg #[.int .i64 n.o, .int .i64 n.a, .int .i64 n.b]] w (CirNum (Cx.put l n).1 (Cx.put l n).2 w) := by
  obtain ⟨W, hW⟩ : ∃ W, W = w.alloc (.cells #[.int .i64 n.o, .int .i64 n.a, .int .i64 n.b] 50) := ⟨_, rfl⟩
  have hb : Below w.heap.size w W := by rw [hW]; exact below1 _ _
  have hn : At W w.heap.size 50 #[.int .i64 n.o, .int .i64 n.a, .int .i64 n.b] := by rw [hW]; exact At.new _ _ _
  have HW := Lib.hid hW
  clear hW
  have n0 := hn.cell 0; have n1 := hn.cell 1; have n2 := hn.cell 2
  simp at n0 n1 n2
  have hAW := hA.below hb
  obtain ⟨i0, hi, hz0, hz1, hz2⟩ := info_parts node_info
  cases hx : Cx.idx l n with
  | some i =>
    have HX := Lib.hid (show idxI l n = (i : Int) by unfold idxI; rw [hx])
    have HP := Lib.hid (put_in hx)
    have d1 : decide ((0 : Int) ≤ (i : Int)) = true := by simp
    go_enter Tryd.func32, Tryd.ntmps32
    go_wp2_with fail
    rw [← HW.out]
    refine (index_any A c l n _ (by omega) hAW.circ).mono ?_
    rintro e w1 ⟨rfl, b1⟩
    rw [HX.out]
    clear n0 n1 n2
    go_wp2_with fail
    go_ret2
    exact ⟨A, c, by rw [HP.out]; rfl, by rw [HP.out]; exact hAW.below b1, hb.trans (b1.mono hb.size)⟩
  | none =>
    have HX := Lib.hid (show idxI l n = -1 by unfold idxI; rw [hx])
    by_cases hf : l.length < 20000
    · have HP := Lib.hid (put_app hx hf)
      have d2 : ((l.length : Int) == 20000) = false := beq_eq_false_iff_ne.2 (by omega)
      clear hx
      go_enter Tryd.func32, Tryd.ntmps32
      go_wp2_with fail
      rw [← HW.out]
      refine (index_any A c l n _ (by omega) hAW.circ).mono ?_
      rintro e w1 ⟨rfl, b1⟩
      rw [HX.out]
      have hn1 := hn.next b1
      have hA1 := hAW.below b1
      have bw1 := hb.trans (b1.mono hb.size)
      clear n0 n1 n2
      have n0 := hn1.cell 0; have n1 := hn1.cell 1; have n2 := hn1.cell 2
      simp at n0 n1 n2
      go_wp2_with fail
      go_region_held_law (fun w' => w'.cell? ⟨w.heap.size, 0, none⟩ = some (.int .i64 n.o) ∧ w'.cell? ⟨w.heap.size, 1, none⟩ = some (.int .i64 n.a) ∧ w'.cell? ⟨w.heap.size, 2, none⟩ = some (.int .i64 n.b)) (first | (go_split_ands; exact ⟨by assumption, by assumption, by assumption⟩) | go_keep) ((first
        | (go_at_call 51; refine (clone_any A c l _ (by omega) (hA1.below (by first | exact (Below.refl _ _).drew | exact (below1 _ _).drew))).mono ?_
           rintro e w2 ⟨⟨v2, rfl, o2⟩, b2'⟩
           have b2 : Below w1.heap.size w1 w2 := by first | exact below_drew b2' | exact ((below1 w1 _).drew).trans (b2'.mono (by simp))
           first | (have z2 : At w2 w1.heap.size 50 #[.int .i64 n.o, .int .i64 n.a, .int .i64 n.b] := (At.drew (At.new w1 _ _)).below b2' (by simp)) | skip
           obtain ⟨a2, k2, rfl⟩ := own_len o2
           have hn2 := hn1.next b2
           have bw2 := bw1.trans (b2.mono bw1.size)
           have o2' : w2.ownsRow w.heap.size 50 3 (.slice a2 l.length k2) l.length (ncells l) := own_mono o2 (by have := bw1.size; simp; omega)
           have f2 : some w.heap.size ≠ (Value.slice a2 l.length k2).ownBlock := fun e => by
             have h1 := (own_lt o2 e.symm).1
             have h2 := hn1.lt
             simp at h1
             omega
           have n0 := hn2.cell 0; have n1 := hn2.cell 1; have n2 := hn2.cell 2
           simp at n0 n1 n2)
        | (refine step_append_lies _ (by rfl) (.tmp 19) (.tmp 21) 24 (by rfl) w.heap.size 50 i0 _ 3 24 Tryd.underlying24 hi hz0 hz1 hz2 (by rfl) (by omega) (.slice a2 l.length k2) l.length (ncells l) (by rfl) (by first | exact o2'.alloc _ | exact o2') _ 1 1 [.int .i64 n.o, .int .i64 n.a, .int .i64 n.b] (by rfl) (by rfl) (by first | exact At.news (At.new _ _ _) | exact At.news z2) (one3 rfl rfl rfl) (by omega) (by unfold maxLen; omega) (by omega) (by have := bw2.size; simp; try omega) _ rfl ?_
           intro g3 cap3 w3 o3 g3' hat3 hlt3
           have hn3 : At w3 w.heap.size 50 #[.int .i64 n.o, .int .i64 n.a, .int .i64 n.b] := At.grown (by first | exact hn2.alloc _ | exact hn2) g3' f2
           have bw3 : Below w.heap.size w w3 := Below.grown (by first | exact bw2.alloc bw2.size _ | exact bw2) g3' (by have := bw2.size; simp; try omega) (fun q hq => (own_lt o2' hq).1)
           have p0 := hn3.cell 0; have p1 := hn3.cell 1; have p2 := hn3.cell 2
           simp at p0 p1 p2)))
      all_goals
        clear n0 n1 n2 p0 p1 p2
        simp only [List.getElem_toArray, List.getElem_cons_succ, List.getElem_cons_zero, List.setIfInBounds_toArray, List.set_cons_zero, List.set_cons_succ]
        go_wp2_with fail
        go_ret2
        have o3' : w3.ownsRow w.heap.size 50 3 (.slice (some ⟨g3, 0, none⟩) (l.length + 1) cap3) (l ++ [n]).length (ncells (l ++ [n])) := by rw [ncells_app, List.length_append]; exact o3
        obtain ⟨A4, c4, e4, h4⟩ := cir_of_own o3'
        injection e4 with e5 _ e6
        subst e5; subst e6
        exact ⟨_, _, by rw [HP.out]; simp only [List.length_append, List.length_cons, List.length_nil]; rfl, by rw [HP.out]; exact h4, bw3⟩
    · have HP := Lib.hid (put_full hx hf)
      have d2 : ((l.length : Int) == 20000) = true := by rw [beq_iff_eq]; omega
      go_enter Tryd.func32, Tryd.ntmps32
      go_wp2_with fail
      rw [← HW.out]
      refine (index_any A c l n _ (by omega) hAW.circ).mono ?_
      rintro e w1 ⟨rfl, b1⟩
      rw [HX.out]
      clear n0 n1 n2
      go_wp2_with fail
      go_ret2
      exact ⟨A, c, by rw [HP.out]; rfl, by rw [HP.out]; exact hAW.below b1, hb.trans (b1.mono hb.size)⟩
end Go.Proofs.YtigcmjnjcaoolaaDoor
