/- The walks of the functions that add a node to a circuit. -/
import Derived.Test.YtphmicbpkljmfaaGreatCIdx
import Derived.Test.YtphmicbpkljmfaaGreatTwo
import Derived.Deep.RegionHeldLaw
import Derived.WalkSpells
namespace Go.Proofs.YtphmicbpkljmfaaGreat
set_option linter.unusedVariables false
set_option linter.unusedSimpArgs false
open Go.RowKit
open Cx (N)
theorem node_info : (Tryz.prog.info? 58).map (fun i => (i.zero, i.size, i.bytes)) = some (some (.agg #[.int .i64 0, .int .i64 0, .int .i64 0]), 3, 24) := by kernel_rfl
theorem ncells_app (l r : List N) : ncells (l ++ r) = ncells l ++ ncells r := by simp [ncells]
theorem ncells_len (l : List N) : (ncells l).length = l.length * 3 := by
  induction l with
  | nil => rfl
  | cons a r ih =>
    have e : ncells (a :: r) = [.int .i64 a.o, .int .i64 a.a, .int .i64 a.b] ++ ncells r := by simp [ncells]
    rw [e, List.length_append, ih]; simp; omega
theorem ncells_get (l : List N) (k : Nat) (v : N) (h : l[k]? = some v) : (ncells l)[k * 3]? = some (.int .i64 v.o) ∧ (ncells l)[k * 3 + 1]? = some (.int .i64 v.a) ∧ (ncells l)[k * 3 + 2]? = some (.int .i64 v.b) := by
  induction l generalizing k with
  | nil => simp at h
  | cons a r ih =>
    cases k with
    | zero =>
      simp at h; subst h
      exact ⟨rfl, rfl, rfl⟩
    | succ k =>
      have := ih k (by simpa using h)
      have e : ncells (a :: r) = [.int .i64 a.o, .int .i64 a.a, .int .i64 a.b] ++ ncells r := by simp [ncells]
      rw [e, List.getElem?_append_right (by simp; omega), List.getElem?_append_right (by simp; omega), List.getElem?_append_right (by simp; omega)]
      simp only [List.length_cons, List.length_nil]
      rw [show (k + 1) * 3 - (0 + 1 + 1 + 1) = k * 3 by omega, show (k + 1) * 3 + 1 - (0 + 1 + 1 + 1) = k * 3 + 1 by omega, show (k + 1) * 3 + 2 - (0 + 1 + 1 + 1) = k * 3 + 2 by omega]
      exact this
theorem ncells_one (l : List N) : ∀ u ∈ ncells l, u.oneCell' = true := by
  intro u hu
  unfold ncells at hu
  rw [List.mem_flatMap] at hu
  obtain ⟨v, _, hv⟩ := hu
  exact one3 (by rfl) (by rfl) (by rfl) u hv
theorem ncells_at (l : List N) (j : Nat) (u : Value) (h : (ncells l)[j]? = some u) : ∃ k v, l[k]? = some v ∧ ((j = k * 3 ∧ u = .int .i64 v.o) ∨ (j = k * 3 + 1 ∧ u = .int .i64 v.a) ∨ (j = k * 3 + 2 ∧ u = .int .i64 v.b)) := by
  have hj : j < l.length * 3 := by
    rw [← ncells_len]
    obtain ⟨h, _⟩ := List.getElem?_eq_some_iff.1 h
    exact h
  have hk : j / 3 < l.length := by omega
  refine ⟨j / 3, _, List.getElem?_eq_getElem hk, ?_⟩
  obtain ⟨a, b, c⟩ := ncells_get l (j / 3) _ (List.getElem?_eq_getElem hk)
  rcases (by omega : j = j / 3 * 3 ∨ j = j / 3 * 3 + 1 ∨ j = j / 3 * 3 + 2) with e | e | e
  · left; refine ⟨e, ?_⟩; rw [← e] at a; rw [a] at h; exact (Option.some.inj h).symm
  · right; left; refine ⟨e, ?_⟩; rw [← e] at b; rw [b] at h; exact (Option.some.inj h).symm
  · right; right; refine ⟨e, ?_⟩; rw [← e] at c; rw [c] at h; exact (Option.some.inj h).symm
theorem circ_news {w : World} {A : Option Addr} {l : List N} (h : Circ w A l) : ∀ ad, A = some ad → ∀ j u, (ncells l)[j]? = some u → w.cell? (ad.add j) = some u := by
  intro ad hA j u hu
  obtain ⟨k, v, hk, hc⟩ := ncells_at l j u hu
  obtain ⟨g, o, e, hg, hcell⟩ := h (by intro e; rw [e] at hk; simp at hk)
  rw [hA] at e
  obtain rfl := Option.some.inj e
  obtain ⟨a, b, c⟩ := hcell k v hk
  rw [add_at]
  rcases hc with ⟨rfl, rfl⟩ | ⟨rfl, rfl⟩ | ⟨rfl, rfl⟩
  · exact a
  · exact b
  · exact c
/-- A circuit as a slice. -/
structure Cir (w : World) (A : Option Addr) (c : Nat) (l : List N) : Prop where
  circ : Circ w A l
  le : l.length ≤ c
  cap : c ≤ maxLen
  none : A = none → l.length = 0 ∧ c = 0
theorem Cir.below {w w' : World} {A : Option Addr} {c : Nat} {l : List N} (h : Cir w A c l) (hb : Below w.heap.size w w') : Cir w' A c l := ⟨h.circ.below hb, h.le, h.cap, h.none⟩
theorem cir_of_own {w : World} {B : Nat} {v : Value} {l : List N} (h : w.ownsRow B 58 3 v l.length (ncells l)) : ∃ A c, v = .slice A l.length c ∧ Cir w A c l := by
  obtain ⟨A, c, hv, h1, h2, h3⟩ := own_cells h
  refine ⟨A, c, hv, ⟨fun hn => ?_, h1, h2, fun hA => ?_⟩⟩
  · rcases h3 with h3 | ⟨g, rfl, hB, hg, hc⟩
    · exact absurd (List.length_eq_zero_iff.1 h3) hn
    · refine ⟨g, 0, rfl, hg, fun k x hx => ?_⟩
      obtain ⟨a, b, c⟩ := ncells_get l k x hx
      simp only [Nat.zero_add]
      exact ⟨hc _ _ a, hc _ _ b, hc _ _ c⟩
  · subst hA
    rcases h.2 with ⟨e, hz⟩ | ⟨g, cap, cur, e, _⟩
    · rw [hv] at e; injection e with _ h4 h5; exact ⟨h4, h5⟩
    · rw [hv] at e; injection e with h4 _ _; cases h4
theorem cir_new {w : World} {g : Nat} {l : List N} (h : At w g 58 (ncells l).toArray) (hl : l.length ≤ maxLen) : Cir w (some ⟨g, 0, none⟩) l.length l := by
  refine ⟨fun hn => ?_, Nat.le_refl _, hl, fun h => by cases h⟩
  refine ⟨g, 0, rfl, h.lt, fun k x hx => ?_⟩
  obtain ⟨a, b, c⟩ := ncells_get l k x hx
  simp only [Nat.zero_add]
  rw [h.cell, h.cell, h.cell, List.getElem?_toArray, List.getElem?_toArray, List.getElem?_toArray]
  exact ⟨a, b, c⟩
set_option maxHeartbeats 1000000 in
set_option maxRecDepth 100000 in
theorem clone_any (A : Option Addr) (c : Nat) (l : List N) (w : World) (hl : l.length ≤ 1000000) (hA : Cir w A c l) :
    Calls Tryz.prog 68 #[.slice A l.length c] w fun e w' => (∃ v, e = .returned v ∧ w'.ownsRow w.heap.size 58 3 v l.length (ncells l)) ∧ Below w.heap.size w w' := by
  obtain ⟨i0, hi, hz0, hz1, hz2⟩ := info_parts node_info
  have LL := Lib.hid (ncells_len l)
  cases A with
  | none =>
    obtain ⟨h1, h2⟩ := hA.none rfl
    have hl0 : l = [] := List.length_eq_zero_iff.1 h1
    subst hl0
    subst h2
    have q1 := Lib.run_eql_slice_nil (P := Tryz.prog)
    go_enter Tryz.func68, Tryz.ntmps68
    go_wp2_with fail
    go_ret
    exact ⟨⟨_, rfl, World.ownsRow_nil _ _ _ _⟩, Below.refl _ _⟩
  | some ad =>
    have o0 := own_empty w 58 3 w.heap.size (Nat.le_refl _)
    have hA1 := hA.circ.below (below1 w (.cells #[] 58))
    have q1 := Lib.run_eql_slice_nil (P := Tryz.prog)
    go_enter Tryz.func68, Tryz.ntmps68
    go_wp2_with (first
      | (at_builtin; refine wpList_append_from rfl (.tmp 5) (.tmp 6) 23 rfl w.heap.size 58 i0 _ 3 24 Tryz.underlying23 hi hz0 hz1 hz2 rfl (by omega) (.slice (some ⟨w.heap.size, 0, none⟩) 0 0) 0 [] rfl o0 (some ad) l.length c (ncells l) rfl LL.out (fun h => by cases h) (circ_news hA1) (ncells_one l) (by unfold maxLen; omega) (by omega) (by simp) ?_; intro v1 w1 o1 g1))
    simp only [Nat.zero_add, List.nil_append] at o1
    have b1 : Below w.heap.size w w1 := (below1 w _).grown g1 (by simp) (fun q hq => by simp [Value.ownBlock] at hq; omega)
    go_ret
    exact ⟨⟨_, rfl, o1⟩, b1⟩
/-- A circuit and a number. -/
def CirNum (l : List N) (n : Int) (w : World) (e : Ending) (w' : World) : Prop := ∃ A c, e = .returned (.tuple #[.slice A l.length c, .int .i64 n]) ∧ Cir w' A c l ∧ Below w.heap.size w w'
theorem put_in {l : List N} {n : N} {i : Nat} (h : Cx.idx l n = some i) : Cx.put l n = (l, (i : Int)) := by unfold Cx.put; rw [h]
theorem put_full {l : List N} {n : N} (h : Cx.idx l n = none) (hl : ¬ l.length < 20000) : Cx.put l n = (l, -1) := by unfold Cx.put; rw [h]; simp [hl]
theorem put_app {l : List N} {n : N} (h : Cx.idx l n = none) (hl : l.length < 20000) : Cx.put l n = (l ++ [n], (l.length : Int)) := by unfold Cx.put; rw [h]; simp [hl]
set_option maxHeartbeats 2000000 in
set_option maxRecDepth 100000 in
theorem intern_any (A : Option Addr) (c : Nat) (l : List N) (n : N) (w : World) (hl : l.length ≤ 20000) (hA : Cir w A c l) :
    Calls Tryz.prog 60 #[.slice A l.length c, .agg #[.int .i64 n.o, .int .i64 n.a, .int .i64 n.b]] w (CirNum (Cx.put l n).1 (Cx.put l n).2 w) := by
  obtain ⟨W, hW⟩ : ∃ W, W = w.alloc (.cells #[.int .i64 n.o, .int .i64 n.a, .int .i64 n.b] 58) := ⟨_, rfl⟩
  have hb : Below w.heap.size w W := by rw [hW]; exact below1 _ _
  have hn : At W w.heap.size 58 #[.int .i64 n.o, .int .i64 n.a, .int .i64 n.b] := by rw [hW]; exact At.new _ _ _
  have HW := Lib.hid hW
  clear hW
  have n0 := hn.cell 0; have n1 := hn.cell 1; have n2 := hn.cell 2
  simp at n0 n1 n2
  have hAW := hA.below hb
  obtain ⟨i0, hi, hz0, hz1, hz2⟩ := info_parts node_info
  cases hx : Cx.idx l n with
  | some i =>
    have HX := Lib.hid (show idxI l n = (i : Int) by unfold idxI; rw [hx])
    have HP := Lib.hid (put_in hx)
    have d1 : decide ((0 : Int) ≤ (i : Int)) = true := by simp
    go_enter Tryz.func60, Tryz.ntmps60
    go_wp2_with fail
    rw [← HW.out]
    refine (index_any A c l n _ (by omega) hAW.circ).mono ?_
    rintro e w1 ⟨rfl, b1⟩
    rw [HX.out]
    clear n0 n1 n2
    go_wp2_with fail
    go_ret2
    exact ⟨A, c, by rw [HP.out]; rfl, by rw [HP.out]; exact hAW.below b1, hb.trans (b1.mono hb.size)⟩
  | none =>
    have HX := Lib.hid (show idxI l n = -1 by unfold idxI; rw [hx])
    by_cases hf : l.length < 20000
    · have HP := Lib.hid (put_app hx hf)
      have d2 : ((l.length : Int) == 20000) = false := beq_eq_false_iff_ne.2 (by omega)
      clear hx
      go_enter Tryz.func60, Tryz.ntmps60
      go_wp2_with fail
      rw [← HW.out]
      refine (index_any A c l n _ (by omega) hAW.circ).mono ?_
      rintro e w1 ⟨rfl, b1⟩
      rw [HX.out]
      have hn1 := hn.next b1
      have hA1 := hAW.below b1
      have bw1 := hb.trans (b1.mono hb.size)
      clear n0 n1 n2
      have n0 := hn1.cell 0; have n1 := hn1.cell 1; have n2 := hn1.cell 2
      simp at n0 n1 n2
      go_wp2_with fail
      go_region_held_law (fun w' => w'.cell? ⟨w.heap.size, 0, none⟩ = some (.int .i64 n.o) ∧ w'.cell? ⟨w.heap.size, 1, none⟩ = some (.int .i64 n.a) ∧ w'.cell? ⟨w.heap.size, 2, none⟩ = some (.int .i64 n.b)) (first | (go_split_ands; exact ⟨by assumption, by assumption, by assumption⟩) | go_keep) ((first
        | (go_at_call 68; refine (clone_any A c l _ (by omega) (hA1.below (by first | exact (Below.refl _ _).drew | exact (below1 _ _).drew))).mono ?_
           rintro e w2 ⟨⟨v2, rfl, o2⟩, b2'⟩
           have b2 : Below w1.heap.size w1 w2 := by first | exact below_drew b2' | exact ((below1 w1 _).drew).trans (b2'.mono (by simp))
           first | (have z2 : At w2 w1.heap.size 58 #[.int .i64 n.o, .int .i64 n.a, .int .i64 n.b] := (At.drew (At.new w1 _ _)).below b2' (by simp)) | skip
           obtain ⟨a2, k2, rfl⟩ := own_len o2
           have hn2 := hn1.next b2
           have bw2 := bw1.trans (b2.mono bw1.size)
           have o2' : w2.ownsRow w.heap.size 58 3 (.slice a2 l.length k2) l.length (ncells l) := own_mono o2 (by have := bw1.size; simp; omega)
           have f2 : some w.heap.size ≠ (Value.slice a2 l.length k2).ownBlock := fun e => by
             have h1 := (own_lt o2 e.symm).1
             have h2 := hn1.lt
             simp at h1
             omega
           have n0 := hn2.cell 0; have n1 := hn2.cell 1; have n2 := hn2.cell 2
           simp at n0 n1 n2)
        | (refine step_append_lies _ (by rfl) (.tmp 19) (.tmp 21) 23 (by rfl) w.heap.size 58 i0 _ 3 24 Tryz.underlying23 hi hz0 hz1 hz2 (by rfl) (by omega) (.slice a2 l.length k2) l.length (ncells l) (by rfl) (by first | exact o2'.alloc _ | exact o2') _ 1 1 [.int .i64 n.o, .int .i64 n.a, .int .i64 n.b] (by rfl) (by rfl) (by first | exact At.news (At.new _ _ _) | exact At.news z2) (one3 rfl rfl rfl) (by omega) (by unfold maxLen; omega) (by omega) (by have := bw2.size; simp; try omega) _ rfl ?_
           intro g3 cap3 w3 o3 g3' hat3 hlt3
           have hn3 : At w3 w.heap.size 58 #[.int .i64 n.o, .int .i64 n.a, .int .i64 n.b] := At.grown (by first | exact hn2.alloc _ | exact hn2) g3' f2
           have bw3 : Below w.heap.size w w3 := Below.grown (by first | exact bw2.alloc bw2.size _ | exact bw2) g3' (by have := bw2.size; simp; try omega) (fun q hq => (own_lt o2' hq).1)
           have p0 := hn3.cell 0; have p1 := hn3.cell 1; have p2 := hn3.cell 2
           simp at p0 p1 p2)))
      all_goals
        clear n0 n1 n2 p0 p1 p2
        simp only [List.getElem_toArray, List.getElem_cons_succ, List.getElem_cons_zero, List.setIfInBounds_toArray, List.set_cons_zero, List.set_cons_succ]
        go_wp2_with fail
        go_ret2
        have o3' : w3.ownsRow w.heap.size 58 3 (.slice (some ⟨g3, 0, none⟩) (l.length + 1) cap3) (l ++ [n]).length (ncells (l ++ [n])) := by rw [ncells_app, List.length_append]; exact o3
        obtain ⟨A4, c4, e4, h4⟩ := cir_of_own o3'
        injection e4 with e5 _ e6
        subst e5; subst e6
        exact ⟨_, _, by rw [HP.out]; simp only [List.length_append, List.length_cons, List.length_nil]; rfl, by rw [HP.out]; exact h4, bw3⟩
    · have HP := Lib.hid (put_full hx hf)
      have d2 : ((l.length : Int) == 20000) = true := by rw [beq_iff_eq]; omega
      go_enter Tryz.func60, Tryz.ntmps60
      go_wp2_with fail
      rw [← HW.out]
      refine (index_any A c l n _ (by omega) hAW.circ).mono ?_
      rintro e w1 ⟨rfl, b1⟩
      rw [HX.out]
      clear n0 n1 n2
      go_wp2_with fail
      go_ret2
      exact ⟨A, c, by rw [HP.out]; rfl, by rw [HP.out]; exact hAW.below b1, hb.trans (b1.mono hb.size)⟩
end Go.Proofs.YtphmicbpkljmfaaGreat
namespace Go.Proofs.YtphmicbpkljmfaaGreat
set_option linter.unusedVariables false
set_option linter.unusedSimpArgs false
open Go.RowKit
open Cx (N)
theorem own_drew {w : World} {B : Nat} {e : TypeId} {size n : Nat} {v : Value} {xs : List Value} (h : w.ownsRow B e size v n xs) : w.drew.ownsRow B e size v n xs := h
theorem one_ncells (n : N) : ncells [n] = [.int .i64 n.o, .int .i64 n.a, .int .i64 n.b] := rfl
end Go.Proofs.YtphmicbpkljmfaaGreat
namespace Go.Proofs.YtphmicbpkljmfaaGreat
set_option linter.unusedVariables false
set_option linter.unusedSimpArgs false
open Go.RowKit
open Cx (N)
theorem in_val (A : Option Addr) (k : Nat) (l : List N) (n : Int) (r : Bool) (w : World) (hl : l.length ≤ 9223372036854775807) (hr : Cx.isIn l n = r) : Calls Tryz.prog 43 #[.slice A l.length k, .int .i64 n] w fun e w' => e = .returned (.bool r) ∧ w = w' := by
  subst hr; exact in_any A k l n w hl
def joinM (l : List N) (op m M zr al : Int) : List N × Int :=
  if m < 0 ∨ (l.length : Int) ≤ M then (l, -1) else if m = al ∨ M = al then (l, al) else if m = zr ∨ m = M then (l, M) else if M = zr then (l, m) else Cx.put l ⟨op, m, M⟩
theorem isIn_iff (l : List N) (a : Int) : Cx.isIn l a = false ↔ a < 0 ∨ (l.length : Int) ≤ a := by
  unfold Cx.isIn
  rw [Bool.eq_false_iff]
  simp only [ne_eq, Bool.and_eq_true, decide_eq_true_eq]
  omega
theorem two_join (l : List N) (op a b zr al : Int) : Cx.two l op a b zr al = joinM l op (min a b) (max a b) zr al := by
  unfold Cx.two joinM
  simp only [isIn_iff]
  rcases Int.le_total a b with h | h
  · rw [Int.min_eq_left h, Int.max_eq_right h]
    repeat' split
    all_goals first | rfl | (exfalso; omega) | (rw [Prod.mk.injEq]; exact ⟨rfl, by omega⟩)
  · rw [Int.min_eq_right h, Int.max_eq_left h]
    repeat' split
    all_goals first | rfl | (exfalso; omega) | (rw [Prod.mk.injEq]; exact ⟨rfl, by omega⟩)
set_option maxHeartbeats 4000000 in
theorem join_any (A : Option Addr) (c : Nat) (l : List N) (op a b zr al : Int) (w : World) (hl : l.length ≤ 20000) (hA : Cir w A c l) :
    Calls Tryz.prog 45 #[.slice A l.length c, .int .i64 op, .int .i64 a, .int .i64 b, .int .i64 zr, .int .i64 al] w (CirNum (Cx.two l op a b zr al).1 (Cx.two l op a b zr al).2 w) := by
  rw [two_join]
  obtain ⟨m, hm⟩ : ∃ m, min a b = m := ⟨_, rfl⟩
  obtain ⟨M, hM⟩ : ∃ M, max a b = M := ⟨_, rfl⟩
  rw [hm, hM]
  obtain ⟨J, hJ⟩ : ∃ J, joinM l op m M zr al = J := ⟨_, rfl⟩
  rw [hJ]
  have HJ := Lib.hid hJ.symm
  clear hJ
  unfold joinM at HJ
  by_cases q1 : m < 0
  · have HV := Lib.hid (HJ.out.trans (if_pos (Or.inl q1)))
    have d1 : decide (m < 0) = true := by simpa using q1
    clear q1 HJ
    go_enter Tryz.func45, Tryz.ntmps45
    go_wp2_with fail
    go_ret2
    exact ⟨A, c, by rw [HV.out]; rfl, by rw [HV.out]; exact hA, Below.refl _ _⟩
  have d1 : decide (m < 0) = false := by simpa using q1
  by_cases q2 : (l.length : Int) ≤ M
  · have HV := Lib.hid (HJ.out.trans (if_pos (Or.inr q2)))
    have d2 : decide ((l.length : Int) ≤ M) = true := by simpa using q2
    clear q1 q2 HJ
    go_enter Tryz.func45, Tryz.ntmps45
    go_wp2_with fail
    go_ret2
    exact ⟨A, c, by rw [HV.out]; rfl, by rw [HV.out]; exact hA, Below.refl _ _⟩
  have d2 : decide ((l.length : Int) ≤ M) = false := by simpa using q2
  have H1 := Lib.hid (HJ.out.trans (if_neg (fun h => h.elim q1 q2)))
  clear q1 q2 HJ
  by_cases q1 : m = al
  · have HV := Lib.hid (H1.out.trans (if_pos (Or.inl q1)))
    have d3 : (m == al) = true := by simpa using q1
    clear q1 H1
    go_enter Tryz.func45, Tryz.ntmps45
    go_wp2_with fail
    go_ret2
    exact ⟨A, c, by rw [HV.out]; rfl, by rw [HV.out]; exact hA, Below.refl _ _⟩
  have d3 : (m == al) = false := by simpa using q1
  by_cases q2 : M = al
  · have HV := Lib.hid (H1.out.trans (if_pos (Or.inr q2)))
    have d4 : (M == al) = true := by simpa using q2
    clear q1 q2 H1
    go_enter Tryz.func45, Tryz.ntmps45
    go_wp2_with fail
    go_ret2
    exact ⟨A, c, by rw [HV.out]; rfl, by rw [HV.out]; exact hA, Below.refl _ _⟩
  have d4 : (M == al) = false := by simpa using q2
  have H2 := Lib.hid (H1.out.trans (if_neg (fun h => h.elim q1 q2)))
  clear q1 q2 H1
  by_cases q1 : m = zr
  · have HV := Lib.hid (H2.out.trans (if_pos (Or.inl q1)))
    have d5 : (m == zr) = true := by simpa using q1
    clear q1 H2
    go_enter Tryz.func45, Tryz.ntmps45
    go_wp2_with fail
    go_ret2
    exact ⟨A, c, by rw [HV.out]; rfl, by rw [HV.out]; exact hA, Below.refl _ _⟩
  have d5 : (m == zr) = false := by simpa using q1
  by_cases q2 : m = M
  · have HV := Lib.hid (H2.out.trans (if_pos (Or.inr q2)))
    have d6 : (m == M) = true := by simpa using q2
    clear q1 q2 H2
    go_enter Tryz.func45, Tryz.ntmps45
    go_wp2_with fail
    go_ret2
    exact ⟨A, c, by rw [HV.out]; rfl, by rw [HV.out]; exact hA, Below.refl _ _⟩
  have d6 : (m == M) = false := by simpa using q2
  have H3 := Lib.hid (H2.out.trans (if_neg (fun h => h.elim q1 q2)))
  clear q1 q2 H2
  by_cases q1 : M = zr
  · have HV := Lib.hid (H3.out.trans (if_pos q1))
    have d7 : (M == zr) = true := by simpa using q1
    clear q1 H3
    go_enter Tryz.func45, Tryz.ntmps45
    go_wp2_with fail
    go_ret2
    exact ⟨A, c, by rw [HV.out]; rfl, by rw [HV.out]; exact hA, Below.refl _ _⟩
  have d7 : (M == zr) = false := by simpa using q1
  have HV := Lib.hid (H3.out.trans (if_neg q1))
  clear q1 H3
  go_enter Tryz.func45, Tryz.ntmps45
  go_wp2_with fail
  refine (intern_any A c l ⟨op, m, M⟩ _ hl hA).mono ?_
  rintro e w1 ⟨A1, c1, rfl, h1, b1⟩
  go_wp2_with fail
  go_ret2
  exact ⟨A1, c1, by rw [HV.out]; rfl, by rw [HV.out]; exact h1, b1⟩
theorem plus_any (A : Option Addr) (c : Nat) (l : List N) (a b : Int) (w : World) (hl : l.length ≤ 20000) (hA : Cir w A c l) :
    Calls Tryz.prog 18 #[.slice A l.length c, .int .i64 a, .int .i64 b] w (CirNum (Cx.plus l a b).1 (Cx.plus l a b).2 w) := by
  unfold Cx.plus
  go_enter Tryz.func18, Tryz.ntmps18
  go_wp2_with fail
  refine (join_any A c l 3 a b 0 1 _ hl hA).mono ?_
  rintro e w1 ⟨A1, c1, rfl, h1, b1⟩
  go_wp2_with fail
  go_ret2
  exact ⟨A1, c1, rfl, h1, b1⟩
theorem times_any (A : Option Addr) (c : Nat) (l : List N) (a b : Int) (w : World) (hl : l.length ≤ 20000) (hA : Cir w A c l) :
    Calls Tryz.prog 19 #[.slice A l.length c, .int .i64 a, .int .i64 b] w (CirNum (Cx.times l a b).1 (Cx.times l a b).2 w) := by
  unfold Cx.times
  go_enter Tryz.func19, Tryz.ntmps19
  go_wp2_with fail
  refine (join_any A c l 4 a b 1 0 _ hl hA).mono ?_
  rintro e w1 ⟨A1, c1, rfl, h1, b1⟩
  go_wp2_with fail
  go_ret2
  exact ⟨A1, c1, rfl, h1, b1⟩
end Go.Proofs.YtphmicbpkljmfaaGreat
namespace Go.Proofs.YtphmicbpkljmfaaGreat
set_option linter.unusedVariables false
set_option linter.unusedSimpArgs false
open Go.RowKit
open Cx (N M)
/-- A slice's cells hold these calls. -/
def Makes (w : World) (A : Option Addr) (l : List M) : Prop :=
  l ≠ [] → ∃ g o, A = some ⟨g, o, none⟩ ∧ g < w.heap.size ∧ ∀ (k : Nat) (v : M), l[k]? = some v → v.a < 256 ∧ v.b < 256 ∧ w.cell? ⟨g, o + k * 3, none⟩ = some (.int .i64 v.o) ∧ w.cell? ⟨g, o + k * 3 + 1, none⟩ = some (.int .u8 (v.a : Int)) ∧ w.cell? ⟨g, o + k * 3 + 2, none⟩ = some (.int .u8 (v.b : Int))
theorem Makes.below {w w' : World} {A : Option Addr} {l : List M} (h : Makes w A l) (hb : Below w.heap.size w w') : Makes w' A l := fun hn => by
  obtain ⟨g, o, e, hg, hc⟩ := h hn
  refine ⟨g, o, e, Nat.lt_of_lt_of_le hg hb.size, fun k v hv => ?_⟩
  obtain ⟨z1, z2, a, b, c⟩ := hc k v hv
  exact ⟨z1, z2, (hb.cell (p := ⟨g, o + k * 3, none⟩) hg).trans a, (hb.cell (p := ⟨g, o + k * 3 + 1, none⟩) hg).trans b, (hb.cell (p := ⟨g, o + k * 3 + 2, none⟩) hg).trans c⟩
theorem Makes.at {w : World} {A : Option Addr} {l : List M} (h : Makes w A l) {k : Nat} (hk : k < l.length) :
    ∃ g o, A = some ⟨g, o, none⟩ ∧ g < w.heap.size ∧ l[k].a < 256 ∧ l[k].b < 256 ∧ w.cell? ⟨g, o + k * 3, none⟩ = some (.int .i64 l[k].o) ∧ w.cell? ⟨g, o + k * 3 + 1, none⟩ = some (.int .u8 (l[k].a : Int)) ∧ w.cell? ⟨g, o + k * 3 + 2, none⟩ = some (.int .u8 (l[k].b : Int)) := by
  obtain ⟨g, o, e, hg, hc⟩ := h (by intro h; rw [h] at hk; simp at hk)
  exact ⟨g, o, e, hg, hc _ _ (List.getElem?_eq_getElem hk)⟩
/-- A circuit in memory. -/
def CirOut (l : List N) (w : World) (e : Ending) (w' : World) : Prop := ∃ A c, e = .returned (.slice A l.length c) ∧ Cir w' A c l ∧ Below w.heap.size w w'
theorem put_len (l : List N) (n : N) : l.length ≤ (Cx.put l n).1.length ∧ (Cx.put l n).1.length ≤ l.length + 1 := by
  unfold Cx.put
  split
  · exact ⟨Nat.le_refl _, by simp⟩
  · split
    · simp
    · exact ⟨Nat.le_refl _, by simp⟩
theorem two_len (l : List N) (op a b z o : Int) : l.length ≤ (Cx.two l op a b z o).1.length ∧ (Cx.two l op a b z o).1.length ≤ l.length + 1 := by
  unfold Cx.two
  repeat' split
  all_goals first | exact put_len _ _ | exact ⟨Nat.le_refl _, by simp⟩
theorem var_len (l : List N) (n : Int) : l.length ≤ (Cx.var l n).1.length ∧ (Cx.var l n).1.length ≤ l.length + 1 := by
  unfold Cx.var
  split
  · exact ⟨Nat.le_refl _, by simp⟩
  · exact put_len _ _
theorem step_len (l : List N) (m : M) : l.length ≤ (Cx.step l m).length ∧ (Cx.step l m).length ≤ l.length + 1 := by
  unfold Cx.step
  split
  · exact var_len _ _
  · split
    · exact two_len _ _ _ _ _ _
    · split
      · exact two_len _ _ _ _ _ _
      · exact ⟨Nat.le_refl _, by simp⟩
theorem build_len (ms : List M) : 2 ≤ (Cx.build ms).length ∧ (Cx.build ms).length ≤ ms.length + 2 := by
  unfold Cx.build
  have key : ∀ (ms : List M) (l : List N), l.length ≤ (ms.foldl Cx.step l).length ∧ (ms.foldl Cx.step l).length ≤ ms.length + l.length := by
    intro ms
    induction ms with
    | nil => intro l; simp
    | cons m ms ih =>
      intro l
      have h1 := ih (Cx.step l m)
      have h2 := step_len l m
      simp only [List.foldl_cons, List.length_cons]
      omega
  exact key ms Cx.new
/-- The circuit that the first k calls build. -/
def BuildAt (ms : List M) (k : Nat) (l : List N) : Prop := l = Cx.build (ms.take k)
theorem BuildAt.more {ms : List M} {k : Nat} {l : List N} {m : M} (h : BuildAt ms k l) (hm : ms[k]? = some m) : BuildAt ms (k + 1) (Cx.step l m) := by
  unfold BuildAt at *
  rw [take_more hm, h]
  unfold Cx.build
  rw [List.foldl_append]; rfl
theorem BuildAt.len {ms : List M} {k : Nat} {l : List N} (h : BuildAt ms k l) : 2 ≤ l.length ∧ l.length ≤ k + 2 := by
  unfold BuildAt at h
  have := build_len (ms.take k)
  rw [← h] at this
  have : (ms.take k).length ≤ k := List.length_take_le _ _
  omega
end Go.Proofs.YtphmicbpkljmfaaGreat
namespace Go.Proofs.YtphmicbpkljmfaaGreat
set_option linter.unusedVariables false
set_option linter.unusedSimpArgs false
open Go.RowKit
open Cx (N)
/-- Two lists of one length that agree everywhere are one. -/
theorem eq_of_all {α : Type} {l m : List α} (hl : l.length = m.length) (h : ∀ j, j < l.length → l[j]? = m[j]?) : l = m := by
  apply List.ext_getElem? ; intro i
  rcases Nat.lt_or_ge i l.length with h1 | h1
  · exact h i h1
  · rw [List.getElem?_eq_none h1, List.getElem?_eq_none (by omega)]
theorem ne_of_one {α : Type} {l m : List α} {k : Nat} {x y : α} (h1 : l[k]? = some x) (h2 : m[k]? = some y) (h : x ≠ y) : l ≠ m := by
  rintro rfl; rw [h1] at h2; exact h (Option.some.inj h2)
end Go.Proofs.YtphmicbpkljmfaaGreat
namespace Go.Proofs.YtphmicbpkljmfaaGreat
set_option linter.unusedVariables false
set_option linter.unusedSimpArgs false
open Go.RowKit
open Cx (N)
theorem ok_cases (n : N) (i : Int) : Cx.okB n i = if n.o = 2 then decide (0 ≤ n.a) && (n.b == 0) else if n.o = 3 ∨ n.o = 4 then decide (2 ≤ n.a) && decide (n.a < n.b) && decide (n.b < i) else false := by
  unfold Cx.okB Cx.leafB Cx.binary
  by_cases h2 : n.o = 2
  · have h3 : ¬ n.o = 3 := by omega
    have h4 : ¬ n.o = 4 := by omega
    rw [if_pos h2, decide_eq_true h2, decide_eq_false h3, decide_eq_false h4, Bool.eq_iff_iff]
    simp
  · by_cases h3 : n.o = 3
    · rw [if_neg h2, if_pos (Or.inl h3), decide_eq_false h2, decide_eq_true h3]; simp
    · by_cases h4 : n.o = 4
      · rw [if_neg h2, if_pos (Or.inr h4), decide_eq_false h2, decide_eq_true h4]; simp
      · rw [if_neg h2, if_neg (by omega), decide_eq_false h2, decide_eq_false h3, decide_eq_false h4]; simp
set_option maxHeartbeats 1000000 in
theorem ok_any (n : N) (i : Int) (w : World) : Calls Tryz.prog 59 #[.agg #[.int .i64 n.o, .int .i64 n.a, .int .i64 n.b], .int .i64 i] w fun e w' => e = .returned (.bool (Cx.okB n i)) ∧ Below w.heap.size w w' := by
  have hE := ok_cases n i
  obtain ⟨R, hR⟩ : ∃ R, R = Cx.okB n i := ⟨_, rfl⟩
  rw [← hR] at hE ⊢
  have HE := Lib.hid hE
  clear hR hE
  by_cases h2 : n.o = 2
  · have t2 : (n.o == 2) = true := by simpa using h2
    have HR := Lib.hid (show R = (decide (0 ≤ n.a) && (n.b == 0)) by rw [HE.out, if_pos h2])
    clear h2
    cases h3 : decide (0 ≤ n.a) <;> cases h4 : (n.b == 0)
    all_goals
      go_enter Tryz.func59, Tryz.ntmps59
      go_wp2_with fail
      go_ret
      exact ⟨by rw [HR.out, h3, h4]; rfl, below1 _ _⟩
  · have t2 : (n.o == 2) = false := by simpa using h2
    by_cases h3 : n.o = 3
    · have t3 : (n.o == 3) = true := by simpa using h3
      have HR := Lib.hid (show R = (decide (2 ≤ n.a) && decide (n.a < n.b) && decide (n.b < i)) by rw [HE.out, if_neg h2, if_pos (Or.inl h3)])
      clear h2 h3
      cases h4 : decide (2 ≤ n.a) <;> cases h5 : decide (n.a < n.b) <;> cases h6 : decide (n.b < i)
      all_goals
        go_enter Tryz.func59, Tryz.ntmps59
        go_wp2_with fail
        go_ret
        exact ⟨by rw [HR.out, h4, h5, h6]; rfl, below1 _ _⟩
    · have t3 : (n.o == 3) = false := by simpa using h3
      by_cases h4 : n.o = 4
      · have t4 : (n.o == 4) = true := by simpa using h4
        have HR := Lib.hid (show R = (decide (2 ≤ n.a) && decide (n.a < n.b) && decide (n.b < i)) by rw [HE.out, if_neg h2, if_pos (Or.inr h4)])
        clear h2 h3 h4
        cases h4 : decide (2 ≤ n.a) <;> cases h5 : decide (n.a < n.b) <;> cases h6 : decide (n.b < i)
        all_goals
          go_enter Tryz.func59, Tryz.ntmps59
          go_wp2_with fail
          go_ret
          exact ⟨by rw [HR.out, h4, h5, h6]; rfl, below1 _ _⟩
      · have t4 : (n.o == 4) = false := by simpa using h4
        have HR := Lib.hid (show R = false by rw [HE.out, if_neg h2, if_neg (by omega)])
        clear h2 h3 h4
        go_enter Tryz.func59, Tryz.ntmps59
        go_wp2_with fail
        go_ret
        exact ⟨by rw [HR.out]; rfl, below1 _ _⟩
def icells (l : List Int) : List Value := l.map (fun x => .int .i64 x)
theorem icells_app (l r : List Int) : icells (l ++ r) = icells l ++ icells r := by simp [icells]
theorem icells_len (l : List Int) : (icells l).length = l.length := by simp [icells]
theorem icells_one (l : List Int) : ∀ u ∈ icells l, u.oneCell' = true := by
  intro u hu; simp [icells] at hu; obtain ⟨x, _, rfl⟩ := hu; rfl
theorem int_info : (Tryz.prog.info? 3).map (fun i => (i.zero, i.size, i.bytes)) = some (some (.int .i64 0), 1, 8) := by kernel_rfl
/-- Numbers as a slice. -/
structure Ns (w : World) (A : Option Addr) (c : Nat) (l : List Int) : Prop where
  nums : Nums w A l
  le : l.length ≤ c
  cap : c ≤ maxLen
  none : A = none → l.length = 0 ∧ c = 0
theorem Ns.below {w w' : World} {A : Option Addr} {c : Nat} {l : List Int} (h : Ns w A c l) (hb : Below w.heap.size w w') : Ns w' A c l := ⟨h.nums.below hb, h.le, h.cap, h.none⟩
theorem nums_news {w : World} {A : Option Addr} {l : List Int} (h : Nums w A l) : ∀ ad, A = some ad → ∀ j u, (icells l)[j]? = some u → w.cell? (ad.add j) = some u := by
  intro ad hA j u hu
  simp only [icells, List.getElem?_map, Option.map_eq_some_iff] at hu
  obtain ⟨x, hx, rfl⟩ := hu
  obtain ⟨g, o, e, hg, hc⟩ := h (by intro e; rw [e] at hx; simp at hx)
  rw [hA] at e
  obtain rfl := Option.some.inj e
  rw [add_at]
  exact hc _ _ hx
theorem ns_of_own {w : World} {B : Nat} {v : Value} {l : List Int} (h : w.ownsRow B 3 1 v l.length (icells l)) : ∃ A c, v = .slice A l.length c ∧ Ns w A c l := by
  obtain ⟨A, c, hv, h1, h2, h3⟩ := own_cells h
  refine ⟨A, c, hv, ⟨fun hn => ?_, h1, h2, fun hA => ?_⟩⟩
  · rcases h3 with h3 | ⟨g, rfl, hB, hg, hc⟩
    · exact absurd (List.length_eq_zero_iff.1 h3) hn
    · refine ⟨g, 0, rfl, hg, fun k x hx => ?_⟩
      rw [Nat.zero_add]
      refine hc _ _ ?_
      simp [icells, hx]
  · subst hA
    rcases h.2 with ⟨e, hz⟩ | ⟨g, cap, cur, e, _⟩
    · rw [hv] at e; injection e with _ h4 h5; exact ⟨h4, h5⟩
    · rw [hv] at e; injection e with h4 _ _; cases h4
/-- Numbers in memory. -/
def NumsOut (l : List Int) (w : World) (e : Ending) (w' : World) : Prop := ∃ A c, e = .returned (.slice A l.length c) ∧ Ns w' A c l ∧ Below w.heap.size w w'
/-- A slice's cells hold these bytes. -/
def Raws (w : World) (A : Option Addr) (xs : List UInt8) : Prop :=
  xs ≠ [] → ∃ g o, A = some ⟨g, o, none⟩ ∧ g < w.heap.size ∧ ∀ (k : Nat) (x : UInt8), xs[k]? = some x → w.cell? ⟨g, o + k, none⟩ = some (.int .u8 (x.toNat : Int))
theorem Raws.below {w w' : World} {A : Option Addr} {xs : List UInt8} (h : Raws w A xs) (hb : Below w.heap.size w w') : Raws w' A xs := fun hn => by
  obtain ⟨g, o, e, hg, hc⟩ := h hn
  exact ⟨g, o, e, Nat.lt_of_lt_of_le hg hb.size, fun k x hx => (hb.cell hg).trans (hc k x hx)⟩
theorem Raws.at {w : World} {A : Option Addr} {xs : List UInt8} (h : Raws w A xs) {k : Nat} (hk : k < xs.length) : ∃ g o, A = some ⟨g, o, none⟩ ∧ g < w.heap.size ∧ w.cell? ⟨g, o + k, none⟩ = some (.int .u8 (xs[k].toNat : Int)) := by
  obtain ⟨g, o, e, hg, hc⟩ := h (by intro h; rw [h] at hk; simp at hk)
  exact ⟨g, o, e, hg, hc _ _ (List.getElem?_eq_getElem hk)⟩
def ints (xs : List UInt8) : List Int := xs.map (fun x => (x.toNat : Int))
theorem ints_len (xs : List UInt8) : (ints xs).length = xs.length := by simp [ints]
/-- The first k of the numbers. -/
def IntsAt (xs : List UInt8) (k : Nat) (l : List Int) : Prop := l = ints (xs.take k)
theorem IntsAt.more {xs : List UInt8} {k : Nat} {l : List Int} {x : UInt8} (h : IntsAt xs k l) (hx : xs[k]? = some x) : IntsAt xs (k + 1) (l ++ [(x.toNat : Int)]) := by
  unfold IntsAt at *
  rw [take_more hx, h]; simp [ints]
def beginsB (l m : List N) : Bool := decide (l.length ≤ m.length) && decide (m.length ≤ l.length + 1) && decide (l = m.take l.length)
end Go.Proofs.YtphmicbpkljmfaaGreat
