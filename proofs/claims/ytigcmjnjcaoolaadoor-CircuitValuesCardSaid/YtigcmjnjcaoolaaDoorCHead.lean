/- The walk of the head: fixed examples. -/
import Derived.Test.YtigcmjnjcaoolaaDoorCOwn
import Derived.Test.YtigcmjnjcaoolaaDoorCVars
import Derived.Test.YtigcmjnjcaoolaaDoorCText2
import Derived.Test.YtigcmjnjcaoolaaDoorCValid
import Derived.Test.YtigcmjnjcaoolaaDoorCEval2
import Derived.Test.YtigcmjnjcaoolaaDoorCSame
import Derived.Test.YtigcmjnjcaoolaaDoorTwo
import Derived.WalkSmall
namespace Go.Proofs.YtigcmjnjcaoolaaDoor
set_option linter.unusedVariables false
set_option linter.unusedSimpArgs false
open Go.RowKit
open Cx (N)
def H1 : List N := [Cx.zero, Cx.one, ⟨2, 0, 0⟩]
def H2 : List N := [Cx.zero, Cx.one, ⟨2, 0, 0⟩, ⟨2, 1, 0⟩]
def H3 : List N := [Cx.zero, Cx.one, ⟨2, 0, 0⟩, ⟨2, 1, 0⟩, ⟨3, 2, 3⟩]
def H4 : List N := [Cx.zero, Cx.one, ⟨2, 0, 0⟩, ⟨2, 1, 0⟩, ⟨3, 2, 3⟩, ⟨4, 2, 4⟩]
def H5 : List N := [Cx.zero, Cx.one, ⟨2, 0, 0⟩, ⟨2, 1, 0⟩, ⟨3, 2, 3⟩, ⟨4, 2, 4⟩, ⟨2, 0, 0⟩]
theorem good_H4 : Cx.Good H4 := by
  have h : Cx.build [⟨2, 0, 0⟩, ⟨2, 1, 0⟩, ⟨3, 2, 3⟩, ⟨4, 4, 2⟩] = H4 := by decide
  rw [← h]; exact Cx.good_build _
theorem ngood_H4 : ∀ n ∈ H4, NGood n := by
  intro n hn
  simp [H4] at hn
  rcases hn with rfl | rfl | rfl | rfl | rfl | rfl <;> simp [NGood, I64, Cx.zero, Cx.one]
theorem ngood_H5 : ∀ n ∈ H5, NGood n := by
  intro n hn
  simp [H5] at hn
  rcases hn with rfl | rfl | rfl | rfl | rfl | rfl | rfl <;> simp [NGood, I64, Cx.zero, Cx.one]
theorem head_texts : Cx.text H4 5 99 = [40, 120, 48, 32, 42, 32, 40, 120, 48, 32, 43, 32, 120, 49, 41, 41] ∧ Cx.text H4 5 15 = [] := by
  have d0 : Lib.itoa 0 = [48] := by rw [itoa_nat (by omega)]; exact dec_one (by decide)
  have d1 : Lib.itoa 1 = [49] := by rw [itoa_nat (by omega)]; exact dec_one (by decide)
  have t2 : Cx.textAt H4 2 = [120, 48] := by rw [Cx.text_var (v := ⟨2, 0, 0⟩) rfl rfl, d0]
  have t3 : Cx.textAt H4 3 = [120, 49] := by rw [Cx.text_var (v := ⟨2, 1, 0⟩) rfl rfl, d1]
  have t4 : Cx.textAt H4 4 = [40, 120, 48, 32, 43, 32, 120, 49, 41] := by rw [Cx.text_two (v := ⟨3, 2, 3⟩) (a := 2) (b := 3) rfl (by decide) rfl rfl (by decide) (by decide), t2, t3]; rfl
  have t5 : Cx.textAt H4 5 = [40, 120, 48, 32, 42, 32, 40, 120, 48, 32, 43, 32, 120, 49, 41, 41] := by rw [Cx.text_two (v := ⟨4, 2, 4⟩) (a := 2) (b := 4) rfl (by decide) rfl rfl (by decide) (by decide), t2, t4]; rfl
  have s2 : Cx.sizeAt H4 2 = 2 := by rw [Cx.size_var (v := ⟨2, 0, 0⟩) rfl rfl, d0]; rfl
  have s3 : Cx.sizeAt H4 3 = 2 := by rw [Cx.size_var (v := ⟨2, 1, 0⟩) rfl rfl, d1]; rfl
  have s4 : Cx.sizeAt H4 4 = 9 := by rw [Cx.size_two (v := ⟨3, 2, 3⟩) (a := 2) (b := 3) rfl (by decide) rfl rfl (by decide) (by decide), s2, s3]; decide
  have s5 : Cx.sizeAt H4 5 = 16 := by rw [Cx.size_two (v := ⟨4, 2, 4⟩) (a := 2) (b := 4) rfl (by decide) rfl rfl (by decide) (by decide), s2, s4]; decide
  constructor
  · rw [show (5 : Int) = ((5 : Nat) : Int) from rfl, text_in (by decide), s5, if_neg (by omega)]; exact t5
  · rw [show (5 : Int) = ((5 : Nat) : Int) from rfl, text_in (by decide), s5, if_pos (by omega)]
/-- The spare cells behind six nodes hold a seventh one. -/
def Spare (gc : Nat) (w : World) : Prop := w.cell? ⟨gc, 18, none⟩ = some (.int .i64 2) ∧ w.cell? ⟨gc, 19, none⟩ = some (.int .i64 0) ∧ w.cell? ⟨gc, 20, none⟩ = some (.int .i64 0)
theorem Spare.next {gc : Nat} {w w' : World} (h : Spare gc w) (hb : Below w.heap.size w w') : Spare gc w' := by
  have hl := World.block_lt_of_cell? w _ h.1
  exact ⟨(hb.cell hl).trans h.1, (hb.cell (p := ⟨gc, 19, none⟩) hl).trans h.2.1, (hb.cell (p := ⟨gc, 20, none⟩) hl).trans h.2.2⟩
/-- What an operation of the head's last statement may do. -/
structure HRel (gc : Nat) (w w' : World) : Prop where
  grown : w.grownBy w' (some gc)
  spare : Spare gc w → Spare gc w'
theorem HRel.refl (gc : Nat) (w : World) : HRel gc w w := ⟨grown_refl _ _, id⟩
theorem HRel.of {gc : Nat} {w w' : World} (hb : Below w.heap.size w w') : HRel gc w w' := ⟨grown_of_below hb _, fun h => h.next hb⟩
/-- What holds on the way. -/
structure HJ (w0 : World) (gc k6 : Nat) (W w : World) : Prop where
  t0 : Tab w0
  below : Below w0.heap.size w0 w
  own : w.ownsRow w0.heap.size 50 3 (.slice (some ⟨gc, 0, none⟩) 6 k6) 6 (ncells H4)
  size : W.heap.size ≤ w.heap.size
theorem HJ.next {w0 W w w' : World} {gc k6 : Nat} (h : HJ w0 gc k6 W w) (hb : Below w.heap.size w w') : HJ w0 gc k6 W w' :=
  ⟨h.t0, h.below.trans (hb.mono h.below.size), own_below h.own hb, Nat.le_trans h.size hb.size⟩
theorem HJ.tab {w0 W w : World} {gc k6 : Nat} (h : HJ w0 gc k6 W w) : Tab w := h.t0.next h.below
theorem HJ.low {w0 W w : World} {gc k6 : Nat} (h : HJ w0 gc k6 W w) : w0.heap.size ≤ w.heap.size := h.below.size
theorem HJ.cir {w0 W w : World} {gc k6 : Nat} (h : HJ w0 gc k6 W w) : Cir w (some ⟨gc, 0, none⟩) k6 H4 := by
  obtain ⟨A, c, e, hc⟩ := cir_of_own (l := H4) h.own
  injection e with e1 _ e2
  subst e1; subst e2
  exact hc
theorem HJ.circ {w0 W w : World} {gc k6 : Nat} (h : HJ w0 gc k6 W w) : Circ w (some ⟨gc, 0, none⟩) H4 := h.cir.circ
theorem h4cells {w : World} {gc : Nat} (h : Circ w (some ⟨gc, 0, none⟩) H4) : w.cell? ⟨gc, 6, none⟩ = some (.int .i64 2) ∧ w.cell? ⟨gc, 7, none⟩ = some (.int .i64 0) ∧ w.cell? ⟨gc, 8, none⟩ = some (.int .i64 0) := by
  obtain ⟨g, o, e, _, hc⟩ := h (by simp [H4])
  simp at e
  obtain ⟨rfl, rfl⟩ := e
  have := hc 2 ⟨2, 0, 0⟩ rfl
  simpa using this
/-- A slice in a new block of the call's own. -/
def FreshSl (B n : Nat) (t : TypeId) (cs : List Value) : Value → World → Prop := fun x w => ∃ b, x = .slice (some ⟨b, 0, none⟩) n n ∧ B ≤ b ∧ At w b t cs.toArray
theorem lasting_freshSl {J : World → Prop} {gc B : Nat} (h : gc < B) (n : Nat) (t : TypeId) (cs : List Value) : Lasting J (HRel gc) (FreshSl B n t cs) := fun x w w' _ hr ⟨b, e, hb, ha⟩ => ⟨b, e, hb, ha.grown hr.grown (fun e => by injection e; omega)⟩
theorem lasting_ownSl2 {J : World → Prop} {gc B : Nat} (h : gc < B) (n : Nat) (cs : List Value) : Lasting J (HRel gc) (OwnSl B n cs) := fun x w w' _ hr ⟨b, k, e, ho⟩ =>
  ⟨b, k, e, ho.kept hr.grown (Or.inr (fun e' => by have := (own_lt ho e').1; omega))⟩
/-- The circuit with a node more, in the spare room or in a new row. -/
structure CirG (gc B k6 g k : Nat) (w : World) : Prop where
  cap : 7 ≤ k ∧ k ≤ maxLen
  is : (g = gc ∧ k = k6 ∧ Spare gc w) ∨ (B ≤ g ∧ w.ownsRow B 50 3 (.slice (some ⟨g, 0, none⟩) 7 k) 7 (ncells H5))
def GrownC (gc B k6 : Nat) : Value → World → Prop := fun x w => ∃ g k, x = .slice (some ⟨g, 0, none⟩) 7 k ∧ CirG gc B k6 g k w
theorem lasting_grownC {J : World → Prop} {gc B k6 : Nat} (h : gc < B) : Lasting J (HRel gc) (GrownC gc B k6) := fun x w w' _ hr ⟨g, k, e, hc, hi⟩ => by
  refine ⟨g, k, e, hc, ?_⟩
  rcases hi with ⟨h1, h2, h3⟩ | ⟨h1, h2⟩
  · exact Or.inl ⟨h1, h2, hr.spare h3⟩
  · exact Or.inr ⟨h1, h2.kept hr.grown (Or.inr (fun e' => by simp [Value.ownBlock] at e'; omega))⟩
theorem CirG.cir {w0 W w : World} {gc B k6 g k : Nat} (h : CirG gc B k6 g k w) (hj : HJ w0 gc k6 W w) : Cir w (some ⟨g, 0, none⟩) k H5 := by
  rcases h.is with ⟨rfl, rfl, h1, h2, h3⟩ | ⟨_, ho⟩
  · refine ⟨fun _ => ?_, h.cap.1, h.cap.2, fun e => by cases e⟩
    obtain ⟨g', o', e, hlt, hc⟩ := hj.circ (by simp [H4])
    simp at e
    obtain ⟨rfl, rfl⟩ := e
    refine ⟨g, 0, rfl, hlt, fun i v hv => ?_⟩
    rcases Nat.lt_or_ge i 6 with h6 | h6
    · refine hc i v ?_
      rw [show H5 = H4 ++ [⟨2, 0, 0⟩] from rfl, List.getElem?_append_left (by simpa [H4] using h6)] at hv
      exact hv
    · have : i = 6 := by
        have := (List.getElem?_eq_some_iff.1 hv).1
        simp [H5] at this; omega
      subst this
      have : v = ⟨2, 0, 0⟩ := (Option.some.inj hv).symm
      subst this
      exact ⟨h1, h2, h3⟩
  · obtain ⟨A, c, e, hc⟩ := cir_of_own (l := H5) ho
    injection e with e1 _ e2
    subst e1; subst e2
    exact hc
theorem grow_step {w0 W w w2 : World} {gc k6 g' cap' : Nat} (hgc : gc < W.heap.size) (hj : HJ w0 gc k6 W w)
    (o2 : w2.ownsRow w0.heap.size 50 3 (.slice (some ⟨g', 0, none⟩) (6 + 1) cap') (6 + 1) (ncells H4 ++ [.int .i64 2, .int .i64 0, .int .i64 0]))
    (hh : (g' = gc ∧ cap' = k6 ∧ w.grownBy w2 (some gc)) ∨ (g' = w.heap.size ∧ w.grownBy w2 none)) : HJ w0 gc k6 W w2 ∧ HRel gc w w2 ∧ GrownC gc W.heap.size k6 (.slice (some ⟨g', 0, none⟩) (6 + 1) cap') w2 := by
  have hcap : 7 ≤ cap' ∧ cap' ≤ maxLen := by
    obtain ⟨A, c, e, h1, h2, _⟩ := own_cells o2
    injection e with _ _ e3
    subst e3
    exact ⟨h1, h2⟩
  rcases hh with ⟨rfl, rfl, hg⟩ | ⟨rfl, hg⟩
  · obtain ⟨A, c, e, _, _, hc⟩ := own_cells o2
    have hsp : Spare g' w2 := by
      rcases hc with hc | ⟨g, e', _, _, hc⟩
      · cases hc
      · injection e with e1 _ _
        rw [e'] at e1
        injection e1 with e1
        injection e1 with e1 _ _
        subst e1
        exact ⟨hc 18 _ rfl, hc 19 _ rfl, hc 20 _ rfl⟩
    have hlow := (own_lt hj.own (g := g') rfl).1
    refine ⟨⟨hj.t0, hj.below.trans (below_of_grown hg hlow hj.low), ownsRow_pop (last := [.int .i64 2, .int .i64 0, .int .i64 0]) (by rw [ncells_len]; rfl) o2, Nat.le_trans hj.size hg.size⟩, ⟨hg, fun _ => hsp⟩, ⟨g', cap', rfl, hcap, Or.inl ⟨rfl, rfl, hsp⟩⟩⟩
  · have hb := below_none hg
    refine ⟨hj.next hb, HRel.of hb, ⟨_, cap', rfl, hcap, Or.inr ⟨hj.size, ?_⟩⟩⟩
    rcases o2.2 with ⟨h, _⟩ | ⟨g, cap, cur, hv, _, r⟩
    · cases h
    · have hgq : g = w.heap.size := by injection hv with h1 _ _; injection h1 with h1; injection h1 with h1 _ _; exact h1.symm
      exact ⟨o2.1, Or.inr ⟨g, cap, cur, hv, by rw [hgq]; exact hj.size, r⟩⟩
theorem nums_one {w : World} {b : Nat} {x : Int} (h : At w b 3 [.int .i64 x].toArray) : Nums w (some ⟨b, 0, none⟩) [x] := fun _ =>
  ⟨b, 0, rfl, h.lt, fun k y hy => by
    have : k = 0 := by have := (List.getElem?_eq_some_iff.1 hy).1; simp at this; omega
    subst this
    simp at hy; subst hy
    exact h.cell 0⟩
theorem nums_two {w : World} {b : Nat} {x y : Int} (h : At w b 3 [.int .i64 x, .int .i64 y].toArray) : Nums w (some ⟨b, 0, none⟩) [x, y] := fun _ =>
  ⟨b, 0, rfl, h.lt, fun k z hz => by
    rw [Nat.zero_add, h.cell, List.getElem?_toArray]
    rcases k with _ | _ | k
    · simp at hz; subst hz; rfl
    · simp at hz; subst hz; rfl
    · simp at hz⟩
theorem nums_own {w : World} {B b k : Nat} {xs : List Int} (h : w.ownsRow B 3 1 (.slice (some ⟨b, 0, none⟩) xs.length k) xs.length (icells xs)) : Nums w (some ⟨b, 0, none⟩) xs := by
  obtain ⟨A, c, e, hn⟩ := ns_of_own h
  injection e with e1 _ _
  subst e1
  exact hn.nums
theorem cir_nil (w : World) : Cir w none 0 [] := ⟨fun h => absurd rfl h, Nat.le_refl _, by unfold maxLen; omega, fun _ => ⟨rfl, rfl⟩⟩
theorem var_val (A : Option Addr) (c : Nat) (l : List N) (n : Int) (w : World) (hl : l.length ≤ 20000) (hA : Cir w A c l) {l' : List N} {k : Int} (h : Cx.var l n = (l', k)) :
    Calls Tryd.prog 11 #[.slice A l.length c, .int .i64 n] w (CirNum l' k w) := by
  have := var_any A c l n w hl hA
  rw [h] at this; exact this
theorem plus_val (A : Option Addr) (c : Nat) (l : List N) (a b : Int) (w : World) (hl : l.length ≤ 20000) (hA : Cir w A c l) {l' : List N} {k : Int} (h : Cx.plus l a b = (l', k)) :
    Calls Tryd.prog 14 #[.slice A l.length c, .int .i64 a, .int .i64 b] w (CirNum l' k w) := by
  have := plus_any A c l a b w hl hA
  rw [h] at this; exact this
theorem times_val (A : Option Addr) (c : Nat) (l : List N) (a b : Int) (w : World) (hl : l.length ≤ 20000) (hA : Cir w A c l) {l' : List N} {k : Int} (h : Cx.times l a b = (l', k)) :
    Calls Tryd.prog 16 #[.slice A l.length c, .int .i64 a, .int .i64 b] w (CirNum l' k w) := by
  have := times_any A c l a b w hl hA
  rw [h] at this; exact this
/-- append to a row of the call's own within a region that keeps its order. -/
theorem wpList_append_two {P : Program} {w : World} {ops : Array Oper} {rest : List Oper} {o : Oper} {a : Act} {Q : Exit → Act → World → Prop} (s x : Operand) (t : TypeId)
    (ho : o.op = .call { callee := .builtin .append, args := #[s, x], argTypes := #[t, t] })
    (hw : Region.wanted o (yielded ops a.tmps) = true)
    (base : Nat) (e : TypeId) (i : TypeInfo) (z : Value) (size bytes : Nat) (ht : P.underlying t = some (.slice e)) (hi : P.info? e = some i) (hz : i.zero = some z)
    (hsize : i.size = size) (hby : i.bytes = bytes) (hzs : z.cells.size = size)
    (g n cap : Nat) (xs : List Value) (hs : a.eval s = .slice (some ⟨g, 0, none⟩) n cap) (hown : w.ownsRow base e size (.slice (some ⟨g, 0, none⟩) n cap) n xs)
    (ad : Addr) (m c : Nat) (news : List Value) (hx : a.eval x = .slice (some ad) m c) (hl : news.length = m * size) (hnews : ∀ j u, news[j]? = some u → w.cell? (ad.add j) = some u) (h1 : ∀ u ∈ news, u.oneCell' = true)
    (h63 : n + m ≤ maxLen) (hbytes : (n + m) * bytes ≤ 140737488355328) (hbase : base ≤ w.heap.size)
    (h : ∀ g' cap' w', w'.ownsRow base e size (.slice (some ⟨g', 0, none⟩) (n + m) cap') (n + m) (xs ++ news) → ((g' = g ∧ cap' = cap ∧ w.grownBy w' (some g)) ∨ (g' = w.heap.size ∧ w.grownBy w' none)) → wpList P ops Q rest (a.put o.dst (.slice (some ⟨g', 0, none⟩) (n + m) cap')) w') : wpList P ops Q (o :: rest) a w :=
  wpList_step fun K hK => by
    rw [if_pos hw]
    exact wp_append_two s x t ho base e i z size bytes ht hi hz hsize hby hzs g n cap xs hs hown ad m c news hx hl hnews h1 h63 hbytes hbase fun g' cap' w' h2 h3 => hK _ _ (h g' cap' w' h2 h3)
theorem ncells_H4 : (ncells H4).length = 6 * 3 := rfl
set_option maxHeartbeats 16000000 in
set_option maxRecDepth 100000 in
theorem head_any (w : World) (hT : Tab w) : Calls Tryd.prog 9 #[] w fun e w' => e = .returned (.bool true) ∧ Below w.heap.size w w' := by
  obtain ⟨i0, hi0, hz0, hz1, hz2⟩ := info_parts node_info
  have HG := Lib.hid good_H4; have HF := Lib.hid ngood_H4; have HF5 := Lib.hid ngood_H5
  have TX1 := Lib.hid head_texts.1; have TX2 := Lib.hid head_texts.2
  have EV1 := Lib.hid (show Cx.eval H4 4 [1] = true by decide)
  have EV2 := Lib.hid (show Cx.eval H4 5 [1] = false by decide)
  have VD1 := Lib.hid (show Cx.valid H4 = true by decide)
  have VD2 := Lib.hid (show Cx.valid [] = false by decide)
  have VD3 := Lib.hid (show Cx.valid H5 = false by decide)
  have VA := Lib.hid (show Cx.vars H4 5 = [0, 1] by decide)
  have HI1 := Lib.hid (show ∀ t ∈ ([1] : List Int), I64 t by intro t ht; simp at ht; subst ht; unfold I64; omega)
  have K1 := Lib.hid (show Cx.var Cx.new 0 = (H1, 2) by decide)
  have K2 := Lib.hid (show Cx.var H1 1 = (H2, 3) by decide)
  have K3 := Lib.hid (show Cx.var H2 0 = (H2, 2) by decide)
  have K4 := Lib.hid (show Cx.plus H2 2 3 = (H3, 4) by decide)
  have K5 := Lib.hid (show Cx.plus H3 3 2 = (H3, 4) by decide)
  have K7 := Lib.hid (show Cx.plus H4 4 1 = (H4, 1) by decide)
  have K8 := Lib.hid (show Cx.times H4 0 4 = (H4, 0) by decide)
  have K9 := Lib.hid (show Cx.plus H4 9 2 = (H4, -1) by decide)
  go_enter Tryd.func9, Tryd.ntmps9
  go_wp2_with fail
  refine (new_any _).mono ?_
  rintro e w1 ⟨rfl, hw1⟩
  have c1 : Cir w1 (some ⟨w.heap.size, 0, none⟩) 2 Cx.new := by rw [← hw1]; exact cir_new (At.new _ _ _) (by decide)
  have b1 : Below w.heap.size w w1 := by rw [← hw1]; exact below1 _ _
  clear hw1
  go_wp2_with fail
  refine (var_val _ 2 Cx.new 0 _ (by decide) c1 K1.out).mono ?_
  rintro e w2 ⟨A2, k2, rfl, c2, b2⟩
  rw [show H1.length = 3 from rfl]
  have bw2 := b1.trans (b2.mono b1.size)
  clear c1 b1 b2
  go_wp2_with fail
  refine (var_val A2 k2 H1 1 _ (by decide) c2 K2.out).mono ?_
  rintro e w3 ⟨A3, k3, rfl, c3, b3⟩
  rw [show H2.length = 4 from rfl]
  have bw3 := bw2.trans (b3.mono bw2.size)
  clear c2 b3 bw2
  go_wp2_with fail
  refine (var_val A3 k3 H2 0 _ (by decide) c3 K3.out).mono ?_
  rintro e w4 ⟨A4, k4, rfl, c4, b4⟩
  rw [show H2.length = 4 from rfl]
  have bw4 := bw3.trans (b4.mono bw3.size)
  clear c3 b4 bw3
  go_wp2_with fail
  refine (plus_val A4 k4 H2 2 3 _ (by decide) c4 K4.out).mono ?_
  rintro e w5 ⟨A5, k5, rfl, c5, b5⟩
  rw [show H3.length = 5 from rfl]
  have bw5 := bw4.trans (b5.mono bw4.size)
  clear c4 b5 bw4
  go_wp2_with fail
  refine (plus_val A5 k5 H3 3 2 _ (by decide) c5 K5.out).mono ?_
  rintro e w6 ⟨A6, k6', rfl, c6, b6⟩
  rw [show H3.length = 5 from rfl]
  have bw6 := bw5.trans (b6.mono bw5.size)
  clear c5 b6 bw5
  go_wp2_with fail
  refine (times_own A6 k6' H3 2 4 _ (by decide) c6 (by decide) (by decide) (by decide) (by decide)).mono ?_
  rintro e w7 ⟨v7, rfl, o7, b7⟩
  have o7' : w7.ownsRow w.heap.size 50 3 v7 6 (ncells H4) := own_mono o7 bw6.size
  have bw7 := bw6.trans (b7.mono bw6.size)
  obtain ⟨gc, k6, rfl, _, hgl⟩ := o7'.form (by omega)
  have c7 : Cir w7 (some ⟨gc, 0, none⟩) k6 H4 := by
    obtain ⟨A, c, e, hc⟩ := cir_of_own (l := H4) o7'
    injection e with e1 _ e2
    subst e1; subst e2
    exact hc
  rw [show H3.length = 5 from rfl]
  clear c6 b7 bw6 o7
  go_wp2_with fail
  refine (plus_val (some ⟨gc, 0, none⟩) k6 H4 4 1 _ (by decide) c7 K7.out).mono ?_
  rintro e w8 ⟨A8, k8, rfl, c8, b8⟩
  rw [show H4.length = 6 from rfl]
  have bw8 := bw7.trans (b8.mono bw7.size)
  have o8 := own_below o7' b8
  have d8 := c7.below b8
  have g8 : gc < w8.heap.size := Nat.lt_of_lt_of_le hgl b8.size
  clear c7 c8 b8 bw7 o7' hgl
  go_wp2_with fail
  refine (times_val (some ⟨gc, 0, none⟩) k6 H4 0 4 _ (by decide) d8 K8.out).mono ?_
  rintro e w9 ⟨A9, k9, rfl, c9, b9⟩
  rw [show H4.length = 6 from rfl]
  have bw9 := bw8.trans (b9.mono bw8.size)
  have o9 := own_below o8 b9
  have d9 := d8.below b9
  have g9 : gc < w9.heap.size := Nat.lt_of_lt_of_le g8 b9.size
  clear c9 b9 bw8 o8 d8 g8
  go_wp2_with fail
  refine (plus_val (some ⟨gc, 0, none⟩) k6 H4 9 2 _ (by decide) d9 K9.out).mono ?_
  rintro e W ⟨A10, k10, rfl, c10, b10⟩
  rw [show H4.length = 6 from rfl]
  have bW := bw9.trans (b10.mono bw9.size)
  have oW := own_below o9 b10
  have gW : gc < W.heap.size := Nat.lt_of_lt_of_le g9 b10.size
  clear c10 b10 bw9 o9 d9 g9
  have HWG := Lib.hid gW
  have hJ : HJ w gc k6 W W := ⟨hT, bW, oW, Nat.le_refl _⟩
  have HJ0 := Lib.hid hJ
  clear gW hJ bW oW
  go_wp2_with fail
  refine (Text_any (some ⟨gc, 0, none⟩) k6 H4 5 99 _ HG.out HF.out (by decide) HJ0.out.circ HJ0.out.tab).mono ?_
  rintro e w11 ⟨rfl, b11⟩
  rw [TX1.out]
  have HJ1 := Lib.hid (HJ0.out.next b11)
  clear b11
  go_wp2_with fail
  refine (Text_any (some ⟨gc, 0, none⟩) k6 H4 5 15 _ HG.out HF.out (by decide) HJ1.out.circ HJ1.out.tab).mono ?_
  rintro e w12 ⟨rfl, b12⟩
  rw [TX2.out]
  have HJ2 := Lib.hid (HJ1.out.next b12)
  clear b12
  go_wp2_with fail
  refine (eval_any (some ⟨gc, 0, none⟩) k6 H4 4 (some ⟨w12.heap.size, 0, none⟩) 1 [1] _ HG.out HF.out (by decide) (by decide) HI1.out (HJ2.out.next (below1 _ _)).cir (nums_one (At.new _ _ _))).mono ?_
  rintro e w13 ⟨rfl, b13⟩
  rw [EV1.out]
  have HJ3 := Lib.hid ((HJ2.out.next (below1 _ _)).next b13)
  clear b13
  go_wp2_with fail
  refine (eval_any (some ⟨gc, 0, none⟩) k6 H4 5 (some ⟨w13.heap.size, 0, none⟩) 1 [1] _ HG.out HF.out (by decide) (by decide) HI1.out (HJ3.out.next (below1 _ _)).cir (nums_one (At.new _ _ _))).mono ?_
  rintro e w14 ⟨rfl, b14⟩
  rw [EV2.out]
  have HJ4 := Lib.hid ((HJ3.out.next (below1 _ _)).next b14)
  clear b14
  go_wp2_with fail
  refine (cvars_own (some ⟨gc, 0, none⟩) k6 H4 5 _ HG.out (by decide) HJ4.out.circ).mono ?_
  rintro e w15 ⟨vv, rfl, o15, b15⟩
  rw [VA.out] at o15
  obtain ⟨bv, kv, rfl, z15⟩ := own_shape o15 (by decide)
  have HJ5 := Lib.hid (HJ4.out.next b15)
  clear b15
  go_wp2_with fail
  refine (ints_any (some ⟨bv, 0, none⟩) kv [0, 1] (some ⟨w15.heap.size, 0, none⟩) 2 [0, 1] _ (by decide) (by decide) (nums_own (own_below z15 (below1 _ _))) (nums_two (At.new _ _ _))).mono ?_
  rintro e w16 ⟨rfl, b16⟩
  rw [show decide (([0, 1] : List Int) = [0, 1]) = true from rfl]
  have HJ6 := Lib.hid ((HJ5.out.next (below1 _ _)).next b16)
  clear b16 o15 z15
  go_wp2_with fail
  refine (valid_any (some ⟨gc, 0, none⟩) k6 H4 _ (by decide) HF.out HJ6.out.cir).mono ?_
  rintro e w17 ⟨rfl, b17⟩
  rw [VD1.out]
  have HJ7 := Lib.hid (HJ6.out.next b17)
  clear b17
  go_wp2_with fail
  refine (valid_any none 0 [] _ (by decide) (fun n hn => by cases hn) (cir_nil _)).mono ?_
  rintro e w18 ⟨rfl, b18⟩
  rw [VD2.out]
  have HJ8 := Lib.hid (HJ7.out.next b18)
  clear b18
  obtain ⟨c0, c1, c2⟩ := h4cells HJ8.out.circ
  go_wp2_with (at_builtin; go_loud (refine wpList_append_two (.tmp 152) (.tmp 156) 24 rfl (by rfl) w.heap.size 50 i0 _ 3 24 Tryd.underlying24 hi0 hz0 hz1 hz2 rfl gc 6 k6 (ncells H4) rfl (own_below HJ8.out.own (below1 _ _)) ⟨w18.heap.size, 0, none⟩ 1 1 [.int .i64 2, .int .i64 0, .int .i64 0] rfl rfl (At.news (At.new _ _ _)) (one3 rfl rfl rfl) (by unfold maxLen; omega) (by omega) (HJ8.out.next (below1 _ _)).low ?_; intro g' cap' w2 o2 hh))
  obtain ⟨j2, r2, t2⟩ := grow_step HWG.out (HJ8.out.next (below1 _ _)) o2 hh
  obtain ⟨g3, k3', e3, t3⟩ := t2
  obtain ⟨e31, e32⟩ : g3 = g' ∧ k3' = cap' := by injection e3 with e1 _ e2; injection e1 with e1; injection e1 with e1 _ _; exact ⟨e1.symm, e2.symm⟩
  subst e31; subst e32
  clear o2 hh
  refine (valid_any (some ⟨g3, 0, none⟩) k3' H5 _ (by decide) HF5.out (t3.cir j2)).mono ?_
  rintro e w19 ⟨rfl, b19⟩
  rw [VD3.out]
  have b2 := (j2.next b19).below
  clear j2 r2 t3 b19
  go_wp2_with fail
  go_ret
  exact ⟨rfl, b2⟩
end Go.Proofs.YtigcmjnjcaoolaaDoor
