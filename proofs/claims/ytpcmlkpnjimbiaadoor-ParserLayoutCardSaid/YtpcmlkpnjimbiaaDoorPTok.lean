/- The reader's methods that look at one token. -/
import Derived.Test.YtpcmlkpnjimbiaaDoorPMem
import Derived.WalkLawsBesides
namespace Go.Proofs.YtpcmlkpnjimbiaaDoor
set_option linter.unusedVariables false
set_option linter.unusedSimpArgs false
open Go.RowKit
/-- The panic at a wrong token. -/
def wrongV (ts : List Lx.Tok) (sz j : Nat) : Value := .iface 113 (.agg #[.int .i64 (if j < ts.length then 50 else 51), .int .i64 (tokAt ts sz j).pos])
def wrongC (ts : List Lx.Tok) (sz j : Nat) : List PanicEntry := [{ v := wrongV ts sz j, recovered := false }]
/-- The world is as before but for new blocks and for the reader's place. -/
def Mv (rb j : Nat) (w w' : World) : Prop := Below w.heap.size (w.setCell ⟨rb, 1, none⟩ (.int .i64 (j : Int))) w'
theorem field_tok1 (a b c : Int) (s : ByteArray) (w : World) : (Instr.field 41 (.agg #[.int .i64 a, .string s, .int .i64 c]) 1).run Tryd.prog w = .ok (.string s) w := by kernel_rfl
theorem field_tok2 (a b c : Int) (s : ByteArray) (w : World) : (Instr.field 41 (.agg #[.int .i64 a, .string s, .int .i64 c]) 2).run Tryd.prog w = .ok (.int .i64 c) w := by kernel_rfl
section
variable {w : World} {rb : Nat} {TA : Option Addr} {tc : Nat} {ts : List Lx.Tok} {sz i : Nat} {o : Outs}
theorem Mv.still (h : Rd w rb TA tc ts sz i o) {w' : World} (hb : Below w.heap.size w w') : Mv rb i w w' := by
 refine ⟨hb.os, hb.tape, hb.output, by simpa using hb.size, fun k hk => ?_⟩
 rw [hb.block k hk]
 by_cases e : k = rb
 ·subst e
  have hp := h.box.put 1 (.int .i64 (i : Int))
  have e2 : (rdc TA ts.length tc i sz o).setIfInBounds 1 (.int .i64 (i : Int)) = rdc TA ts.length tc i sz o := by
   unfold rdc
   rw [List.setIfInBounds_toArray]
   rfl
  rw [e2] at hp
  exact h.box.trans hp.symm
 ·exact (Below.heap_setCell w ⟨rb, 1, none⟩ _ k e).symm
theorem Mv.size {w' : World} {j : Nat} (h : Mv rb j w w') : w.heap.size ≤ w'.heap.size := by have := Below.size h; simpa using this
/-- Behind it the reader stands at token j. -/
theorem Mv.rd (h : Rd w rb TA tc ts sz i o) {j : Nat} {w' : World} (hm : Mv rb j w w') (hj : j ≤ ts.length) : Rd w' rb TA tc ts sz j o := by
 have hp := h.box.put 1 (.int .i64 (j : Int))
 have e2 : (rdc TA ts.length tc i sz o).setIfInBounds 1 (.int .i64 (j : Int)) = rdc TA ts.length tc j sz o := by
  unfold rdc
  rw [List.setIfInBounds_toArray]
  rfl
 rw [e2] at hp
 have hbl : Below rb w w' := ((Below.refl rb w).setCell (p := ⟨rb, 1, none⟩) (Nat.le_refl _) (.int .i64 (j : Int))).trans (Below.mono hm (Nat.le_of_lt h.box.lt))
 refine ⟨hp.below hm h.box.lt, fun hn => ?_, ⟨h.few.1, h.few.2.1, hj⟩, h.tb.below hbl, h.dig, h.old⟩
 obtain ⟨g, og, e, hg, hc⟩ := h.toks hn
 refine ⟨g, og, e, Nat.lt_of_lt_of_le hg hm.size, fun k fs hk q v hv => ?_⟩
 have hne : g ≠ rb := by
  rintro rfl
  have h1 := hc k fs hk 0
  have hbx := h.box
  obtain ⟨t, ht⟩ : ∃ t, fs = tkfs t := by
   rw [List.getElem?_map, Option.map_eq_some_iff] at hk
   obtain ⟨t, _, e⟩ := hk
   exact ⟨t, e.symm⟩
  subst ht
  have c1 := hc k _ hk 1 _ rfl
  rw [hbx.cell] at c1
  unfold rdc at c1
  obtain ⟨d, hd⟩ : ∃ d, og + k * 3 + 1 = d := ⟨_, rfl⟩
  rw [hd] at c1
  have hlt : d < 7 := by
   rcases Nat.lt_or_ge d 7 with h | h
   ·exact h
   ·rw [Array.getElem?_eq_none (by simpa using h)] at c1; cases c1
  clear hd h1
  rcases (by omega : d = 0 ∨ d = 1 ∨ d = 2 ∨ d = 3 ∨ d = 4 ∨ d = 5 ∨ d = 6) with rfl | rfl | rfl | rfl | rfl | rfl | rfl <;> simp at c1
 have h2 := hc k fs hk q v hv
 rw [Below.cell hm (p := ⟨g, og + k * 3 + q, none⟩) hg]
 have h3 := Below.heap_setCell w ⟨rb, 1, none⟩ (.int .i64 (j : Int)) g hne
 unfold World.cell? at h2 ⊢
 rw [h3]
 exact h2
/-- One step behind another. -/
theorem Mv.trans {w1 w2 : World} {j k : Nat} (hl : rb < w.heap.size) (h1 : Mv rb j w w1) (h2 : Mv rb k w1 w2) : Mv rb k w w2 := by
 have hs := h1.size
 refine ⟨h2.os.trans h1.os, h2.tape.trans h1.tape, h2.output.trans h1.output, by have := h2.size; simp; omega, fun b hb => ?_⟩
 rw [h2.block b (by omega)]
 by_cases e : b = rb
 ·subst e
  have e1 := h1.block b hb
  simp only [World.setCell] at e1 ⊢
  simp only [Array.getElem?_modify, if_true] at e1 ⊢
  rw [e1]
  cases w.heap[b]? with
  | none => rfl
  | some ob =>
   simp
   cases ob <;> simp
 ·rw [Below.heap_setCell w1 ⟨rb, 1, none⟩ _ b e, h1.block b hb, Below.heap_setCell w ⟨rb, 1, none⟩ _ b e, Below.heap_setCell w ⟨rb, 1, none⟩ _ b e]
set_option maxRecDepth 100000 in
theorem offset_any (h : Rd w rb TA tc ts sz i o) : Calls Tryd.prog 54 #[.pointer (some ⟨rb, 0, none⟩)] w fun e w' => e = .returned (.int .i64 (tokAt ts sz i).pos) ∧ Below w.heap.size w w' := by
 have HP := Lib.hid (peek_any h 0 (by omega))
 unfold tokV at HP
 rw [Nat.add_zero] at HP
 have ff := fun W => field_tok2 (tokAt ts sz i).kind 0 (tokAt ts sz i).pos (bs (tokAt ts sz i).text) W
 go_enter Tryd.func54, Tryd.ntmps54
 go_wp2_with (go_at_call 29; refine HP.out.mono ?_; rintro e w2 ⟨rfl, hb⟩)
 go_ret
 exact ⟨rfl, hb⟩
set_option maxRecDepth 100000 in
theorem fail_any (h : Rd w rb TA tc ts sz i o) : Calls Tryd.prog 64 #[.pointer (some ⟨rb, 0, none⟩)] w fun e w' => e = .panicked (wrongC ts sz i) ∧ Below w.heap.size w w' := by
 obtain ⟨r0, r1, r2⟩ := h.cells
 have hl := h.box.lt
 have hf := h.few
 have f0 : ∀ z : Held w.heap.size w, z.w.cell? ⟨rb, 0, none⟩ = some (.slice TA ts.length tc) := fun z => z.cell hl r0
 have f1 : ∀ z : Held w.heap.size w, z.w.cell? ⟨rb, 1, none⟩ = some (.int .i64 i) := fun z => z.cell hl r1
 unfold wrongC wrongV
 by_cases hk : i < ts.length
 ·have d1 : decide ((ts.length : Int) ≤ (i : Int)) = false := decide_eq_false (by omega)
  have n1 : decide (ts.length ≤ i) = false := decide_eq_false (by omega)
  rw [if_pos hk]
  go_enter Tryd.func64, Tryd.ntmps64
  go_wp2_with fail
  refine wp_region_held w.heap.size w (Below.refl _ _) (by kernel_rfl) (by kernel_rfl) ?_
  repeat (go_big_quiet_step (fail))
  refine wpQuiet_nil ?_
  rintro wt ⟨⟨_, bt⟩, rfl⟩
  go_wp2_with (go_at_call 54; refine (offset_any (h.next bt)).mono ?_; rintro e w2 ⟨rfl, hb⟩)
  exact ⟨rfl, rfl, bt.trans (hb.mono bt.size)⟩
 ·have d1 : decide ((ts.length : Int) ≤ (i : Int)) = true := decide_eq_true (by omega)
  have n1 : decide (ts.length ≤ i) = true := decide_eq_true (by omega)
  rw [if_neg hk, tokAt_out (by omega)]
  go_enter Tryd.func64, Tryd.ntmps64
  go_wp2_with fail
  refine wp_region_held w.heap.size w (Below.refl _ _) (by kernel_rfl) (by kernel_rfl) ?_
  repeat (go_big_quiet_step (fail))
  refine wpQuiet_nil ?_
  rintro wt ⟨⟨_, bt⟩, rfl⟩
  have r2t := next_cell r2 bt
  go_wp2_with fail
  exact ⟨rfl, rfl, bt⟩
end
end Go.Proofs.YtpcmlkpnjimbiaaDoor
