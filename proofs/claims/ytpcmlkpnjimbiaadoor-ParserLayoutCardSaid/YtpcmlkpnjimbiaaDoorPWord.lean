/- The reader's methods that read one token. -/
import Derived.Test.YtpcmlkpnjimbiaaDoorPTok
namespace Go.Proofs.YtpcmlkpnjimbiaaDoor
set_option linter.unusedVariables false
set_option linter.unusedSimpArgs false
open Go.RowKit
theorem tx_at (ts : List Lx.Tok) (sz i : Nat) : Px.tx (Px.kts ts) i = (tokAt ts sz i).text := by
 unfold Px.tx Px.kts tokAt
 rw [List.getElem?_map]
 cases ts[i]? <;> rfl
theorem kd_at (ts : List Lx.Tok) (sz i : Nat) : Px.kd (Px.kts ts) i = (tokAt ts sz i).kind := by
 unfold Px.kd Px.kts tokAt
 rw [List.getElem?_map]
 cases ts[i]? <;> rfl
theorem bs_list (l : List UInt8) : (bs l).toList = l := by rw [Lib.toList_data]; rfl
theorem bs_ne (a b : List UInt8) : ((bs a).toList != (bs b).toList) = !decide (a = b) := by
 rw [bs_list, bs_list]
 by_cases h : a = b
 ·subst h; simp
 ·rw [decide_eq_false h]; simpa using h
theorem bs_eq (a b : List UInt8) : ((bs a).toList == (bs b).toList) = decide (a = b) := by
 rw [bs_list, bs_list, Bool.eq_iff_iff, beq_iff_eq, decide_eq_true_iff]
theorem tx_in {ts : List Lx.Tok} {sz i : Nat} (h : (tokAt ts sz i).text ≠ []) : i < ts.length := by
 rcases Nat.lt_or_ge i ts.length with h2 | h2
 ·exact h2
 ·rw [tokAt_out h2] at h; exact absurd rfl h
theorem kd_in {ts : List Lx.Tok} {sz i : Nat} (h : (tokAt ts sz i).kind ≠ 0) : i < ts.length := by
 rcases Nat.lt_or_ge i ts.length with h2 | h2
 ·exact h2
 ·rw [tokAt_out h2] at h; exact absurd rfl h
section
variable {w : World} {rb : Nat} {TA : Option Addr} {tc : Nat} {ts : List Lx.Tok} {sz i : Nat} {o : Outs}
/-- How a method ends that reads as r says. -/
def Post (w : World) (rb : Nat) (TA : Option Addr) (tc : Nat) (ts : List Lx.Tok) (sz : Nat) (o : Outs) {α : Type} (V : α → Value → World → Prop) (r : Px.R α) (e : Ending) (w' : World) : Prop := match r with
 | .ok a j => (∃ v, e = .returned v ∧ V a v w') ∧ Mv rb j w w' ∧ Rd w' rb TA tc ts sz j o
 | .fail j => e = .panicked (wrongC ts sz j) ∧ Mv rb j w w' ∧ Rd w' rb TA tc ts sz j o
theorem Mv.step (h : Rd w rb TA tc ts sz i o) {w2 : World} (hb : Below w.heap.size w w2) (j : Nat) : Mv rb j w (w2.setCell ⟨rb, 1, none⟩ (.int .i64 (j : Int))) := by
 refine ⟨hb.os, hb.tape, hb.output, by simpa using hb.size, fun k hk => ?_⟩
 by_cases e : k = rb
 ·subst e
  have e1 := hb.block k hk
  simp only [World.setCell, Array.getElem?_modify, if_true]
  rw [e1]
 ·rw [Below.heap_setCell w2 ⟨rb, 1, none⟩ _ k e, hb.block k hk, Below.heap_setCell w ⟨rb, 1, none⟩ _ k e]
set_option maxRecDepth 100000 in
theorem take_any (h : Rd w rb TA tc ts sz i o) (t : List UInt8) (ht : t ≠ []) : Calls Tryd.prog 42 #[.pointer (some ⟨rb, 0, none⟩), .string (bs t)] w (Post w rb TA tc ts sz o (fun b v _ => v = .bool b) (Px.take t (Px.kts ts) i)) := by
 have HP := Lib.hid (peek_any h 0 (by omega))
 unfold tokV at HP
 rw [Nat.add_zero] at HP
 have ff := fun W => field_tok1 (tokAt ts sz i).kind 0 (tokAt ts sz i).pos (bs (tokAt ts sz i).text) W
 have hf := h.few
 unfold Px.take
 rw [tx_at ts sz]
 by_cases hx : (tokAt ts sz i).text = t
 ·have t1 : ((bs (tokAt ts sz i).text).toList != (bs t).toList) = false := by rw [bs_ne, decide_eq_true hx]; rfl
  have t2 : ((bs (tokAt ts sz i).text).toList == (bs t).toList) = true := by rw [bs_eq, decide_eq_true hx]
  have hi := tx_in (ts := ts) (sz := sz) (i := i) (by rw [hx]; exact ht)
  rw [if_pos hx]
  have HR := Lib.hid h
  clear h hx
  go_enter Tryd.func42, Tryd.ntmps42
  go_wp2_with (go_at_call 29; refine HP.out.mono ?_; rintro e w2 ⟨rfl, hb⟩; have hr2 := HR.out.next hb; have r1 := hr2.cells.2.1; have yf := hr2.box.frozen 1; have yl := hr2.box.lt)
  go_ret
  have hm := Mv.step HR.out hb (i + 1)
  exact ⟨⟨_, rfl, rfl⟩, hm, hm.rd HR.out (by omega)⟩
 ·have t1 : ((bs (tokAt ts sz i).text).toList != (bs t).toList) = true := by rw [bs_ne, decide_eq_false hx]; rfl
  have t2 : ((bs (tokAt ts sz i).text).toList == (bs t).toList) = false := by rw [bs_eq, decide_eq_false hx]
  rw [if_neg hx]
  have HR := Lib.hid h
  clear h hx
  go_enter Tryd.func42, Tryd.ntmps42
  go_wp2_with (go_at_call 29; refine HP.out.mono ?_; rintro e w2 ⟨rfl, hb⟩)
  go_ret
  exact ⟨⟨_, rfl, rfl⟩, Mv.still HR.out hb, HR.out.next hb⟩
set_option maxRecDepth 100000 in
theorem need_any (h : Rd w rb TA tc ts sz i o) (t : List UInt8) (ht : t ≠ []) : Calls Tryd.prog 55 #[.pointer (some ⟨rb, 0, none⟩), .string (bs t)] w (Post w rb TA tc ts sz o (fun _ v _ => v = .tuple #[]) (Px.need t (Px.kts ts) i)) := by
 have HT := Lib.hid (take_any h t ht)
 unfold Px.need
 unfold Px.take at HT
 have HR := Lib.hid h
 have hl := h.box.lt
 clear h
 by_cases hx : Px.tx (Px.kts ts) i = t
 ·rw [if_pos hx] at HT ⊢
  clear hx
  go_enter Tryd.func55, Tryd.ntmps55
  go_wp2_with (go_at_call 42; refine HT.out.mono ?_; rintro e w2 ⟨⟨_, rfl, rfl⟩, hm, hr⟩)
  refine bodyPost_ret (results_none rfl _ _ _) rfl ?_
  exact ⟨⟨_, rfl, rfl⟩, hm, hr⟩
 ·rw [if_neg hx] at HT ⊢
  clear hx
  go_enter Tryd.func55, Tryd.ntmps55
  go_wp2_with first
   | (go_at_call 64; refine (fail_any hr).mono ?_; rintro e w3 ⟨rfl, hb⟩)
   | (go_at_call 42; refine HT.out.mono ?_; rintro e w2 ⟨⟨_, rfl, rfl⟩, hm, hr⟩)
  exact ⟨rfl, rfl, hm.trans hl (Mv.still hr hb), hr.next hb⟩
theorem keys_eq (s : List UInt8) : Lib.containsS ((Px.keys.map bs).take 10) (bs s) = Px.keys.contains s := by
 rw [show (Px.keys.map bs).take 10 = Px.keys.map bs from rfl, Bool.eq_iff_iff, Lib.containsS_iff, List.contains_iff_mem, List.mem_map]
 constructor
 ·rintro ⟨z, hz, e⟩
  have : z = s := by have := congrArg ByteArray.toList e; rwa [bs_list, bs_list] at this
  rw [← this]; exact hz
 ·intro h; exact ⟨s, h, rfl⟩
set_option maxRecDepth 100000 in
theorem is_any (h : Rd w rb TA tc ts sz i o) (k : Nat) (hk : 0 < k ∧ k ≤ 4) : Calls Tryd.prog 66 #[.pointer (some ⟨rb, 0, none⟩), .int .i64 k] w fun e w' => e = .returned (.bool (Px.isK k (Px.kts ts) i)) ∧ Below w.heap.size w w' := by
 have HP := Lib.hid (peek_any h 0 (by omega))
 unfold tokV at HP
 rw [Nat.add_zero] at HP
 unfold Px.isK
 rw [kd_at ts sz, tx_at ts sz]
 obtain ⟨t, ht⟩ : ∃ t, tokAt ts sz i = t := ⟨_, rfl⟩
 rw [ht] at HP ⊢
 have HTB := Lib.hid (fun W (hb : Below w.heap.size w W) => (h.next hb).tb.keys)
 have hl := h.box.lt
 clear h ht
 by_cases h1 : t.kind = k
 ·have d1 : ((t.kind : Int) == (k : Int)) = true := by rw [h1]; simp
  rw [decide_eq_true h1, Bool.true_and]
  by_cases h2 : k = 1
  ·have d2 : ((k : Int) == 1) = true := by rw [h2]; rfl
   rw [decide_eq_true h2, Bool.true_and]
   have HCT := Lib.hid (fun W (hb : Below w.heap.size w W) => HTB.out W hb)
   obtain ⟨z, hz⟩ : ∃ z, Px.keys.contains t.text = z := ⟨_, rfl⟩
   rw [hz]
   have HZ := Lib.hid ((keys_eq t.text).trans hz)
   clear h1 h2 hz HTB
   go_enter Tryd.func66, Tryd.ntmps66
   go_wp2_with first
    | (go_at_call 60; refine (Tryd.slices_Contains_string g og 10 gc (Px.keys.map bs) (bs t.text) _ (by decide) (by decide) (fun j hj => hk3 _ (below1 _ _) j (by simpa using hj))).mono ?_; rintro e w3 ⟨rfl, rfl⟩)
    | (go_at_call 29; refine HP.out.mono ?_; rintro e w2 ⟨rfl, hb⟩; obtain ⟨hk0, g, og, gc, hk1, hk2, hk3'⟩ := HCT.out w2 hb; have hk0' : 3 < w2.heap.size := Nat.lt_of_lt_of_le hk0 (Nat.le_of_lt (Nat.lt_of_lt_of_le hl hb.size)); have hk3 := fun W (h : Below w2.heap.size w2 W) j hj => next_cell (hk3' j hj) h; clear hk3')
   rw [HZ.out]
   go_wp2_with fail
   go_ret
   exact ⟨rfl, hb.alloc hb.size _⟩
  ·have d2 : ((k : Int) == 1) = false := by simpa using (by omega : (k : Int) ≠ 1)
   rw [decide_eq_false h2, Bool.false_and]
   go_enter Tryd.func66, Tryd.ntmps66
   go_wp2_with (go_at_call 29; refine HP.out.mono ?_; rintro e w2 ⟨rfl, hb⟩)
   go_ret
   exact ⟨rfl, hb.alloc hb.size _⟩
 ·have d1 : ((t.kind : Int) == (k : Int)) = false := by simpa using (by omega : (t.kind : Int) ≠ (k : Int))
  rw [decide_eq_false h1, Bool.false_and]
  go_enter Tryd.func66, Tryd.ntmps66
  go_wp2_with (go_at_call 29; refine HP.out.mono ?_; rintro e w2 ⟨rfl, hb⟩)
  go_ret
  exact ⟨rfl, hb.alloc hb.size _⟩
end
end Go.Proofs.YtpcmlkpnjimbiaaDoor
