/- The walks of the program's product, up, pay and free. -/
import Derived.Test.YtoficnfpoeaccaaDoorKSet
import Derived.Test.YtoficnfpoeaccaaDoorHeld
import Derived.StillTailTactics
namespace Go.Proofs.YtoficnfpoeaccaaDoor
set_option linter.unusedVariables false
set_option linter.unusedSimpArgs false
open Go.RowKit
set_option maxRecDepth 100000 in
theorem up_any (a b : Nat) (w : World) (ha : a ≤ 10000000000) (hb : b ≤ 10000000000) : Calls Tryd.prog 36 #[.int .i64 (a : Int), .int .i64 (b : Int)] w fun e w' => e = .returned (.int .i64 ((Ko.up a b : Nat) : Int)) ∧ w = w' := by
  by_cases hb0 : b < 1
  · have d1 : (b : Int) < 1 := by omega
    have HU := Lib.hid (show ((Ko.up a b : Nat) : Int) = (a : Int) by
      unfold Ko.up
      rw [show max b 1 = 1 by omega, show a + 1 - 1 = a by omega, Nat.div_one])
    go_enter Tryd.func36, Tryd.ntmps36
    go_wp2_with fail
    all_goals first
      | (exfalso; omega)
      | (go_ret; exact ⟨by rw [HU.out]; rfl, rfl⟩)
  · have d1 : (1 : Int) ≤ (b : Int) := by omega
    have HU := Lib.hid (show ((Ko.up a b : Nat) : Int) = ((a : Int) + (b : Int) - 1) / (b : Int) by
      unfold Ko.up
      rw [show max b 1 = b by omega, Int.natCast_ediv, show ((a + b - 1 : Nat) : Int) = (a : Int) + (b : Int) - 1 by omega])
    go_enter Tryd.func36, Tryd.ntmps36
    go_wp2_with fail
    all_goals first
      | (exfalso; omega)
      | (go_ret; exact ⟨by rw [HU.out]; rfl, rfl⟩)
set_option maxRecDepth 100000 in
theorem product_any (a b : Nat) (w : World) (ha : a ≤ 10000000000) (hb : b ≤ 10000000000) : Calls Tryd.prog 57 #[.int .i64 (a : Int), .int .i64 (b : Int)] w fun e w' => e = .returned (.int .i64 ((Ko.prod a b : Nat) : Int)) ∧ w = w' := by
  by_cases ha0 : 0 < a
  · have d1 : ((a : Int) != 0) = true := by simp; omega
    have d1' : ((a : Int) == 0) = false := by simp; omega
    by_cases hq : 1000000000 / a < b
    · have d2 : decide ((1000000000 : Int) / (a : Int) < (b : Int)) = true := decide_eq_true (by rw [big_div]; omega)
      have HU := Lib.hid (show ((Ko.prod a b : Nat) : Int) = 1000000000 by rw [prod_cap ha0 hq]; rfl)
      go_enter Tryd.func57, Tryd.ntmps57
      go_wp2_with fail
      go_ret
      exact ⟨by rw [HU.out]; rfl, rfl⟩
    · have d2 : decide ((1000000000 : Int) / (a : Int) < (b : Int)) = false := decide_eq_false (by rw [big_div]; omega)
      have hl := prod_low ha0 hq
      have HU := Lib.hid (show Ko.prod a b = a * b by unfold Ko.prod Ko.most; omega)
      obtain ⟨p, hp⟩ : ∃ p, a * b = p := ⟨_, rfl⟩
      have W : wrap64 ((a : Int) * (b : Int)) = (p : Int) := by
        rw [← Int.natCast_mul, hp]
        unfold wrap64
        omega
      rw [hp] at HU hl
      clear hp
      have l1 : (p : Int) ≤ 1000000000 := by omega
      go_enter Tryd.func57, Tryd.ntmps57
      go_wp2_with fail
      go_ret
      exact ⟨by rw [HU.out, ← W]; rfl, rfl⟩
  · have d1 : ((a : Int) != 0) = false := by simp; omega
    have d1' : ((a : Int) == 0) = true := by simp; omega
    obtain rfl : a = 0 := by omega
    have W : wrap64 (((0 : Nat) : Int) * (b : Int)) = ((0 : Nat) : Int) := by rw [Int.natCast_zero, Int.zero_mul]; unfold wrap64; omega
    have HU := Lib.hid (show Ko.prod 0 b = 0 by unfold Ko.prod; rw [Nat.zero_mul]; exact Nat.zero_min _)
    go_enter Tryd.func57, Tryd.ntmps57
    go_wp2_with fail
    go_ret
    exact ⟨by rw [HU.out]; rfl, rfl⟩
abbrev BMap (w : World) (b n : Nat) (f : ByteArray → Option Bool) : Prop := FMap w Tryd.prog 9 (plainElem Tryd.prog 4) Value.string bdat b n f
/-- A map that holds just the names of B as true, but perhaps the empty one. -/
def BSet (w : World) (b n : Nat) (B : Ko.Bd) : Prop := ∃ f, BMap w b n f ∧ ∀ x : ByteArray, x.data.toList ≠ [] → (f x).getD false = B x
section
variable {w w' : World} {b n : Nat} {B : Ko.Bd}
theorem BSet.lt (h : BSet w b n B) : b < w.heap.size := by obtain ⟨f, h, _⟩ := h; exact h.lt
theorem BSet.next (h : BSet w b n B) (hb : Below w.heap.size w w') : BSet w' b n B := by
  obtain ⟨f, h, r⟩ := h; exact ⟨f, h.next hb, r⟩
theorem BSet.setCell (h : BSet w b n B) {a : Addr} (ha : b ≠ a.block) (u : Value) : BSet (w.setCell a u) b n B := by
  obtain ⟨f, h, r⟩ := h; exact ⟨f, h.setCell ha u, r⟩
theorem BSet.mono (h : BSet w b n B) {n' : Nat} (hn : n ≤ n') : BSet w b n' B := by
  obtain ⟨f, h, r⟩ := h; exact ⟨f, h.mono hn, r⟩
theorem BSet.alloc (h : BSet w b n B) (o : Obj) : BSet (w.alloc o) b n B := by
  obtain ⟨f, h, r⟩ := h; exact ⟨f, h.alloc o, r⟩
theorem BSet.drew (h : BSet w b n B) : BSet w.drew b n B := by
  obtain ⟨f, h, r⟩ := h; exact ⟨f, h.drew, r⟩
theorem BSet.obj (h : BSet w b n B) : ∃ es c, w.heap[b]? = some (.map es c) := by
  obtain ⟨f, h, _⟩ := h; exact h.obj
theorem BSet.apart (h : BSet w b n B) {g : Nat} {t : TypeId} {cs : Array Value} (ha : At w g t cs) : g ≠ b := by
  obtain ⟨es, c, ho⟩ := h.obj
  intro e
  exact ha.not_map ho (by rw [e])
end
/-- The state of an estimate in the memory. -/
structure StAt (w : World) (sb b n : Nat) (N C : Nat) (B : Ko.Bd) : Prop where
  cell : At w sb 91 #[.int .i64 (N : Int), .int .i64 (C : Int), .map (some b)]
  set : BSet w b n B
section
variable {w w' : World} {sb b n N C : Nat} {B : Ko.Bd}
theorem StAt.next (h : StAt w sb b n N C B) (hb : Below w.heap.size w w') : StAt w' sb b n N C B := ⟨h.cell.next hb, h.set.next hb⟩
theorem StAt.alloc (h : StAt w sb b n N C B) (o : Obj) : StAt (w.alloc o) sb b n N C B := ⟨h.cell.alloc o, h.set.alloc o⟩
theorem StAt.ne (h : StAt w sb b n N C B) : sb ≠ b := h.set.apart h.cell
theorem StAt.c0 (h : StAt w sb b n N C B) : w.cell? ⟨sb, 0, none⟩ = some (.int .i64 (N : Int)) := h.cell.cell 0
theorem StAt.c1 (h : StAt w sb b n N C B) : w.cell? ⟨sb, 1, none⟩ = some (.int .i64 (C : Int)) := h.cell.cell 1
theorem StAt.c2 (h : StAt w sb b n N C B) : w.cell? ⟨sb, 2, none⟩ = some (.map (some b)) := h.cell.cell 2
theorem StAt.putC (h : StAt w sb b n N C B) (C' : Nat) : StAt (w.setCell ⟨sb, 1, none⟩ (.int .i64 (C' : Int))) sb b n N C' B := ⟨h.cell.put 1 _, h.set.setCell h.ne.symm _⟩
theorem StAt.putN (h : StAt w sb b n N C B) (N' : Nat) : StAt (w.setCell ⟨sb, 0, none⟩ (.int .i64 (N' : Int))) sb b n N' C B := ⟨h.cell.put 0 _, h.set.setCell h.ne.symm _⟩
theorem StAt.mono (h : StAt w sb b n N C B) {n' : Nat} (hn : n ≤ n') : StAt w sb b n' N C B := ⟨h.cell, h.set.mono hn⟩
theorem StAt.drew (h : StAt w sb b n N C B) : StAt w.drew sb b n N C B := ⟨h.cell, h.set.drew⟩
theorem StAt.lt (h : StAt w sb b n N C B) : sb < w.heap.size := h.cell.lt
end
set_option maxRecDepth 100000 in
theorem pay_any (sb b n N C k : Nat) (B : Ko.Bd) (w : World) (h : StAt w sb b n N C B) (hC : C ≤ 10000000000) (hk : k ≤ 10000000000) :
    Calls Tryd.prog 35 #[.pointer (some ⟨sb, 0, none⟩), .int .i64 (k : Int)] w fun e w' => e = .returned (.tuple #[]) ∧ w' = w.setCell ⟨sb, 1, none⟩ (.int .i64 ((min (C + k) Ko.most : Nat) : Int)) := by
  have c1 := h.c1
  have yf := h.cell.frozen 1
  have HM := Lib.hid (show 1000000000 ≤ C + k → ((min (C + k) Ko.most : Nat) : Int) = 1000000000 from fun h => by unfold Ko.most; omega)
  have HN := Lib.hid (show C + k ≤ 1000000000 → ((min (C + k) Ko.most : Nat) : Int) = (C : Int) + (k : Int) from fun h => by unfold Ko.most; omega)
  obtain ⟨m, hm⟩ : ∃ m, ((min (C + k) Ko.most : Nat) : Int) = m := ⟨_, rfl⟩
  rw [hm] at HM HN ⊢
  clear hm h
  go_enter Tryd.func35, Tryd.ntmps35
  go_wp2_with fail
  all_goals
    go_end0
    refine ⟨rfl, ?_⟩
    first
      | (rw [HM.out (by omega)])
      | (rw [HN.out (by omega)])
set_option maxRecDepth 100000 in
theorem free_any (sb b n N C : Nat) (B : Ko.Bd) (t : Tm) (w : World) (h : StAt w sb b n N C B) (hz : FitS t.v) :
    Calls Tryd.prog 32 #[.pointer (some ⟨sb, 0, none⟩), .agg #[.string t.v, .int .i64 t.t, .int .i64 t.n, .string t.s]] w fun e w' => e = .returned (.bool (!Ko.known B t)) ∧ Below w.heap.size w w' := by
  have HK := Lib.hid (known_name B t)
  have h1 := h.alloc (.cells #[.string t.v, .int .i64 t.t, .int .i64 t.n, .string t.s] 64)
  have hat := At.new w 64 #[.string t.v, .int .i64 t.t, .int .i64 t.n, .string t.s]
  have f0 : ∀ z : Held (w.alloc (.cells #[.string t.v, .int .i64 t.t, .int .i64 t.n, .string t.s] 64)).heap.size (w.alloc (.cells #[.string t.v, .int .i64 t.t, .int .i64 t.n, .string t.s] 64)), z.w.cell? ⟨w.heap.size, 0, none⟩ = some (.string t.v) := fun z => z.cell hat.lt (hat.cell 0)
  have f2 : ∀ z : Held (w.alloc (.cells #[.string t.v, .int .i64 t.t, .int .i64 t.n, .string t.s] 64)).heap.size (w.alloc (.cells #[.string t.v, .int .i64 t.t, .int .i64 t.n, .string t.s] 64)), z.w.cell? ⟨sb, 2, none⟩ = some (.map (some b)) := fun z => z.cell h1.lt h1.c2
  obtain ⟨f, hm, hf⟩ := h1.set
  have q0 : ∀ z : Held (w.alloc (.cells #[.string t.v, .int .i64 t.t, .int .i64 t.n, .string t.s] 64)).heap.size (w.alloc (.cells #[.string t.v, .int .i64 t.t, .int .i64 t.n, .string t.s] 64)), (Instr.lookup 83 (.map (some b)) (.string t.v) false).run Tryd.prog z.w = .ok (.bool ((f t.v).getD false)) z.w := fun z => (hm.next z.ok).look str_enc0 bool_enc Tryd.underlying83 (zero_bool _) t.v hz
  have HF := Lib.hid (hf t.v)
  obtain ⟨z, hzz⟩ : ∃ z, (f t.v).getD false = z := ⟨_, rfl⟩
  rw [hzz] at q0 HF
  clear hzz hf hm h h1 hat
  by_cases hv : t.v.toList = []
  · have t1 : (t.v.toList == []) = true := by rw [hv]; rfl
    have t2 : (t.v.toList != []) = false := by rw [hv]; rfl
    have HR := Lib.hid (show (!Ko.known B t) = false by rw [HK.out, decide_eq_true hv]; rfl)
    clear hv
    go_enter Tryd.func32, Tryd.ntmps32
    go_wp2_with fail
    refine wp_region_held (w.alloc (.cells #[.string t.v, .int .i64 t.t, .int .i64 t.n, .string t.s] 64)).heap.size (w.alloc (.cells #[.string t.v, .int .i64 t.t, .int .i64 t.n, .string t.s] 64)) (Below.refl _ _) (by kernel_rfl) (by kernel_rfl) ?_
    repeat (go_big_quiet_step (fail))
    refine wpQuiet_nil ?_
    rintro wt ⟨⟨_, bt⟩, rfl⟩
    go_wp2_with fail
    go_ret
    exact ⟨by rw [HR.out]; rfl, (below1 _ _).trans (bt.mono (by simp))⟩
  · have t1 : (t.v.toList == []) = false := by simpa using hv
    have t2 : (t.v.toList != []) = true := by simpa using hv
    have HR := Lib.hid (show (!Ko.known B t) = !z by rw [HK.out, decide_eq_false hv, ← HF.out (var_of hv)]; rfl)
    clear hv
    go_enter Tryd.func32, Tryd.ntmps32
    go_wp2_with fail
    refine wp_region_held (w.alloc (.cells #[.string t.v, .int .i64 t.t, .int .i64 t.n, .string t.s] 64)).heap.size (w.alloc (.cells #[.string t.v, .int .i64 t.t, .int .i64 t.n, .string t.s] 64)) (Below.refl _ _) (by kernel_rfl) (by kernel_rfl) ?_
    repeat (go_big_quiet_step (fail))
    refine wpQuiet_nil ?_
    rintro wt ⟨⟨_, bt⟩, rfl⟩
    go_wp2_with fail
    go_ret
    exact ⟨by rw [HR.out]; rfl, (below1 _ _).trans (bt.mono (by simp))⟩
end Go.Proofs.YtoficnfpoeaccaaDoor
