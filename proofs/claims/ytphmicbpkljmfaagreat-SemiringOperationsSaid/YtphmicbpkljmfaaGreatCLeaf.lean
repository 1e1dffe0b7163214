/- The walks of the small functions of circuits: New, binary, ok, has, In, Same, Ints, Index, Clone. -/
import Derived.Test.YtphmicbpkljmfaaGreatRows
import Derived.Test.YtphmicbpkljmfaaGreatShelf
import Derived.Test.YtphmicbpkljmfaaGreatTwo
import Derived.Test.YtphmicbpkljmfaaGreatCLaw
import Derived.WalkKit
import Derived.WalkSpells
import Derived.WalkLawsBesides
import Derived.BigQuiet
import Derived.Lib.Hide
namespace Go.Proofs.YtphmicbpkljmfaaGreat
set_option linter.unusedVariables false
set_option linter.unusedSimpArgs false
open Go.RowKit
open Cx (N)
/-- A node as the machine has it. -/
def ncells (l : List N) : List Value := l.flatMap fun v => [.int .i64 v.o, .int .i64 v.a, .int .i64 v.b]
/-- A slice's cells hold these nodes. -/
def Circ (w : World) (A : Option Addr) (l : List N) : Prop :=
  l ≠ [] → ∃ g o, A = some ⟨g, o, none⟩ ∧ g < w.heap.size ∧ ∀ (k : Nat) (v : N), l[k]? = some v → w.cell? ⟨g, o + k * 3, none⟩ = some (.int .i64 v.o) ∧ w.cell? ⟨g, o + k * 3 + 1, none⟩ = some (.int .i64 v.a) ∧ w.cell? ⟨g, o + k * 3 + 2, none⟩ = some (.int .i64 v.b)
theorem Circ.below {w w' : World} {A : Option Addr} {l : List N} (h : Circ w A l) (hb : Below w.heap.size w w') : Circ w' A l := fun hn => by
  obtain ⟨g, o, e, hg, hc⟩ := h hn
  refine ⟨g, o, e, Nat.lt_of_lt_of_le hg hb.size, fun k v hv => ?_⟩
  obtain ⟨a, b, c⟩ := hc k v hv
  exact ⟨(hb.cell (p := ⟨g, o + k * 3, none⟩) hg).trans a, (hb.cell (p := ⟨g, o + k * 3 + 1, none⟩) hg).trans b, (hb.cell (p := ⟨g, o + k * 3 + 2, none⟩) hg).trans c⟩
theorem Circ.at {w : World} {A : Option Addr} {l : List N} (h : Circ w A l) {k : Nat} (hk : k < l.length) :
    ∃ g o, A = some ⟨g, o, none⟩ ∧ g < w.heap.size ∧ w.cell? ⟨g, o + k * 3, none⟩ = some (.int .i64 l[k].o) ∧ w.cell? ⟨g, o + k * 3 + 1, none⟩ = some (.int .i64 l[k].a) ∧ w.cell? ⟨g, o + k * 3 + 2, none⟩ = some (.int .i64 l[k].b) := by
  obtain ⟨g, o, e, hg, hc⟩ := h (by intro h; rw [h] at hk; simp at hk)
  exact ⟨g, o, e, hg, hc _ _ (List.getElem?_eq_getElem hk)⟩
/-- A slice's cells hold these numbers. -/
def Nums (w : World) (A : Option Addr) (xs : List Int) : Prop :=
  xs ≠ [] → ∃ g o, A = some ⟨g, o, none⟩ ∧ g < w.heap.size ∧ ∀ (k : Nat) (x : Int), xs[k]? = some x → w.cell? ⟨g, o + k, none⟩ = some (.int .i64 x)
theorem Nums.below {w w' : World} {A : Option Addr} {xs : List Int} (h : Nums w A xs) (hb : Below w.heap.size w w') : Nums w' A xs := fun hn => by
  obtain ⟨g, o, e, hg, hc⟩ := h hn
  exact ⟨g, o, e, Nat.lt_of_lt_of_le hg hb.size, fun k x hx => (hb.cell hg).trans (hc k x hx)⟩
theorem Nums.at {w : World} {A : Option Addr} {xs : List Int} (h : Nums w A xs) {k : Nat} (hk : k < xs.length) : ∃ g o, A = some ⟨g, o, none⟩ ∧ g < w.heap.size ∧ w.cell? ⟨g, o + k, none⟩ = some (.int .i64 xs[k]) := by
  obtain ⟨g, o, e, hg, hc⟩ := h (by intro h; rw [h] at hk; simp at hk)
  exact ⟨g, o, e, hg, hc _ _ (List.getElem?_eq_getElem hk)⟩
theorem new_any (w : World) : Calls Tryz.prog 48 #[] w fun e w' => e = .returned (.slice (some ⟨w.heap.size, 0, none⟩) 2 2) ∧ w.alloc (.cells (ncells Cx.new).toArray 58) = w' := by
  go_enter Tryz.func48, Tryz.ntmps48
  go_wp2
  go_ret
  exact ⟨rfl, rfl⟩
theorem rnew_any (w : World) : Calls Tryz.prog 58 #[] w fun e w' => e = .returned (.slice (some ⟨w.heap.size, 0, none⟩) 2 2) ∧ w.alloc (.cells (ncells Cx.new).toArray 58) = w' := by
  go_enter Tryz.func58, Tryz.ntmps58
  go_wp2
  go_ret
  exact ⟨rfl, rfl⟩
theorem binary_any (o a b : Int) (w : World) : Calls Tryz.prog 49 #[.agg #[.int .i64 o, .int .i64 a, .int .i64 b]] w fun e w' => e = .returned (.bool (Cx.binary ⟨o, a, b⟩)) ∧ w.alloc (.cells #[.int .i64 o, .int .i64 a, .int .i64 b] 58) = w' := by
  have hE : Cx.binary ⟨o, a, b⟩ = ((o == 3) || (o == 4)) := by
    unfold Cx.binary; rw [Bool.eq_iff_iff]; simp
  have HE := Lib.hid hE
  clear hE
  cases h1 : (o == 3) <;> cases h2 : (o == 4)
  all_goals
    go_enter Tryz.func49, Tryz.ntmps49
    go_wp2
    go_ret
    exact ⟨by rw [HE.out, h1, h2]; rfl, rfl⟩
theorem in_any (A : Option Addr) (k : Nat) (l : List N) (n : Int) (w : World) (hl : l.length ≤ 9223372036854775807) : Calls Tryz.prog 43 #[.slice A l.length k, .int .i64 n] w fun e w' => e = .returned (.bool (Cx.isIn l n)) ∧ w = w' := by
  unfold Cx.isIn
  cases h1 : decide (0 ≤ n) <;> cases h2 : decide (n < (l.length : Int))
  all_goals
    go_enter Tryz.func43, Tryz.ntmps43
    go_wp2
    go_ret
    exact ⟨rfl, rfl⟩
theorem getElem_of {α : Type} {l : List α} {k : Nat} (h : k < l.length) : l[k]? = some l[k] := List.getElem?_eq_getElem h
/-- What is left of a search. -/
theorem has_more {α : Type} [BEq α] {l : List α} {k : Nat} {x n : α} {R : Bool} (hR : R = (l.drop k).any (· == n)) (hx : l[k]? = some x) : R = ((x == n) || (l.drop (k + 1)).any (· == n)) := by
  obtain ⟨h, rfl⟩ := List.getElem?_eq_some_iff.1 hx
  rw [hR, List.drop_eq_getElem_cons h, List.any_cons]
theorem contains_any (l : List Int) (n : Int) : l.contains n = (l.drop 0).any (· == n) := by
  rw [List.drop_zero, Bool.eq_iff_iff, List.contains_iff_mem, List.any_eq_true]
  constructor
  · intro h; exact ⟨n, h, by simp⟩
  · rintro ⟨x, hx, e⟩; rw [← (beq_iff_eq.1 e)]; exact hx
set_option maxHeartbeats 1000000 in
theorem has_any (A : Option Addr) (c : Nat) (xs : List Int) (n : Int) (w : World) (hx : xs.length ≤ 9223372036854775807) (hA : Nums w A xs) :
    Calls Tryz.prog 63 #[.slice A xs.length c, .int .i64 n] w fun e w' => e = .returned (.bool (xs.contains n)) ∧ w = w' := by
  obtain ⟨R, hR⟩ : ∃ R, R = xs.contains n := ⟨_, rfl⟩
  rw [← hR]
  rw [contains_any] at hR
  have HR := Lib.hid hR
  clear hR
  go_enter Tryz.func63, Tryz.ntmps63
  go_wp2
  go_loop [5] (fun i => ∃ k : Nat, k ≤ xs.length ∧ Hid (R = (xs.drop k).any (· == n)) ∧ i = .int .i64 k) (fun i => xs.length - (intOf i).toNat)
  case atStart => exact ⟨0, by omega, HR, rfl⟩
  case round =>
    obtain ⟨k, hk, HK, rfl⟩ := hrel
    by_cases h1 : k < xs.length
    · have d1 : decide ((k : Int) < (xs.length : Int)) = true := by simp; omega
      obtain ⟨g, o, rfl, hg, c1⟩ := hA.at h1
      have hE := has_more HK.out (getElem_of h1)
      generalize xs[k] = x at *
      cases hz : (x == n)
      · have HE := Lib.hid (show R = (xs.drop (k + 1)).any (· == n) by rw [hE, hz]; rfl)
        clear hE
        go_wp2
        go_round
        case rel => exact ⟨k + 1, by omega, HE, by go_num⟩
        case measure => simp [intOf]; omega
      · have HE := Lib.hid (show R = true by rw [hE, hz]; rfl)
        clear hE
        go_wp2
        go_ret
        exact ⟨by rw [HE.out]; rfl, rfl⟩
    · have d1 : decide ((k : Int) < (xs.length : Int)) = false := by simp; omega
      have HE := Lib.hid (show R = false by rw [HK.out, List.drop_eq_nil_of_le (by omega)]; rfl)
      go_wp2
      go_ret
      exact ⟨by rw [HE.out]; rfl, rfl⟩
end Go.Proofs.YtphmicbpkljmfaaGreat
