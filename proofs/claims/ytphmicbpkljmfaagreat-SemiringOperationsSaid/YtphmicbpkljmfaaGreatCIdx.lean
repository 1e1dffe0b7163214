/- The walks of the searches in circuits: Index, Same, Ints. -/
import Derived.Test.YtphmicbpkljmfaaGreatCLeaf
import Derived.Test.YtphmicbpkljmfaaGreatTwo
import Derived.Laws.StructEq
namespace Go.Proofs.YtphmicbpkljmfaaGreat
set_option linter.unusedVariables false
set_option linter.unusedSimpArgs false
open Go.RowKit
open Cx (N)
theorem node_eq (x y : N) (w : World) :
    (Op.equalIn 10000 58 (.agg #[.int .i64 x.o, .int .i64 x.a, .int .i64 x.b]) (.agg #[.int .i64 y.o, .int .i64 y.a, .int .i64 y.b])).run Tryz.prog w = .ok (x == y) w := by
  obtain ⟨o, a, b⟩ := x
  obtain ⟨o', a', b'⟩ := y
  have e : ((⟨o, a, b⟩ : N) == ⟨o', a', b'⟩) = decide (o = o' ∧ a = a' ∧ b = b') := by
    rw [Bool.eq_iff_iff, beq_iff_eq, decide_eq_true_eq, Cx.N.mk.injEq]
  rw [e]
  by_cases h1 : o = o' <;> by_cases h2 : a = a' <;> by_cases h3 : b = b' <;> simp [h1, h2, h3, go_sem, Tryz.underlying58]
/-- The index of the first equal element, or -1. -/
def idxI (l : List N) (n : N) : Int := match Cx.idx l n with | some i => (i : Int) | none => -1
theorem idx_hit {l : List N} {n : N} {k : Nat} (h : l[k]? = some n) (hno : ∀ j, j < k → l[j]? ≠ some n) : Cx.idx l n = some k := by
  unfold Cx.idx
  rw [List.findIdx?_eq_some_iff_getElem]
  obtain ⟨hk, e⟩ := List.getElem?_eq_some_iff.1 h
  refine ⟨hk, by rw [e]; simp, fun j hj => ?_⟩
  have := hno j hj
  rw [List.getElem?_eq_getElem (by omega)] at this
  simpa using this
theorem idx_none {l : List N} {n : N} (hno : ∀ j, j < l.length → l[j]? ≠ some n) : Cx.idx l n = none := by
  unfold Cx.idx
  rw [List.findIdx?_eq_none_iff]
  intro x hx
  obtain ⟨j, hj, e⟩ := List.mem_iff_getElem.1 hx
  have := hno j hj
  rw [List.getElem?_eq_getElem hj, e] at this
  simpa using this
set_option maxHeartbeats 1000000 in
theorem index_any (A : Option Addr) (c : Nat) (l : List N) (n : N) (w : World) (hl : l.length ≤ 9223372036854775807) (hA : Circ w A l) :
    Calls Tryz.prog 67 #[.slice A l.length c, .agg #[.int .i64 n.o, .int .i64 n.a, .int .i64 n.b]] w fun e w' => e = .returned (.int .i64 (idxI l n)) ∧ Below w.heap.size w w' := by
  obtain ⟨W, hW⟩ : ∃ W, W = w.alloc (.cells #[.int .i64 n.o, .int .i64 n.a, .int .i64 n.b] 58) := ⟨_, rfl⟩
  have hb : Below w.heap.size w W := by rw [hW]; exact below1 _ _
  have hn : At W w.heap.size 58 #[.int .i64 n.o, .int .i64 n.a, .int .i64 n.b] := by rw [hW]; exact At.new _ _ _
  have HW := Lib.hid hW
  clear hW
  have n0 := hn.cell 0; have n1 := hn.cell 1; have n2 := hn.cell 2
  simp at n0 n1 n2
  go_enter Tryz.func67, Tryz.ntmps67
  go_wp2_with fail
  rw [← HW.out]
  go_loopw [8] (fun i wr => ∃ k q : Nat, k ≤ l.length ∧ Hid (∀ j, j < k → l[j]? ≠ some n) ∧ i = .int .i64 k ∧ wr = W.drewN q) (fun i _ => l.length - (intOf i).toNat)
  case atStart => exact ⟨0, 0, by omega, Lib.hid (fun j hj => by omega), rfl, rfl⟩
  case round =>
    obtain ⟨k, q, hk, HN, rfl, rfl⟩ := hrel
    by_cases h1 : k < l.length
    · have d1 : decide ((k : Int) < (l.length : Int)) = true := by simp; omega
      obtain ⟨g, o, rfl, hg, c0, c1, c2⟩ := (hA.below hb).at h1
      have e1 := getElem_of h1
      generalize l[k] = x at *
      have i0 : (0 : Int) ≤ (k : Int) := by omega
      have i1 : (k : Int) < (l.length : Int) := by omega
      have q1 := fun w => node_eq n x w
      cases hz : (n == x)
      · have HR := Lib.hid (show ∀ j, j < k + 1 → l[j]? ≠ some n from fun j hj => by
          by_cases e : j = k
          · rw [e, e1]; intro h; rw [Option.some.inj h] at hz; simp at hz
          · exact HN.out j (by omega))
        rw [hz] at q1
        clear e1 hz
        go_wp2_with fail
        go_quiet (fail)
        go_wp2_with fail
        go_roundw
        case rel => exact ⟨k + 1, _, by omega, HR, by go_num, rfl⟩
        case measure => simp [intOf]; omega
      · have HR := Lib.hid (show idxI l n = (k : Int) by unfold idxI; rw [idx_hit (by rw [e1, beq_iff_eq.1 hz]) HN.out])
        rw [hz] at q1
        clear e1 hz
        go_wp2_with fail
        go_quiet (fail)
        go_wp2_with fail
        go_ret
        exact ⟨by rw [HR.out]; rfl, below_drewN (below_drewN hb _) _⟩
    · have d1 : decide ((k : Int) < (l.length : Int)) = false := by simp; omega
      have HR := Lib.hid (show idxI l n = -1 by unfold idxI; rw [idx_none (fun j hj => HN.out j (by omega))])
      go_wp2_with fail
      go_ret
      exact ⟨by rw [HR.out]; rfl, below_drewN hb _⟩
end Go.Proofs.YtphmicbpkljmfaaGreat
