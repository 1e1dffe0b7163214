/- The walks of small, fine, meets, last. -/
import Derived.Test.YtphmicbpkljmfaaGreatSPl
import Derived.Test.YtphmicbpkljmfaaGreatSHead
namespace Go.Proofs.YtphmicbpkljmfaaGreat
set_option linter.unusedVariables false
set_option linter.unusedSimpArgs false
open Go.RowKit
open Cx (N fam Few)
theorem small_any (A : Option Addr) (c : Nat) (l : List N) (w : World) (hl : l.length ≤ 9223372036854775807) :
    Calls Tryz.prog 6 #[.slice A l.length c] w fun e w' => e = .returned (.bool (decide (l.length ≤ 40))) ∧ w = w' := by
  have d1 : decide ((l.length : Int) ≤ 40) = decide (l.length ≤ 40) := by rw [Bool.eq_iff_iff]; simp; omega
  go_enter Tryz.func6, Tryz.ntmps6
  go_wp2_with fail
  go_ret
  exact ⟨rfl, rfl⟩
/-- Whether a circuit is small and valid, and has a node. -/
def fineP (l : List N) (n : Int) : Bool := decide (l.length ≤ 40) && Cx.isIn l n && Cx.valid l
theorem fineP_true {l : List N} {n : Int} (h : fineP l n = true) : ∃ i : Nat, n = i ∧ i < l.length ∧ l.length ≤ 40 ∧ Cx.valid l = true := by
  unfold fineP at h
  rw [Bool.and_eq_true, Bool.and_eq_true, decide_eq_true_eq] at h
  obtain ⟨i, rfl, hi⟩ := Cx.isIn_get h.1.2
  exact ⟨i, rfl, hi, h.1.1, h.2⟩
set_option maxRecDepth 100000 in
theorem fine_any (A : Option Addr) (c : Nat) (l : List N) (n : Int) (w : World) (hl : l.length ≤ 9223372036854775807) (hF : ∀ n ∈ l, NGood n) (hA : Circ w A l) :
    Calls Tryz.prog 17 #[.slice A l.length c, .int .i64 n] w fun e w' => e = .returned (.bool (fineP l n)) ∧ Below w.heap.size w w' := by
  cases h1 : decide (l.length ≤ 40) with
  | false =>
    have HR := Lib.hid (show fineP l n = false by unfold fineP; rw [h1]; rfl)
    go_enter Tryz.func17, Tryz.ntmps17
    go_wp2_with fail
    refine (small_any A c l _ hl).mono ?_
    rintro e w1 ⟨rfl, rfl⟩
    rw [h1]
    go_wp2_with fail
    go_ret
    exact ⟨by rw [HR.out]; rfl, Below.refl _ _⟩
  | true =>
    have hl2 : l.length ≤ 20000 := by have := of_decide_eq_true h1; omega
    cases h2 : Cx.isIn l n with
    | false =>
      have HR := Lib.hid (show fineP l n = false by unfold fineP; rw [h1, h2]; rfl)
      go_enter Tryz.func17, Tryz.ntmps17
      go_wp2_with fail
      refine (small_any A c l _ hl).mono ?_
      rintro e w1 ⟨rfl, rfl⟩
      rw [h1]
      go_wp2_with fail
      refine (in_any A c l n _ hl).mono ?_
      rintro e w1 ⟨rfl, rfl⟩
      rw [h2]
      go_wp2_with fail
      go_ret
      exact ⟨by rw [HR.out]; rfl, Below.refl _ _⟩
    | true =>
      have HR := Lib.hid (show fineP l n = Cx.valid l by unfold fineP; rw [h1, h2]; rfl)
      go_enter Tryz.func17, Tryz.ntmps17
      go_wp2_with fail
      refine (small_any A c l _ hl).mono ?_
      rintro e w1 ⟨rfl, rfl⟩
      rw [h1]
      go_wp2_with fail
      refine (in_any A c l n _ hl).mono ?_
      rintro e w1 ⟨rfl, rfl⟩
      rw [h2]
      go_wp2_with fail
      refine (rvalid_any A c l _ hl2 hF hA).mono ?_
      rintro e w2 ⟨rfl, b2⟩
      go_wp2_with fail
      go_ret
      exact ⟨by rw [HR.out]; rfl, b2⟩
/-- The greatest variable. -/
def lastP (l : List N) : Int := l.foldl (fun m v => if v.o = 2 ∧ m < v.a then v.a else m) 0
theorem last_more {l : List N} {k : Nat} {v : N} (h : l[k]? = some v) : lastP (l.take (k + 1)) = if v.o = 2 ∧ lastP (l.take k) < v.a then v.a else lastP (l.take k) := by
  unfold lastP
  rw [take_more h, List.foldl_append]; rfl
theorem last_up : ∀ (l : List N) (m : Int), m ≤ l.foldl (fun m v => if v.o = 2 ∧ m < v.a then v.a else m) m ∧ ∀ v ∈ l, v.o = 2 → v.a ≤ l.foldl (fun m v => if v.o = 2 ∧ m < v.a then v.a else m) m
  | [], m => ⟨Int.le_refl _, fun v h => by cases h⟩
  | u :: r, m => by
    have h := last_up r (if u.o = 2 ∧ m < u.a then u.a else m)
    rw [List.foldl_cons]
    refine ⟨?_, fun v hv h2 => ?_⟩
    · refine Int.le_trans ?_ h.1
      split <;> omega
    · rcases List.mem_cons.1 hv with rfl | hv
      · refine Int.le_trans ?_ h.1
        split <;> omega
      · exact h.2 v hv h2
theorem last_ge (l : List N) : 0 ≤ lastP l ∧ ∀ x ∈ allVars l, x ≤ lastP l := by
  refine ⟨(last_up l 0).1, fun x hx => ?_⟩
  obtain ⟨v, hv, rfl⟩ := List.mem_map.1 hx
  rw [List.mem_filter] at hv
  exact (last_up l 0).2 v hv.1 (by simpa using hv.2)
theorem last_i64 {l : List N} (hF : ∀ n ∈ l, NGood n) : lastP l ≤ 9223372036854775807 := by
  have : ∀ (l : List N) (m : Int), m ≤ 9223372036854775807 → (∀ n ∈ l, NGood n) → l.foldl (fun m v => if v.o = 2 ∧ m < v.a then v.a else m) m ≤ 9223372036854775807 := by
    intro l
    induction l with
    | nil => intro m h _; exact h
    | cons u r ih =>
      intro m h hF
      rw [List.foldl_cons]
      refine ih _ ?_ fun n hn => hF n (by simp [hn])
      have := (hF u (by simp)).2.1
      unfold I64 at this
      split <;> omega
  exact this l 0 (by omega) hF
end Go.Proofs.YtphmicbpkljmfaaGreat
