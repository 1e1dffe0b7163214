/- The walk of the reference's Vars. -/
import Derived.Test.YtphmicbpkljmfaaCBelow2
import Derived.Test.YtphmicbpkljmfaaTwo
import Derived.Test.YtphmicbpkljmfaaCRVal
import Derived.Deep.RegionLawGrows
import Derived.Deep.RegionLaw
import Derived.Deep.QuietTactic
import Derived.BigQuiet
import Derived.Outline
namespace Go.Proofs.Ytphmicbpkljmfaa
set_option linter.unusedVariables false
set_option linter.unusedSimpArgs false
open Go.RowKit
open Cx (N)
/-- A slice of the call's own, not nil. -/
def OwnSl (B n : Nat) (cs : List Value) : Value → World → Prop := fun x w => ∃ b k, x = .slice (some ⟨b, 0, none⟩) n k ∧ w.ownsRow B 3 1 x n cs
theorem lasting_ownSl {J : World → Prop} (B n : Nat) (cs : List Value) : Lasting J Onward (OwnSl B n cs) := fun x w w' _ hb ⟨b, k, e, h⟩ => ⟨b, k, e, own_below h hb⟩
/-- A slice of one number, of the call's own. -/
def OneSl (B : Nat) (y : Int) : Value → World → Prop := fun x w => ∃ b, x = .slice (some ⟨b, 0, none⟩) 1 1 ∧ B ≤ b ∧ At w b 3 [.int .i64 y].toArray
theorem lasting_oneSl {J : World → Prop} (B : Nat) (y : Int) : Lasting J Onward (OneSl B y) := fun x w w' _ hb ⟨b, e, h, ha⟩ => ⟨b, e, h, ha.next hb⟩
theorem below_none {w w' : World} (h : w.grownBy w' none) : Below w.heap.size w w' := ⟨h.os, h.tape, h.output, h.size, fun i hi => h.block i hi (fun e => by cases e)⟩
theorem insAt_le (x : Int) (out : List Int) : Cx.insAt x out ≤ out.length := by unfold Cx.insAt; exact (List.takeWhile_sublist _).length_le
theorem insAt_lt {x : Int} {out : List Int} {k : Nat} {y : Int} (h : k < Cx.insAt x out) (hy : out[k]? = some y) : y < x := by
  unfold Cx.insAt at h
  have hk : (out.takeWhile (fun y => decide (y < x)))[k]? = some y := by
    have := List.takeWhile_prefix (fun y => decide (y < x)) (l := out)
    obtain ⟨t, ht⟩ := this
    rw [← ht, List.getElem?_append_left h] at hy
    exact hy
  have hm := List.mem_of_getElem? hk
  have := List.all_eq_true.1 (List.all_takeWhile (p := fun y => decide (y < x)) (l := out)) y hm
  simpa using this
theorem insAt_stop {x : Int} {out : List Int} {y : Int} (hy : out[Cx.insAt x out]? = some y) : ¬ y < x := by
  induction out with
  | nil => simp [Cx.insAt] at hy
  | cons z r ih =>
    unfold Cx.insAt at hy ih
    rw [List.takeWhile_cons] at hy
    split at hy
    · exact ih (by simpa using hy)
    · rename_i h
      simp at hy
      subst hy
      simpa using h
theorem own_shape {w : World} {B n : Nat} {v : Value} {cs : List Value} (h : w.ownsRow B 3 1 v n cs) (hn : 0 < n) : OwnSl B n cs v w := by
  rcases h.2 with ⟨rfl, e⟩ | ⟨g, cap, cur, rfl, r⟩
  · omega
  · exact ⟨g, cap, rfl, h⟩
theorem own_of_at {w : World} {b B : Nat} {x : Value} (h : At w b 3 [x].toArray) (hB : B ≤ b) : w.ownsRow B 3 1 (.slice (some ⟨b, 0, none⟩) 1 1) 1 [x] :=
  ⟨rfl, Or.inr ⟨b, 1, #[x], rfl, hB, h, Nat.le_refl _, by unfold maxLen; omega, rfl, rfl⟩⟩
theorem own_news {w : World} {B b n k : Nat} {cs : List Value} (h : w.ownsRow B 3 1 (.slice (some ⟨b, 0, none⟩) n k) n cs) : ∀ j u, cs[j]? = some u → w.cell? ((⟨b, 0, none⟩ : Addr).add j) = some u := by
  obtain ⟨A, c, hv, _, _, hc⟩ := own_cells h
  injection hv with h1 h2 h3
  intro j u hu
  rcases hc with hc | ⟨g, hg, _, _, hc⟩
  · have : cs.length = n * 1 := h.1
    rw [hc] at this
    rw [List.getElem?_eq_none (by omega)] at hu; cases hu
  · rw [hg] at h1
    injection h1 with h1
    injection h1 with h1 _ _
    subst h1
    rw [add_off]
    exact hc j u hu
/-- The variables of the first k nodes. -/
def VarsAt (l : List N) (bs : List Bool) (k : Nat) (out : List Int) : Prop := out = Cx.varsTo l bs k
theorem VarsAt.no {l : List N} {bs : List Bool} {k : Nat} {out : List Int} {v : N} (h : VarsAt l bs k out) (hv : l[k]? = some v) (h2 : bs[k]? = some false ∨ ¬ v.o = 2) : VarsAt l bs (k + 1) out := by
  unfold VarsAt at *
  rw [Cx.varsTo_succ, ← h]
  unfold Cx.varsStep
  rcases h2 with h2 | h2
  · rw [List.getD_eq_getElem?_getD, h2]; rfl
  · split
    · have : Cx.varOf l k = none := by unfold Cx.varOf; rw [hv]; simp [h2]
      rw [this]
    · rfl
theorem VarsAt.yes {l : List N} {bs : List Bool} {k : Nat} {out : List Int} {v : N} (h : VarsAt l bs k out) (hv : l[k]? = some v) (hb : bs[k]? = some true) (h2 : v.o = 2) : VarsAt l bs (k + 1) (Cx.ins v.a out) := by
  unfold VarsAt at *
  rw [Cx.varsTo_succ, ← h]
  unfold Cx.varsStep
  rw [if_pos (by rw [List.getD_eq_getElem?_getD, hb]; rfl)]
  have : Cx.varOf l k = some v.a := by unfold Cx.varOf; rw [hv]; simp [h2]
  rw [this]
/-- Numbers in a slice of the call's own that is not nil. -/
def NS (w : World) (B G c : Nat) (xs : List Int) : Prop := w.ownsRow B 3 1 (.slice (some ⟨G, 0, none⟩) xs.length c) xs.length (icells xs)
theorem NS.cell {w : World} {B G c : Nat} {xs : List Int} (h : NS w B G c xs) {j : Nat} {x : Int} (hj : xs[j]? = some x) : w.cell? ⟨G, j, none⟩ = some (.int .i64 x) := by
  have := own_news h j (.int .i64 x) (by simp [icells, hj])
  rwa [add_off] at this
theorem icells_get {xs : List Int} {j : Nat} {u : Value} (h : (icells xs)[j]? = some u) : ∃ z, xs[j]? = some z ∧ Value.int .i64 z = u := by simpa [icells] using h
theorem NS.caps {w : World} {B G c : Nat} {xs : List Int} (h : NS w B G c xs) : xs.length ≤ c ∧ c ≤ maxLen ∧ B ≤ G ∧ G < w.heap.size := by
  obtain ⟨A, c', hv, h1, h2, _⟩ := own_cells h
  injection hv with _ _ e
  subst e
  have := own_lt h (g := G) rfl
  exact ⟨h1, h2, this.1, this.2⟩
end Go.Proofs.Ytphmicbpkljmfaa
