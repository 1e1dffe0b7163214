/- slices.Sort of numbers: the nil slice; and what the contract says of a row of the call's own. -/
import Derived.Test.YtphmicbpkljmfaaGreatShelf
import Derived.Test.YtphmicbpkljmfaaGreatCRVars
import Derived.Sort.OwnSortedInts
namespace Go.Proofs.YtphmicbpkljmfaaGreat
set_option linter.unusedVariables false
set_option linter.unusedSimpArgs false
open Go.RowKit Go.Sort
theorem inssort_nil (w : World) : Calls Tryz.prog 69 #[.slice none 0 0, .int .i64 0, .int .i64 0] w fun e w' => e = .returned (.tuple #[]) ∧ w = w' := by
  go_enter Tryz.func69, Tryz.ntmps69
  go_wp2_with fail
  refine wp_loop_rounds 1 ?_
  rw [rounds_succ]
  go_wp2_with fail
  go_end0
  exact ⟨rfl, rfl⟩
theorem pdq_nil (w : World) : Calls Tryz.prog 64 #[.slice none 0 0, .int .i64 0, .int .i64 0, .int .i64 0] w fun e w' => e = .returned (.tuple #[]) ∧ w = w' := by
  go_enter Tryz.func64, Tryz.ntmps64
  go_wp2_with fail
  refine wp_loop_rounds 1 ?_
  rw [rounds_succ]
  go_wp2_with fail
  refine (inssort_nil _).mono ?_
  rintro e w' ⟨rfl, rfl⟩
  go_wp2_with fail
  exact bodyPost_ret (v := .tuple #[]) (by simp [results, Tryz.results64, go_sem]) rfl ⟨rfl, rfl⟩
theorem sort_nil (w : World) : Calls Tryz.prog 53 #[.slice none 0 0] w fun e w' => e = .returned (.tuple #[]) ∧ w = w' := by
  go_enter Tryz.func53, Tryz.ntmps53
  go_wp2_with fail
  refine (Tryz.bits_Len 0 _ (by omega) (by omega)).mono ?_
  rintro e w' ⟨rfl, rfl⟩
  rw [show ((Lib.bitLen (0 : Int).toNat : Nat) : Int) = 0 from rfl]
  go_wp2_with fail
  refine (pdq_nil _).mono ?_
  rintro e w' ⟨rfl, rfl⟩
  go_wp2_with fail
  go_end0
  exact ⟨rfl, rfl⟩
/-- Sorting. -/
def sorted (xs : List Int) : List Int := xs.mergeSort fun x y => decide (x ≤ y)
theorem sorted_perm (xs : List Int) : (sorted xs).Perm xs := List.mergeSort_perm _ _
theorem sorted_le (xs : List Int) : (sorted xs).Pairwise (· ≤ ·) := by
  have h := List.pairwise_mergeSort (le := fun x y : Int => decide (x ≤ y)) (fun a b c h1 h2 => by simp at *; omega) (fun a b => by simp; omega) xs
  unfold sorted
  exact h.imp (fun h => by simpa using h)
theorem sort_own (B : Nat) (v : Value) (xs : List Int) (w : World) (h : w.ownsRow B 3 1 v xs.length (icells xs)) (hB : B ≤ w.heap.size) (hl : xs.length ≤ 1000000) :
    Calls Tryz.prog 53 #[v] w fun e w' => e = .returned (.tuple #[]) ∧ w'.ownsRow B 3 1 v xs.length (icells (sorted xs)) ∧ Below B w w' := by
  rcases h.2 with ⟨rfl, h0⟩ | ⟨g, cap, cur, rfl, hg, hh, h1, h2, h3, h4⟩
  · have hx : xs = [] := List.eq_nil_of_length_eq_zero h0
    subst hx
    refine (sort_nil w).mono ?_
    rintro e w' ⟨rfl, rfl⟩
    rw [show sorted [] = [] by simp [sorted]]
    exact ⟨rfl, World.ownsRow_nil _ _ _ _, Below.refl _ _⟩
  · have h4' : cur.toList.take xs.length = xs.map (Value.int .i64) := by rw [Nat.mul_one] at h4; exact h4
    have hlen : (sorted xs).length = xs.length := (sorted_perm xs).length_eq
    refine (Tryz.slices_Sort_int g 0 cap xs w (holds_of_blockI hh h4') (Array.getElem?_eq_some_iff.1 hh).1 (by omega)).mono ?_
    rintro e w' ⟨rfl, n, os, rfl⟩
    exact ⟨rfl, ownsRow_sortedI hlen hg hh h1 h2 h3, (Below.refl B w).grown (grownBy_sortedI _) hB (fun k hk => by injection hk with hk; omega)⟩
end Go.Proofs.YtphmicbpkljmfaaGreat
