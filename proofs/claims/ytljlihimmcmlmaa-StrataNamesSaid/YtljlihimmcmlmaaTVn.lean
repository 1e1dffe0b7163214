/- slices.Index, Clone and Sort at rows of numbers. -/
import Derived.Test.YtljlihimmcmlmaaShelf
import Derived.Test.YtljlihimmcmlmaaTRco
import Derived.Sort.OwnSortedInts
import Derived.Test.YtljlihimmcmlmaaTVm
namespace Go.Proofs.Ytljlihimmcmlmaa
set_option linter.unusedVariables false
set_option linter.unusedSimpArgs false
open Go.RowKit Go.Sort
def ints (row : List Nat) : List Int := row.map fun (x : Nat) => (x : Int)
theorem ncells_ints (row : List Nat) : ncells row = (ints row).map (Value.int .i64) := by simp [ncells, ints]
theorem ints_len (row : List Nat) : (ints row).length = row.length := by simp [ints]
theorem ints_sort (row : List Nat) : (ints row).mergeSort (fun x y => decide (x ≤ y)) = ints (Tj.sortN row) := by
  unfold ints Tj.sortN
  rw [List.map_mergeSort]
  intro a _ b _
  simp
theorem ints_idx_from {a : Nat} : ∀ {row : List Nat} (i : Nat), a ∈ row → Lib.idxFrom (ints row) (a : Int) i = ((i + row.idxOf a : Nat) : Int)
  | [], i, h => by cases h
  | x :: row, i, h => by
    rw [List.idxOf_cons]
    unfold ints
    rw [List.map_cons]
    by_cases e : x = a
    · subst e; simp [Lib.idxFrom]
    · have hm : a ∈ row := by
        rcases List.mem_cons.1 h with h | h
        · exact absurd h.symm e
        · exact h
      have hb : (x == a) = false := by simpa using e
      have hb2 : ((x : Int) == (a : Int)) = false := by rw [beq_eq_false_iff_ne]; omega
      have ih := ints_idx_from (i + 1) hm
      unfold ints at ih
      rw [hb]
      have h3 : ¬ (x : Int) = (a : Int) := by omega
      simp only [Lib.idxFrom, h3, if_false, hb2, Bool.false_eq_true, cond_false]
      rw [ih]
      omega
theorem ints_idx {row : List Nat} {a : Nat} (h : a ∈ row) : Lib.idxOf (ints row) (a : Int) = ((row.idxOf a : Nat) : Int) := by
  unfold Lib.idxOf
  rw [ints_idx_from 0 h, Nat.zero_add]
theorem sort_n (B : Nat) (v : Value) (row : List Nat) (w : World) (h : w.ownsRow B 3 1 v row.length (ncells row)) (hne : row ≠ []) (hB : B ≤ w.heap.size) (hl : row.length ≤ 1000000) :
    Calls Try.prog 47 #[v] w fun e w' => e = .returned (.tuple #[]) ∧ w'.ownsRow B 3 1 v row.length (ncells (Tj.sortN row)) ∧ Below B w w' ∧ w.grownBy w' v.ownBlock := by
  rcases h.2 with ⟨rfl, h0⟩ | ⟨g, cap, cur, rfl, hg, hh, h1, h2, h3, h4⟩
  · exact absurd (List.eq_nil_of_length_eq_zero h0) hne
  · have h4' : cur.toList.take (ints row).length = (ints row).map (Value.int .i64) := by rw [Nat.mul_one, ncells_ints] at h4; rw [ints_len]; exact h4
    have hlen : ((ints row).mergeSort fun x y => decide (x ≤ y)).length = (ints row).length := (List.mergeSort_perm _ _).length_eq
    have hc := Try.slices_Sort_int g 0 cap (ints row) w (holds_of_blockI hh h4') (Array.getElem?_eq_some_iff.1 hh).1 (by rw [ints_len]; omega)
    rw [ints_len] at hc
    refine hc.mono ?_
    rintro e w' ⟨rfl, n, os, rfl⟩
    refine ⟨rfl, ?_, (Below.refl B w).grown (grownBy_sortedI _) hB (fun k hk => by injection hk with hk; omega), grownBy_sortedI _⟩
    rw [ncells_ints, ← ints_sort, ← ints_len row]
    exact ownsRow_sortedI hlen hg hh (by rw [ints_len]; exact h1) h2 h3
end Go.Proofs.Ytljlihimmcmlmaa
namespace Go.Proofs.Ytljlihimmcmlmaa
set_option linter.unusedVariables false
set_option linter.unusedSimpArgs false
open Go.RowKit
section
variable {T : Nat} {w0 : World} {k : Nat → Nat} {n ge cnt : Nat} {idx low : List Nat} {opn : List Bool} {of : List Nat} {sv : Value} {stk : List Nat} {ov : Value} {hs : List Value} {out : List (List Nat)} {W W' : World}
theorem TS.grewFar (h : TS T w0 k n ge cnt idx low opn of sv stk ov hs out W) (hk : KOk w0.heap.size T k) {v : Value} {m : Nat} {xs : List Value} (hv : W.ownsRow T 3 1 v m xs) (hg : W.grownBy W' v.ownBlock) (h1 : ∀ q, v.ownBlock = some q → sv.ownBlock ≠ some q) (h2 : ∀ u ∈ hs, ∀ q, u.ownBlock = some q → v.ownBlock ≠ some q) : TS T w0 k n ge cnt idx low opn of sv stk ov hs out W' :=
  h.grew hk hg (fun q hq => (own_lt hv hq).1) (own_grown h.so hg (fun b hb e => h1 b e hb)) (h.uo.grown hg (own_apart h.uo.own hv (by decide)) h2)
theorem TS.pushOut (h : TS T w0 k n ge cnt idx low opn of sv stk ov hs out W) (hk : KOk w0.heap.size T k) {v ov' : Value} {row : List Nat} (hv : W.ownsRow T 3 1 v row.length (ncells row)) (h1 : ∀ q, v.ownBlock = some q → sv.ownBlock ≠ some q)
    (ho : W'.ownsRow T 42 1 ov' (out.length + 1) (hs ++ [v])) (hkeep : W'.ownsRow T 42 1 ov out.length hs) (hg : W.grownBy W' ov.ownBlock) :
    TS T w0 k n ge cnt idx low opn of sv stk ov hs out W' ∧ TS T w0 k n ge cnt idx low opn of sv stk ov' (hs ++ [v]) (out ++ [row]) (W'.setCell ⟨k 7, 0, none⟩ ov') := by
  have huo : LsOwn W' T ov hs out := ⟨hkeep, fun a u r e1 e2 => own_grown (h.uo.rows a u r e1 e2) hg (own_apart (h.uo.rows a u r e1 e2) h.uo.own (by decide))⟩
  have hT := h.grew hk hg (fun q hq => (own_lt h.uo.own hq).1) (own_grown h.so hg (own_apart h.so h.uo.own (by decide))) huo
  refine ⟨hT, hT.setOut hk (h.uo.snoc hv ho hg) fun u hu q hq => ?_⟩
  rcases List.mem_append.1 hu with hu | hu
  · exact h.ap u hu q hq
  · simp at hu; subst hu; exact h1 q hq
theorem TS.popStk (h : TS T w0 k n ge cnt idx low opn of sv stk ov hs out W) (hk : KOk w0.heap.size T k) {m sc gs : Nat} (hsv : sv = .slice (some ⟨gs, 0, none⟩) stk.length sc) (hm : m ≤ stk.length) :
    TS T w0 k n ge cnt idx low opn of (.slice (some ⟨gs, 0, none⟩) m sc) (stk.take m) ov hs out (W.setCell ⟨k 4, 0, none⟩ (.slice (some ⟨gs, 0, none⟩) m sc)) := by
  refine h.setStk hk ?_ fun u hu q hq => ?_
  · have ho := h.so
    rw [hsv] at ho
    obtain ⟨d, hd⟩ := Nat.exists_eq_add_of_le hm
    have e : ncells stk = ncells (stk.take m) ++ ncells (stk.drop m) := by unfold ncells; rw [← List.map_append, List.take_append_drop]
    have hl : (stk.take m).length = m := by rw [List.length_take]; omega
    rw [e, hd] at ho
    rw [hl]
    exact own_shorter ho (by rw [ncells_len, hl, Nat.mul_one])
  · have := h.ap u hu q hq
    rw [hsv] at this
    simpa [Value.ownBlock] using this
/-- A row that lies behind all that was. -/
theorem TS.fresh (h : TS T w0 k n ge cnt idx low opn of sv stk ov hs out W) {v : Value} {m : Nat} {xs : List Value} (hv : W'.ownsRow W.heap.size 3 1 v m xs) : W'.ownsRow T 3 1 v m xs ∧ (∀ q, v.ownBlock = some q → sv.ownBlock ≠ some q) ∧ ∀ u ∈ hs, ∀ q, u.ownBlock = some q → v.ownBlock ≠ some q := by
  refine ⟨own_mono hv h.size, fun q hq hs2 => ?_, fun u hu q hq hv2 => ?_⟩
  · have h1 := (own_lt hv hq).1
    have h2 := (own_lt h.so hs2).2
    omega
  · obtain ⟨j, hj⟩ := List.getElem?_of_mem hu
    have hl := h.uo.len
    have hlt := (List.getElem?_eq_some_iff.1 hj).1
    have h2 := (own_lt (h.uo.rows j u _ hj (List.getElem?_eq_getElem (show j < out.length by omega))) hq).2
    have h1 := (own_lt hv hv2).1
    omega
/-- The stack, as it is read. -/
theorem TS.stack (h : TS T w0 k n ge cnt idx low opn of sv stk ov hs out W) (hne : stk ≠ []) : ∃ gs sc, sv = .slice (some ⟨gs, 0, none⟩) stk.length sc ∧ stk.length ≤ sc ∧ sc ≤ maxLen ∧ ∀ (j x : Nat), stk[j]? = some x → W.cell? ⟨gs, j, none⟩ = some (.int .i64 (x : Int)) := by
  obtain ⟨A, c, e, h1, h3, h2⟩ := own_cells h.so
  rcases h2 with h2 | ⟨g, rfl, _, h4, h5⟩
  · exact absurd (List.eq_nil_of_length_eq_zero h2) hne
  · exact ⟨g, c, e, h1, h3, fun j x hx => h5 j _ (ncells_get hx)⟩
end
end Go.Proofs.Ytljlihimmcmlmaa
