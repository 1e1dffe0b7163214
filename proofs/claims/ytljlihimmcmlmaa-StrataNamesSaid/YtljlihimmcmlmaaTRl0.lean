/- Programs with the same edges: the same components, and Check says something of both or of none; no walk. -/
import Derived.Test.YtljlihimmcmlmaaTBad
import Derived.Test.YtljlihimmcmlmaaTRul
namespace Go.Proofs.Ytljlihimmcmlmaa
set_option linter.unusedVariables false
set_option linter.unusedSimpArgs false
open Go.RowKit
namespace Tj
section
variable {g g' : G} {n : Nat}
theorem reach_congr (h : ∀ a b, b ∈ g a → b ∈ g' a) {a b : Nat} (hr : Reach g a b) : Reach g' a b := by
  induction hr with
  | refl => exact Reach.refl
  | @step x y z hy _ ih => exact Reach.step (h x y hy) ih
theorem reach_iff (h : ∀ a b, b ∈ g a ↔ b ∈ g' a) {a b : Nat} : Reach g a b ↔ Reach g' a b := ⟨reach_congr fun a b => (h a b).1, reach_congr fun a b => (h a b).2⟩
theorem dep_iff (h : ∀ a b, b ∈ g a ↔ b ∈ g' a) {a b : Nat} : Dep g a b ↔ Dep g' a b := by
  unfold Dep
  constructor
  · rintro ⟨c, hc, hr⟩; exact ⟨c, (h a c).1 hc, (reach_iff h).1 hr⟩
  · rintro ⟨c, hc, hr⟩; exact ⟨c, (h a c).2 hc, (reach_iff h).2 hr⟩
theorem eqv_congr (h : ∀ a b, b ∈ g a ↔ b ∈ g' a) {a b : Nat} : Eqv g a b ↔ Eqv g' a b := by
  unfold Eqv
  rw [reach_iff h, reach_iff h]
theorem ready_congr (h : ∀ a b, b ∈ g a ↔ b ∈ g' a) (done : List Nat) : ready g n done = ready g' n done := by
  funext a
  rw [Bool.eq_iff_iff, ready_eq, ready_eq]
  simp only [dep_iff h, eqv_congr h]
theorem compOf_congr (h : ∀ a b, b ∈ g a ↔ b ∈ g' a) (a : Nat) : compOf g n a = compOf g' n a := by
  unfold compOf
  refine List.filter_congr fun b _ => ?_
  rw [decide_eq_decide]
  exact eqv_congr h
theorem ord_congr (h : ∀ a b, b ∈ g a ↔ b ∈ g' a) : ∀ (f : Nat) (done : List Nat), ord g n f done = ord g' n f done
  | 0, done => by unfold ord; rfl
  | f + 1, done => by
    unfold ord
    rw [ready_congr h]
    split
    · rfl
    · rw [compOf_congr h, ord_congr h f]
theorem next_congr {es fs : List Ed} (h : ∀ e, e ∈ es ↔ e ∈ fs) (a b : Nat) : b ∈ next es a ↔ b ∈ next fs a := by
  rw [mem_next, mem_next]
  simp only [h]
theorem bad_congr {es fs : List Ed} (h : ∀ e, e ∈ es ↔ e ∈ fs) : Bad es ↔ Bad fs := by
  unfold Bad
  simp only [h, reach_iff (next_congr h)]
end
end Tj
def edgeC (n : Nat) (c : Int × List Lit9) (l : Lit9) : Bool := decide (l.kind ≠ 5) && (decide (0 ≤ c.1) && decide (c.1 < n)) && (decide (0 ≤ l.pred) && decide (l.pred < n))
theorem mem_edgesC {p : Pg} {e : Tj.Ed} : e ∈ edges p ↔ ∃ c ∈ p.rus.map coreR, ∃ l ∈ c.2, edgeC p.prs.length c l = true ∧ e = ⟨c.1.toNat, l.pred.toNat, neg l⟩ := by
  rw [mem_edges]
  constructor
  · rintro ⟨r, hr, l, hl, hk, rfl⟩
    exact ⟨coreR r, List.mem_map_of_mem hr, l, hl, hk, rfl⟩
  · rintro ⟨c, hc, l, hl, hk, rfl⟩
    obtain ⟨r, hr, rfl⟩ := List.mem_map.1 hc
    exact ⟨r, hr, l, hl, hk, rfl⟩
def flipC (c : Int × List Lit9) : Int × List Lit9 := (c.1, c.2.reverse)
/-- The rules, and behind them all of them again, backwards. -/
structure Twice (p q : Pg) : Prop where
  prs : q.prs = p.prs
  rus : q.rus.map coreR = p.rus.map coreR ++ (p.rus.map coreR).reverse.map flipC
theorem Twice.edges {p q : Pg} (h : Twice p q) (e : Tj.Ed) : e ∈ edges q ↔ e ∈ Go.Proofs.Ytljlihimmcmlmaa.edges p := by
  rw [mem_edgesC, mem_edgesC, h.rus, h.prs]
  constructor
  · rintro ⟨c, hc, l, hl, hk, rfl⟩
    rcases List.mem_append.1 hc with hc | hc
    · exact ⟨c, hc, l, hl, hk, rfl⟩
    · obtain ⟨d, hd, rfl⟩ := List.mem_map.1 hc
      exact ⟨d, List.mem_reverse.1 hd, l, List.mem_reverse.1 hl, hk, rfl⟩
  · rintro ⟨c, hc, l, hl, hk, rfl⟩
    exact ⟨c, List.mem_append_left _ hc, l, hl, hk, rfl⟩
theorem Twice.fine {p q : Pg} {n : Nat} (h : Twice p q) (hn : p.prs.length = n) (hn1 : n ≤ 40) (hr : p.rus.length ≤ 30) (hl : ∀ r ∈ p.rus, r.lits.length ≤ 12) : PgFine q n := by
  have hlen : q.rus.length ≤ 60 := by
    have := congrArg List.length h.rus
    simp at this
    omega
  have := pgFine (p := q) (by rw [h.prs]; omega) (by omega) (fun r hr' => by
    have hm : coreR r ∈ q.rus.map coreR := List.mem_map_of_mem hr'
    rw [h.rus] at hm
    have key : ∀ c ∈ p.rus.map coreR, c.2.length ≤ 12 := fun c hc => by
      obtain ⟨s, hs, rfl⟩ := List.mem_map.1 hc
      exact hl s hs
    rcases List.mem_append.1 hm with hm | hm
    · have := key _ hm; unfold coreR at this; dsimp only at this; omega
    · obtain ⟨d, hd, e⟩ := List.mem_map.1 hm
      have h1 := key d (List.mem_reverse.1 hd)
      have h2 : r.lits = d.2.reverse := (congrArg Prod.snd e).symm
      rw [h2, List.length_reverse]
      omega)
  rw [h.prs, hn] at this
  exact this
theorem Twice.ord {p q : Pg} {n : Nat} (h : Twice p q) : Tj.ord (Tj.next (Go.Proofs.Ytljlihimmcmlmaa.edges q)) n n [] = Tj.ord (Tj.next (Go.Proofs.Ytljlihimmcmlmaa.edges p)) n n [] := Tj.ord_congr (Tj.next_congr h.edges) _ _
theorem Twice.bads {p q : Pg} {n : Nat} (h : Twice p q) (hp : PgFine p n) (hq : PgFine q n) : (bads q (sameC (Tj.whole (Tj.next (Go.Proofs.Ytljlihimmcmlmaa.edges q)) n).of) = []) ↔ (Go.Proofs.Ytljlihimmcmlmaa.bads p (sameC (Tj.whole (Tj.next (Go.Proofs.Ytljlihimmcmlmaa.edges p)) n).of) = []) := by
  have h1 : (Go.Proofs.Ytljlihimmcmlmaa.bads q (sameC (Tj.whole (Tj.next (Go.Proofs.Ytljlihimmcmlmaa.edges q)) n).of) ≠ []) ↔ (Go.Proofs.Ytljlihimmcmlmaa.bads p (sameC (Tj.whole (Tj.next (Go.Proofs.Ytljlihimmcmlmaa.edges p)) n).of) ≠ []) := by
    rw [bads_iff hq, bads_iff hp]
    exact Tj.bad_congr h.edges
  exact ⟨fun e => Classical.byContradiction fun k => h1.2 k e, fun e => Classical.byContradiction fun k => h1.1 k e⟩
theorem flip_step {l : List Lit9} {k m : Nat} {x : Lit9} (hk : k + (m + 1) = l.length) (hx : l[m]? = some x) : l.reverse.take (k + 1) = l.reverse.take k ++ [x] := by
  have : l.reverse[k]? = some x := by
    rw [List.getElem?_reverse (by omega), show l.length - 1 - k = m by omega]; exact hx
  rw [List.take_add_one, this]; rfl
theorem flips_step {l : List (Int × List Lit9)} {k m : Nat} {x : Int × List Lit9} (hk : k + (m + 1) = l.length) (hx : l[m]? = some x) : (l.reverse.map flipC).take (k + 1) = (l.reverse.map flipC).take k ++ [flipC x] := by
  have : (l.reverse.map flipC)[k]? = some (flipC x) := by
    rw [List.getElem?_map, List.getElem?_reverse (by omega), show l.length - 1 - k = m by omega, hx]; rfl
  rw [List.take_add_one, this]; rfl
end Go.Proofs.Ytljlihimmcmlmaa
