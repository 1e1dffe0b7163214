/- How many different things a list holds; no program in sight. -/
import Derived.Test.YtoficnfpoeaccaaDoorBase
namespace Go.Proofs.YtoficnfpoeaccaaDoor
set_option linter.unusedVariables false
set_option linter.unusedSimpArgs false
namespace Ct
section
variable {α : Type}
/-- All rows that take each place from its list. -/
def cart : List (List α) → List (List α)
  | [] => [[]]
  | c :: cs => c.flatMap fun x => (cart cs).map (x :: ·)
def prodL : List Nat → Nat
  | [] => 1
  | x :: l => x * prodL l
theorem cart_len : ∀ cs : List (List α), (cart cs).length = prodL (cs.map List.length)
  | [] => rfl
  | c :: cs => by
    have h : ∀ l : List α, (l.flatMap fun x => (cart cs).map (x :: ·)).length = l.length * (cart cs).length := fun l => by
      induction l with
      | nil => simp
      | cons y l ih => rw [List.flatMap_cons, List.length_append, ih, List.length_map, List.length_cons, Nat.add_mul]; omega
    show ((c.flatMap fun x => (cart cs).map (x :: ·))).length = c.length * prodL (cs.map List.length)
    rw [h, cart_len cs]
theorem mem_cart : ∀ (cs : List (List α)) (r : List α), r.length = cs.length → (∀ (i : Nat) (x : α) (c : List α), r[i]? = some x → cs[i]? = some c → x ∈ c) → r ∈ cart cs
  | [], r, hl, _ => by
    rw [List.eq_nil_of_length_eq_zero hl]; simp [cart]
  | c :: cs, [], hl, _ => by simp at hl
  | c :: cs, x :: r, hl, h => by
    unfold cart
    refine List.mem_flatMap.2 ⟨x, h 0 x c rfl rfl, List.mem_map.2 ⟨r, mem_cart cs r (by simpa using hl) fun i y d hy hd => h (i + 1) y d (by simpa using hy) (by simpa using hd), rfl⟩⟩
/-- The values of a column. -/
def col (rows : List (List α)) (i : Nat) : List α := rows.filterMap fun r => r[i]?
theorem col_app (a b : List (List α)) (i : Nat) : col (a ++ b) i = col a i ++ col b i := by simp [col]
end
variable {α β : Type} [DecidableEq α] [DecidableEq β]
/-- Each thing once. -/
def dset : List α → List α
  | [] => []
  | x :: l => if x ∈ dset l then dset l else x :: dset l
theorem mem_dset {y : α} : ∀ {l : List α}, y ∈ dset l ↔ y ∈ l
  | [] => Iff.rfl
  | x :: l => by
    unfold dset
    split
    · rename_i h
      rw [mem_dset, List.mem_cons]
      exact ⟨Or.inr, fun h2 => h2.elim (fun e => by rw [e]; exact mem_dset.1 h) id⟩
    · rw [List.mem_cons, List.mem_cons, mem_dset]
theorem dset_nodup : ∀ l : List α, (dset l).Nodup
  | [] => List.nodup_nil
  | x :: l => by
    unfold dset
    split
    · exact dset_nodup l
    · rename_i h
      exact List.nodup_cons.2 ⟨h, dset_nodup l⟩
def dcount (l : List α) : Nat := (dset l).length
theorem dcount_sub {a b : List α} (h : ∀ x ∈ a, x ∈ b) : dcount a ≤ dcount b :=
  List.Nodup.length_le_of_subset (dset_nodup a) fun x hx => mem_dset.2 (h x (mem_dset.1 hx))
theorem dcount_eq {a b : List α} (h : ∀ x, x ∈ a ↔ x ∈ b) : dcount a = dcount b := Nat.le_antisymm (dcount_sub fun x => (h x).1) (dcount_sub fun x => (h x).2)
theorem dcount_len (l : List α) : dcount l ≤ l.length := List.Nodup.length_le_of_subset (dset_nodup l) fun x hx => mem_dset.1 hx
theorem dcount_snoc (l : List α) (x : α) : dcount (l ++ [x]) = if x ∈ l then dcount l else dcount l + 1 := by
  have e : dcount (l ++ [x]) = dcount (x :: l) := dcount_eq fun y => by simp [or_comm]
  rw [e]
  show (dset (x :: l)).length = _
  unfold dset
  by_cases h : x ∈ l
  · rw [if_pos (mem_dset.2 h), if_pos h]; rfl
  · rw [if_neg (fun h2 => h (mem_dset.1 h2)), if_neg h]; rfl
theorem dcount_app_le (a b : List α) : dcount (a ++ b) ≤ dcount a + dcount b := by
  have : (dset (a ++ b)).length ≤ (dset a ++ dset b).length := List.Nodup.length_le_of_subset (dset_nodup _) fun x hx => by
    have := mem_dset.1 hx
    rw [List.mem_append] at this ⊢
    exact this.imp mem_dset.2 mem_dset.2
  rw [List.length_append] at this
  exact this
theorem dcount_map_le (f : α → β) (l : List α) : dcount (l.map f) ≤ dcount l := by
  have : (dset (l.map f)).length ≤ ((dset l).map f).length := List.Nodup.length_le_of_subset (dset_nodup _) fun x hx => by
    obtain ⟨y, hy, e⟩ := List.mem_map.1 (mem_dset.1 hx)
    exact List.mem_map.2 ⟨y, mem_dset.2 hy, e⟩
  rw [List.length_map] at this
  exact this
theorem dcount_map_inj {f : α → β} {l : List α} (h : ∀ x ∈ l, ∀ y ∈ l, f x = f y → x = y) : dcount (l.map f) = dcount l := by
  refine Nat.le_antisymm (dcount_map_le f l) ?_
  have hn : ((dset l).map f).Nodup := by
    rw [List.nodup_iff_pairwise_ne, List.pairwise_map]
    refine List.Pairwise.imp_of_mem ?_ (List.nodup_iff_pairwise_ne.1 (dset_nodup l))
    intro a b ha hb hne e
    exact hne (h a (mem_dset.1 ha) b (mem_dset.1 hb) e)
  have : ((dset l).map f).length ≤ (dset (l.map f)).length := List.Nodup.length_le_of_subset hn fun x hx => by
    obtain ⟨y, hy, e⟩ := List.mem_map.1 hx
    exact mem_dset.2 (List.mem_map.2 ⟨y, mem_dset.1 hy, e⟩)
  rw [List.length_map] at this
  exact this
theorem dcount_pos {l : List α} (h : l ≠ []) : 0 < dcount l := by
  obtain ⟨x, hx⟩ := List.exists_mem_of_ne_nil l h
  exact List.length_pos_of_mem (mem_dset.2 hx)
/-! ### Rows and columns -/
theorem rows_le (rows : List (List α)) (c : Nat) (hc : ∀ r ∈ rows, r.length = c) : dcount rows ≤ prodL ((List.range c).map fun i => dcount (col rows i)) := by
  have h1 : (dset rows).length ≤ (cart ((List.range c).map fun i => dset (col rows i))).length := List.Nodup.length_le_of_subset (dset_nodup rows) fun r hr => by
    have hr := mem_dset.1 hr
    refine mem_cart _ r (by simp [hc r hr]) fun i x d hx hd => ?_
    have hi : i < c := by rw [← hc r hr]; exact (List.getElem?_eq_some_iff.1 hx).1
    rw [List.getElem?_map, List.getElem?_range hi] at hd
    obtain rfl := Option.some.inj hd
    exact mem_dset.2 (List.mem_filterMap.2 ⟨r, hr, hx⟩)
  rw [cart_len, List.map_map] at h1
  exact h1
theorem col_le (rows : List (List α)) (i : Nat) : dcount (col rows i) ≤ dcount rows := by
  have : (dset (col rows i)).length ≤ ((dset rows).filterMap fun r => r[i]?).length := List.Nodup.length_le_of_subset (dset_nodup _) fun x hx => by
    obtain ⟨r, hr, e⟩ := List.mem_filterMap.1 (mem_dset.1 hx)
    exact List.mem_filterMap.2 ⟨r, mem_dset.2 hr, e⟩
  exact Nat.le_trans this (List.length_filterMap_le _ _)
/-- The product, never let above a thousand. -/
def capL (l : List Nat) : Nat := l.foldl (fun p x => min (p * x) 1000) 1
theorem cap_ge {m : Nat} (hm : m ≤ 1000) : ∀ (l : List Nat) (p : Nat), (∀ x ∈ l, 0 < x) → m ≤ p * prodL l → m ≤ l.foldl (fun p x => min (p * x) 1000) p
  | [], p, _, h => by simpa [prodL] using h
  | x :: l, p, hx, h => by
    rw [List.foldl_cons]
    refine cap_ge hm l _ (fun y hy => hx y (List.mem_cons_of_mem _ hy)) ?_
    have hp : 0 < prodL l := by
      have : ∀ l : List Nat, (∀ x ∈ l, 0 < x) → 0 < prodL l := fun l => by
        induction l with
        | nil => intro _; exact Nat.one_pos
        | cons y l ih => intro h; exact Nat.mul_pos (h y (by simp)) (ih fun z hz => h z (List.mem_cons_of_mem _ hz))
      exact this l fun y hy => hx y (List.mem_cons_of_mem _ hy)
    rcases Nat.le_total (p * x) 1000 with h1 | h1
    · rw [Nat.min_eq_left h1, Nat.mul_assoc]; exact h
    · rw [Nat.min_eq_right h1]
      exact Nat.le_trans hm (Nat.le_mul_of_pos_right _ hp)
theorem rows_cap {rows : List (List α)} {c : Nat} (hc : ∀ r ∈ rows, r.length = c) (h60 : rows.length ≤ 1000) : dcount rows ≤ capL ((List.range c).map fun i => dcount (col rows i)) := by
  by_cases h0 : rows = []
  · subst h0; exact Nat.zero_le _
  · have h1 := rows_le rows c hc
    refine cap_ge (Nat.le_trans (dcount_len rows) h60) _ 1 (fun x hx => ?_) (by rw [Nat.one_mul]; exact h1)
    obtain ⟨i, hi, rfl⟩ := List.mem_map.1 hx
    refine dcount_pos fun e => ?_
    obtain ⟨r, hr⟩ := List.exists_mem_of_ne_nil rows h0
    have hil : i < r.length := by rw [hc r hr]; exact List.mem_range.1 hi
    have : r[i] ∈ col rows i := List.mem_filterMap.2 ⟨r, hr, List.getElem?_eq_getElem hil⟩
    rw [e] at this
    cases this
end Ct
end Go.Proofs.YtoficnfpoeaccaaDoor
