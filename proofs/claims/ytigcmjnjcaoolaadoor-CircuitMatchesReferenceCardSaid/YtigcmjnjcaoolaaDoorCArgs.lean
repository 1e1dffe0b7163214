/- What a built circuit is; no program in sight. -/
import Derived.Test.YtigcmjnjcaoolaaDoorCLaw
import Derived.Test.YtigcmjnjcaoolaaDoorCBuild
import Derived.Test.YtigcmjnjcaoolaaDoorCKey
namespace Go.Proofs.YtigcmjnjcaoolaaDoor
set_option linter.unusedVariables false
set_option linter.unusedSimpArgs false
open Cx (N M)
/-- The variables are numbers of the machine. -/
def LeafLe (l : List N) : Prop := ∀ v ∈ l, v.o = 2 → v.a ≤ 9223372036854775807
theorem ngood_of {l : List N} (h : Cx.Good l) (hl : l.length ≤ 20000) (hf : LeafLe l) : ∀ n ∈ l, NGood n := by
  intro n hn
  obtain ⟨k, hk, e⟩ := List.mem_iff_getElem.1 hn
  have hv : l[k]? = some n := by rw [List.getElem?_eq_getElem hk, e]
  unfold NGood I64
  cases h.kind hk with
  | zero => rw [h.z] at hv; obtain rfl := Option.some.inj hv; simp [Cx.zero]
  | one => rw [h.o] at hv; obtain rfl := Option.some.inj hv; simp [Cx.one]
  | var hw _ h2 h3 h4 =>
    rw [hv] at hw; obtain rfl := Option.some.inj hw
    have := hf n hn h2
    omega
  | two a b hw _ h2 ha hb _ _ _ =>
    rw [hv] at hw; obtain rfl := Option.some.inj hw
    omega
theorem mem_put {l : List N} {n v : N} (h : v ∈ (Cx.put l n).1) : v ∈ l ∨ v = n := by
  unfold Cx.put at h
  split at h
  · exact Or.inl h
  · split at h
    · simpa using h
    · exact Or.inl h
theorem leaf_var {l : List N} (h : LeafLe l) {x : Int} (hx : x ≤ 9223372036854775807) : LeafLe (Cx.var l x).1 := by
  intro v hv h2
  unfold Cx.var at hv
  split at hv
  · exact h v hv h2
  · rcases mem_put hv with hv | rfl
    · exact h v hv h2
    · exact hx
theorem leaf_two {l : List N} (h : LeafLe l) {op a b z o : Int} (hop : op ≠ 2) : LeafLe (Cx.two l op a b z o).1 := by
  intro v hv h2
  unfold Cx.two at hv
  split at hv
  · exact h v hv h2
  · split at hv
    · exact h v hv h2
    · split at hv
      · exact h v hv h2
      · split at hv
        · exact h v hv h2
        · rcases mem_put hv with hv | rfl
          · exact h v hv h2
          · exact absurd h2 hop
theorem leaf_step {l : List N} (h : LeafLe l) {m : M} (hm : m.a < 256) : LeafLe (Cx.step l m) := by
  unfold Cx.step
  split
  · exact leaf_var h (by omega)
  · split
    · exact leaf_two h (by omega)
    · split
      · exact leaf_two h (by omega)
      · exact h
theorem leaf_build {ms : List M} (h : ∀ m ∈ ms, m.a < 256) : LeafLe (Cx.build ms) := by
  unfold Cx.build
  have key : ∀ (ms : List M) (l : List N), (∀ m ∈ ms, m.a < 256) → LeafLe l → LeafLe (ms.foldl Cx.step l) := by
    intro ms
    induction ms with
    | nil => intro l _ hl; exact hl
    | cons m ms ih => intro l hm hl; exact ih _ (fun x hx => hm x (List.mem_cons_of_mem _ hx)) (leaf_step hl (hm m (by simp)))
  refine key ms Cx.new h (fun v hv h2 => ?_)
  simp [Cx.new, Cx.zero, Cx.one] at hv
  rcases hv with rfl | rfl <;> cases h2
theorem Makes.small {w : World} {A : Option Addr} {ms : List M} (h : Makes w A ms) : ∀ m ∈ ms, m.a < 256 := by
  intro m hm
  obtain ⟨k, hk, e⟩ := List.mem_iff_getElem.1 hm
  obtain ⟨g, o, _, _, hc⟩ := h (by intro e; subst e; cases hm)
  exact (hc k m (by rw [List.getElem?_eq_getElem hk, e])).1
/-- A circuit and what is known of it. -/
structure Fine (l : List N) (B : Nat) : Prop where
  good : Cx.Good l
  len : l.length ≤ B
  leaf : LeafLe l
theorem Fine.ng {l : List N} {B : Nat} (h : Fine l B) (hB : B ≤ 20000) : ∀ n ∈ l, NGood n := ngood_of h.good (Nat.le_trans h.len hB) h.leaf
theorem fine_build {w : World} {A : Option Addr} {ms : List M} (h : Makes w A ms) (hl : ms.length ≤ 60) : Fine (Cx.build ms) 62 :=
  ⟨Cx.good_build ms, by have := (build_len ms).2; omega, leaf_build h.small⟩
theorem mod_nat (a L : Nat) : (a : Int) % (L : Int) = ((a % L : Nat) : Int) := by simp
/-- What Plus and Times give. -/
structure TwoIs (f : Bool → Bool → Bool) (l : List N) (a b : Nat) (m : List N) (k : Nat) : Prop where
  grow : Cx.Grow l m
  lt : k < m.length
  val : ∀ ts, Cx.eval m (k : Int) ts = f (Cx.eval l (a : Int) ts) (Cx.eval l (b : Int) ts)
theorem plus_is {l : List N} {B : Nat} (h : Fine l B) (hB : B < 20000) {a b : Nat} (ha : a < l.length) (hb : b < l.length) :
    ∃ (m : List N) (k : Nat), Cx.plus l a b = (m, (k : Int)) ∧ TwoIs (· || ·) l a b m k ∧ Fine m (B + 1) ∧ Cx.plus m b a = (m, (k : Int)) := by
  have hl := h.len
  obtain ⟨h1, k, h2, h3, h4⟩ := Cx.plus_val h.good (by omega) ha hb
  have e : Cx.plus l a b = ((Cx.plus l a b).1, (k : Int)) := by rw [← h2]
  refine ⟨_, k, e, ⟨h1, h3, h4⟩, ⟨h1.good, by have := h1.len; omega, leaf_two h.leaf (by omega)⟩, ?_⟩
  rw [Cx.plus_again h.good (by omega) ha hb]; exact e
theorem times_is {l : List N} {B : Nat} (h : Fine l B) (hB : B < 20000) {a b : Nat} (ha : a < l.length) (hb : b < l.length) :
    ∃ (m : List N) (k : Nat), Cx.times l a b = (m, (k : Int)) ∧ TwoIs (· && ·) l a b m k ∧ Fine m (B + 1) ∧ Cx.times m b a = (m, (k : Int)) := by
  have hl := h.len
  obtain ⟨h1, k, h2, h3, h4⟩ := Cx.times_val h.good (by omega) ha hb
  have e : Cx.times l a b = ((Cx.times l a b).1, (k : Int)) := by rw [← h2]
  refine ⟨_, k, e, ⟨h1, h3, h4⟩, ⟨h1.good, by have := h1.len; omega, leaf_two h.leaf (by omega)⟩, ?_⟩
  rw [Cx.times_again h.good (by omega) ha hb]; exact e
theorem var_is {l : List N} {B : Nat} (h : Fine l B) (hB : B < 20000) {x : Nat} (hx : x < 256) :
    ∃ (m : List N) (k : Nat), Cx.var l (x : Int) = (m, (k : Int)) ∧ Cx.Grow l m ∧ Fine m (B + 1) ∧ Cx.var m (x : Int) = (m, (k : Int)) := by
  have hl := h.len
  obtain ⟨h1, k, h2, h3⟩ := Cx.var_val h.good (by omega) (show (0 : Int) ≤ (x : Int) by omega)
  have e : Cx.var l (x : Int) = ((Cx.var l (x : Int)).1, (k : Int)) := by rw [← h2]
  refine ⟨_, k, e, h1, ⟨h1.good, by have := h1.len; omega, leaf_var h.leaf (by omega)⟩, ?_⟩
  rw [Cx.var_again h.good (by omega) (by omega)]; exact e
end Go.Proofs.YtigcmjnjcaoolaaDoor
