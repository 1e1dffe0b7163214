/- One step of the search by counts and the heap; the counts and users as the pairs come up. No program in sight. -/
import Derived.Test.YtljlihimmcmlmaaTRCm
set_option linter.unusedVariables false
set_option linter.unusedSimpArgs false
namespace Go.Proofs.Ytljlihimmcmlmaa
namespace Tj
open Hp
theorem ki_step {n : Nat} {es : List Ed} {cs : List (List Nat)} {of : Nat → Nat} {ps : List Pa} (hes : ∀ e ∈ es, e.a < n ∧ e.b < n) (hP : Parts (next es) n cs of) (hpn : ps.Nodup) (hps : ∀ p : Pa, p ∈ ps ↔ p.1 ≠ p.2 ∧ ∃ e ∈ es, of e.a = p.1 ∧ of e.b = p.2)
    {pp need : List Nat} {h : List (List Nat)} (hk : KI cs ps pp need h) {x : List Nat} (hx : h[0]? = some x) : ∃ b, cs[b]? = some x ∧ of (key x) = b ∧ b < cs.length ∧ key x < n ∧ (∀ a ∈ users ps b, a < cs.length ∧ a ∉ pp ++ [b]) ∧ (users ps b).Nodup ∧ Rel cs ps (pp ++ [b]) (users ps b) (need, pop key h) ∧ (∀ s, Rel cs ps (pp ++ [b]) [] s → KI cs ps (pp ++ [b]) s.1 s.2) := by
  have hnd0 : ∀ a < cs.length, need.getD a 0 = cnt ps pp a := fun a ha => by
    have := hk.rel.need a ha
    rwa [if_neg (by simp), Nat.add_zero] at this
  have hxm : x ∈ h := List.mem_of_getElem? hx
  obtain ⟨b, hb, hbx⟩ := List.mem_map.1 (hk.rel.perm.mem_iff.1 hxm)
  rw [List.mem_filter] at hb
  have hbl : b < cs.length := by simpa using hb.1
  have hbp : b ∉ pp ∧ need.getD b 0 = 0 := of_decide_eq_true hb.2
  have hcb : cs[b]? = some x := by
    rw [List.getElem?_eq_getElem hbl, ← hbx, List.getD_eq_getElem?_getD, List.getElem?_eq_getElem hbl]; rfl
  obtain ⟨hne, hsx, hmx⟩ := hP.comp b x hcb
  obtain ⟨v1, hv1⟩ : ∃ v, v ∈ x := by cases x with | nil => exact absurd rfl hne | cons v r => exact ⟨v, by simp⟩
  obtain ⟨hkx, _⟩ := head_least hsx hv1
  obtain ⟨hkn, hko, _⟩ := hmx (key x) hkx
  have hcz : cnt ps pp b = 0 := by rw [← hnd0 b hbl]; exact hbp.2
  have hpop := pop_ok hk.rel.heap hx
  have hus : ∀ a ∈ users ps b, a < cs.length ∧ a ∉ pp ++ [b] := fun a ha => by
    have hm := mem_users.1 ha
    obtain ⟨h1, e, he, h2, h3⟩ := (hps _).1 hm
    refine ⟨by have := hP.lt (hes e he).1; rw [h2] at this; exact this, fun h => ?_⟩
    rcases List.mem_append.1 h with h | h
    · exact hbp.1 (hk.closed _ hm h)
    · exact h1 (by simpa using h)
  have hrel : Rel cs ps (pp ++ [b]) (users ps b) (need, pop key h) := by
    refine ⟨hk.rel.len, fun a ha => ?_, hpop.2.2.1, ?_⟩
    · have := hk.rel.need a ha
      simp only [List.not_mem_nil, if_false, Nat.add_zero] at this
      rw [this, cnt_more hpn hbp.1]
      simp only [mem_users]
    · have hfa : ((List.range cs.length).filter fun a => decide (a ∉ pp ∧ need.getD a 0 = 0)).Perm (((List.range cs.length).filter fun a => decide (a ∉ pp ++ [b] ∧ need.getD a 0 = 0)) ++ [b]) := by
        refine filter_add List.nodup_range (by simpa using hbl) (by simp) fun y => ?_
        simp only [decide_eq_true_eq, List.mem_append, List.mem_singleton, not_or]
        constructor
        · rintro ⟨h1, h2⟩
          by_cases e : y = b
          · exact Or.inr e
          · exact Or.inl ⟨⟨h1, e⟩, h2⟩
        · rintro (⟨⟨h1, _⟩, h2⟩ | rfl)
          · exact ⟨h1, h2⟩
          · exact hbp
      have h1 := hfa.map fun a => cs.getD a []
      rw [List.map_append, List.map_singleton, hbx] at h1
      have h2 : (x :: pop key h).Perm (x :: rdy cs (pp ++ [b]) need) := (hpop.2.2.2.1.trans hk.rel.perm).trans (h1.trans (List.perm_append_singleton _ _))
      exact h2.cons_inv
  refine ⟨b, hcb, hko, hbl, hkn, hus, users_nodup hpn b, hrel, fun s hs => ?_⟩
  obtain ⟨s1, s2⟩ := s
  refine ⟨fun a ha => ?_, ?_, fun p hp h1 => ?_, hs⟩
  · rcases List.mem_append.1 ha with h | h
    · exact hk.lt a h
    · simp at h; subst h; exact hbl
  · rw [List.nodup_append]
    exact ⟨hk.nd, by simp, fun a ha c hc e => by simp at hc; subst e; subst hc; exact hbp.1 ha⟩
  · rw [List.mem_append] at h1 ⊢
    rcases h1 with h1 | h1
    · exact Or.inl (hk.closed p hp h1)
    · exact Or.inl (cnt_zero.1 hcz p hp (by simpa using h1))
/-- The counts and the users as a pair comes up. -/
theorem cnt_snoc (ps : List Pa) (a b x : Nat) : cnt (ps ++ [(a, b)]) [] x = cnt ps [] x + if a = x then 1 else 0 := by
  unfold cnt
  rw [List.filter_append, List.length_append]
  congr 1
  by_cases e : a = x <;> simp [e]
theorem users_snoc (ps : List Pa) (a b x : Nat) : users (ps ++ [(a, b)]) x = if b = x then users ps x ++ [a] else users ps x := by
  unfold users
  rw [List.filter_append, List.map_append]
  by_cases e : b = x <;> simp [e]
theorem cnts_more {nc : Nat} (ps : List Pa) {a : Nat} (b : Nat) : (List.range nc).map (cnt (ps ++ [(a, b)]) []) = ((List.range nc).map (cnt ps [])).set a (cnt ps [] a + 1) := by
  apply List.ext_getElem?
  intro v
  by_cases hv : v < nc
  · by_cases ha : a = v
    · subst ha
      rw [List.getElem?_set_self (by simpa using hv)]
      simp [hv, cnt_snoc]
    · rw [List.getElem?_set_ne ha]
      simp [hv, cnt_snoc, ha]
  · rw [List.getElem?_eq_none (by simp; omega), List.getElem?_eq_none (by simp; omega)]
theorem userss_more {nc : Nat} (ps : List Pa) (a : Nat) {b : Nat} : (List.range nc).map (users (ps ++ [(a, b)])) = ((List.range nc).map (users ps)).set b (users ps b ++ [a]) := by
  apply List.ext_getElem?
  intro v
  by_cases hv : v < nc
  · by_cases hb : b = v
    · subst hb
      rw [List.getElem?_set_self (by simpa using hv)]
      simp [hv, users_snoc]
    · rw [List.getElem?_set_ne hb]
      simp [hv, users_snoc, hb]
  · rw [List.getElem?_eq_none (by simp; omega), List.getElem?_eq_none (by simp; omega)]
end Tj
end Go.Proofs.Ytljlihimmcmlmaa
