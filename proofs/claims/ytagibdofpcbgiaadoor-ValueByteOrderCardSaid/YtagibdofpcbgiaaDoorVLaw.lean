/- The plain laws of values: order, tuples, texts and bytes; no program in sight but for the lemmas on digits. -/
import Derived.Test.YtagibdofpcbgiaaDoorVJoin
namespace Go.Proofs.YtagibdofpcbgiaaDoor
set_option linter.unusedVariables false
set_option linter.unusedSimpArgs false
/-- A comparison of a total order. -/
structure Cmp {α : Type} (f : α → α → Int) : Prop where
  rng : ∀ a b, f a b = -1 ∨ f a b = 0 ∨ f a b = 1
  anti : ∀ a b, f b a = - f a b
  zero : ∀ a b, f a b = 0 ↔ a = b
  trans : ∀ a b c, f a b = -1 → f b c = -1 → f a c = -1
theorem cmpI_cmp : Cmp Vx.cmpI where
  rng a b := by unfold Vx.cmpI; split <;> (try split) <;> omega
  anti a b := by unfold Vx.cmpI; split <;> (try split) <;> (try split) <;> (try split) <;> omega
  zero a b := cmpI_zero
  trans a b c h1 h2 := by
    unfold Vx.cmpI at *
    split at h1
    · split at h2
      · rw [if_pos (by omega)]
      · split at h2 <;> omega
    · split at h1 <;> omega
theorem cmpC_cmp : Cmp Vx.cmpC where
  rng a b := cmpI_cmp.rng _ _
  anti a b := cmpI_cmp.anti _ _
  zero a b := by
    unfold Vx.cmpC
    rw [cmpI_zero]
    constructor
    · intro h; exact UInt8.toNat_inj.1 (by omega)
    · rintro rfl; rfl
  trans a b c := cmpI_cmp.trans _ _ _
theorem Cmp.same {α : Type} {f : α → α → Int} (h : Cmp f) (a : α) : f a a = 0 := (h.zero a a).2 rfl
theorem Cmp.list {α : Type} {f : α → α → Int} (h : Cmp f) : Cmp (Vx.cmpL f) where
  rng a b := by
    induction a generalizing b with
    | nil => cases b <;> simp [Vx.cmpL]
    | cons x a ih =>
      cases b with
      | nil => simp [Vx.cmpL]
      | cons y b =>
        simp only [Vx.cmpL]
        split
        · exact ih b
        · exact h.rng x y
  anti a b := by
    induction a generalizing b with
    | nil => cases b <;> simp [Vx.cmpL]
    | cons x a ih =>
      cases b with
      | nil => simp [Vx.cmpL]
      | cons y b =>
        simp only [Vx.cmpL]
        have := h.anti x y
        by_cases e : f x y = 0
        · rw [if_pos e, if_pos (by omega)]; exact ih b
        · rw [if_neg e, if_neg (by omega)]; exact this
  zero a b := by
    induction a generalizing b with
    | nil => cases b <;> simp [Vx.cmpL]
    | cons x a ih =>
      cases b with
      | nil => simp [Vx.cmpL]
      | cons y b =>
        simp only [Vx.cmpL]
        by_cases e : f x y = 0
        · rw [if_pos e, ih b, (h.zero x y).1 e]; simp
        · rw [if_neg e]
          constructor
          · intro h'; exact absurd h' e
          · intro h'; injection h' with h1 h2; exact absurd ((h.zero x y).2 h1) e
  trans a b c := by
    induction a generalizing b c with
    | nil =>
      intro h1 h2
      cases b with
      | nil => simp [Vx.cmpL] at h1
      | cons y b =>
        cases c with
        | nil => simp [Vx.cmpL] at h2
        | cons z c => rfl
    | cons x a ih =>
      intro h1 h2
      cases b with
      | nil => simp [Vx.cmpL] at h1
      | cons y b =>
        cases c with
        | nil => simp [Vx.cmpL] at h2
        | cons z c =>
          simp only [Vx.cmpL] at h1 h2 ⊢
          by_cases e1 : f x y = 0
          · rw [if_pos e1] at h1
            have := (h.zero x y).1 e1
            subst this
            by_cases e2 : f x z = 0
            · rw [if_pos e2] at h2 ⊢; exact ih _ _ h1 h2
            · rw [if_neg e2] at h2 ⊢; exact h2
          · rw [if_neg e1] at h1
            by_cases e2 : f y z = 0
            · have := (h.zero y z).1 e2
              subst this
              rw [if_neg (by omega)]; exact h1
            · rw [if_neg e2] at h2
              have := h.trans x y z h1 h2
              rw [if_neg (by omega)]; exact this
theorem cmpB_cmp : Cmp Vx.cmpB := cmpC_cmp.list
theorem cmpV_cmp : Cmp Vx.cmpV where
  rng a b := by
    unfold Vx.cmpV
    split
    · split
      · exact cmpB_cmp.rng _ _
      · exact cmpI_cmp.rng _ _
    · exact cmpI_cmp.rng _ _
  anti a b := by
    unfold Vx.cmpV
    have h1 := cmpI_cmp.anti a.t b.t
    have h2 := cmpI_cmp.anti a.n b.n
    by_cases e1 : Vx.cmpI a.t b.t = 0
    · rw [if_pos e1, if_pos (show Vx.cmpI b.t a.t = 0 by omega)]
      by_cases e2 : Vx.cmpI a.n b.n = 0
      · rw [if_pos e2, if_pos (show Vx.cmpI b.n a.n = 0 by omega)]; exact cmpB_cmp.anti _ _
      · rw [if_neg e2, if_neg (show ¬ Vx.cmpI b.n a.n = 0 by omega)]; exact h2
    · rw [if_neg e1, if_neg (show ¬ Vx.cmpI b.t a.t = 0 by omega)]; exact h1
  zero a b := by
    obtain ⟨t, n, s⟩ := a
    obtain ⟨t', n', s'⟩ := b
    unfold Vx.cmpV
    by_cases e1 : Vx.cmpI t t' = 0
    · by_cases e2 : Vx.cmpI n n' = 0
      · simp only [e1, e2, if_true, cmpB_cmp.zero, Vx.V.mk.injEq]
        have := cmpI_zero.1 e1
        have := cmpI_zero.1 e2
        simp [*]
      · simp only [e1, e2, if_true, if_false, Vx.V.mk.injEq]
        have : n ≠ n' := fun h => e2 (cmpI_zero.2 h)
        simp [this]
    · simp only [e1, if_false, Vx.V.mk.injEq]
      have : t ≠ t' := fun h => e1 (cmpI_zero.2 h)
      simp [this]
  trans a b c h1 h2 := by
    unfold Vx.cmpV at *
    by_cases e1 : Vx.cmpI a.t b.t = 0
    · rw [if_pos e1] at h1
      rw [cmpI_zero.1 e1]
      by_cases e2 : Vx.cmpI b.t c.t = 0
      · rw [if_pos e2] at h2 ⊢
        by_cases f1 : Vx.cmpI a.n b.n = 0
        · rw [if_pos f1] at h1
          rw [cmpI_zero.1 f1]
          by_cases f2 : Vx.cmpI b.n c.n = 0
          · rw [if_pos f2] at h2 ⊢; exact cmpB_cmp.trans _ _ _ h1 h2
          · rw [if_neg f2] at h2 ⊢; exact h2
        · rw [if_neg f1] at h1
          by_cases f2 : Vx.cmpI b.n c.n = 0
          · rw [← cmpI_zero.1 f2, if_neg f1]; exact h1
          · rw [if_neg f2] at h2
            have := cmpI_cmp.trans _ _ _ h1 h2
            rw [if_neg (by omega)]; exact this
      · rw [if_neg e2] at h2 ⊢; exact h2
    · rw [if_neg e1] at h1
      by_cases e2 : Vx.cmpI b.t c.t = 0
      · rw [← cmpI_zero.1 e2, if_neg e1]; exact h1
      · rw [if_neg e2] at h2
        have := cmpI_cmp.trans _ _ _ h1 h2
        rw [if_neg (by omega)]; exact this
theorem cmpT_cmp : Cmp Vx.cmpT := cmpV_cmp.list
/-- Two steps down make one. -/
theorem Cmp.steps {α : Type} {f : α → α → Int} (h : Cmp f) (a b c : α) (h1 : f a b ≤ 0) (h2 : f b c ≤ 0) : f a c ≤ 0 ∧ (f a c = 0 → f a b = 0 ∧ f b c = 0) := by
  rcases h.rng a b with e1 | e1 | e1
  · rcases h.rng b c with e2 | e2 | e2
    · have := h.trans a b c e1 e2; omega
    · have := (h.zero b c).1 e2; subst this; omega
    · omega
  · have := (h.zero a b).1 e1; subst this; omega
  · omega
theorem cmp_int_sym {a b : Vx.V} (ha : a.t = 1) (hb : b.t = 2) : Vx.cmpV a b = -1 := by
  unfold Vx.cmpV Vx.cmpI; rw [ha, hb]; rfl
theorem cmp_int_int {a b : Vx.V} (ha : Vx.valid a = true) (hb : Vx.valid b = true) (ta : a.t = 1) (tb : b.t = 1) : (Vx.cmpV a b < 0) ↔ a.n < b.n := by
  have sa : a.s = [] := by unfold Vx.valid at ha; rw [if_pos ta] at ha; simp at ha; exact ha.2
  have sb : b.s = [] := by unfold Vx.valid at hb; rw [if_pos tb] at hb; simp at hb; exact hb.2
  unfold Vx.cmpV Vx.cmpI
  rw [ta, tb, sa, sb]
  simp [Vx.cmpB, Vx.cmpL]
  split <;> (try split) <;> omega
theorem valid_type {a : Vx.V} (h : Vx.valid a = true) : a.t = 1 ∨ a.t = 2 := by
  unfold Vx.valid at h
  split at h
  · left; assumption
  · simp at h; right; exact h.1.1
/-- A common beginning does not matter. -/
theorem Cmp.front {α : Type} {f : α → α → Int} (h : Cmp f) (c a b : List α) : Vx.cmpL f (c ++ a) (c ++ b) = Vx.cmpL f a b := by
  induction c with
  | nil => rfl
  | cons x c ih => simp only [List.cons_append, Vx.cmpL, h.same, if_true]; exact ih
/-- What follows two lists of equal lengths that differ does not matter. -/
theorem Cmp.back {α : Type} {f : α → α → Int} (h : Cmp f) (a b c d : List α) (hl : a.length = b.length) (hn : Vx.cmpL f a b ≠ 0) : Vx.cmpL f (a ++ c) (b ++ d) = Vx.cmpL f a b := by
  induction a generalizing b with
  | nil =>
    cases b with
    | nil => simp [Vx.cmpL] at hn
    | cons y b => simp at hl
  | cons x a ih =>
    cases b with
    | nil => simp at hl
    | cons y b =>
      simp only [List.cons_append, Vx.cmpL] at hn ⊢
      by_cases e : f x y = 0
      · rw [if_pos e] at hn ⊢
        rw [if_pos e]
        exact ih b (by simpa using hl) hn
      · rw [if_neg e, if_neg e]
theorem Cmp.longer {α : Type} {f : α → α → Int} (h : Cmp f) (a c : List α) (hc : c ≠ []) : Vx.cmpL f a (a ++ c) = -1 := by
  have := h.front a [] c
  rw [List.append_nil] at this
  rw [this]
  cases c with
  | nil => exact absurd rfl hc
  | cons x c => rfl
/-! ### Texts -/
theorem symbol_head {l : List UInt8} (h : Vx.symbol l = true) : ∃ c r, l = c :: r ∧ Vx.lowerB c = true := by
  unfold Vx.symbol at h
  simp only [Bool.and_eq_true] at h
  cases l with
  | nil => simp [Vx.headLow] at h
  | cons c r => exact ⟨c, r, rfl, h.1.1.2⟩
theorem num_symbol {l : List UInt8} {n : Nat} (h : Vx.num l = some n) : Vx.symbol l = false := by
  rw [Bool.eq_false_iff]
  intro hs
  obtain ⟨c, r, rfl, hc⟩ := symbol_head hs
  unfold Vx.num at h
  split at h
  · rename_i hd
    have := hd.2.2.2
    simp only [List.all_cons, Bool.and_eq_true] at this
    have hd := this.1
    unfold Vx.digitB at hd
    unfold Vx.lowerB at hc
    simp at hd hc
    omega
  · cases h
/-- Parse inverts Text on well-formed values. -/
theorem parse_text {v : Vx.V} (h : Vx.valid v = true) : Vx.parse (Vx.text v) = (v, 0) := by
  obtain ⟨t, n, s⟩ := v
  unfold Vx.text
  rw [if_pos h]
  by_cases ht : t = 1
  · have hn := valid_int h ht
    have hs : s = [] := by unfold Vx.valid at h; rw [if_pos ht] at h; simp at h; exact h.2
    rw [if_pos ht]
    have hd : Vx.num (Lib.itoa n) = some n.toNat := by rw [itoa_dec _ hn.1]; exact num_dec _ (by omega)
    unfold Vx.parse
    rw [num_symbol hd, hd]
    simp only [Bool.false_eq_true, if_false]
    subst hs
    rw [ht, Int.toNat_of_nonneg hn.1]
  · rw [if_neg ht]
    unfold Vx.valid at h
    rw [if_neg ht] at h
    simp only [Bool.and_eq_true, decide_eq_true_eq] at h
    unfold Vx.parse
    rw [if_pos h.2, h.1.1, h.1.2]
theorem text_none {v : Vx.V} (h : Vx.valid v = false) : Vx.text v = [] := by unfold Vx.text; rw [h]; rfl
theorem parse_nil : Vx.parse [] = (⟨0, 0, []⟩, 270) := by decide
/-- A text that is parsed is the text of the result. -/
theorem text_parse {l : List UInt8} {v : Vx.V} (h : Vx.parse l = (v, 0)) : Vx.valid v = true ∧ Vx.text v = l := by
  unfold Vx.parse at h
  split at h
  · rename_i hs
    injection h with h1 h2
    subst h1
    have hv : Vx.valid ⟨2, 0, l⟩ = true := by simp [Vx.valid, hs]
    exact ⟨hv, by unfold Vx.text; rw [if_pos hv]; rfl⟩
  · cases hn : Vx.num l with
    | none => rw [hn] at h; injection h with h1 h2; cases h2
    | some n =>
      rw [hn] at h
      injection h with h1 h2
      subst h1
      obtain ⟨hb, _⟩ := dec_num hn
      obtain ⟨_, ht, _⟩ := num_ok hn
      exact ⟨by simp [Vx.valid]; omega, ht⟩
theorem parse_two (l : List UInt8) : (Vx.parse l).2 = 0 ∨ Vx.parse l = (⟨0, 0, []⟩, 270) := by
  unfold Vx.parse
  split
  · left; rfl
  · cases Vx.num l with
    | none => right; rfl
    | some n => left; rfl
theorem text_inj {a b : Vx.V} (ha : Vx.valid a = true) (hb : Vx.valid b = true) : Vx.text a = Vx.text b ↔ a = b := by
  constructor
  · intro h
    have h1 := parse_text ha
    rw [h, parse_text hb] at h1
    exact (Prod.mk.inj h1).1.symm
  · rintro rfl; rfl
end Go.Proofs.YtagibdofpcbgiaaDoor
