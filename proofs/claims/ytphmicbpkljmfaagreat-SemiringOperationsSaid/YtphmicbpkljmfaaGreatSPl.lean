/- The plain laws of semirings: what Trust, Witnesses, Cheapest, Critical say of a node's least sets. -/
import Derived.Test.YtphmicbpkljmfaaGreatSCrit
namespace Go.Proofs.YtphmicbpkljmfaaGreat
set_option linter.unusedVariables false
set_option linter.unusedSimpArgs false
open Cx (N fam Few)
theorem mem_restL {a b : List Int} {x : Int} : x ∈ restL a b ↔ x ∈ a ∧ x ∉ b := by
  unfold restL
  rw [List.mem_filter]
  simp
theorem restL_len (a b : List Int) : (restL a b).length ≤ a.length := List.length_filter_le _ _
theorem mem_trusted {l : List N} {without : List Int} {x : Int} : x ∈ trusted l without ↔ x ∈ allVars l ∧ x ∉ without := by
  unfold trusted
  rw [mem_restL]
  exact Iff.rfl
theorem vars_all {l : List N} (hg : Cx.Good l) {n : Nat} (hn : n < l.length) : Cx.vars l n ⊆ allVars l := fun x hx => by
  obtain ⟨j, v, _, hv, h2, rfl⟩ := (Cx.mem_vars hg hn x).1 hx
  exact mem_allVars (List.mem_of_getElem? hv) h2
/-- What a node's value is over two sets that agree on the variables below it. -/
theorem eval_same {l : List N} (hg : Cx.Good l) {n : Nat} (hn : n < l.length) {s t : List Int} (h : ∀ x ∈ Cx.vars l n, x ∈ s ↔ x ∈ t) : Cx.eval l (n : Int) s = Cx.eval l (n : Int) t := by
  rw [← Cx.eval_only hg hn s, ← Cx.eval_only hg hn t]
  have : Cx.only l n s = Cx.only l n t := by
    unfold Cx.only
    apply List.filter_congr
    intro x hx
    have := h x hx
    rw [Bool.eq_iff_iff]
    simpa using this
  rw [this]
theorem trust_in {l : List N} {n : Nat} (hv : Cx.valid l = true) (hn : n < l.length) (ts : List Int) : trustP l (n : Int) ts = Cx.eval l (n : Int) (trusted l ts) := by
  unfold trustP
  rw [hv, Cx.isIn_nat hn]; rfl
theorem trust_rest {l : List N} {n : Nat} (hv : Cx.valid l = true) (hn : n < l.length) (ts : List Int) : trustP l (n : Int) ts = Cx.eval l (n : Int) (restL (Cx.vars l n) ts) := by
  rw [trust_in hv hn]
  have hg := Cx.valid_good hv
  refine eval_same hg hn fun x hx => ?_
  rw [mem_trusted, mem_restL]
  exact ⟨fun h => ⟨hx, h.2⟩, fun h => ⟨vars_all hg hn hx, h.2⟩⟩
/-- Whether two lists have a number in common. -/
def meetsP (a b : List Int) : Bool := decide ((restL a b).length < a.length)
theorem meetsP_false {a b : List Int} : meetsP a b = false ↔ ∀ x ∈ a, x ∉ b := by
  unfold meetsP
  rw [decide_eq_false_iff_not]
  constructor
  · intro h
    have h1 := restL_len a b
    have h2 : restL a b = a := List.Sublist.eq_of_length (List.filter_sublist) (by omega)
    intro x hx
    rw [← h2] at hx
    exact (mem_restL.1 hx).2
  · intro h
    have : restL a b = a := List.filter_eq_self.2 fun x hx => by simpa using h x hx
    rw [this]; omega
theorem trust_meets {l : List N} {n : Nat} (hv : Cx.valid l = true) (hn : n < l.length) (ts : List Int) : trustP l (n : Int) ts = !((fam l n).all fun s => meetsP s ts) := by
  have hg := Cx.valid_good hv
  rw [trust_in hv hn, Bool.eq_iff_iff, Cx.eval_fam hg hn, Bool.not_eq_true', List.all_eq_false]
  unfold Fm.Up
  constructor
  · rintro ⟨s, hs, h⟩
    exact ⟨s, hs, by rw [Bool.not_eq_true, meetsP_false]; exact fun x hx => (mem_trusted.1 (h hx)).2⟩
  · rintro ⟨s, hs, h⟩
    rw [Bool.not_eq_true, meetsP_false] at h
    exact ⟨s, hs, fun x hx => mem_trusted.2 ⟨vars_all hg hn (Cx.fam_vars hg hn s hs hx), h x hx⟩⟩
theorem trust_mono {l : List N} {n : Nat} (hv : Cx.valid l = true) (hn : n < l.length) (a b : List Int) (h : trustP l (n : Int) (a ++ b) = true) : trustP l (n : Int) a = true := by
  have hg := Cx.valid_good hv
  rw [trust_in hv hn, Cx.eval_fam hg hn] at h ⊢
  exact h.mono fun x hx => by
    rw [mem_trusted] at hx ⊢
    exact ⟨hx.1, fun h => hx.2 (List.mem_append_left _ h)⟩
theorem fam_len {l : List N} (hg : Cx.Good l) {n : Nat} (hn : n < l.length) {s : List Int} (hs : s ∈ fam l n) : s.length ≤ l.length :=
  Nat.le_trans (((Cx.fam_is hg hn).fam.inc s hs).nodup.length_le_of_subset (fun x hx => vars_all hg hn (Cx.fam_vars hg hn s hs hx))) (allVars_len l)
theorem few_len {l : List N} {n : Nat} (h : Few l n) : (fam l n).length ≤ 200 := h n Cx.Reach.refl
theorem fam_true {l : List N} (hg : Cx.Good l) {n : Nat} (hn : n < l.length) {s : List Int} (hs : s ∈ fam l n) : Cx.eval l (n : Int) s = true :=
  (Cx.eval_fam hg hn s).2 ⟨s, hs, fun _ h => h⟩
theorem fam_least {l : List N} (hg : Cx.Good l) {n : Nat} (hn : n < l.length) {s : List Int} (hs : s ∈ fam l n) {x : Int} (hx : x ∈ s) : Cx.eval l (n : Int) (restL s [x]) = false := by
  cases h : Cx.eval l (n : Int) (restL s [x]) with
  | false => rfl
  | true =>
    obtain ⟨t, ht, hts⟩ := (Cx.eval_fam hg hn _).1 h
    have e := (Cx.fam_is hg hn).fam.anti t ht s hs (fun y hy => (mem_restL.1 (hts hy)).1)
    subst e
    exact absurd (by simp) (mem_restL.1 (hts hx)).2
theorem fam_asc {l : List N} (hg : Cx.Good l) {n : Nat} (hn : n < l.length) {i : Nat} {s t : List Int} (h1 : (fam l n)[i]? = some s) (h2 : (fam l n)[i + 1]? = some t) : Fm.lt s t = true := by
  obtain ⟨h3, rfl⟩ := List.getElem?_eq_some_iff.1 h1
  obtain ⟨h4, rfl⟩ := List.getElem?_eq_some_iff.1 h2
  exact List.pairwise_iff_getElem.1 (Cx.fam_is hg hn).fam.asc i (i + 1) h3 h4 (by omega)
theorem inc_at {s : List Int} (h : Fm.Inc s) {i : Nat} {x y : Int} (h1 : s[i]? = some x) (h2 : s[i + 1]? = some y) : x < y := by
  obtain ⟨h3, rfl⟩ := List.getElem?_eq_some_iff.1 h1
  obtain ⟨h4, rfl⟩ := List.getElem?_eq_some_iff.1 h2
  exact List.pairwise_iff_getElem.1 h i (i + 1) h3 h4 (by omega)
theorem eval_any_sub {l : List N} (hg : Cx.Good l) {n : Nat} (hn : n < l.length) (ts : List Int) : Cx.eval l (n : Int) ts = (fam l n).any fun s => Fm.sub s ts := by
  rw [Bool.eq_iff_iff, Cx.eval_fam hg hn, Fm.any_sub]
/-- Weights. -/
theorem wsum_mono {ws : List Int} (hW : WOk ws) : ∀ {s t : List Int}, s.Nodup → s ⊆ t → wsum ws s ≤ wsum ws t
  | [], t, _, _ => (wsum_le hW t).1
  | x :: r, t, hn, hs => by
    obtain ⟨a, b, rfl⟩ := List.append_of_mem (hs (List.mem_cons_self ..))
    have hn' := List.nodup_cons.1 hn
    have : wsum ws r ≤ wsum ws (a ++ b) := wsum_mono hW hn'.2 (fun y hy => by
      have := hs (List.mem_cons_of_mem _ hy)
      simp at this ⊢
      rcases this with h | h | h
      · exact Or.inl h
      · subst h; exact absurd hy hn'.1
      · exact Or.inr h)
    rw [wsum_app] at this ⊢
    simp only [wsum]
    omega
theorem wsum_same {m : Nat} {e : Int} : ∀ {s : List Int}, (∀ x ∈ s, 0 ≤ x ∧ x < m) → wsum (List.replicate m e) s = e * s.length
  | [], _ => by simp [wsum]
  | x :: r, h => by
    have h1 := h x (by simp)
    rw [wsum, wsum_same (s := r) (fun y hy => h y (by simp [hy]))]
    have : wOf (List.replicate m e) x = e := by
      unfold wOf
      rw [if_pos (by simp; omega), List.getD_eq_getElem?_getD, List.getElem?_replicate, if_pos (by omega)]; rfl
    rw [this]
    simp
    rw [Int.mul_add]; omega
theorem wok_same (m : Nat) {e : Int} (h : 0 ≤ e ∧ e ≤ 1000000) : WOk (List.replicate m e) := fun x hx => by
  rw [List.mem_replicate] at hx; rw [hx.2]; exact h
theorem wok_bad {ws : List Int} (h : WOk ws) : ws.any wBad = false := wok_iff.2 h
theorem wcode_in {l : List N} {n : Nat} (hv : Cx.valid l = true) (hn : n < l.length) : (Few l n ∧ wcode l (n : Int) = 0 ∧ wlist l (n : Int) = fam l n) ∨ (¬ Few l n ∧ wcode l (n : Int) = 2 ∧ wlist l (n : Int) = []) := by
  by_cases hf : Few l n
  · have : wcode l (n : Int) = 0 := by unfold wcode; rw [hv, Cx.isIn_nat hn, Bool.and_true, if_pos (by rfl), Int.toNat_natCast, if_pos hf]
    exact Or.inl ⟨hf, this, by unfold wlist; rw [this, if_pos rfl]; rfl⟩
  · have : wcode l (n : Int) = 2 := by unfold wcode; rw [hv, Cx.isIn_nat hn, Bool.and_true, if_pos (by rfl), Int.toNat_natCast, if_neg hf]
    exact Or.inr ⟨hf, this, by unfold wlist; rw [this, if_neg (by decide)]⟩
theorem fam_nil_vars {l : List N} (hg : Cx.Good l) {n : Nat} (hn : n < l.length) : Cx.eval l (n : Int) (Cx.vars l n) = decide (fam l n ≠ []) := by
  rw [Bool.eq_iff_iff, Cx.eval_fam hg hn, decide_eq_true_eq]
  constructor
  · rintro ⟨s, hs, _⟩ e; rw [e] at hs; cases hs
  · intro h
    obtain ⟨s, r, e⟩ := List.exists_cons_of_ne_nil h
    have hs : s ∈ fam l n := by rw [e]; simp
    exact ⟨s, hs, Cx.fam_vars hg hn s hs⟩
/-- Cheapest. -/
theorem ccode_in {l : List N} {n : Nat} {ws : List Int} (hv : Cx.valid l = true) (hn : n < l.length) (hW : WOk ws) :
    (Few l n ∧ fam l n ≠ [] ∧ ccode l (n : Int) ws = 0 ∧ cset l (n : Int) ws = best ws (fam l n) ∧ cweight l (n : Int) ws = wsum ws (best ws (fam l n))) ∨
    (Few l n ∧ fam l n = [] ∧ ccode l (n : Int) ws = 4) ∨ (¬ Few l n ∧ ccode l (n : Int) ws = 2) := by
  rcases wcode_in hv hn with ⟨hf, h1, h2⟩ | ⟨hf, h1, h2⟩
  · by_cases he : fam l n = []
    · exact Or.inr (Or.inl ⟨hf, he, by unfold ccode; rw [wok_bad hW, if_neg (by decide), h1, if_neg (by decide), h2, he]; rfl⟩)
    · have hl : ¬ (fam l n).length = 0 := fun h => he (List.eq_nil_of_length_eq_zero h)
      have : ccode l (n : Int) ws = 0 := by unfold ccode; rw [wok_bad hW, if_neg (by decide), h1, if_neg (by decide), h2, if_neg hl]
      exact Or.inl ⟨hf, he, this, by unfold cset; rw [this, if_pos rfl, h2], by unfold cweight; rw [this, if_pos rfl, h2]⟩
  · exact Or.inr (Or.inr ⟨hf, by unfold ccode; rw [wok_bad hW, if_neg (by decide), h1, if_pos (by decide)]⟩)
/-- Critical variables. -/
theorem crit_mem {l : List N} {n : Nat} (hv : Cx.valid l = true) (hn : n < l.length) (v : Int) : (critP l (n : Int)).contains v = (Cx.eval l (n : Int) (Cx.vars l n) && !Cx.eval l (n : Int) (restL (Cx.vars l n) [v])) := by
  have h0 : trustP l (n : Int) [] = Cx.eval l (n : Int) (Cx.vars l n) := by
    rw [trust_rest hv hn]
    congr 1
    exact List.filter_eq_self.2 fun x hx => by simp
  unfold critP
  rw [h0]
  cases h : Cx.eval l (n : Int) (Cx.vars l n) with
  | false => simp
  | true =>
    rw [if_pos rfl, Bool.true_and, Bool.eq_iff_iff]
    rw [List.contains_iff_mem, List.mem_filter, trust_rest hv hn]
    constructor
    · exact fun h => h.2
    · intro h2
      refine ⟨?_, h2⟩
      by_cases hm : v ∈ Cx.vars l n
      · exact hm
      · exfalso
        have : restL (Cx.vars l n) [v] = Cx.vars l n := List.filter_eq_self.2 fun x hx => by
          simp; rintro rfl; exact hm hx
        rw [this, h] at h2
        cases h2
theorem crit_inc {l : List N} {n : Nat} (hv : Cx.valid l = true) : Fm.Inc (critP l (n : Int)) := by
  unfold critP
  split
  · exact (Cx.vars_less (Cx.valid_good hv) n).sublist List.filter_sublist
  · exact List.Pairwise.nil
theorem crit_len {l : List N} {n : Nat} (hv : Cx.valid l = true) (hn : n < l.length) : (critP l (n : Int)).length ≤ l.length := by
  unfold critP
  split
  · exact Nat.le_trans (List.length_filter_le _ _) (vars_length (Cx.valid_good hv) n hn)
  · simp
/-- A variable without which the node is false lies in every least set. -/
theorem crit_iff {l : List N} {n : Nat} (hv : Cx.valid l = true) (hn : n < l.length) (hne : fam l n ≠ []) (v : Int) : (critP l (n : Int)).contains v = true ↔ ∀ s ∈ fam l n, v ∈ s := by
  have hg := Cx.valid_good hv
  rw [crit_mem hv hn, fam_nil_vars hg hn, decide_eq_true hne, Bool.true_and, Bool.not_eq_true']
  constructor
  · intro h s hs
    by_cases hm : v ∈ s
    · exact hm
    · exfalso
      have : Cx.eval l (n : Int) (restL (Cx.vars l n) [v]) = true := (Cx.eval_fam hg hn _).2 ⟨s, hs, fun x hx => mem_restL.2 ⟨Cx.fam_vars hg hn s hs hx, by simp; rintro rfl; exact hm hx⟩⟩
      rw [this] at h; cases h
  · intro h
    cases he : Cx.eval l (n : Int) (restL (Cx.vars l n) [v]) with
    | false => rfl
    | true =>
      obtain ⟨t, ht, hts⟩ := (Cx.eval_fam hg hn _).1 he
      exact absurd (by simp) (mem_restL.1 (hts (h t ht))).2
theorem crit_nil {l : List N} {n : Nat} (hv : Cx.valid l = true) (hn : n < l.length) (he : fam l n = []) : critP l (n : Int) = [] := by
  have hg := Cx.valid_good hv
  apply List.eq_nil_iff_forall_not_mem.2
  intro v hm
  have := crit_mem hv hn v
  rw [fam_nil_vars hg hn, decide_eq_false (by simp [he]), Bool.false_and] at this
  simp at this
  exact this hm
end Go.Proofs.YtphmicbpkljmfaaGreat
