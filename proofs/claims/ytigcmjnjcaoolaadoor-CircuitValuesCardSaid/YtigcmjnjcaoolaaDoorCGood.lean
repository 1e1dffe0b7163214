/- Well-formed circuits; no program in sight. -/
import Derived.Test.YtigcmjnjcaoolaaDoorCPure
namespace Go.Proofs.YtigcmjnjcaoolaaDoor
set_option linter.unusedVariables false
set_option linter.unusedSimpArgs false
namespace Cx
/-- A well-formed circuit. -/
structure Good (l : List N) : Prop where
  more : 2 ≤ l.length
  z : l[0]? = some zero
  o : l[1]? = some one
  ok : ∀ (k : Nat) (v : N), 2 ≤ k → l[k]? = some v → okB v k = true
  nd : l.Nodup
theorem ok_leaf {n : N} {i : Int} (h : okB n i = true) (h2 : n.o = 2) : 0 ≤ n.a ∧ n.b = 0 := by
  unfold okB leafB binary at h
  rw [decide_eq_true h2, decide_eq_false (show ¬ n.o = 3 by omega), decide_eq_false (show ¬ n.o = 4 by omega)] at h
  simpa using h
theorem ok_two {n : N} {i : Int} (h : okB n i = true) (h2 : n.o = 3 ∨ n.o = 4) : 2 ≤ n.a ∧ n.a < n.b ∧ n.b < i := by
  unfold okB leafB binary at h
  rw [decide_eq_false (show ¬ n.o = 2 by omega)] at h
  simp only [Bool.false_and, Bool.false_or, Bool.and_eq_true, decide_eq_true_eq] at h
  exact ⟨h.1.1.2, h.1.2, h.2⟩
theorem ok_kind {n : N} {i : Int} (h : okB n i = true) : n.o = 2 ∨ n.o = 3 ∨ n.o = 4 := by
  unfold okB leafB binary at h
  simp only [Bool.or_eq_true, Bool.and_eq_true, decide_eq_true_eq] at h
  omega
theorem Good.bin {l : List N} (h : Good l) {k : Nat} {v : N} (hv : l[k]? = some v) (h2 : v.o = 3 ∨ v.o = 4) : 2 ≤ v.a ∧ v.a < v.b ∧ v.b < k := by
  rcases Nat.lt_or_ge k 2 with h3 | h3
  · rcases (by omega : k = 0 ∨ k = 1) with rfl | rfl
    · rw [h.z] at hv; obtain rfl := Option.some.inj hv; simp [zero] at h2
    · rw [h.o] at hv; obtain rfl := Option.some.inj hv; simp [one] at h2
  · exact ok_two (h.ok k v h3 hv) h2
theorem good_new : Good new :=
  ⟨by decide, rfl, rfl, (fun k v h1 h2 => by rw [List.getElem?_eq_none (by simp [new]; omega)] at h2; cases h2), by decide⟩
theorem idx_some {l : List N} {n : N} {k : Nat} (h : idx l n = some k) : l[k]? = some n ∧ k < l.length := by
  unfold idx at h
  rw [List.findIdx?_eq_some_iff_getElem] at h
  obtain ⟨h1, h2, _⟩ := h
  exact ⟨by rw [List.getElem?_eq_getElem h1, beq_iff_eq.1 h2], h1⟩
theorem idx_not {l : List N} {n : N} (h : idx l n = none) : n ∉ l := by
  unfold idx at h
  rw [List.findIdx?_eq_none_iff] at h
  intro hm
  have := h n hm
  simp at this
theorem Good.snoc {l : List N} (h : Good l) {n : N} (hn : okB n l.length = true) (hi : n ∉ l) : Good (l ++ [n]) := by
  have := h.more
  refine ⟨by simp; omega, by rw [List.getElem?_append_left (by omega)]; exact h.z, by rw [List.getElem?_append_left (by omega)]; exact h.o, fun k v h1 h2 => ?_, ?_⟩
  · rcases Nat.lt_or_ge k l.length with h3 | h3
    · rw [List.getElem?_append_left h3] at h2; exact h.ok k v h1 h2
    · rw [List.getElem?_append_right h3] at h2
      rcases Nat.lt_or_ge l.length k with h4 | h4
      · rw [List.getElem?_eq_none (by simp; omega)] at h2; cases h2
      · have : k = l.length := by omega
        subst this
        simp at h2; subst h2; exact hn
  · rw [List.nodup_append]
    refine ⟨h.nd, by simp, fun a ha b hb e => ?_⟩
    simp at hb; subst hb; subst e; exact hi ha
theorem Good.put {l : List N} (h : Good l) {n : N} (hn : okB n l.length = true) : Good (put l n).1 := by
  unfold Cx.put
  split
  · exact h
  · split
    · exact h.snoc hn (idx_not (by assumption))
    · exact h
theorem Good.var {l : List N} (h : Good l) (n : Int) : Good (var l n).1 := by
  unfold Cx.var
  split
  · exact h
  · exact h.put (by unfold okB leafB; simp; left; omega)
theorem Good.two {l : List N} (h : Good l) (op a b z o : Int) (hop : op = 3 ∨ op = 4) (hz : z = 0 ∧ o = 1 ∨ z = 1 ∧ o = 0) : Good (Cx.two l op a b z o).1 := by
  unfold Cx.two
  split
  · exact h
  split
  · exact h
  split
  · exact h
  split
  · exact h
  rename_i h1 h2 h3 h4
  unfold isIn at h1
  simp only [not_or, Bool.not_eq_false, Bool.and_eq_true, decide_eq_true_eq] at h1 h2 h3
  refine h.put ?_
  unfold okB binary
  have e1 : decide (op = 3) || decide (op = 4) = true := by simpa using hop
  simp only [Bool.or_eq_true, Bool.and_eq_true, decide_eq_true_eq]
  right
  refine ⟨⟨⟨by simpa using hop, ?_⟩, ?_⟩, ?_⟩ <;> omega
theorem Good.step {l : List N} (h : Good l) (m : M) : Good (step l m) := by
  unfold Cx.step
  split
  · exact h.var _
  split
  · exact h.two _ _ _ _ _ (Or.inl rfl) (Or.inl ⟨rfl, rfl⟩)
  split
  · exact h.two _ _ _ _ _ (Or.inr rfl) (Or.inr ⟨rfl, rfl⟩)
  · exact h
theorem good_build (ms : List M) : Good (build ms) := by
  unfold build
  have key : ∀ (ms : List M) (l : List N), Good l → Good (ms.foldl Cx.step l) := by
    intro ms
    induction ms with
    | nil => intro l h; exact h
    | cons m ms ih => intro l h; exact ih _ (h.step m)
  exact key ms new good_new
theorem values_snoc (ts : List Int) (l : List N) (n : N) : values ts (l ++ [n]) = values ts l ++ [valStep ts (values ts l) n] := by
  unfold values; rw [List.foldl_append]; rfl
theorem values_len (ts : List Int) (l : List N) : (values ts l).length = l.length := by
  unfold values
  have key : ∀ (l : List N) (vs : List Bool), (l.foldl (fun vs n => vs ++ [valStep ts vs n]) vs).length = vs.length + l.length := by
    intro l
    induction l with
    | nil => intro vs; rfl
    | cons a r ih => intro vs; rw [List.foldl_cons, ih]; simp; omega
  simpa using key l []
end Cx
end Go.Proofs.YtigcmjnjcaoolaaDoor
