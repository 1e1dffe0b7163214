/- The least sets that make a node of a circuit true; no program in sight. -/
import Derived.Test.YtphmicbpkljmfaaGreatCLaw
import Derived.Test.YtphmicbpkljmfaaGreatSFam
namespace Go.Proofs.YtphmicbpkljmfaaGreat
set_option linter.unusedVariables false
set_option linter.unusedSimpArgs false
namespace Cx
open Fm
theorem validFrom_ok : ∀ (r : List N) (i : Nat) (seen : List N), seen.Nodup → validFrom seen r i = true → (∀ (k : Nat) (v : N), r[k]? = some v → okB v ((i + k : Nat) : Int) = true) ∧ (seen ++ r).Nodup
  | [], i, seen, hn, h => ⟨fun k v hk => by simp at hk, by simpa using hn⟩
  | n :: r, i, seen, hn, h => by
    unfold validFrom at h
    simp only [Bool.and_eq_true, Bool.not_eq_true'] at h
    obtain ⟨⟨h1, h2⟩, h3⟩ := h
    have hm : n ∉ seen := by simpa using h2
    have hn' : (seen ++ [n]).Nodup := by
      rw [List.nodup_append]
      exact ⟨hn, by simp, fun a ha b hb e => by simp at hb; subst hb; subst e; exact hm ha⟩
    obtain ⟨h4, h5⟩ := validFrom_ok r (i + 1) (seen ++ [n]) hn' h3
    refine ⟨fun k v hk => ?_, by simpa using h5⟩
    cases k with
    | zero => simp at hk; subst hk; exact h1
    | succ k =>
      have := h4 k v (by simpa using hk)
      rw [show i + 1 + k = i + (k + 1) by omega] at this
      exact this
theorem valid_good {l : List N} (h : valid l = true) : Good l := by
  unfold valid at h
  simp only [Bool.and_eq_true, decide_eq_true_eq] at h
  obtain ⟨⟨⟨⟨h1, h2⟩, h3⟩, h4⟩, h5⟩ := h
  obtain ⟨h6, h7⟩ := validFrom_ok _ _ _ List.nodup_nil h5
  have e : l = zero :: one :: l.drop 2 := by
    match l, h1, h3, h4 with
    | a :: b :: r, _, h3, h4 => simp at h3 h4; rw [h3, h4]; rfl
  refine ⟨h1, h3, h4, fun k v hk hv => ?_, ?_⟩
  · have := h6 (k - 2) v (by rw [List.getElem?_drop, show 2 + (k - 2) = k by omega]; exact hv)
    rw [show 2 + (k - 2) = k by omega] at this
    exact this
  · rw [e]
    have h8 : (l.drop 2).Nodup := by simpa using h7
    have hk : ∀ v ∈ l.drop 2, okB v ((l.idxOf v : Nat) : Int) = true ∨ v.o = 2 ∨ v.o = 3 ∨ v.o = 4 := fun v hv => by
      obtain ⟨j, hj⟩ := List.mem_iff_getElem?.1 hv
      exact Or.inr (ok_kind (h6 j v hj))
    have hz : zero ∉ l.drop 2 := fun hm => by
      obtain ⟨j, hj⟩ := List.mem_iff_getElem?.1 hm
      have := ok_kind (h6 j _ hj)
      simp [zero] at this
    have ho : one ∉ l.drop 2 := fun hm => by
      obtain ⟨j, hj⟩ := List.mem_iff_getElem?.1 hm
      have := ok_kind (h6 j _ hj)
      simp [one] at this
    rw [List.nodup_cons, List.nodup_cons]
    exact ⟨by simp [zero, one]; exact hz, ho, h8⟩
theorem valid_len {l : List N} (h : valid l = true) : l.length ≤ 20000 := by
  unfold valid at h
  simp only [Bool.and_eq_true, decide_eq_true_eq] at h
  exact h.1.1.1.2
/-- A node's value as a function of the true variables. -/
def valF (l : List N) (i : Nat) : List Int → Bool := fun ts => (values ts l).getD i false
theorem ex_fam {l : List N} (h : Good l) : ∀ (m i : Nat), i ≤ m → i < l.length → ∃ F, Is F (valF l i) := by
  intro m
  induction m with
  | zero =>
    intro i hi hl
    have : i = 0 := by omega
    subst this
    exact ⟨[], is_nil.of fun ts => (val_zero h.z ts).symm⟩
  | succ m ih =>
    intro i hi hl
    cases h.kind hl with
    | zero h0 => exact ⟨[], is_nil.of fun ts => (val_zero h0 ts).symm⟩
    | one h0 => exact ⟨[[]], is_one.of fun ts => (val_one h0 ts).symm⟩
    | @var _ v hv _ h2 _ _ => exact ⟨[[v.a]], (is_var v.a).of fun ts => (val_var hv h2 ts).symm⟩
    | @two _ v a b hv _ h2 ha hb _ hab hbi =>
      obtain ⟨F, hF⟩ := ih a (by omega) (by omega)
      obtain ⟨G, hG⟩ := ih b (by omega) (by omega)
      have e := fun ts => val_two hv h2 ha hb (by omega) hbi ts
      rcases h2 with h2 | h2
      · obtain ⟨K, hK⟩ := ex_plus hF hG
        exact ⟨K, hK.of fun ts => by show (valF l a ts || valF l b ts) = valF l i ts; unfold valF; rw [e ts, opV, if_pos h2]⟩
      · obtain ⟨K, hK⟩ := ex_times hF hG
        exact ⟨K, hK.of fun ts => by show (valF l a ts && valF l b ts) = valF l i ts; unfold valF; rw [e ts, opV, if_neg (by omega)]⟩
open Classical in
/-- The least sets that make a node true, in order. -/
noncomputable def fam (l : List N) (i : Nat) : List (List Int) := if h : ∃ F, Is F (valF l i) then Classical.choose h else []
theorem fam_is {l : List N} (h : Good l) {i : Nat} (hi : i < l.length) : Is (fam l i) (valF l i) := by
  unfold fam
  have := ex_fam h i i (Nat.le_refl _) hi
  rw [dif_pos this]
  exact Classical.choose_spec this
theorem fam_eq {l : List N} (h : Good l) {i : Nat} (hi : i < l.length) {F : List (List Int)} (hF : Is F (valF l i)) : F = fam l i := hF.eq (fam_is h hi)
theorem fam_zero {l : List N} (h : Good l) : fam l 0 = [] := (fam_eq h (by have := h.more; omega) (is_nil.of fun ts => (val_zero h.z ts).symm)).symm
theorem fam_one {l : List N} (h : Good l) : fam l 1 = [[]] := (fam_eq h (by have := h.more; omega) (is_one.of fun ts => (val_one h.o ts).symm)).symm
theorem fam_var {l : List N} (h : Good l) {i : Nat} {v : N} (hv : l[i]? = some v) (h2 : v.o = 2) : fam l i = [[v.a]] := (fam_eq h (List.getElem?_eq_some_iff.1 hv).1 ((is_var v.a).of fun ts => (val_var hv h2 ts).symm)).symm
/-- What stands at a node of two operands. -/
theorem fam_two {l : List N} (h : Good l) {i a b : Nat} {v : N} (hv : l[i]? = some v) (h2 : v.o = 3 ∨ v.o = 4) (ha : v.a = a) (hb : v.b = b) (hai : a < i) (hbi : b < i) {K : List (List Int)} (hK : Fam K)
    (hu : ∀ ts, Up K ts ↔ Up (if v.o = 3 then fam l a ++ fam l b else prods (fam l a) (fam l b)) ts) : K = fam l i := by
  have hi := (List.getElem?_eq_some_iff.1 hv).1
  refine fam_eq h hi ?_
  have e := fun ts => val_two hv h2 ha hb hai hbi ts
  by_cases h3 : v.o = 3
  · rw [if_pos h3] at hu
    exact (is_plus (fam_is h (i := a) (by omega)) (fam_is h (i := b) (by omega)) hK hu).of fun ts => by show (valF l a ts || valF l b ts) = valF l i ts; unfold valF; rw [e ts, opV, if_pos h3]
  · rw [if_neg h3] at hu
    exact (is_times (fam_is h (i := a) (by omega)) (fam_is h (i := b) (by omega)) hK hu).of fun ts => by show (valF l a ts && valF l b ts) = valF l i ts; unfold valF; rw [e ts, opV, if_neg h3]
/-- All families below a node are of at most 200 sets. -/
def Few (l : List N) (i : Nat) : Prop := ∀ j, Reach l i j → (fam l j).length ≤ 200
theorem reach_two {l : List N} {i a b : Nat} {v : N} (hv : l[i]? = some v) (h2 : v.o = 3 ∨ v.o = 4) (ha : v.a = a) (hb : v.b = b) {j : Nat} : Reach l i j ↔ j = i ∨ Reach l a j ∨ Reach l b j := by
  have ra : Reach l i a := by have := Reach.left (n := i) Reach.refl hv h2; rwa [ha, Int.toNat_natCast] at this
  have rb : Reach l i b := by have := Reach.right (n := i) Reach.refl hv h2; rwa [hb, Int.toNat_natCast] at this
  constructor
  · intro h
    induction h with
    | refl => exact Or.inl rfl
    | @left k u hr hu h2' ih =>
      rcases ih with rfl | ih | ih
      · rw [hv] at hu; obtain rfl := Option.some.inj hu; rw [ha, Int.toNat_natCast]; exact Or.inr (Or.inl Reach.refl)
      · exact Or.inr (Or.inl (ih.left hu h2'))
      · exact Or.inr (Or.inr (ih.left hu h2'))
    | @right k u hr hu h2' ih =>
      rcases ih with rfl | ih | ih
      · rw [hv] at hu; obtain rfl := Option.some.inj hu; rw [hb, Int.toNat_natCast]; exact Or.inr (Or.inr Reach.refl)
      · exact Or.inr (Or.inl (ih.right hu h2'))
      · exact Or.inr (Or.inr (ih.right hu h2'))
  · rintro (rfl | h | h)
    · exact Reach.refl
    · exact ra.trans h
    · exact rb.trans h
theorem reach_leaf {l : List N} {i : Nat} {v : N} (hv : l[i]? = some v) (h2 : ¬ (v.o = 3 ∨ v.o = 4)) {j : Nat} (h : Reach l i j) : j = i := by
  induction h with
  | refl => rfl
  | @left k u hr hu h2' ih => subst ih; rw [hv] at hu; obtain rfl := Option.some.inj hu; exact absurd h2' h2
  | @right k u hr hu h2' ih => subst ih; rw [hv] at hu; obtain rfl := Option.some.inj hu; exact absurd h2' h2
theorem few_two {l : List N} {i a b : Nat} {v : N} (hv : l[i]? = some v) (h2 : v.o = 3 ∨ v.o = 4) (ha : v.a = a) (hb : v.b = b) : Few l i ↔ (fam l i).length ≤ 200 ∧ Few l a ∧ Few l b := by
  unfold Few
  constructor
  · intro h
    exact ⟨h i Reach.refl, fun j hj => h j ((reach_two hv h2 ha hb).2 (Or.inr (Or.inl hj))), fun j hj => h j ((reach_two hv h2 ha hb).2 (Or.inr (Or.inr hj)))⟩
  · rintro ⟨h1, h3, h4⟩ j hj
    rcases (reach_two hv h2 ha hb).1 hj with rfl | h | h
    · exact h1
    · exact h3 j h
    · exact h4 j h
theorem few_leaf {l : List N} (h : Good l) {i : Nat} {v : N} (hv : l[i]? = some v) (h2 : ¬ (v.o = 3 ∨ v.o = 4)) : Few l i := by
  intro j hj
  rw [reach_leaf hv h2 hj]
  have hi := (List.getElem?_eq_some_iff.1 hv).1
  cases h.kind hi with
  | zero h0 => rw [fam_zero h]; simp
  | one h0 => rw [fam_one h]; simp
  | @var _ u hu _ h2' _ _ => rw [fam_var h hu h2']; simp
  | @two _ u a b hu _ h2' _ _ _ _ _ => rw [hv] at hu; obtain rfl := Option.some.inj hu; exact absurd h2' h2
/-- The variables of a family are variables below the node. -/
theorem fam_vars {l : List N} (h : Good l) {n : Nat} (hn : n < l.length) : ∀ s ∈ fam l n, s ⊆ vars l n := by
  intro s hs
  have hI := fam_is h hn
  have hv : valF l n s = true := (hI.up s).2 ⟨s, hs, fun _ h => h⟩
  have hinc := hI.fam.inc s hs
  have hv' : valF l n (only l n s) = true := by
    have := eval_only h hn s
    rw [eval_in hn, eval_in hn] at this
    show (values (only l n s) l).getD n false = true
    rw [this]; exact hv
  obtain ⟨t, ht, hts⟩ := (hI.up _).1 hv'
  have hsub : ∀ x ∈ only l n s, x ∈ s := fun x hx => by
    unfold only at hx; rw [List.mem_filter] at hx; simpa using hx.2
  have e := hI.fam.anti t ht s hs (fun x hx => hsub x (hts hx))
  subst e
  intro x hx
  have := hts hx
  unfold only at this
  exact (List.mem_filter.1 this).1
theorem eval_fam {l : List N} (h : Good l) {n : Nat} (hn : n < l.length) (ts : List Int) : eval l (n : Int) ts = true ↔ Up (fam l n) ts := by
  rw [eval_in hn]
  exact (fam_is h hn).up ts
end Cx
end Go.Proofs.YtphmicbpkljmfaaGreat
