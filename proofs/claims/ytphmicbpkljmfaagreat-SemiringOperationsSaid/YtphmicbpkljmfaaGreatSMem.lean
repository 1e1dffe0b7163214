/- Slices of numbers and slices of such slices in the memory; no program in sight. -/
import Derived.Test.YtphmicbpkljmfaaGreatCLeaf
import Derived.Test.YtphmicbpkljmfaaGreatTwo
import Derived.Test.YtphmicbpkljmfaaGreatSFam
namespace Go.Proofs.YtphmicbpkljmfaaGreat
set_option linter.unusedVariables false
set_option linter.unusedSimpArgs false
open Go.RowKit
/-- A value is a slice that holds these numbers. -/
def SetV (w : World) (v : Value) (s : List Int) : Prop := ∃ B c, v = .slice B s.length c ∧ s.length ≤ c ∧ c ≤ maxLen ∧ (B = none → s.length = 0 ∧ c = 0) ∧ Nums w B s
theorem SetV.below {w w' : World} {v : Value} {s : List Int} (h : SetV w v s) (hb : Below w.heap.size w w') : SetV w' v s := by
  obtain ⟨B, c, h1, h2, h3, h4, h5⟩ := h
  exact ⟨B, c, h1, h2, h3, h4, h5.below hb⟩
theorem SetV.one {w : World} {v : Value} {s : List Int} (h : SetV w v s) : v.oneCell' = true := by
  obtain ⟨B, c, rfl, _⟩ := h; rfl
theorem SetV.cell1 {w : World} {v : Value} {s : List Int} (h : SetV w v s) : v.cells = #[v] := by
  obtain ⟨B, c, rfl, _⟩ := h; rfl
def icells' (xs : List Int) : List Value := xs.map (Value.int .i64)
theorem own_set {w : World} {B : Nat} {e : TypeId} {v : Value} {s : List Int} (h : w.ownsRow B e 1 v s.length (s.map (Value.int .i64))) : SetV w v s := by
  rcases h.2 with ⟨rfl, h0⟩ | ⟨g, cap, cur, rfl, hg, hh, h1, h2, h3, h4⟩
  · have hs : s = [] := List.eq_nil_of_length_eq_zero (by simpa using h0)
    subst hs
    exact ⟨none, 0, rfl, Nat.le_refl _, by unfold maxLen; omega, fun _ => ⟨rfl, rfl⟩, fun h => absurd rfl h⟩
  · obtain ⟨A, c, e1, h5, h6, h7⟩ := own_cells h
    injection e1 with e1 e2 e3
    refine ⟨_, cap, rfl, h1, h2, (fun h => by cases h), fun hn => ⟨g, 0, rfl, (Array.getElem?_eq_some_iff.1 hh).1, fun k x hx => ?_⟩⟩
    rcases h7 with h7 | ⟨g', e4, _, _, h7⟩
    · exact absurd (List.eq_nil_of_length_eq_zero h7) hn
    · rw [← e1] at e4
      injection e4 with e4
      injection e4 with e4
      subst e4
      rw [Nat.zero_add]
      exact h7 k _ (by simp [hx])
/-- Headers of slices that hold these sets. -/
def Hdrs (w : World) (vs : List Value) (F : List (List Int)) : Prop := vs.length = F.length ∧ ∀ (k : Nat) (v : Value) (s : List Int), vs[k]? = some v → F[k]? = some s → SetV w v s
theorem Hdrs.below {w w' : World} {vs : List Value} {F : List (List Int)} (h : Hdrs w vs F) (hb : Below w.heap.size w w') : Hdrs w' vs F := ⟨h.1, fun k v s h1 h2 => (h.2 k v s h1 h2).below hb⟩
theorem hdrs_nil (w : World) : Hdrs w [] [] := ⟨rfl, fun k v s h => by simp at h⟩
theorem Hdrs.one {w : World} {vs : List Value} {F : List (List Int)} (h : Hdrs w vs F) : ∀ v ∈ vs, v.oneCell' = true := by
  intro v hv
  obtain ⟨k, hk⟩ := List.mem_iff_getElem?.1 hv
  have hlt := (List.getElem?_eq_some_iff.1 hk).1
  rw [h.1] at hlt
  exact (h.2 k v _ hk (List.getElem?_eq_getElem hlt)).one
theorem Hdrs.append {w : World} {vs us : List Value} {F G : List (List Int)} (h : Hdrs w vs F) (h' : Hdrs w us G) : Hdrs w (vs ++ us) (F ++ G) := by
  refine ⟨by simp [h.1, h'.1], fun k v s h1 h2 => ?_⟩
  rcases Nat.lt_or_ge k vs.length with hk | hk
  · rw [List.getElem?_append_left hk] at h1
    rw [List.getElem?_append_left (by rw [← h.1]; exact hk)] at h2
    exact h.2 k v s h1 h2
  · rw [List.getElem?_append_right hk] at h1
    rw [List.getElem?_append_right (by rw [← h.1]; exact hk), ← h.1] at h2
    exact h'.2 _ v s h1 h2
theorem hdrs_one {w : World} {v : Value} {s : List Int} (h : SetV w v s) : Hdrs w [v] [s] := ⟨rfl, fun k v' s' h1 h2 => by
  cases k with
  | zero => simp at h1 h2; subst h1; subst h2; exact h
  | succ k => simp at h1⟩
theorem Hdrs.snoc {w : World} {vs : List Value} {F : List (List Int)} (h : Hdrs w vs F) {v : Value} {s : List Int} (h' : SetV w v s) : Hdrs w (vs ++ [v]) (F ++ [s]) := h.append (hdrs_one h')
/-- A slice's cells hold these sets. -/
def Sets (w : World) (A : Option Addr) (F : List (List Int)) : Prop :=
  F ≠ [] → ∃ g o vs, A = some ⟨g, o, none⟩ ∧ g < w.heap.size ∧ Hdrs w vs F ∧ ∀ (k : Nat) (v : Value), vs[k]? = some v → w.cell? ⟨g, o + k, none⟩ = some v
theorem Sets.below {w w' : World} {A : Option Addr} {F : List (List Int)} (h : Sets w A F) (hb : Below w.heap.size w w') : Sets w' A F := fun hn => by
  obtain ⟨g, o, vs, e, hg, hd, hc⟩ := h hn
  exact ⟨g, o, vs, e, Nat.lt_of_lt_of_le hg hb.size, hd.below hb, fun k x hx => (hb.cell hg).trans (hc k x hx)⟩
theorem Sets.at {w : World} {A : Option Addr} {F : List (List Int)} (h : Sets w A F) {k : Nat} {s : List Int} (hk : F[k]? = some s) : ∃ g o B c, A = some ⟨g, o, none⟩ ∧ g < w.heap.size ∧ w.cell? ⟨g, o + k, none⟩ = some (.slice B s.length c) ∧ s.length ≤ c ∧ c ≤ maxLen ∧ (B = none → s.length = 0 ∧ c = 0) ∧ Nums w B s := by
  have hlt := (List.getElem?_eq_some_iff.1 hk).1
  obtain ⟨g, o, vs, e, hg, hd, hc⟩ := h (by intro h; rw [h] at hlt; simp at hlt)
  have h1 : k < vs.length := by rw [hd.1]; exact hlt
  have hv := List.getElem?_eq_getElem h1
  obtain ⟨B, c, e1, r⟩ := hd.2 k _ s hv hk
  have := hc k _ hv
  rw [e1] at this
  exact ⟨g, o, B, c, e, hg, this, r⟩
/-- A value is a slice that holds these sets. -/
def FamV (w : World) (v : Value) (F : List (List Int)) : Prop := ∃ A c, v = .slice A F.length c ∧ F.length ≤ c ∧ c ≤ maxLen ∧ ((A = none → F.length = 0 ∧ c = 0) ∧ ∀ ad, A = some ad → ad.spot = none) ∧ Sets w A F
theorem FamV.below {w w' : World} {v : Value} {F : List (List Int)} (h : FamV w v F) (hb : Below w.heap.size w w') : FamV w' v F := by
  obtain ⟨B, c, h1, h2, h3, h4, h5⟩ := h
  exact ⟨B, c, h1, h2, h3, h4, h5.below hb⟩
theorem famV_nil (w : World) : FamV w (.slice none 0 0) [] := ⟨none, 0, rfl, Nat.le_refl _, by unfold maxLen; omega, ⟨fun _ => ⟨rfl, rfl⟩, fun _ h => by cases h⟩, fun h => absurd rfl h⟩
theorem own_fam {w : World} {B : Nat} {e : TypeId} {v : Value} {vs : List Value} {F : List (List Int)} (h : w.ownsRow B e 1 v F.length vs) (hd : Hdrs w vs F) : FamV w v F := by
  rcases h.2 with ⟨rfl, h0⟩ | ⟨g, cap, cur, rfl, hg, hh, h1, h2, h3, h4⟩
  · have hs : F = [] := List.eq_nil_of_length_eq_zero h0
    subst hs
    exact famV_nil w
  · obtain ⟨A, c, e1, h5, h6, h7⟩ := own_cells h
    injection e1 with e1 e2 e3
    refine ⟨_, cap, rfl, h1, h2, ⟨(fun h => by cases h), fun ad e => by injection e with e; subst e; rfl⟩, fun hn => ⟨g, 0, vs, rfl, (Array.getElem?_eq_some_iff.1 hh).1, hd, fun k x hx => ?_⟩⟩
    rcases h7 with h7 | ⟨g', e4, _, _, h7⟩
    · exact absurd (List.eq_nil_of_length_eq_zero h7) hn
    · rw [← e1] at e4
      injection e4 with e4
      injection e4 with e4
      subst e4
      rw [Nat.zero_add]
      exact h7 k _ hx
end Go.Proofs.YtphmicbpkljmfaaGreat
