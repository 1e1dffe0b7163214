/- Statistics that are changed: what CostGrowth's estimates are. No program in sight. -/
import Derived.Test.YtoficnfpoeaccaaDoorKGate
namespace Go.Proofs.YtoficnfpoeaccaaDoor
set_option linter.unusedVariables false
set_option linter.unusedSimpArgs false
open Go.RowKit
namespace Ko
theorem step_monoL {ss ss' : List Sta} (l : Lt) (h : l.kind = 1 ∨ l.kind = 3 → Less (ss.getD l.pred.toNat ⟨0, none, 0, []⟩) (ss'.getD l.pred.toNat ⟨0, none, 0, []⟩)) (B : Bd) {e e' : E} (he : e.Le e') : (stepE ss l B e).Le (stepE ss' l B e') := by
  have h1 := he.n
  have h2 := he.cost
  have hB : Sub B B := fun x hx => hx
  unfold stepE
  split
  · rename_i hk
    have hm := scan_mono (h hk) l.args 0 (m := (ss.getD l.pred.toNat ⟨0, none, 0, []⟩).rows.toNat) (m' := (ss'.getD l.pred.toNat ⟨0, none, 0, []⟩).rows.toNat) hB (by have := (h hk).rows; omega)
    dsimp only
    refine ⟨prod_mono h1 hm, ?_⟩
    dsimp only
    have := prod_mono (b := max (scan (ss.getD l.pred.toNat ⟨0, none, 0, []⟩) l.args 0 B (ss.getD l.pred.toNat ⟨0, none, 0, []⟩).rows.toNat) 1) (b' := max (scan (ss'.getD l.pred.toNat ⟨0, none, 0, []⟩) l.args 0 B (ss'.getD l.pred.toNat ⟨0, none, 0, []⟩).rows.toNat) 1) h1 (by omega)
    omega
  · split
    · exact ⟨up_mono h1 (Nat.le_refl _), by dsimp only; omega⟩
    · exact ⟨h1, by dsimp only; omega⟩
theorem est_monoL {ss ss' : List Sta} (body : List Lt) (h : ∀ l ∈ body, l.kind = 1 ∨ l.kind = 3 → Less (ss.getD l.pred.toNat ⟨0, none, 0, []⟩) (ss'.getD l.pred.toNat ⟨0, none, 0, []⟩)) : ∀ (o : List Int) (B : Bd) {e e' : E}, e.Le e' → est ss body o B e ≤ est ss' body o B e'
  | [], _, _, _, he => he.cost
  | i :: o, B, e, e', he => by
    unfold est
    cases hl : body[i.toNat]? with
    | none => exact he.cost
    | some l => exact est_monoL body h o _ (step_monoL l (h l (List.mem_of_getElem? hl)) B he)
theorem fits_at {ss : List Sta} {body : List Lt} (h : fits ss body = true) {l : Lt} (hl : l ∈ body) (hk : l.kind = 1 ∨ l.kind = 3) : ∃ s, ss[l.pred.toNat]? = some s ∧ formed s = true := by
  unfold fits at h
  rw [List.all_eq_true] at h
  have := h l hl
  unfold fitsL at this
  rw [decide_eq_false (by omega), Bool.false_or] at this
  cases hs : ss[l.pred.toNat]? with
  | none => rw [hs] at this; cases this
  | some s =>
    rw [hs] at this
    simp only [Bool.and_eq_true] at this
    exact ⟨s, rfl, this.1.2⟩
theorem formed_rows {s : Sta} (h : formed s = true) : 0 ≤ s.rows ∧ s.rows ≤ 1000000 := by
  unfold formed at h
  rw [Bool.and_eq_true] at h
  simpa using h.1
theorem formed_dist {s : Sta} (h : formed s = true) {i : Nat} {d : Int} (hd : s.dist[i]? = some d) : 0 ≤ d ∧ d ≤ 1000000 := by
  unfold formed at h
  rw [Bool.and_eq_true, List.all_eq_true] at h
  simpa using h.2 d (List.mem_of_getElem? hd)
end Ko
/-- A number that grew by a byte. -/
def Grew (a b : Int) : Prop := ∃ z : Int, 0 ≤ z ∧ z ≤ 255 ∧ b = wrap64 (a + z)
theorem Grew.le {a b : Int} (h : Grew a b) (h0 : 0 ≤ a) (h1 : a ≤ 1000000) : a ≤ b := by
  obtain ⟨z, h2, h3, rfl⟩ := h
  unfold wrap64
  omega
/-- Rows that grew; different values that grew. -/
def ChgR (s s' : Sta) : Prop := (s'.rows = s.rows ∨ Grew s.rows s'.rows) ∧ s'.dist = s.dist
def ChgD (s s' : Sta) : Prop := s'.rows = s.rows ∧ s'.dist.length = s.dist.length ∧ ∀ (i : Nat) (d : Int), s.dist[i]? = some d → ∃ d', s'.dist[i]? = some d' ∧ (d' = d ∨ Grew d d')
def Chgd (rows : Bool) (s s' : Sta) : Prop := if rows then ChgR s s' else ChgD s s'
def ChgAll (rows : Bool) (ss ss' : List Sta) : Prop := ss'.length = ss.length ∧ ∀ (i : Nat) (s s' : Sta), ss[i]? = some s → ss'[i]? = some s' → Chgd rows s s'
theorem ChgAll.at {rows : Bool} {ss ss' : List Sta} (h : ChgAll rows ss ss') {i : Nat} {s s' : Sta} (h1 : ss[i]? = some s) (h2 : ss'[i]? = some s') : Chgd rows s s' := h.2 i s s' h1 h2
theorem getD_of {α : Type} {l : List α} {i : Nat} {x d : α} (h : l[i]? = some x) : l.getD i d = x := by
  rw [List.getD_eq_getElem?_getD, h]; rfl
theorem grow_rows {ss x : List Sta} {r : Rl} {bd : List ByteArray} {order : List Int} (hc : ChgAll true ss x) (h1 : Ko.fits ss r.body = true) (h2 : Ko.fits x r.body = true) : costN ss r bd order ≤ costN x r bd order := by
  refine Ko.est_monoL r.body (fun l hl hk => ?_) order _ ⟨Nat.le_refl _, Nat.le_refl _⟩
  obtain ⟨s, hs, f1⟩ := Ko.fits_at h1 hl hk
  obtain ⟨s', hs', f2⟩ := Ko.fits_at h2 hl hk
  rw [getD_of hs, getD_of hs']
  have hr : ChgR s s' := hc.at hs hs'
  have b := Ko.formed_rows f1
  refine ⟨?_, fun i => by rw [hr.2]; exact Nat.le_refl _⟩
  rcases hr.1 with e | e
  · omega
  · exact e.le b.1 b.2
theorem grow_dist {ss y : List Sta} {r : Rl} {bd : List ByteArray} {order : List Int} (hc : ChgAll false ss y) (h1 : Ko.fits ss r.body = true) (h2 : Ko.fits y r.body = true) : costN y r bd order ≤ costN ss r bd order := by
  refine Ko.est_monoL r.body (fun l hl hk => ?_) order _ ⟨Nat.le_refl _, Nat.le_refl _⟩
  obtain ⟨s, hs, f1⟩ := Ko.fits_at h1 hl hk
  obtain ⟨s', hs', f2⟩ := Ko.fits_at h2 hl hk
  rw [getD_of hs, getD_of hs']
  have hr : ChgD s s' := hc.at hs hs'
  refine ⟨by rw [hr.1]; exact Int.le_refl _, fun i => ?_⟩
  cases hd : s.dist[i]? with
  | none => rw [show s.dist.getD i 0 = 0 by rw [List.getD_eq_getElem?_getD, hd]; rfl]; simp
  | some d =>
    obtain ⟨d', hd', h⟩ := hr.2.2 i d hd
    rw [getD_of hd, getD_of hd']
    have b := Ko.formed_dist f1 hd
    rcases h with rfl | e
    · exact Nat.le_refl _
    · have := e.le b.1 b.2
      omega
/-- What is few stays few. -/
theorem ChgAll.few {rows : Bool} {ss ss' : List Sta} (h : ChgAll rows ss ss') {r : Rl} {m n : Nat} (hf : fewB ss r m n = true) : fewB ss' r m n = true := by
  have hlen : ∀ s' ∈ ss', ∃ s ∈ ss, s'.dist.length = s.dist.length := fun s' hs' => by
    obtain ⟨i, hi⟩ := List.getElem?_of_mem hs'
    have hl := (List.getElem?_eq_some_iff.1 hi).1
    obtain ⟨s, hs⟩ : ∃ s, ss[i]? = some s := ⟨_, List.getElem?_eq_getElem (by rw [← h.1]; exact hl)⟩
    refine ⟨s, List.mem_of_getElem? hs, ?_⟩
    have := h.at hs hi
    unfold Chgd at this
    split at this
    · rw [this.2]
    · exact this.2.1
  unfold fewB at hf ⊢
  simp only [Bool.and_eq_true, decide_eq_true_eq, List.all_eq_true] at hf ⊢
  have hl := h.1
  refine ⟨⟨by have := hf.1.1; omega, hf.1.2⟩, hf.2.1, fun s' hs' => ?_⟩
  obtain ⟨s, hs, e⟩ := hlen s' hs'
  have := hf.2.2 s hs
  omega
end Go.Proofs.YtoficnfpoeaccaaDoor
