/- A region that draws its order among its first operations and ends in operations that each wait for all before: the first ones each once, the rest as a list. No program in sight. -/
import Derived.Test.YtoficnfpoeaccaaDoorInv2
namespace Go.Proofs.YtoficnfpoeaccaaDoor
set_option linter.unusedVariables false
set_option linter.unusedSimpArgs false
open Go.RowKit
theorem wp_region_split {P : Program} {Q : Exit → Act → World → Prop} {id : Nat} {a : Act} {w : World} {l : List Oper} (m : Nat) (F : (Nat → Value) → Act) (J : World → Prop) (R : World → World → Prop) (Ts : List (Value → World → Prop))
    (hF : ∀ v, over a l 0 v = F v) (hm : P.follows .mixedOrders = true) (ht : tidy l.toArray = true) (hd : apartDst l = true) (hlen : m < l.length) (hall : ((List.range l.length).all fun t => decide (t < m) || (List.range t).all fun j => behind l.toArray l.toArray.size t j) = true)
    (hJ : J w.drew) (hT : ∀ T ∈ Ts, Lasting J R T)
    (hops : asksAll P l.toArray Q F (startOf a l) Ts J R (l.take m) 0)
    (htail : ∀ v w, Hid (J w) → Hid (∀ i, i < m → tok Ts i (v i) w) → wpList P l.toArray Q (l.drop m) (F v) w) : (Code.region id l.toArray true).wp P Q a w := by
  have hT' : ∀ i, Lasting J R (tok Ts i) := by
    intro i
    unfold tok
    rw [List.getD_eq_getElem?_getD]
    cases h : Ts[i]? with
    | none => exact lasting_free
    | some T => exact hT T (List.mem_of_getElem? h)
  have hbt : ∀ t, m ≤ t → t < l.length → ∀ j, j < t → behind l.toArray l.toArray.size t j = true := fun t h1 h2 j hj => by
    rw [List.all_eq_true] at hall
    have := hall t (List.mem_range.2 h2)
    rw [Bool.or_eq_true] at this
    rcases this with h | h
    · have := of_decide_eq_true h; omega
    · rw [List.all_eq_true] at h
      exact h j (List.mem_range.2 hj)
  have hsz : l.toArray.size = l.length := by simp
  refine wp_region_any hm ?_
  refine wpAny_each ht (fun L a' w' => ((∀ t, m ≤ t → t < l.length → L t = false) ∧ J w' ∧ ∃ v, a' = F v ∧ (∀ i, i < m → L i = true → tok Ts i (v i) w') ∧ ∀ i, i < l.length → L i = false → v i = startOf a l i) ∨ (∃ t, m < t ∧ t ≤ l.length ∧ (∀ j, j < t → L j = true) ∧ (∀ j, t ≤ j → j < l.length → L j = false) ∧ wpList P l.toArray Q (l.drop t) a' w')) ?_ ?_ _ _ _ _ (by simp) ⟨fun i j h => ?_⟩ ?_ ?_
  · rintro i L a' w' hi hL hLi hdep hI
    have hil : i < l.length := by simpa using hi
    have ho1 : l[i]? = some l[i] := List.getElem?_eq_getElem hil
    have ho' : l.toArray[i]? = some l[i] := by simp
    have step : ∀ a2 w2, wpList P l.toArray Q (l.drop i) a2 w2 → m ≤ i → (∀ j, j < i → L j = true) → (∀ j, i ≤ j → j < l.length → L j = false) → wpOp P l.toArray Q i (fun a3 w3 => ((∀ t, m ≤ t → t < l.length → mark L i t = false) ∧ J w3 ∧ ∃ v, a3 = F v ∧ (∀ k, k < m → mark L i k = true → tok Ts k (v k) w3) ∧ ∀ k, k < l.length → mark L i k = false → v k = startOf a l k) ∨ (∃ t, m < t ∧ t ≤ l.length ∧ (∀ j, j < t → mark L i j = true) ∧ (∀ j, t ≤ j → j < l.length → mark L i j = false) ∧ wpList P l.toArray Q (l.drop t) a3 w3)) a2 w2 := by
      intro a2 w2 hw2 hmi hLb hLj
      have hdr : l.drop i = l[i] :: l.drop (i + 1) := List.drop_eq_getElem_cons hil
      rw [hdr] at hw2
      have hw : wpOp P l.toArray Q i (wpList P l.toArray Q (l.drop (i + 1))) a2 w2 := by unfold wpOp; simp only [ho']; exact hw2
      refine wpOp_mono (fun a3 w3 h => Or.inr ⟨i + 1, by omega, by omega, fun j hj => ?_, fun j hj1 hj2 => ?_, h⟩) hw
      · unfold mark
        rw [Bool.or_eq_true]
        rcases Nat.lt_or_ge j i with h5 | h5
        · exact Or.inl (hLb j h5)
        · exact Or.inr (decide_eq_true (by omega))
      · unfold mark
        rw [hLj j (by omega) hj2, Bool.false_or]
        exact decide_eq_false (by omega)
    rcases hI with ⟨hLm, hb', v, rfl, hv, hs⟩ | ⟨t, ht1, ht2, ht4, ht3, hq⟩
    · by_cases him : i < m
      · unfold wpOp
        rw [ho']
        simp only
        have hot : (l.take m)[i]? = some l[i] := by rw [List.getElem?_take, if_pos him]; exact ho1
        have hstep := asksAll_at hops hot v w' hb' (fun j hj => by
          rw [Nat.zero_add] at hj
          have h1 : j < i := by
            have := behind_less ht _ _ _ hj
            exact this
          exact hv j (by omega) (hdep j hj)) (fun j hj => by
          rw [Nat.zero_add] at hj
          have hjl := behind_lt' ht _ _ _ hj
          refine hs j (by simpa using hjl) ?_
          cases hLj : L j with
          | false => rfl
          | true =>
            have := hL.behind _ j i (fun k hk => hL.down j k hLj hk) hj
            rw [hLi] at this; cases this) (fun a3 w3 => ((∀ t, m ≤ t → t < l.length → mark L i t = false) ∧ J w3 ∧ ∃ v, a3 = F v ∧ (∀ k, k < m → mark L i k = true → tok Ts k (v k) w3) ∧ ∀ k, k < l.length → mark L i k = false → v k = startOf a l k) ∨ (∃ t, m < t ∧ t ≤ l.length ∧ (∀ j, j < t → mark L i j = true) ∧ (∀ j, t ≤ j → j < l.length → mark L i j = false) ∧ wpList P l.toArray Q (l.drop t) a3 w3)) (fun x w2 hJ2 hb2 hx => by
          refine Or.inl ⟨fun t h1 h2 => ?_, hJ2, vset v i x, ?_, ?_, ?_⟩
          · unfold mark; rw [hLm t h1 h2, Bool.false_or]; exact decide_eq_false (by omega)
          · rw [← hF, ← hF, over_put a l 0 v i _ x hd ho1, Nat.zero_add]
          · intro k hk hmk
            unfold vset
            by_cases e : k = i
            · rw [if_pos e, e]; rw [Nat.zero_add] at hx; exact hx
            · rw [if_neg e]
              unfold mark at hmk
              rw [Bool.or_eq_true] at hmk
              rcases hmk with h | h
              · exact hT' k _ _ _ hb' hb2 (hv k hk h)
              · exact absurd (by simpa using h) e
          · intro k hk hmk
            unfold mark at hmk
            rw [Bool.or_eq_false_iff] at hmk
            unfold vset
            rw [if_neg (by simpa using hmk.2)]
            exact hs k hk hmk.1)
        split
        · rename_i hw; rw [if_pos hw] at hstep; exact Or.inl hstep
        · rename_i hw; rw [if_neg hw] at hstep; exact hstep
      · have him2 : i = m := by
          rcases Nat.lt_or_ge m i with h | h
          · have := hdep m (hbt i (by omega) hil m h)
            rw [hLm m (Nat.le_refl _) hlen] at this
            cases this
          · omega
        subst him2
        exact step _ _ (htail v w' hb' fun j hj => hv j hj (hdep j (hbt i (Nat.le_refl _) hil j hj))) (Nat.le_refl _) (fun j hj => hdep j (hbt i (Nat.le_refl _) hil j hj)) hLm
    · have hti : i = t := by
        rcases Nat.lt_or_ge i t with h | h
        · have := ht4 i h
          rw [hLi] at this; cases this
        · rcases Nat.lt_or_ge t i with h4 | h4
          · have := hdep t (hbt i (by omega) hil t h4)
            rw [ht3 t (Nat.le_refl _) (by omega)] at this
            cases this
          · omega
      subst hti
      exact step _ _ hq (by omega) ht4 ht3
  · rintro L a' w' hall2 hI
    rcases hI with ⟨hLm, _⟩ | ⟨t, ht1, ht2, ht4, ht3, hq⟩
    · have := hall2 m (by omega)
      rw [hLm m (Nat.le_refl _) hlen] at this; cases this
    · have : t = l.length := by
        rcases Nat.lt_or_ge t l.length with h | h
        · have h2 := hall2 t (by omega)
          rw [ht3 t (Nat.le_refl _) h] at h2; cases h2
        · omega
      subst this
      rw [List.drop_length] at hq
      exact hq
  · intro hw
    have h1 := (waits_lt ht hw)
    exfalso
    have : (Array.replicate l.toArray.size false).getD i true = false := by
      have := h1.2
      simp [Array.getD] at this ⊢
      omega
    rw [this] at h
    cases h
  · have := List.length_filter_le (fun i => !(Array.replicate l.toArray.size false).getD i true) (List.range l.toArray.size)
    simpa using this
  · refine Or.inl ⟨fun t h1 h2 => by simp [Array.getD]; omega, hJ, startOf a l, ?_, ?_, fun i _ _ => rfl⟩
    · rw [← hF, over_start]
      intro i o ho
      unfold startOf
      rw [Nat.zero_add, ho]
      rfl
    · intro i hi h
      exfalso
      simp [Array.getD, show i < l.length by omega] at h
end Go.Proofs.YtoficnfpoeaccaaDoor
