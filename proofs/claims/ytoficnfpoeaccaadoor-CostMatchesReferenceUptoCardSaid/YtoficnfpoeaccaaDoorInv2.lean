/- A region that draws its order and ends in one operation that waits for all the others: each operation once, the last one by itself. No program in sight. -/
import Derived.Test.YtoficnfpoeaccaaDoorInv
namespace Go.Proofs.YtoficnfpoeaccaaDoor
set_option linter.unusedVariables false
set_option linter.unusedSimpArgs false
open Go.RowKit
theorem behind_less {ops : Array Oper} (ht : tidy ops = true) : ∀ (f i j : Nat), behind ops f i j = true → j < i := by
  intro f
  induction f with
  | zero => intro i j h; cases h
  | succ f ih =>
    intro i j h
    unfold behind at h
    rw [Bool.or_eq_true] at h
    rcases h with h | h
    · exact (waits_lt ht h).1
    · rw [List.any_eq_true] at h
      obtain ⟨k, _, hk⟩ := h
      rw [Bool.and_eq_true] at hk
      have h1 := (waits_lt ht hk.1).1
      have h2 := ih k j hk.2
      omega
theorem wp_region_last {P : Program} {Q : Exit → Act → World → Prop} {id : Nat} {a : Act} {w : World} {l : List Oper} (m : Nat) (o : Oper) (F : (Nat → Value) → Act) (J : World → Prop) (R : World → World → Prop) (Ts : List (Value → World → Prop))
    (hF : ∀ v, over a l 0 v = F v) (hm : P.follows .mixedOrders = true) (ht : tidy l.toArray = true) (hd : apartDst l = true) (hlen : l.length = m + 1) (ho : l[m]? = some o) (hdst : o.dst = none) (hall : ((List.range m).all fun j => behind l.toArray l.toArray.size m j) = true)
    (hJ : J w.drew) (hT : ∀ T ∈ Ts, Lasting J R T)
    (hops : asksAll P l.toArray Q F (startOf a l) Ts J R (l.take m) 0)
    (hlast : ∀ v w, Hid (J w) → Hid (∀ i, i < m → tok Ts i (v i) w) → ∀ K : Act → World → Prop, Hid (∀ w', Q .normal (F v) w' → K (F v) w') → if Region.wanted o (yielded l.toArray (F v).tmps) then o.wp P (F v) w K Q else K (F v) w) : (Code.region id l.toArray true).wp P Q a w := by
  have hT' : ∀ i, Lasting J R (tok Ts i) := by
    intro i
    unfold tok
    rw [List.getD_eq_getElem?_getD]
    cases h : Ts[i]? with
    | none => exact lasting_free
    | some T => exact hT T (List.mem_of_getElem? h)
  have hbm : ∀ j, j < m → behind l.toArray l.toArray.size m j = true := fun j hj => by
    rw [List.all_eq_true] at hall; exact hall j (List.mem_range.2 hj)
  have hsz : l.toArray.size = m + 1 := by simpa using hlen
  refine wp_region_any hm ?_
  refine wpAny_each ht (fun L a' w' => (L m = false ∧ J w' ∧ ∃ v, a' = F v ∧ (∀ i, i < m → L i = true → tok Ts i (v i) w') ∧ ∀ i, i < l.length → L i = false → v i = startOf a l i) ∨ (L m = true ∧ Q .normal a' w')) ?_ ?_ _ _ _ _ (by simp) ⟨fun i j h => ?_⟩ ?_ ?_
  · rintro i L a' w' hi hL hLi hdep hI
    have hil : i < l.length := by simpa using hi
    have ho1 : l[i]? = some l[i] := List.getElem?_eq_getElem hil
    have ho' : l.toArray[i]? = some l[i] := by simp
    unfold wpOp
    rw [ho']
    simp only
    rcases hI with ⟨hLm, hb', v, rfl, hv, hs⟩ | ⟨hLm, hq⟩
    · by_cases him : i = m
      · subst him
        have e : l[i] = o := by rw [ho1] at ho; exact Option.some.inj ho
        have hst := hlast v w' hb' (fun j hj => hv j hj (hdep j (hbm j hj))) (fun a2 w2 => Q .normal a2 w2) (fun w2 h => h)
        rw [e]
        split
        · rename_i hw
          rw [if_pos hw] at hst
          refine Or.inl (Oper.wp_mono (fun a2 w2 h => Or.inr ⟨?_, h⟩) hst)
          unfold mark; simp
        · rename_i hw
          rw [if_neg hw] at hst
          refine Or.inr ⟨by unfold mark; simp, ?_⟩
          rw [hdst]; exact hst
      · have him' : i < m := by omega
        have hot : (l.take m)[i]? = some l[i] := by rw [List.getElem?_take, if_pos him']; exact ho1
        have hstep := asksAll_at hops hot v w' hb' (fun j hj => by
          rw [Nat.zero_add] at hj
          have h1 : j < i := by
            have := behind_less ht _ _ _ hj
            exact this
          exact hv j (by omega) (hdep j hj)) (fun j hj => by
          rw [Nat.zero_add] at hj
          have hjl := behind_lt' ht _ _ _ hj
          refine hs j (by simpa using hjl) ?_
          cases hLj : L j with
          | false => rfl
          | true =>
            have := hL.behind _ j i (fun k hk => hL.down j k hLj hk) hj
            rw [hLi] at this; cases this) (fun a2 w2 => (mark L i m = false ∧ J w2 ∧ ∃ v, a2 = F v ∧ (∀ k, k < m → mark L i k = true → tok Ts k (v k) w2) ∧ ∀ k, k < l.length → mark L i k = false → v k = startOf a l k) ∨ (mark L i m = true ∧ Q .normal a2 w2)) (fun x w2 hJ2 hb2 hx => by
          refine Or.inl ⟨?_, hJ2, vset v i x, ?_, ?_, ?_⟩
          · unfold mark; rw [hLm, Bool.false_or]; exact decide_eq_false (by omega)
          · rw [← hF, ← hF, over_put a l 0 v i _ x hd ho1, Nat.zero_add]
          · intro k hk hmk
            unfold vset
            by_cases e : k = i
            · rw [if_pos e, e]; rw [Nat.zero_add] at hx; exact hx
            · rw [if_neg e]
              unfold mark at hmk
              rw [Bool.or_eq_true] at hmk
              rcases hmk with h | h
              · exact hT' k _ _ _ hb' hb2 (hv k hk h)
              · exact absurd (by simpa using h) e
          · intro k hk hmk
            unfold mark at hmk
            rw [Bool.or_eq_false_iff] at hmk
            unfold vset
            rw [if_neg (by simpa using hmk.2)]
            exact hs k hk hmk.1)
        split
        · rename_i hw; rw [if_pos hw] at hstep; exact Or.inl hstep
        · rename_i hw; rw [if_neg hw] at hstep; exact hstep
    · exfalso
      by_cases him : i = m
      · subst him; rw [hLi] at hLm; cases hLm
      · have := hL.behind _ m i (fun k hk => hL.down m k hLm hk) (hbm i (by omega))
        rw [hLi] at this; cases this
  · rintro L a' w' hall hI
    rcases hI with ⟨hLm, _⟩ | ⟨_, hq⟩
    · have := hall m (by omega)
      rw [hLm] at this; cases this
    · exact hq
  · intro hw
    have h1 := (waits_lt ht hw)
    exfalso
    have : (Array.replicate l.toArray.size false).getD i true = false := by
      have := h1.2
      simp [Array.getD] at this ⊢
      omega
    rw [this] at h
    cases h
  · have := List.length_filter_le (fun i => !(Array.replicate l.toArray.size false).getD i true) (List.range l.toArray.size)
    simpa using this
  · refine Or.inl ⟨?_, hJ, startOf a l, ?_, ?_, fun i _ _ => rfl⟩
    · simp [Array.getD]; omega
    · rw [← hF, over_start]
      intro i o ho
      unfold startOf
      rw [Nat.zero_add, ho]
      rfl
    · intro i hi h
      exfalso
      simp [Array.getD, show i < l.length by omega] at h
end Go.Proofs.YtoficnfpoeaccaaDoor
