/- A region that draws its order: a chain of operations, each waiting for the one before, that make and turn memory; the other ones only read, in whatever order; behind them operations that each wait for all before. No program in sight. -/
import Derived.Test.YtpcmlkpnjimbiaaDoorInv4
namespace Go.Proofs.YtpcmlkpnjimbiaaDoor
set_option linter.unusedVariables false
set_option linter.unusedSimpArgs false
open Go.RowKit
section
variable {P : Program} {ops : Array Oper} {Q : Exit → Act → World → Prop}
def Pv {c : Value} : Value → Prop := fun x => x = c
def Fv : Value → Prop := fun _ => True
def pinAt (Ts : List (Value → Prop)) (i : Nat) : Value → Prop := Ts.getD i Fv
/-- The value that the chain's operation before p has made. -/
def Prev (ks : List (Option Nat)) (p : Nat) (v : Nat → Value) (x : Value) : Prop := ∀ (j q : Nat), ks[j]? = some (some q) → q + 1 = p → v j = x
def asksChain (P : Program) (ops : Array Oper) (Q : Exit → Act → World → Prop) (F : (Nat → Value) → Act) (ks : List (Option Nat)) (Wp : Nat → Value → World → Prop) (J : World → Prop) (Ts : List (Value → Prop)) : List Oper → List (Option Nat) → Nat → Prop
 | o :: r, some p :: k, i => (∀ v w x, Hid (Wp p x w) → Hid (Prev ks p v x) → Hid (∀ j, behind ops ops.size i j = true → ks[j]? = some none → pinAt Ts j (v j)) → ∀ K : Act → World → Prop, Hid (∀ x w', Wp (p + 1) x w' → K ((F v).put o.dst x) w') →
   if Region.wanted o (yielded ops (F v).tmps) then o.wp P (F v) w K Q else K ((F v).put o.dst undef) w) ∧ asksChain P ops Q F ks Wp J Ts r k (i + 1)
 | o :: r, none :: k, i => (∀ v w, Hid (J w) → Hid (∀ j, behind ops ops.size i j = true → ks[j]? = some none → pinAt Ts j (v j)) → ∀ K : Act → World → Prop, Hid (∀ x, pinAt Ts i x → K ((F v).put o.dst x) w) →
   if Region.wanted o (yielded ops (F v).tmps) then o.wp P (F v) w K Q else K ((F v).put o.dst undef) w) ∧ asksChain P ops Q F ks Wp J Ts r k (i + 1)
 | [], [], _ => True
 | _, _, _ => False
theorem asksChain_some {F : (Nat → Value) → Act} {ks : List (Option Nat)} {Wp : Nat → Value → World → Prop} {J : World → Prop} {Ts : List (Value → Prop)} : ∀ {l : List Oper} {kk : List (Option Nat)} {i k p : Nat} {o : Oper}, asksChain P ops Q F ks Wp J Ts l kk i → l[k]? = some o → kk[k]? = some (some p) →
  (∀ v w x, Hid (Wp p x w) → Hid (Prev ks p v x) → Hid (∀ j, behind ops ops.size (i + k) j = true → ks[j]? = some none → pinAt Ts j (v j)) → ∀ K : Act → World → Prop, Hid (∀ x w', Wp (p + 1) x w' → K ((F v).put o.dst x) w') →
   if Region.wanted o (yielded ops (F v).tmps) then o.wp P (F v) w K Q else K ((F v).put o.dst undef) w)
 | [], _, _, _, _, _, _, h, _ => by simp at h
 | o :: r, [], _, _, _, _, _, _, h => by simp at h
 | o :: r, some q :: ks, i, 0, p, o', ha, h, hk => by simp at h hk; subst h; subst hk; exact ha.1
 | o :: r, none :: ks, i, 0, p, o', ha, h, hk => by simp at hk
 | o :: r, some q :: ks, i, k + 1, p, o', ha, h, hk => by
  have := asksChain_some (l := r) (kk := ks) (i := i + 1) (k := k) ha.2 (by simpa using h) (by simpa using hk)
  rw [show i + 1 + k = i + (k + 1) by omega] at this
  exact this
 | o :: r, none :: ks, i, k + 1, p, o', ha, h, hk => by
  have := asksChain_some (l := r) (kk := ks) (i := i + 1) (k := k) ha.2 (by simpa using h) (by simpa using hk)
  rw [show i + 1 + k = i + (k + 1) by omega] at this
  exact this
theorem asksChain_none {F : (Nat → Value) → Act} {ks : List (Option Nat)} {Wp : Nat → Value → World → Prop} {J : World → Prop} {Ts : List (Value → Prop)} : ∀ {l : List Oper} {kk : List (Option Nat)} {i k : Nat} {o : Oper}, asksChain P ops Q F ks Wp J Ts l kk i → l[k]? = some o → kk[k]? = some none →
  (∀ v w, Hid (J w) → Hid (∀ j, behind ops ops.size (i + k) j = true → ks[j]? = some none → pinAt Ts j (v j)) → ∀ K : Act → World → Prop, Hid (∀ x, pinAt Ts (i + k) x → K ((F v).put o.dst x) w) →
   if Region.wanted o (yielded ops (F v).tmps) then o.wp P (F v) w K Q else K ((F v).put o.dst undef) w)
 | [], _, _, _, _, _, h, _ => by simp at h
 | o :: r, [], _, _, _, _, _, h => by simp at h
 | o :: r, none :: ks, i, 0, o', ha, h, hk => by simp at h; subst h; exact ha.1
 | o :: r, some q :: ks, i, 0, o', ha, h, hk => by simp at hk
 | o :: r, some q :: ks, i, k + 1, o', ha, h, hk => by
  have := asksChain_none (l := r) (kk := ks) (i := i + 1) (k := k) ha.2 (by simpa using h) (by simpa using hk)
  rw [show i + 1 + k = i + (k + 1) by omega] at this
  exact this
 | o :: r, none :: ks, i, k + 1, o', ha, h, hk => by
  have := asksChain_none (l := r) (kk := ks) (i := i + 1) (k := k) ha.2 (by simpa using h) (by simpa using hk)
  rw [show i + 1 + k = i + (k + 1) by omega] at this
  exact this
theorem asksChain_len {F : (Nat → Value) → Act} {ks : List (Option Nat)} {Wp : Nat → Value → World → Prop} {J : World → Prop} {Ts : List (Value → Prop)} : ∀ {l : List Oper} {kk : List (Option Nat)} {i : Nat}, asksChain P ops Q F ks Wp J Ts l kk i → kk.length = l.length
 | [], [], _, _ => rfl
 | [], _ :: _, _, h => by cases h
 | o :: r, [], _, h => by cases h
 | o :: r, some q :: ks, i, h => by simpa using asksChain_len h.2
 | o :: r, none :: ks, i, h => by simpa using asksChain_len h.2
/-- The chain is one: each of its operations waits for those before. -/
def chained (ops : Array Oper) (ks : List (Option Nat)) : Bool := (List.range ks.length).all fun i => (List.range ks.length).all fun j => match ks[i]?, ks[j]? with
 | some (some p), some (some q) => !decide (q < p) || behind ops ops.size i j
 | _, _ => true
def uniq (ks : List (Option Nat)) : Bool := (List.range ks.length).all fun i => (List.range ks.length).all fun j => match ks[i]?, ks[j]? with
 | some (some p), some (some q) => !decide (q = p) || decide (i = j)
 | _, _ => true
end
theorem wp_region_chain {P : Program} {Q : Exit → Act → World → Prop} {id : Nat} {a : Act} {w : World} {l : List Oper} (m n : Nat) (F : (Nat → Value) → Act) (ks : List (Option Nat)) (Wp : Nat → Value → World → Prop) (J : World → Prop) (Ts : List (Value → Prop))
  (hF : ∀ v, over a l 0 v = F v) (hm : P.follows .mixedOrders = true) (ht : tidy l.toArray = true) (hd : apartDst l = true) (hlen : m < l.length) (hall : ((List.range l.length).all fun t => decide (t < m) || (List.range t).all fun j => behind l.toArray l.toArray.size t j) = true)
  (hch : chained l.toArray ks = true) (hun : uniq ks = true) (hmax : (ks.all fun k => match k with | some p => decide (p < n) | none => true) = true) (hn : ((List.range n).all fun p => ks.contains (some p)) = true) (hW : ∀ x, Wp 0 x w.drew) (hJ : ∀ p x w, Wp p x w → J w)
  (hops : asksChain P l.toArray Q F ks Wp J Ts (l.take m) ks 0)
  (htail : ∀ v w x, Hid (Wp n x w) → Hid (Prev ks n v x) → Hid (∀ j, j < m → ks[j]? = some none → pinAt Ts j (v j)) → wpList P l.toArray Q (l.drop m) (F v) w) : (Code.region id l.toArray true).wp P Q a w := by
 have hkl : ks.length = m := by
  have := asksChain_len hops
  rw [this, List.length_take]; omega
 have hbt : ∀ t, m ≤ t → t < l.length → ∀ j, j < t → behind l.toArray l.toArray.size t j = true := fun t h1 h2 j hj => by
  rw [List.all_eq_true] at hall
  have := hall t (List.mem_range.2 h2)
  rw [Bool.or_eq_true] at this
  rcases this with h | h
  ·have := of_decide_eq_true h; omega
  ·rw [List.all_eq_true] at h
   exact h j (List.mem_range.2 hj)
 have hcb : ∀ i j p q, ks[i]? = some (some p) → ks[j]? = some (some q) → q < p → behind l.toArray l.toArray.size i j = true := fun i j p q h1 h2 h3 => by
  unfold chained at hch
  rw [List.all_eq_true] at hch
  have h4 := hch i (List.mem_range.2 (List.getElem?_eq_some_iff.1 h1).1)
  rw [List.all_eq_true] at h4
  have h5 := h4 j (List.mem_range.2 (List.getElem?_eq_some_iff.1 h2).1)
  rw [h1, h2] at h5
  simpa [h3] using h5
 have hcu : ∀ i j p, ks[i]? = some (some p) → ks[j]? = some (some p) → i = j := fun i j p h1 h2 => by
  unfold uniq at hun
  rw [List.all_eq_true] at hun
  have h4 := hun i (List.mem_range.2 (List.getElem?_eq_some_iff.1 h1).1)
  rw [List.all_eq_true] at h4
  have h5 := h4 j (List.mem_range.2 (List.getElem?_eq_some_iff.1 h2).1)
  rw [h1, h2] at h5
  simpa using h5
 have hlt : ∀ i p, ks[i]? = some (some p) → p < n := fun i p h => by
  rw [List.all_eq_true] at hmax
  simpa using hmax (some p) (List.mem_of_getElem? h)
 have hex : ∀ p, p < n → ∃ i, ks[i]? = some (some p) := fun p hp => by
  rw [List.all_eq_true] at hn
  have := hn p (List.mem_range.2 hp)
  rw [List.contains_iff_mem] at this
  exact List.mem_iff_getElem?.1 this
 have hsz : l.toArray.size = l.length := by simp
 refine wp_region_any hm ?_
 -- what holds on the way
 let I : (Nat → Bool) → Act → World → Prop := fun L a' w' => (∀ t, m ≤ t → t < l.length → L t = false) ∧ ∃ v, a' = F v ∧ (∀ i, i < m → L i = true → ks[i]? = some none → pinAt Ts i (v i)) ∧ (∃ p x, p ≤ n ∧ (∀ j q, ks[j]? = some (some q) → (L j = true ↔ q < p)) ∧ Prev ks p v x ∧ Wp p x w')
 refine wpAny_each ht (fun L a' w' => I L a' w' ∨ (∃ t, m < t ∧ t ≤ l.length ∧ (∀ j, j < t → L j = true) ∧ (∀ j, t ≤ j → j < l.length → L j = false) ∧ wpList P l.toArray Q (l.drop t) a' w')) ?_ ?_ _ _ _ _ (by simp) ⟨fun i j h => ?_⟩ ?_ ?_
 ·rintro i L a' w' hi hL hLi hdep hI
  have hil : i < l.length := by simpa using hi
  have ho1 : l[i]? = some l[i] := List.getElem?_eq_getElem hil
  have ho' : l.toArray[i]? = some l[i] := by simp
  have step : ∀ a2 w2, wpList P l.toArray Q (l.drop i) a2 w2 → m ≤ i → (∀ j, j < i → L j = true) → (∀ j, i ≤ j → j < l.length → L j = false) → wpOp P l.toArray Q i (fun a3 w3 => I (mark L i) a3 w3 ∨ (∃ t, m < t ∧ t ≤ l.length ∧ (∀ j, j < t → mark L i j = true) ∧ (∀ j, t ≤ j → j < l.length → mark L i j = false) ∧ wpList P l.toArray Q (l.drop t) a3 w3)) a2 w2 := by
   intro a2 w2 hw2 hmi hLb hLj
   have hdr : l.drop i = l[i] :: l.drop (i + 1) := List.drop_eq_getElem_cons hil
   rw [hdr] at hw2
   have hw : wpOp P l.toArray Q i (wpList P l.toArray Q (l.drop (i + 1))) a2 w2 := by unfold wpOp; simp only [ho']; exact hw2
   refine wpOp_mono (fun a3 w3 h => Or.inr ⟨i + 1, by omega, by omega, fun j hj => ?_, fun j hj1 hj2 => ?_, h⟩) hw
   ·unfold mark
    rw [Bool.or_eq_true]
    rcases Nat.lt_or_ge j i with h5 | h5
    ·exact Or.inl (hLb j h5)
    ·exact Or.inr (decide_eq_true (by omega))
   ·unfold mark
    rw [hLj j (by omega) hj2, Bool.false_or]
    exact decide_eq_false (by omega)
  rcases hI with ⟨hLm, v, rfl, hv, p, x, hpn, hph, hpr, hWp⟩ | ⟨t, ht1, ht2, ht4, ht3, hq⟩
  ·have hafter : ∀ j, behind l.toArray l.toArray.size j i = true → L j = false := fun j hj => by
    cases hLj : L j with
    | false => rfl
    | true =>
     have := hL.behind _ j i (fun k hk => hL.down j k hLj hk) hj
     rw [hLi] at this; cases this
   by_cases him : i < m
   ·unfold wpOp
    rw [ho']
    simp only
    have hot : (l.take m)[i]? = some l[i] := by rw [List.getElem?_take, if_pos him]; exact ho1
    obtain ⟨ki, hki⟩ : ∃ ki, ks[i]? = some ki := ⟨_, List.getElem?_eq_getElem (by omega)⟩
    have hpins : ∀ j, behind l.toArray l.toArray.size i j = true → ks[j]? = some none → pinAt Ts j (v j) := fun j hj hkj => by
     have h1 : j < i := behind_less ht _ _ _ hj
     exact hv j (by omega) (hdep j hj) hkj
    have hLm' : ∀ t, m ≤ t → t < l.length → mark L i t = false := fun t h1 h2 => by
     unfold mark; rw [hLm t h1 h2, Bool.false_or]; exact decide_eq_false (by omega)
    cases ki with
    | none =>
     have hstep := asksChain_none hops hot hki v w' (hJ p x w' hWp) (fun j hj hkj => hpins j (by rw [Nat.zero_add] at hj; exact hj) hkj) (fun a3 w3 => I (mark L i) a3 w3 ∨ (∃ t, m < t ∧ t ≤ l.length ∧ (∀ j, j < t → mark L i j = true) ∧ (∀ j, t ≤ j → j < l.length → mark L i j = false) ∧ wpList P l.toArray Q (l.drop t) a3 w3)) (fun y hy => by
      rw [Nat.zero_add] at hy
      refine Or.inl ⟨hLm', vset v i y, ?_, fun k hk hmk hkk => ?_, p, x, hpn, fun j q hj => ?_, fun j q hj hq => ?_, hWp⟩
      ·rw [← hF, ← hF, over_put a l 0 v i _ y hd ho1, Nat.zero_add]
      ·unfold vset
       by_cases e : k = i
       ·rw [if_pos e, e]; exact hy
       ·rw [if_neg e]
        unfold mark at hmk
        rw [Bool.or_eq_true] at hmk
        rcases hmk with h | h
        ·exact hv k hk h hkk
        ·exact absurd (by simpa using h) e
      ·have hji : j ≠ i := by rintro rfl; rw [hki] at hj; cases hj
       unfold mark
       rw [decide_eq_false hji, Bool.or_false]
       exact hph j q hj
      ·have hji : j ≠ i := by rintro rfl; rw [hki] at hj; cases hj
       unfold vset
       rw [if_neg hji]
       exact hpr j q hj hq)
     split
     ·rename_i hw; rw [if_pos hw] at hstep; exact Or.inl hstep
     ·rename_i hw; rw [if_neg hw] at hstep; exact hstep
    | some p' =>
     have hpp : p' = p := by
      rcases Nat.lt_trichotomy p' p with h | h | h
      ·have := (hph i p' hki).2 h
       rw [hLi] at this; cases this
      ·exact h
      ·obtain ⟨j, hj⟩ := hex p (by have := hlt i p' hki; omega)
       have h2 := hdep j (hcb i j p' p hki hj h)
       have h3 := (hph j p hj).1 h2
       omega
     subst hpp
     have hstep := asksChain_some hops hot hki v w' x hWp hpr (fun j hj hkj => hpins j (by rw [Nat.zero_add] at hj; exact hj) hkj) (fun a3 w3 => I (mark L i) a3 w3 ∨ (∃ t, m < t ∧ t ≤ l.length ∧ (∀ j, j < t → mark L i j = true) ∧ (∀ j, t ≤ j → j < l.length → mark L i j = false) ∧ wpList P l.toArray Q (l.drop t) a3 w3)) (fun y w2 hy => by
      refine Or.inl ⟨hLm', vset v i y, ?_, fun k hk hmk hkk => ?_, p' + 1, y, hlt i p' hki, fun j q hj => ?_, fun j q hj hq => ?_, hy⟩
      ·rw [← hF, ← hF, over_put a l 0 v i _ y hd ho1, Nat.zero_add]
      ·unfold vset
       by_cases e : k = i
       ·exfalso
        subst e; rw [hki] at hkk; cases hkk
       ·rw [if_neg e]
        unfold mark at hmk
        rw [Bool.or_eq_true] at hmk
        rcases hmk with h | h
        ·exact hv k hk h hkk
        ·exact absurd (by simpa using h) e
      ·by_cases hji : j = i
       ·subst hji
        rw [hki] at hj
        injection hj with hj
        injection hj with hj
        unfold mark
        simp; omega
       ·unfold mark
        rw [decide_eq_false hji, Bool.or_false, hph j q hj]
        constructor
        ·intro h; omega
        ·intro h
         rcases Nat.lt_or_ge q p' with h2 | h2
         ·exact h2
         ·have : q = p' := by omega
          subst this
          exact absurd (hcu j i q hj hki) hji
      ·have hqp : q = p' := by omega
       subst hqp
       obtain rfl := hcu j i q hj hki
       unfold vset
       rw [if_pos rfl])
     split
     ·rename_i hw; rw [if_pos hw] at hstep; exact Or.inl hstep
     ·rename_i hw; rw [if_neg hw] at hstep; exact hstep
   ·have him2 : i = m := by
     rcases Nat.lt_or_ge m i with h | h
     ·have := hdep m (hbt i (by omega) hil m h)
      rw [hLm m (Nat.le_refl _) hlen] at this
      cases this
     ·omega
    subst him2
    have hallL : ∀ j, j < i → L j = true := fun j hj => hdep j (hbt i (Nat.le_refl _) hil j hj)
    have hpe : p = n := by
     rcases Nat.lt_or_ge p n with h | h
     ·obtain ⟨j, hj⟩ := hex p h
      have h2 := (hph j p hj).1 (hallL j (by have := (List.getElem?_eq_some_iff.1 hj).1; omega))
      omega
     ·omega
    subst hpe
    exact step _ _ (htail v w' x hWp hpr fun j hj hkj => hv j hj (hallL j hj) hkj) (Nat.le_refl _) hallL hLm
  ·have hti : i = t := by
    rcases Nat.lt_or_ge i t with h | h
    ·have := ht4 i h
     rw [hLi] at this; cases this
    ·rcases Nat.lt_or_ge t i with h4 | h4
     ·have := hdep t (hbt i (by omega) hil t h4)
      rw [ht3 t (Nat.le_refl _) (by omega)] at this
      cases this
     ·omega
   subst hti
   exact step _ _ hq (by omega) ht4 ht3
 ·rintro L a' w' hall2 hI
  rcases hI with ⟨hLm, _⟩ | ⟨t, ht1, ht2, ht4, ht3, hq⟩
  ·have := hall2 m (by omega)
   rw [hLm m (Nat.le_refl _) hlen] at this; cases this
  ·have : t = l.length := by
    rcases Nat.lt_or_ge t l.length with h | h
    ·have h2 := hall2 t (by omega)
     rw [ht3 t (Nat.le_refl _) h] at h2; cases h2
    ·omega
   subst this
   rw [List.drop_length] at hq
   exact hq
 ·intro hw
  have h1 := (waits_lt ht hw)
  exfalso
  have : (Array.replicate l.toArray.size false).getD i true = false := by
   have := h1.2
   simp [Array.getD] at this ⊢
   omega
  rw [this] at h
  cases h
 ·have := List.length_filter_le (fun i => !(Array.replicate l.toArray.size false).getD i true) (List.range l.toArray.size)
  simpa using this
 ·refine Or.inl ⟨fun t h1 h2 => by simp [Array.getD]; omega, startOf a l, ?_, fun i hi h => ?_, 0, undef, Nat.zero_le _, fun j q hj => ?_, fun j q hj hq => by omega, hW undef⟩
  ·rw [← hF, over_start]
   intro i o ho
   unfold startOf
   rw [Nat.zero_add, ho]
   rfl
  ·exfalso
   simp [Array.getD, show i < l.length by omega] at h
  ·have := (List.getElem?_eq_some_iff.1 hj).1
   simp [Array.getD, show j < l.length by omega]
end Go.Proofs.YtpcmlkpnjimbiaaDoor
