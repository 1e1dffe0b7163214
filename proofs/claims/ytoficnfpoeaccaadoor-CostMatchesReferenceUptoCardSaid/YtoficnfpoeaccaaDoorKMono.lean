/- How the estimate grows and falls; no program in sight. -/
import Derived.Test.YtoficnfpoeaccaaDoorKPure
namespace Go.Proofs.YtoficnfpoeaccaaDoor
set_option linter.unusedVariables false
set_option linter.unusedSimpArgs false
namespace Ko
theorem up_mono {a a' b b' : Nat} (h : a ≤ a') (hb : b' ≤ b) : up a b ≤ up a' b' := by
  unfold up
  have h1 : 1 ≤ max b' 1 := by omega
  have h2 : max b' 1 ≤ max b 1 := by omega
  generalize max b 1 = c at *
  generalize max b' 1 = d at *
  -- (a + c - 1) / c ≤ (a' + d - 1) / d
  rw [Nat.le_div_iff_mul_le (by omega)]
  have hq : (a + c - 1) / c * c ≤ a + c - 1 := Nat.div_mul_le_self _ _
  generalize (a + c - 1) / c = q at *
  rcases Nat.eq_zero_or_pos q with e | e
  · subst e; omega
  · obtain ⟨p, rfl⟩ : ∃ p, q = p + 1 := ⟨q - 1, by omega⟩
    have h3 : p * d ≤ p * c := Nat.mul_le_mul_left _ h2
    rw [Nat.add_mul] at hq ⊢
    omega
theorem up_le (a b : Nat) : up a b ≤ a := by
  unfold up
  have h1 : 1 ≤ max b 1 := by omega
  generalize max b 1 = c at *
  rcases Nat.eq_zero_or_pos a with e | e
  · subst e
    rw [Nat.zero_add, Nat.div_eq_of_lt (by omega)]
    exact Nat.le_refl _
  · have : (a + c - 1) / c < a + 1 := by
      rw [Nat.div_lt_iff_lt_mul (by omega)]
      have : a * 1 ≤ a * c := Nat.mul_le_mul_left _ h1
      rw [Nat.add_mul]
      omega
    omega
theorem prod_mono {a a' b b' : Nat} (h : a ≤ a') (hb : b ≤ b') : prod a b ≤ prod a' b' := by
  unfold prod
  have := Nat.mul_le_mul h hb
  omega
/-- Bound variables: more of them. -/
def Sub (B B' : Bd) : Prop := ∀ x, B x = true → B' x = true
theorem bindT_sub {B B' : Bd} (h : Sub B B') (t : Tm) : Sub (bindT B t) (bindT B' t) := fun x hx => by
  unfold bindT at hx ⊢
  rw [Bool.or_eq_true] at hx ⊢
  exact hx.imp (h x) id
theorem bindL_sub {B B' : Bd} (h : Sub B B') : ∀ ts : List Tm, Sub (bindL B ts) (bindL B' ts) := fun ts => by
  induction ts generalizing B B' with
  | nil => exact h
  | cons t ts ih => exact ih (bindT_sub h t)
theorem known_sub {B B' : Bd} (h : Sub B B') {t : Tm} (hk : known B t = true) : known B' t = true := by
  unfold known at hk ⊢
  rw [Bool.or_eq_true] at hk ⊢
  exact hk.imp id (h _)
theorem ready_sub {B B' : Bd} (h : Sub B B') {l : Lt} (hk : ready B l = true) : ready B' l = true := by
  unfold ready at hk ⊢
  split
  · rfl
  · rename_i h1
    rw [if_neg h1] at hk
    split
    · rename_i h2
      rw [if_pos h2, List.any_eq_true] at hk
      rw [List.any_eq_true]
      obtain ⟨t, ht, h3⟩ := hk
      exact ⟨t, ht, known_sub h h3⟩
    · rename_i h2
      rw [if_neg h2, List.all_eq_true] at hk
      rw [List.all_eq_true]
      exact fun t ht => known_sub h (hk t ht)
theorem runs_sub {body : List Lt} : ∀ (o : List Int) (done : List Nat) {B B' : Bd}, Sub B B' → runs body o done B = true → runs body o done B' = true
  | [], _, _, _, _, _ => rfl
  | i :: o, done, B, B', h, hr => by
    unfold runs at hr ⊢
    cases hl : body[i.toNat]? with
    | none => rw [hl] at hr; cases hr
    | some l =>
      rw [hl] at hr
      dsimp only at hr ⊢
      simp only [Bool.and_eq_true] at hr ⊢
      exact ⟨⟨hr.1.1, ready_sub h hr.1.2⟩, runs_sub o _ (bindL_sub h _) hr.2⟩
/-- Statistics of which the rows are fewer and the different values more. -/
structure Less (s s' : Sta) : Prop where
  rows : s.rows ≤ s'.rows
  dist : ∀ i : Nat, (s'.dist.getD i 0).toNat ≤ (s.dist.getD i 0).toNat
theorem scan_mono {s s' : Sta} (h : Less s s') : ∀ (ts : List Tm) (i : Nat) {B B' : Bd} {m m' : Nat}, Sub B' B → m ≤ m' → scan s ts i B m ≤ scan s' ts i B' m'
  | [], _, _, _, _, _, _, hm => hm
  | t :: ts, i, B, B', m, m', hB, hm => by
    unfold scan
    refine scan_mono h ts (i + 1) (bindT_sub hB t) ?_
    cases hk' : known B' t with
    | true =>
      rw [known_sub hB hk', if_pos rfl, if_pos rfl]
      exact up_mono hm (h.dist i)
    | false =>
      simp only [Bool.false_eq_true, if_false]
      split
      · exact Nat.le_trans (up_le _ _) hm
      · exact hm
structure E.Le (e e' : E) : Prop where
  n : e.n ≤ e'.n
  cost : e.cost ≤ e'.cost
def LessAll (ss ss' : List Sta) : Prop := ∀ i : Nat, Less (ss.getD i ⟨0, none, 0, []⟩) (ss'.getD i ⟨0, none, 0, []⟩)
theorem step_mono {ss ss' : List Sta} (h : LessAll ss ss') (l : Lt) {B B' : Bd} (hB : Sub B' B) {e e' : E} (he : e.Le e') : (stepE ss l B e).Le (stepE ss' l B' e') := by
  have h1 := he.n
  have h2 := he.cost
  unfold stepE
  split
  · have hm := scan_mono (h l.pred.toNat) l.args 0 (m := (ss.getD l.pred.toNat ⟨0, none, 0, []⟩).rows.toNat) (m' := (ss'.getD l.pred.toNat ⟨0, none, 0, []⟩).rows.toNat) hB (by have := (h l.pred.toNat).rows; omega)
    dsimp only
    refine ⟨prod_mono h1 hm, ?_⟩
    dsimp only
    have := prod_mono (b := max (scan (ss.getD l.pred.toNat ⟨0, none, 0, []⟩) l.args 0 B (ss.getD l.pred.toNat ⟨0, none, 0, []⟩).rows.toNat) 1) (b' := max (scan (ss'.getD l.pred.toNat ⟨0, none, 0, []⟩) l.args 0 B' (ss'.getD l.pred.toNat ⟨0, none, 0, []⟩).rows.toNat) 1) h1 (by omega)
    omega
  · cases hk' : l.args.all (known B') with
    | true =>
      have hk : l.args.all (known B) = true := by
        rw [List.all_eq_true] at hk' ⊢
        exact fun t ht => known_sub hB (hk' t ht)
      rw [hk, if_pos rfl, if_pos rfl]
      exact ⟨up_mono h1 (Nat.le_refl _), by dsimp only; omega⟩
    | false =>
      simp only [Bool.false_eq_true, if_false]
      split
      · exact ⟨Nat.le_trans (up_le _ _) h1, by dsimp only; omega⟩
      · exact ⟨h1, by dsimp only; omega⟩
theorem est_mono {ss ss' : List Sta} (h : LessAll ss ss') (body : List Lt) : ∀ (o : List Int) {B B' : Bd} {e e' : E}, Sub B' B → e.Le e' → est ss body o B e ≤ est ss' body o B' e'
  | [], _, _, _, _, _, he => he.cost
  | i :: o, B, B', e, e', hB, he => by
    unfold est
    cases body[i.toNat]? with
    | none => exact he.cost
    | some l => exact est_mono h body o (bindL_sub hB _) (step_mono h l hB he)
theorem est_cap {ss : List Sta} {body : List Lt} : ∀ (o : List Int) {B : Bd} {e : E}, e.cost ≤ most → est ss body o B e ≤ most
  | [], _, _, h => h
  | i :: o, B, e, h => by
    unfold est
    cases body[i.toNat]? with
    | none => exact h
    | some l =>
      refine est_cap o ?_
      unfold stepE
      split
      · dsimp only; omega
      · split <;> dsimp only <;> omega
theorem step_more {ss : List Sta} {l : Lt} {B : Bd} {e : E} (h : e.cost ≤ most) : e.cost ≤ (stepE ss l B e).cost := by
  unfold stepE
  split
  · dsimp only; omega
  · split <;> dsimp only <;> omega
theorem step_cap {ss : List Sta} {l : Lt} {B : Bd} {e : E} : (stepE ss l B e).cost ≤ most := by
  unfold stepE
  split
  · dsimp only; omega
  · split <;> dsimp only <;> omega
theorem est_more {ss : List Sta} {body : List Lt} : ∀ (o : List Int) {B : Bd} {e : E}, e.cost ≤ most → e.cost ≤ est ss body o B e
  | [], _, _, _ => Nat.le_refl _
  | i :: o, B, e, h => by
    unfold est
    cases body[i.toNat]? with
    | none => exact Nat.le_refl _
    | some l => exact Nat.le_trans (step_more h) (est_more o step_cap)
theorem est_app {ss : List Sta} {body : List Lt} {i : Int} : ∀ (o : List Int) {B : Bd} {e : E}, e.cost ≤ most → est ss body o B e ≤ est ss body (o ++ [i]) B e
  | [], B, e, h => est_more [i] h
  | j :: o, B, e, h => by
    rw [List.cons_append]
    unfold est
    cases body[j.toNat]? with
    | none => exact Nat.le_refl _
    | some l => exact est_app o step_cap
/-- The literals of an order, as a body of their own. -/
def picked (body : List Lt) (o : List Int) : List Lt := o.filterMap fun i => body[i.toNat]?
def countUp (n : Nat) : List Int := (List.range n).map fun (i : Nat) => (i : Int)
theorem est_picked {ss : List Sta} {body : List Lt} : ∀ (o : List Int) (pre : List Lt) {B : Bd} {e : E}, (∀ i ∈ o, ∃ l, body[i.toNat]? = some l) → est ss (pre ++ picked body o) ((List.range o.length).map fun (i : Nat) => ((pre.length + i : Nat) : Int)) B e = est ss body o B e
  | [], pre, B, e, _ => rfl
  | i :: o, pre, B, e, h => by
    obtain ⟨l, hl⟩ := h i (by simp)
    have e1 : picked body (i :: o) = l :: picked body o := by unfold picked; rw [List.filterMap_cons, hl]
    have e2 : (List.range (i :: o).length).map (fun (i : Nat) => ((pre.length + i : Nat) : Int)) = (pre.length : Int) :: (List.range o.length).map fun (i : Nat) => (((pre ++ [l]).length + i : Nat) : Int) := by
      rw [List.length_cons, List.range_succ_eq_map, List.map_cons, List.map_map]
      congr 1
      refine List.map_congr_left fun j _ => ?_
      simp only [Function.comp, List.length_append, List.length_cons, List.length_nil]
      omega
    rw [e1, e2]
    unfold est
    rw [hl, Int.toNat_natCast, List.getElem?_append_right (Nat.le_refl _), Nat.sub_self]
    simp only [List.getElem?_cons_zero]
    have e3 : pre ++ l :: picked body o = (pre ++ [l]) ++ picked body o := by simp
    rw [e3]
    exact est_picked o (pre ++ [l]) (fun j hj => h j (List.mem_cons_of_mem _ hj))
theorem est_begin {ss : List Sta} {body : List Lt} {o : List Int} {B : Bd} {e : E} (h : ∀ i ∈ o, ∃ l, body[i.toNat]? = some l) : est ss (picked body o) (countUp o.length) B e = est ss body o B e := by
  have := est_picked (ss := ss) o [] (B := B) (e := e) h
  simp only [List.nil_append, List.length_nil, Nat.zero_add] at this
  exact this
theorem runs_at {body : List Lt} : ∀ (o : List Int) (done : List Nat) {B : Bd}, runs body o done B = true → ∀ i ∈ o, 0 ≤ i ∧ ∃ l, body[i.toNat]? = some l
  | [], _, _, _, i, hi => by cases hi
  | j :: o, done, B, h, i, hi => by
    unfold runs at h
    cases hl : body[j.toNat]? with
    | none => rw [hl] at h; cases h
    | some l =>
      rw [hl] at h
      simp only [Bool.and_eq_true] at h
      rcases List.mem_cons.1 hi with rfl | hi
      · exact ⟨of_decide_eq_true h.1.1.1, l, hl⟩
      · exact runs_at o _ h.2 i hi
/-! ### Renaming -/
/-- Two sets of bound variables say the same of the terms and of their images. -/
def Same (ts : List Tm) (f : Tm → Tm) (B B' : Bd) : Prop := ∀ t ∈ ts, known B' (f t) = known B t
theorem scan_ren {s : Sta} {all : List Tm} {f : Tm → Tm} (hf : ∀ (B B' : Bd) t, t ∈ all → Same all f B B' → Same all f (bindT B t) (bindT B' (f t))) : ∀ (ts : List Tm) (i : Nat) {B B' : Bd} {m : Nat}, (∀ t ∈ ts, t ∈ all) → Same all f B B' → scan s (ts.map f) i B' m = scan s ts i B m
  | [], _, _, _, _, _, _ => rfl
  | t :: ts, i, B, B', m, hs, h => by
    rw [List.map_cons]
    unfold scan
    rw [h t (hs t (by simp)), scan_ren hf ts (i + 1) (fun u hu => hs u (List.mem_cons_of_mem _ hu)) (hf B B' t (hs t (by simp)) h)]
theorem bindL_ren {all : List Tm} {f : Tm → Tm} (hf : ∀ (B B' : Bd) t, t ∈ all → Same all f B B' → Same all f (bindT B t) (bindT B' (f t))) : ∀ (ts : List Tm) {B B' : Bd}, (∀ t ∈ ts, t ∈ all) → Same all f B B' → Same all f (bindL B ts) (bindL B' (ts.map f))
  | [], _, _, _, h => h
  | t :: ts, B, B', hs, h => bindL_ren hf ts (fun u hu => hs u (List.mem_cons_of_mem _ hu)) (hf B B' t (hs t (by simp)) h)
theorem all_ren {f : Tm → Tm} {B B' : Bd} : ∀ (ts : List Tm), (∀ t ∈ ts, known B' (f t) = known B t) → (ts.map f).all (known B') = ts.all (known B)
  | [], _ => rfl
  | t :: ts, h => by
    rw [List.map_cons, List.all_cons, List.all_cons, h t (by simp), all_ren ts fun u hu => h u (List.mem_cons_of_mem _ hu)]
/-- A literal whose arguments are replaced. -/
def renL (f : Tm → Tm) (l m : Lt) : Prop := m.kind = l.kind ∧ m.op = l.op ∧ m.pred = l.pred ∧ m.args = l.args.map f
theorem est_ren {ss : List Sta} {all : List Tm} {f : Tm → Tm} (hf : ∀ (B B' : Bd) t, t ∈ all → Same all f B B' → Same all f (bindT B t) (bindT B' (f t))) {body body' : List Lt} (hb : ∀ i : Nat, match body[i]?, body'[i]? with | some l, some m => renL f l m ∧ ∀ t ∈ l.args, t ∈ all | none, none => True | _, _ => False) :
    ∀ (o : List Int) {B B' : Bd} {e : E}, Same all f B B' → est ss body' o B' e = est ss body o B e
  | [], _, _, _, _ => rfl
  | i :: o, B, B', e, h => by
    have hi := hb i.toNat
    unfold est
    cases h1 : body[i.toNat]? with
    | none =>
      cases h2 : body'[i.toNat]? with
      | none => rfl
      | some m => rw [h1, h2] at hi; exact hi.elim
    | some l =>
      cases h2 : body'[i.toNat]? with
      | none => rw [h1, h2] at hi; exact hi.elim
      | some m =>
        rw [h1, h2] at hi
        obtain ⟨⟨k1, k2, k3, k4⟩, hall⟩ := hi
        dsimp only
        have e1 : stepE ss m B' e = stepE ss l B e := by
          unfold stepE
          rw [k1, k3, k4]
          dsimp only
          rw [scan_ren hf l.args 0 hall h, all_ren l.args fun t ht => h t (hall t ht)]
        rw [e1, k4]
        exact est_ren hf hb o (bindL_ren hf l.args hall h)
end Ko
end Go.Proofs.YtoficnfpoeaccaaDoor
