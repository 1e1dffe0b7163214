/- Families of sets of numbers: what keeping the least ones does; no program in sight. -/
import Derived.Lib.ItoaNum
set_option linter.unusedVariables false
set_option linter.unusedSimpArgs false
namespace Go.Proofs.YtphmicbpkljmfaaGreat
namespace Fm
/-- The first difference decides. -/
def lex : List Int → List Int → Bool
  | [], [] => false
  | [], _ :: _ => true
  | _ :: _, [] => false
  | a :: r, b :: s => if a < b then true else if b < a then false else lex r s
/-- By length, then by the first difference. -/
def lt (a b : List Int) : Bool := if a.length < b.length then true else if b.length < a.length then false else lex a b
theorem lex_irrefl : ∀ a, lex a a = false
  | [] => rfl
  | a :: r => by simp [lex, lex_irrefl r]
theorem lex_trans : ∀ a b c, lex a b = true → lex b c = true → lex a c = true
  | [], [], _, h, _ => by simp [lex] at h
  | [], _ :: _, [], _, h => by simp [lex] at h
  | [], _ :: _, _ :: _, _, _ => rfl
  | _ :: _, [], _, h, _ => by simp [lex] at h
  | _ :: _, _ :: _, [], _, h => by simp [lex] at h
  | a :: r, b :: s, c :: t, h1, h2 => by
    unfold lex at h1 h2 ⊢
    split at h1
    · split at h2
      · rw [if_pos (by omega)]
      · split at h2
        · cases h2
        · rw [if_pos (by omega)]
    · split at h1
      · cases h1
      · split at h2
        · rw [if_pos (by omega)]
        · split at h2
          · cases h2
          · rw [if_neg (by omega), if_neg (by omega)]
            exact lex_trans r s t h1 h2
theorem lex_tri : ∀ a b, lex a b = false → lex b a = false → a = b
  | [], [], _, _ => rfl
  | [], _ :: _, h, _ => by simp [lex] at h
  | _ :: _, [], _, h => by simp [lex] at h
  | a :: r, b :: s, h1, h2 => by
    unfold lex at h1 h2
    split at h1
    · cases h1
    · split at h1
      · rw [if_pos (by omega)] at h2; cases h2
      · rw [if_neg (by omega), if_neg (by omega)] at h2
        rw [lex_tri r s h1 h2, show a = b by omega]
theorem lt_irrefl (a : List Int) : lt a a = false := by simp [lt, lex_irrefl]
theorem lt_trans (a b c : List Int) (h1 : lt a b = true) (h2 : lt b c = true) : lt a c = true := by
  unfold lt at *
  split at h1
  · split at h2
    · rw [if_pos (by omega)]
    · split at h2
      · cases h2
      · rw [if_pos (by omega)]
  · split at h1
    · cases h1
    · split at h2
      · rw [if_pos (by omega)]
      · split at h2
        · cases h2
        · rw [if_neg (by omega), if_neg (by omega)]; exact lex_trans _ _ _ h1 h2
theorem lt_tri (a b : List Int) (h1 : lt a b = false) (h2 : lt b a = false) : a = b := by
  unfold lt at *
  split at h1
  · cases h1
  · split at h1
    · rw [if_pos (by omega)] at h2; cases h2
    · rw [if_neg (by omega), if_neg (by omega)] at h2; exact lex_tri _ _ h1 h2
theorem lt_asymm (a b : List Int) (h1 : lt a b = true) : lt b a = false := by
  cases h : lt b a with
  | false => rfl
  | true => have := lt_trans _ _ _ h1 h; rw [lt_irrefl] at this; cases this
theorem lt_ntrans (a b c : List Int) (h1 : lt a b = false) (h2 : lt b c = false) : lt a c = false := by
  cases h : lt a c with
  | false => rfl
  | true =>
    cases hc : lt c b with
    | true => rw [lt_trans _ _ _ h hc] at h1; cases h1
    | false => rw [lt_tri _ _ h2 hc, h] at h1; cases h1
/-- Strictly increasing. -/
abbrev Inc (s : List Int) : Prop := s.Pairwise (· < ·)
theorem Inc.nodup {s : List Int} (h : Inc s) : s.Nodup := h.imp fun h e => by omega
theorem Inc.eq {a b : List Int} (ha : Inc a) (hb : Inc b) (h : ∀ x, x ∈ a ↔ x ∈ b) : a = b :=
  List.Perm.eq_of_pairwise (le := (· < ·)) (fun x y _ _ h1 h2 => by omega) ha hb ((List.perm_ext_iff_of_nodup ha.nodup hb.nodup).2 h)
theorem mem_of_long {a b : List Int} (ha : a.Nodup) (h : a ⊆ b) (hl : b.length ≤ a.length) : ∀ x, x ∈ b → x ∈ a := by
  intro x hx
  by_cases hm : x ∈ a
  · exact hm
  · exfalso
    have h1 : (x :: a).Nodup := List.nodup_cons.2 ⟨hm, ha⟩
    have := h1.length_le_of_subset (l₂ := b) (fun y hy => by
      rcases List.mem_cons.1 hy with rfl | h'
      · exact hx
      · exact h h')
    simp at this
    omega
theorem Inc.eq_of_long {a b : List Int} (ha : Inc a) (hb : Inc b) (h : a ⊆ b) (hl : b.length ≤ a.length) : a = b :=
  ha.eq hb fun x => ⟨fun hx => h hx, mem_of_long ha.nodup h hl x⟩
theorem Inc.not_lt {a b : List Int} (hb : Inc b) (h : b ⊆ a) (hl : lt a b = true) (ha : Inc a) : False := by
  have h1 := hb.nodup.length_le_of_subset h
  unfold lt at hl
  split at hl
  · omega
  · split at hl
    · cases hl
    · have := hb.eq_of_long ha h (by omega)
      subst this
      rw [lex_irrefl] at hl; cases hl
/-- Some set of the family is within. -/
def Up (F : List (List Int)) (ts : List Int) : Prop := ∃ s ∈ F, s ⊆ ts
/-- A family in order: increasing sets, ascending, none within another one. -/
structure Fam (F : List (List Int)) : Prop where
  inc : ∀ s ∈ F, Inc s
  asc : F.Pairwise fun a b => lt a b = true
  anti : ∀ s ∈ F, ∀ t ∈ F, s ⊆ t → s = t
/-- The family of the least sets that make p true. -/
structure Is (F : List (List Int)) (p : List Int → Bool) : Prop where
  fam : Fam F
  up : ∀ ts, p ts = true ↔ Up F ts
theorem Up.mono {F : List (List Int)} {ts us : List Int} (h : Up F ts) (hs : ts ⊆ us) : Up F us := by
  obtain ⟨s, h1, h2⟩ := h; exact ⟨s, h1, h2.trans hs⟩
theorem Fam.nodup {F : List (List Int)} (h : Fam F) : F.Nodup := h.asc.imp fun h e => by subst e; rw [lt_irrefl] at h; cases h
theorem same_of_up {F G : List (List Int)} (hF : ∀ s ∈ F, Inc s) (hG : ∀ s ∈ G, Inc s) (aF : ∀ s ∈ F, ∀ t ∈ F, s ⊆ t → s = t) (h : ∀ ts, Up F ts ↔ Up G ts) : ∀ s, s ∈ F → s ∈ G := by
  intro s hs
  obtain ⟨t, ht, h1⟩ := (h s).1 ⟨s, hs, fun _ h => h⟩
  obtain ⟨u, hu, h2⟩ := (h t).2 ⟨t, ht, fun _ h => h⟩
  have e := aF u hu s hs (h2.trans h1)
  subst e
  rw [(hF u hu).eq (hG t ht) fun x => ⟨fun h => h2 h, fun h => h1 h⟩]
  exact ht
theorem Fam.eq {F G : List (List Int)} (hF : Fam F) (hG : Fam G) (h : ∀ ts, Up F ts ↔ Up G ts) : F = G := by
  refine List.Perm.eq_of_pairwise (le := fun a b => lt a b = true) (fun a b _ _ h1 h2 => by rw [lt_asymm _ _ h1] at h2; cases h2) hF.asc hG.asc ((List.perm_ext_iff_of_nodup hF.nodup hG.nodup).2 fun s => ⟨?_, ?_⟩)
  · exact same_of_up hF.inc hG.inc hF.anti h s
  · exact same_of_up hG.inc hF.inc hG.anti (fun ts => (h ts).symm) s
theorem Is.eq {F G : List (List Int)} {p : List Int → Bool} (hF : Is F p) (hG : Is G p) : F = G := hF.fam.eq hG.fam fun ts => (hF.up ts).symm.trans (hG.up ts)
theorem Is.of {F : List (List Int)} {p q : List Int → Bool} (h : Is F p) (e : ∀ ts, p ts = q ts) : Is F q := ⟨h.fam, fun ts => by rw [← e]; exact h.up ts⟩
/-- Whether all numbers of the first are in the second. -/
def sub (a b : List Int) : Bool := a.all fun x => b.contains x
theorem sub_iff {a b : List Int} : sub a b = true ↔ a ⊆ b := by
  unfold sub
  rw [List.all_eq_true]
  exact ⟨fun h x hx => by simpa using h x hx, fun h x hx => by simpa using h hx⟩
theorem sub_false {a b : List Int} : sub a b = false ↔ ¬ a ⊆ b := by rw [← sub_iff]; simp
/-- One set is looked at: it is kept unless it holds a kept one. -/
def keep1 (out : List (List Int)) (x : List Int) : List (List Int) := if out.any (fun y => sub y x) then out else out ++ [x]
def keep (L : List (List Int)) : List (List Int) := L.foldl keep1 []
theorem keep_snoc (L : List (List Int)) (x : List Int) : keep (L ++ [x]) = keep1 (keep L) x := by simp [keep]
theorem any_sub {F : List (List Int)} {x : List Int} : (F.any fun y => sub y x) = true ↔ Up F x := by
  rw [List.any_eq_true]
  exact ⟨fun ⟨y, h1, h2⟩ => ⟨y, h1, sub_iff.1 h2⟩, fun ⟨y, h1, h2⟩ => ⟨y, h1, sub_iff.2 h2⟩⟩
theorem up_append {F G : List (List Int)} {ts : List Int} : Up (F ++ G) ts ↔ Up F ts ∨ Up G ts := by
  unfold Up
  constructor
  · rintro ⟨s, h, hs⟩
    rcases List.mem_append.1 h with h | h
    · exact Or.inl ⟨s, h, hs⟩
    · exact Or.inr ⟨s, h, hs⟩
  · rintro (⟨s, h, hs⟩ | ⟨s, h, hs⟩)
    · exact ⟨s, List.mem_append_left _ h, hs⟩
    · exact ⟨s, List.mem_append_right _ h, hs⟩
theorem up_one {x ts : List Int} : Up [x] ts ↔ x ⊆ ts := by simp [Up]
theorem up_nil {ts : List Int} : ¬ Up [] ts := by simp [Up]
/-- What is kept of sets in order. -/
structure Kept (L K : List (List Int)) : Prop where
  fam : Fam K
  up : ∀ ts, Up K ts ↔ Up L ts
  mem : ∀ s ∈ K, s ∈ L
theorem kept_nil : Kept [] [] := ⟨⟨fun s h => (by cases h), List.Pairwise.nil, fun s h => (by cases h)⟩, fun ts => Iff.rfl, fun s h => h⟩
theorem Kept.more {L K : List (List Int)} (h : Kept L K) {x : List Int} (hx : Inc x) (hs : ∀ y ∈ L, lt x y = false) : Kept (L ++ [x]) (keep1 K x) := by
  unfold keep1
  split
  · rename_i hc
    have hc' := any_sub.1 hc
    refine ⟨h.fam, fun ts => ?_, fun s hs => List.mem_append_left _ (h.mem s hs)⟩
    rw [up_append, h.up, up_one]
    exact ⟨Or.inl, fun h' => h'.elim id fun h'' => (h.up ts).1 (hc'.mono h'')⟩
  · rename_i hc
    have hc' : ¬ Up K x := fun h => hc (any_sub.2 h)
    refine ⟨⟨fun s hs => ?_, ?_, ?_⟩, fun ts => ?_, fun s hs => ?_⟩
    · rcases List.mem_append.1 hs with h' | h'
      · exact h.fam.inc s h'
      · simp at h'; subst h'; exact hx
    · rw [List.pairwise_append]
      refine ⟨h.fam.asc, by simp, fun a ha b hb => ?_⟩
      simp at hb; subst hb
      cases hl : lt a b with
      | true => rfl
      | false =>
        exfalso
        have := lt_tri _ _ hl (hs a (h.mem a ha))
        subst this
        exact hc' ⟨a, ha, fun _ h => h⟩
    · intro s h1 t h2 hst
      rcases List.mem_append.1 h1 with k1 | k1
      · rcases List.mem_append.1 h2 with k2 | k2
        · exact h.fam.anti s k1 t k2 hst
        · simp at k2; exact absurd ⟨s, k1, k2 ▸ hst⟩ hc'
      · simp at k1; subst k1
        rcases List.mem_append.1 h2 with h2 | h2
        · exfalso
          have hlt := hs t (h.mem t h2)
          have hl2 := hx.nodup.length_le_of_subset hst
          have : lt t s = false := by
            cases hl : lt t s with
            | false => rfl
            | true => exact (hx.not_lt hst hl (h.fam.inc t h2)).elim
          have := lt_tri _ _ hlt this
          subst this
          exact hc' ⟨s, h2, fun _ h => h⟩
        · simp at h2; exact h2.symm
    · rw [up_append, up_append, h.up]
    · rcases List.mem_append.1 hs with h' | h'
      · exact List.mem_append_left _ (h.mem s h')
      · exact List.mem_append_right _ h'
theorem kept_keep : ∀ (n : Nat) (L : List (List Int)), L.length = n → (∀ s ∈ L, Inc s) → (L.Pairwise fun a b => lt b a = false) → Kept L (keep L) := by
  intro n
  induction n with
  | zero => intro L hl _ _; rw [List.eq_nil_of_length_eq_zero hl]; exact kept_nil
  | succ n ih =>
    intro L hl hi hp
    obtain ⟨M, x, rfl⟩ : ∃ M x, L = M ++ [x] := ⟨L.dropLast, L.getLast (by intro e; subst e; simp at hl), (List.dropLast_concat_getLast _).symm⟩
    rw [keep_snoc]
    rw [List.pairwise_append] at hp
    exact (ih M (by simpa using hl) (fun s hs => hi s (List.mem_append_left _ hs)) hp.1).more (hi x (by simp)) (fun y hy => hp.2.2 y hy x (by simp))
/-- The least ones of some increasing sets. -/
theorem mins (L M : List (List Int)) (hp : M.Perm L) (hi : ∀ s ∈ L, Inc s) (hs : M.Pairwise fun a b => lt b a = false) : Fam (keep M) ∧ (∀ ts, Up (keep M) ts ↔ Up L ts) ∧ (∀ s ∈ keep M, s ∈ L) := by
  have h := kept_keep _ M rfl (fun s h => hi s (hp.mem_iff.1 h)) hs
  refine ⟨h.fam, fun ts => (h.up ts).trans ?_, fun s hs => hp.mem_iff.1 (h.mem s hs)⟩
  unfold Up
  exact ⟨fun ⟨s, h1, h2⟩ => ⟨s, hp.mem_iff.1 h1, h2⟩, fun ⟨s, h1, h2⟩ => ⟨s, hp.mem_iff.2 h1, h2⟩⟩
/-- There is such a family. -/
theorem ex_mins (L : List (List Int)) (hi : ∀ s ∈ L, Inc s) : ∃ F, Fam F ∧ (∀ ts, Up F ts ↔ Up L ts) ∧ ∀ s ∈ F, s ∈ L := by
  refine ⟨keep (L.mergeSort fun a b => !lt b a), mins L _ (List.mergeSort_perm _ _) hi ?_⟩
  have := List.pairwise_mergeSort (le := fun a b => !lt b a) (fun a b c h1 h2 => by
    simp only [Bool.not_eq_true'] at *
    exact lt_ntrans _ _ _ h2 h1) (fun a b => by
    cases h : lt b a with
    | false => rfl
    | true => simp [lt_asymm _ _ h]) L
  exact this.imp fun h => by simpa using h
/-- The union of two increasing sets. -/
def uni (a b : List Int) : List Int := (a ++ b.filter fun x => !a.contains x).mergeSort fun x y => decide (x ≤ y)
theorem mem_uni {a b : List Int} {x : Int} : x ∈ uni a b ↔ x ∈ a ∨ x ∈ b := by
  unfold uni
  rw [(List.mergeSort_perm _ _).mem_iff, List.mem_append, List.mem_filter]
  constructor
  · rintro (h | h)
    · exact Or.inl h
    · exact Or.inr h.1
  · rintro (h | h)
    · exact Or.inl h
    · by_cases ha : x ∈ a
      · exact Or.inl ha
      · exact Or.inr ⟨h, by simpa using ha⟩
theorem sorted_inc {l : List Int} (hn : l.Nodup) (hs : l.Pairwise (· ≤ ·)) : Inc l := (hn.and hs).imp fun h => by omega
theorem uni_inc {a b : List Int} (ha : Inc a) (hb : Inc b) : Inc (uni a b) := by
  unfold uni
  refine sorted_inc ((List.mergeSort_perm _ _).nodup_iff.2 ?_) ?_
  · rw [List.nodup_append]
    exact ⟨ha.nodup, hb.nodup.filter _, fun x hx y hy e => by subst e; rw [List.mem_filter] at hy; simp at hy; exact hy.2 hx⟩
  · have := List.pairwise_mergeSort (le := fun x y : Int => decide (x ≤ y)) (fun a b c h1 h2 => by simp at *; omega) (fun a b => by simp; omega) (a ++ b.filter fun x => !a.contains x)
    exact this.imp fun h => by simpa using h
theorem Inc.uni {a b z : List Int} (ha : Inc a) (hb : Inc b) (hz : Inc z) (h : ∀ x, x ∈ z ↔ x ∈ a ∨ x ∈ b) : z = uni a b := hz.eq (uni_inc ha hb) fun x => (h x).trans mem_uni.symm
theorem uni_sub {a b ts : List Int} : uni a b ⊆ ts ↔ a ⊆ ts ∧ b ⊆ ts :=
  ⟨fun h => ⟨fun x hx => h (mem_uni.2 (Or.inl hx)), fun x hx => h (mem_uni.2 (Or.inr hx))⟩, fun ⟨h1, h2⟩ x hx => (mem_uni.1 hx).elim (fun h => h1 h) fun h => h2 h⟩
def prods (F G : List (List Int)) : List (List Int) := F.flatMap fun a => G.map fun b => uni a b
theorem up_prods {F G : List (List Int)} {ts : List Int} : Up (prods F G) ts ↔ Up F ts ∧ Up G ts := by
  unfold Up prods
  constructor
  · rintro ⟨s, h, hs⟩
    obtain ⟨a, ha, h⟩ := List.mem_flatMap.1 h
    obtain ⟨b, hb, rfl⟩ := List.mem_map.1 h
    exact ⟨⟨a, ha, (uni_sub.1 hs).1⟩, ⟨b, hb, (uni_sub.1 hs).2⟩⟩
  · rintro ⟨⟨a, ha, h1⟩, ⟨b, hb, h2⟩⟩
    exact ⟨uni a b, List.mem_flatMap.2 ⟨a, ha, List.mem_map.2 ⟨b, hb, rfl⟩⟩, uni_sub.2 ⟨h1, h2⟩⟩
theorem prods_inc {F G : List (List Int)} (hF : ∀ s ∈ F, Inc s) (hG : ∀ s ∈ G, Inc s) : ∀ s ∈ prods F G, Inc s := by
  intro s h
  obtain ⟨a, ha, h⟩ := List.mem_flatMap.1 h
  obtain ⟨b, hb, rfl⟩ := List.mem_map.1 h
  exact uni_inc (hF a ha) (hG b hb)
theorem is_plus {F G K : List (List Int)} {p q : List Int → Bool} (hF : Is F p) (hG : Is G q) (hK : Fam K) (h : ∀ ts, Up K ts ↔ Up (F ++ G) ts) : Is K fun ts => p ts || q ts :=
  ⟨hK, fun ts => by rw [h, up_append, Bool.or_eq_true, hF.up, hG.up]⟩
theorem is_times {F G K : List (List Int)} {p q : List Int → Bool} (hF : Is F p) (hG : Is G q) (hK : Fam K) (h : ∀ ts, Up K ts ↔ Up (prods F G) ts) : Is K fun ts => p ts && q ts :=
  ⟨hK, fun ts => by rw [h, up_prods, Bool.and_eq_true, hF.up, hG.up]⟩
theorem is_nil : Is [] fun _ => false := ⟨kept_nil.fam, fun ts => by simp [up_nil]⟩
theorem fam_one {s : List Int} (h : Inc s) : Fam [s] := ⟨fun t ht => by simp at ht; subst ht; exact h, by simp, fun a ha b hb _ => by simp at ha hb; rw [ha, hb]⟩
theorem is_one : Is [[]] fun _ => true := ⟨fam_one List.Pairwise.nil, fun ts => by simp [up_one]⟩
theorem is_var (n : Int) : Is [[n]] fun ts => ts.contains n := ⟨fam_one (by simp), fun ts => by rw [up_one]; simp⟩
theorem ex_plus {F G : List (List Int)} {p q : List Int → Bool} (hF : Is F p) (hG : Is G q) : ∃ K, Is K fun ts => p ts || q ts := by
  obtain ⟨K, h1, h2, _⟩ := ex_mins (F ++ G) (fun s hs => (List.mem_append.1 hs).elim (hF.fam.inc s) (hG.fam.inc s))
  exact ⟨K, is_plus hF hG h1 h2⟩
theorem ex_times {F G : List (List Int)} {p q : List Int → Bool} (hF : Is F p) (hG : Is G q) : ∃ K, Is K fun ts => p ts && q ts := by
  obtain ⟨K, h1, h2, _⟩ := ex_mins (prods F G) (prods_inc hF.fam.inc hG.fam.inc)
  exact ⟨K, is_times hF hG h1 h2⟩
/-! ### The reference's way: one set is added -/
/-- Increasing sets none of which is within another one. -/
structure Anti (F : List (List Int)) : Prop where
  inc : ∀ s ∈ F, Inc s
  nodup : F.Nodup
  anti : ∀ s ∈ F, ∀ t ∈ F, s ⊆ t → s = t
def add (l : List (List Int)) (s : List Int) : List (List Int) := if l.any (fun t => sub t s) then l else (l.filter fun t => !sub s t) ++ [s]
theorem anti_nil : Anti [] := ⟨fun s h => (by cases h), List.nodup_nil, fun s h => (by cases h)⟩
theorem up_add {l : List (List Int)} {s ts : List Int} : Up (add l s) ts ↔ Up l ts ∨ s ⊆ ts := by
  unfold add
  split
  · rename_i hc
    exact ⟨Or.inl, fun h => h.elim id fun h => (any_sub.1 hc).mono h⟩
  · rw [up_append, up_one]
    constructor
    · rintro (⟨t, ht, h⟩ | h)
      · exact Or.inl ⟨t, (List.mem_filter.1 ht).1, h⟩
      · exact Or.inr h
    · rintro (⟨t, ht, h⟩ | h)
      · cases hs : sub s t with
        | true => exact Or.inr ((sub_iff.1 hs).trans h)
        | false => exact Or.inl ⟨t, List.mem_filter.2 ⟨ht, by rw [hs]; rfl⟩, h⟩
      · exact Or.inr h
theorem Anti.add {l : List (List Int)} (h : Anti l) {s : List Int} (hs : Inc s) : Anti (add l s) := by
  unfold Fm.add
  split
  · exact h
  · rename_i hc
    have hc' : ¬ Up l s := fun h => hc (any_sub.2 h)
    refine ⟨fun t ht => ?_, ?_, ?_⟩
    · rcases List.mem_append.1 ht with ht | ht
      · exact h.inc t (List.mem_filter.1 ht).1
      · simp at ht; subst ht; exact hs
    · rw [List.nodup_append]
      refine ⟨h.nodup.filter _, by simp, fun a ha b hb e => ?_⟩
      simp at hb; subst hb; subst e
      exact hc' ⟨a, (List.mem_filter.1 ha).1, fun _ h => h⟩
    · intro a ha b hb hab
      rcases List.mem_append.1 ha with ha | ha
      · have ha' := (List.mem_filter.1 ha).1
        rcases List.mem_append.1 hb with hb | hb
        · exact h.anti a ha' b (List.mem_filter.1 hb).1 hab
        · simp at hb; subst hb; exact absurd ⟨a, ha', hab⟩ hc'
      · simp at ha; subst ha
        rcases List.mem_append.1 hb with hb | hb
        · have hb' := (List.mem_filter.1 hb).2
          rw [sub_iff.2 hab] at hb'; cases hb'
        · simp at hb; exact hb.symm
theorem add_len (l : List (List Int)) (s : List Int) : (add l s).length ≤ l.length + 1 := by
  unfold add
  split
  · omega
  · have := List.length_filter_le (fun t => !sub s t) l
    simp; omega
theorem mem_add {l : List (List Int)} {s t : List Int} (h : t ∈ add l s) : t ∈ l ∨ t = s := by
  unfold add at h
  split at h
  · exact Or.inl h
  · rcases List.mem_append.1 h with h | h
    · exact Or.inl (List.mem_filter.1 h).1
    · simp at h; exact Or.inr h
def adds (l : List (List Int)) (L : List (List Int)) : List (List Int) := L.foldl add l
theorem adds_snoc (l L : List (List Int)) (x : List Int) : adds l (L ++ [x]) = add (adds l L) x := by simp [adds]
theorem adds_all : ∀ (L l : List (List Int)), Anti l → (∀ s ∈ L, Inc s) → Anti (adds l L) ∧ ∀ ts, Up (adds l L) ts ↔ Up l ts ∨ Up L ts
  | [], l, h, _ => ⟨h, fun ts => by simp [adds, up_nil]⟩
  | s :: L, l, h, hi => by
    have := adds_all L (add l s) (h.add (hi s (by simp))) (fun t ht => hi t (by simp [ht]))
    refine ⟨this.1, fun ts => ?_⟩
    show Up (adds (add l s) L) ts ↔ _
    rw [this.2, up_add, show s :: L = [s] ++ L from rfl, up_append, up_one, or_assoc]
theorem adds_len : ∀ (L l : List (List Int)), (adds l L).length ≤ l.length + L.length
  | [], l => by simp [adds]
  | s :: L, l => by
    have h1 := adds_len L (add l s)
    have h2 := add_len l s
    show (adds (add l s) L).length ≤ _
    simp; omega
theorem mem_adds : ∀ (L l : List (List Int)) (t : List Int), t ∈ adds l L → t ∈ l ∨ t ∈ L
  | [], l, t, h => Or.inl h
  | s :: L, l, t, h => by
    rcases mem_adds L (add l s) t h with h | h
    · rcases mem_add h with h | h
      · exact Or.inl h
      · exact Or.inr (by simp [h])
    · exact Or.inr (by simp [h])
/-- Sets without one within another one, once they are in order, are a family. -/
theorem Anti.fam {l M : List (List Int)} (h : Anti l) (hp : M.Perm l) (hs : M.Pairwise fun a b => lt b a = false) : Fam M := by
  refine ⟨fun s hs => h.inc s (hp.mem_iff.1 hs), ?_, fun s hs t ht => h.anti s (hp.mem_iff.1 hs) t (hp.mem_iff.1 ht)⟩
  have hn : M.Nodup := hp.nodup_iff.2 h.nodup
  exact (hn.and hs).imp fun {a b} ⟨h1, h2⟩ => by
    cases h : lt a b with
    | true => rfl
    | false => exact absurd (lt_tri _ _ h h2) h1
theorem up_perm {F G : List (List Int)} (h : F.Perm G) {ts : List Int} : Up F ts ↔ Up G ts := by
  unfold Up
  exact ⟨fun ⟨s, h1, h2⟩ => ⟨s, h.mem_iff.1 h1, h2⟩, fun ⟨s, h1, h2⟩ => ⟨s, h.mem_iff.2 h1, h2⟩⟩
/-- Two lists without one within another one that reach the same hold the same. -/
theorem Anti.perm {F G : List (List Int)} (hF : Anti F) (hG : Anti G) (h : ∀ ts, Up F ts ↔ Up G ts) : F.Perm G :=
  (List.perm_ext_iff_of_nodup hF.nodup hG.nodup).2 fun s => ⟨same_of_up hF.inc hG.inc hF.anti h s, same_of_up hG.inc hF.inc hG.anti (fun ts => (h ts).symm) s⟩
theorem Fam.is_anti {F : List (List Int)} (h : Fam F) : Anti F := ⟨h.inc, h.nodup, h.anti⟩
end Fm
end Go.Proofs.YtphmicbpkljmfaaGreat
