/- Plain laws of circuits: what is below a node, variables, sizes, texts; no program in sight. -/
import Derived.Test.YtigcmjnjcaoolaaDoorCGood
namespace Go.Proofs.YtigcmjnjcaoolaaDoor
set_option linter.unusedVariables false
set_option linter.unusedSimpArgs false
namespace Cx
/-- What one node adds to the marks. -/
def belowStep (l : List N) (bs : List Bool) (k : Nat) : List Bool :=
  match l[k]? with
  | some v => if bs.getD k false && binary v then (bs.set v.a.toNat true).set v.b.toNat true else bs
  | none => bs
/-- The marks behind the nodes below k, from the last on. -/
def belowFrom (l : List N) : Nat → List Bool → List Bool
  | 0, bs => bs
  | k + 1, bs => belowFrom l k (belowStep l bs k)
def below (l : List N) (n : Int) : List Bool := if isIn l n then belowFrom l l.length ((List.replicate l.length false).set n.toNat true) else List.replicate l.length false
theorem belowStep_len (l : List N) (bs : List Bool) (k : Nat) : (belowStep l bs k).length = bs.length := by
  unfold belowStep
  split
  · split <;> simp
  · rfl
theorem belowFrom_len (l : List N) : ∀ (k : Nat) (bs : List Bool), (belowFrom l k bs).length = bs.length
  | 0, _ => rfl
  | k + 1, bs => by unfold belowFrom; rw [belowFrom_len l k, belowStep_len]
theorem below_len (l : List N) (n : Int) : (below l n).length = l.length := by
  unfold below
  split
  · rw [belowFrom_len]; simp
  · simp
/-- A node is reached. -/
inductive Reach (l : List N) (n : Nat) : Nat → Prop
  | refl : Reach l n n
  | left {k : Nat} {v : N} : Reach l n k → l[k]? = some v → (v.o = 3 ∨ v.o = 4) → Reach l n v.a.toNat
  | right {k : Nat} {v : N} : Reach l n k → l[k]? = some v → (v.o = 3 ∨ v.o = 4) → Reach l n v.b.toNat
theorem binary_iff {v : N} : binary v = true ↔ (v.o = 3 ∨ v.o = 4) := by unfold binary; simp
theorem Good.kids {l : List N} (h : Good l) {k : Nat} {v : N} (hv : l[k]? = some v) (h2 : v.o = 3 ∨ v.o = 4) : v.a = v.a.toNat ∧ v.b = v.b.toNat ∧ 2 ≤ v.a.toNat ∧ v.a.toNat < v.b.toNat ∧ v.b.toNat < k := by
  have := h.bin hv h2
  omega
theorem Reach.lt {l : List N} (h : Good l) {n j : Nat} (hn : n < l.length) (hr : Reach l n j) : j ≤ n := by
  induction hr with
  | refl => omega
  | left hr hv h2 ih => have := h.kids hv h2; omega
  | right hr hv h2 ih => have := h.kids hv h2; omega
theorem set_get (bs : List Bool) (i j : Nat) (hi : i < bs.length) : (bs.set i true)[j]? = some true ↔ (j = i ∨ bs[j]? = some true) := by
  rw [List.getElem?_set]
  by_cases e : i = j
  · subst e; simp [hi]
  · rw [if_neg e]
    constructor
    · intro h; exact Or.inr h
    · rintro (h | h)
      · exact absurd h.symm e
      · exact h
theorem getD_true {bs : List Bool} {k : Nat} : bs.getD k false = true ↔ bs[k]? = some true := by
  rw [List.getD_eq_getElem?_getD]
  cases h : bs[k]? with
  | none => simp
  | some b => simp
theorem belowStep_get {l : List N} (h : Good l) {bs : List Bool} (hb : bs.length = l.length) {k : Nat} (hk : k < l.length) {j : Nat} :
    (belowStep l bs k)[j]? = some true ↔ (bs[j]? = some true ∨ (bs[k]? = some true ∧ ∃ v, l[k]? = some v ∧ (v.o = 3 ∨ v.o = 4) ∧ (j = v.a.toNat ∨ j = v.b.toNat))) := by
  have e : l[k]? = some l[k] := List.getElem?_eq_getElem hk
  unfold belowStep
  rw [e]
  simp only
  by_cases hc : (bs.getD k false && binary l[k]) = true
  · rw [if_pos hc]
    rw [Bool.and_eq_true, getD_true, binary_iff] at hc
    have := h.kids e hc.2
    rw [set_get _ _ _ (by simp; omega), set_get _ _ _ (by omega)]
    constructor
    · rintro (h1 | h1 | h1)
      · exact Or.inr ⟨hc.1, _, rfl, hc.2, Or.inr h1⟩
      · exact Or.inr ⟨hc.1, _, rfl, hc.2, Or.inl h1⟩
      · exact Or.inl h1
    · rintro (h1 | ⟨_, v, hv, _, h1 | h1⟩)
      · exact Or.inr (Or.inr h1)
      · obtain rfl := Option.some.inj hv; exact Or.inr (Or.inl h1)
      · obtain rfl := Option.some.inj hv; exact Or.inl h1
  · rw [if_neg hc]
    rw [Bool.and_eq_true, getD_true, binary_iff] at hc
    constructor
    · exact Or.inl
    · rintro (h1 | ⟨h1, v, hv, h2, _⟩)
      · exact h1
      · obtain rfl := Option.some.inj hv; exact absurd ⟨h1, h2⟩ hc
/-- What holds on the way: marked nodes are reached, the kids of those from k on are marked. -/
structure BelowAt (l : List N) (n k : Nat) (bs : List Bool) : Prop where
  len : bs.length = l.length
  here : bs[n]? = some true
  sound : ∀ j, bs[j]? = some true → Reach l n j
  closed : ∀ j v, k ≤ j → bs[j]? = some true → l[j]? = some v → (v.o = 3 ∨ v.o = 4) → bs[v.a.toNat]? = some true ∧ bs[v.b.toNat]? = some true
theorem BelowAt.start {l : List N} {n : Nat} (hn : n < l.length) : BelowAt l n l.length ((List.replicate l.length false).set n true) := by
  have key : ∀ j, ((List.replicate l.length false).set n true)[j]? = some true ↔ j = n := by
    intro j
    rw [set_get _ _ _ (by simpa using hn)]
    constructor
    · rintro (h | h)
      · exact h
      · rw [List.getElem?_replicate] at h; split at h <;> simp at h
    · exact Or.inl
  refine ⟨by simp, (key n).2 rfl, fun j hj => by rw [(key j).1 hj]; exact Reach.refl, fun j v h1 h2 h3 => ?_⟩
  have := (key j).1 h2
  omega
theorem BelowAt.step {l : List N} (h : Good l) {n k : Nat} {bs : List Bool} (hk : k < l.length) (hB : BelowAt l n (k + 1) bs) : BelowAt l n k (belowStep l bs k) := by
  have key := fun j => belowStep_get h hB.len hk (j := j)
  refine ⟨by rw [belowStep_len]; exact hB.len, (key n).2 (Or.inl hB.here), fun j hj => ?_, fun j v h1 h2 h3 h4 => ?_⟩
  · rcases (key j).1 hj with h1 | ⟨h1, v, hv, h2, rfl | rfl⟩
    · exact hB.sound j h1
    · exact Reach.left (hB.sound k h1) hv h2
    · exact Reach.right (hB.sound k h1) hv h2
  · rcases (key j).1 h2 with h5 | ⟨h5, v', hv', h6, h7⟩
    · rcases Nat.lt_or_ge k j with h8 | h8
      · have := hB.closed j v (by omega) h5 h3 h4
        exact ⟨(key _).2 (Or.inl this.1), (key _).2 (Or.inl this.2)⟩
      · have : j = k := by omega
        subst this
        exact ⟨(key _).2 (Or.inr ⟨h5, v, h3, h4, Or.inl rfl⟩), (key _).2 (Or.inr ⟨h5, v, h3, h4, Or.inr rfl⟩)⟩
    · have := h.kids hv' h6
      have : j < k := by omega
      omega
theorem belowFrom_at {l : List N} (h : Good l) {n : Nat} : ∀ (k : Nat) (bs : List Bool), k ≤ l.length → BelowAt l n k bs → BelowAt l n 0 (belowFrom l k bs)
  | 0, bs, _, hB => hB
  | k + 1, bs, hk, hB => by
    unfold belowFrom
    exact belowFrom_at h k _ (by omega) (hB.step h (by omega))
theorem below_iff {l : List N} (h : Good l) {n : Nat} (hn : n < l.length) (j : Nat) : (below l n)[j]? = some true ↔ Reach l n j := by
  have hi : isIn l n = true := by unfold isIn; simp; omega
  unfold below
  rw [if_pos hi, Int.toNat_natCast]
  have hB := belowFrom_at h l.length _ (Nat.le_refl _) (BelowAt.start hn)
  constructor
  · exact hB.sound j
  · intro hr
    induction hr with
    | refl => exact hB.here
    | left hr hv h2 ih => exact (hB.closed _ _ (by omega) ih hv h2).1
    | right hr hv h2 ih => exact (hB.closed _ _ (by omega) ih hv h2).2
/-- A number put into an ordered list. -/
def ins (x : Int) : List Int → List Int
  | [] => [x]
  | y :: r => if y < x then y :: ins x r else x :: y :: r
/-- Where it is put. -/
def insAt (x : Int) (out : List Int) : Nat := (out.takeWhile (fun y => decide (y < x))).length
theorem ins_eq (x : Int) (out : List Int) : ins x out = out.take (insAt x out) ++ x :: out.drop (insAt x out) := by
  induction out with
  | nil => rfl
  | cons y r ih =>
    unfold ins insAt
    by_cases h : y < x
    · rw [if_pos h, List.takeWhile_cons, if_pos (by simpa using h)]
      simp only [List.length_cons, List.take_succ_cons, List.drop_succ_cons, List.cons_append]
      rw [ih]; rfl
    · rw [if_neg h, List.takeWhile_cons, if_neg (by simpa using h)]; rfl
theorem ins_perm (x : Int) (out : List Int) : (ins x out).Perm (x :: out) := by
  induction out with
  | nil => exact List.Perm.refl _
  | cons y r ih =>
    unfold ins
    split
    · exact (ih.cons y).trans (List.Perm.swap x y r)
    · exact List.Perm.refl _
theorem ins_sorted (x : Int) (out : List Int) (h : out.Pairwise (· ≤ ·)) : (ins x out).Pairwise (· ≤ ·) := by
  induction out with
  | nil => simp [ins]
  | cons y r ih =>
    rw [List.pairwise_cons] at h
    unfold ins
    split
    · rename_i hlt
      rw [List.pairwise_cons]
      refine ⟨fun z hz => ?_, ih h.2⟩
      have := (ins_perm x r).mem_iff.1 hz
      rcases List.mem_cons.1 this with rfl | h'
      · omega
      · exact h.1 z h'
    · rename_i hge
      rw [List.pairwise_cons, List.pairwise_cons]
      refine ⟨fun z hz => ?_, h.1, h.2⟩
      rcases List.mem_cons.1 hz with rfl | h'
      · omega
      · have := h.1 z h'; omega
/-- The variable of a node, if it is one and is marked. -/
def varOf (l : List N) (k : Nat) : Option Int := match l[k]? with | some v => if v.o = 2 then some v.a else none | none => none
def varsStep (l : List N) (bs : List Bool) (out : List Int) (k : Nat) : List Int :=
  if bs.getD k false then (match varOf l k with | some x => ins x out | none => out) else out
def vars (l : List N) (n : Int) : List Int := (List.range l.length).foldl (varsStep l (below l n)) []
def varsTo (l : List N) (bs : List Bool) (k : Nat) : List Int := (List.range k).foldl (varsStep l bs) []
theorem varsTo_succ (l : List N) (bs : List Bool) (k : Nat) : varsTo l bs (k + 1) = varsStep l bs (varsTo l bs k) k := by
  unfold varsTo; rw [List.range_succ, List.foldl_append]; rfl
theorem varsTo_perm (l : List N) (bs : List Bool) (k : Nat) : (varsTo l bs k).Perm (((List.range k).filter fun j => bs.getD j false).filterMap (varOf l)) := by
  induction k with
  | zero => exact List.Perm.refl _
  | succ k ih =>
    rw [varsTo_succ, List.range_succ, List.filter_append, List.filterMap_append]
    unfold varsStep
    have e1 : ∀ b : Bool, bs.getD k false = b → ([k].filter fun j => bs.getD j false) = if b = true then [k] else [] := fun b hb => by
      rw [List.filter_cons, hb]; rfl
    by_cases h : bs.getD k false = true
    · rw [if_pos h, e1 true h, if_pos rfl]
      cases hv : varOf l k with
      | none => rw [List.filterMap_cons, hv]; simpa only [List.filterMap_nil, List.append_nil] using ih
      | some x =>
        rw [List.filterMap_cons, hv]
        exact (ins_perm x _).trans ((ih.cons x).trans (List.perm_append_comm (l₁ := [x])))
    · rw [if_neg h, e1 false (by simpa using h), if_neg (by decide)]
      simpa only [List.filterMap_nil, List.append_nil] using ih
theorem varsTo_sorted (l : List N) (bs : List Bool) (k : Nat) : (varsTo l bs k).Pairwise (· ≤ ·) := by
  induction k with
  | zero => simp [varsTo]
  | succ k ih =>
    rw [varsTo_succ]
    unfold varsStep
    split
    · split
      · exact ins_sorted _ _ ih
      · exact ih
    · exact ih
theorem vars_to (l : List N) (n : Int) : vars l n = varsTo l (below l n) l.length := rfl
theorem sorted_unique : ∀ (a b : List Int), a.Pairwise (· ≤ ·) → b.Pairwise (· ≤ ·) → a.Perm b → a = b := by
  intro a b ha hb hp
  exact hp.eq_of_pairwise (fun x y _ _ h1 h2 => by omega) ha hb
/-- The nodes that a walk through the circuit has seen. -/
structure Seen (l : List N) (n : Nat) (done open_ : List Nat) : Prop where
  nd : (done ++ open_).Nodup
  here : n ∈ done ++ open_
  sound : ∀ j ∈ done ++ open_, Reach l n j
  closed : ∀ j v, j ∈ done → l[j]? = some v → (v.o = 3 ∨ v.o = 4) → v.a.toNat ∈ done ++ open_ ∧ v.b.toNat ∈ done ++ open_
theorem Seen.start (l : List N) (n : Nat) : Seen l n [] [n] := ⟨by simp, by simp, fun j hj => by simp at hj; subst hj; exact Reach.refl, fun j v h => by cases h⟩
theorem Seen.final {l : List N} {n : Nat} {done : List Nat} (h : Seen l n done []) (j : Nat) : j ∈ done ↔ Reach l n j := by
  have e : done ++ [] = done := List.append_nil _
  constructor
  · intro hj; exact h.sound j (by rw [e]; exact hj)
  · intro hr
    induction hr with
    | refl => have := h.here; rw [e] at this; exact this
    | left hr hv h2 ih => have := (h.closed _ _ ih hv h2).1; rw [e] at this; exact this
    | right hr hv h2 ih => have := (h.closed _ _ ih hv h2).2; rw [e] at this; exact this
theorem Seen.vars {l : List N} (hg : Good l) {n : Nat} (hn : n < l.length) {done : List Nat} (h : Seen l n done []) {out : List Int} (hp : out.Perm (done.filterMap (varOf l))) (hs : out.Pairwise (· ≤ ·)) : out = vars l n := by
  refine sorted_unique _ _ hs (by rw [vars_to]; exact varsTo_sorted _ _ _) (hp.trans ?_)
  rw [vars_to]
  refine List.Perm.trans ?_ (varsTo_perm l (below l n) l.length).symm
  refine List.Perm.filterMap _ ?_
  refine (List.perm_ext_iff_of_nodup (by have := h.nd; rw [List.append_nil] at this; exact this) (List.nodup_range.filter _)).2 fun j => ?_
  rw [h.final, List.mem_filter, List.mem_range, ← below_iff hg hn j]
  rw [getD_true]
  constructor
  · intro hj
    refine ⟨?_, hj⟩
    have := (List.getElem?_eq_some_iff.1 hj).1
    rwa [below_len] at this
  · exact fun h => h.2
end Cx
end Go.Proofs.YtigcmjnjcaoolaaDoor
