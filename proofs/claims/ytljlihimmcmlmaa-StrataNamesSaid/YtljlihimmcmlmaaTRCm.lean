/- Strongly connected components by one depth-first search: the plain model and its law; no program in sight. -/
import Derived.Lib.ItoaNum
set_option linter.unusedVariables false
set_option linter.unusedSimpArgs false
namespace Go.Proofs.Ytljlihimmcmlmaa
namespace Tj
/-- A graph: each node's successors. -/
abbrev G := Nat → List Nat
inductive Reach (g : G) : Nat → Nat → Prop
  | refl {a : Nat} : Reach g a a
  | step {a b c : Nat} : b ∈ g a → Reach g b c → Reach g a c
theorem Reach.trans {g : G} {a b c : Nat} (h : Reach g a b) (k : Reach g b c) : Reach g a c := by
  induction h with
  | refl => exact k
  | step h _ ih => exact Reach.step h (ih k)
theorem Reach.one {g : G} {a b : Nat} (h : b ∈ g a) : Reach g a b := Reach.step h Reach.refl
theorem Reach.snoc {g : G} {a b c : Nat} (h : Reach g a b) (k : c ∈ g b) : Reach g a c := h.trans (Reach.one k)
/-- Both reach each other. -/
def Eqv (g : G) (a b : Nat) : Prop := Reach g a b ∧ Reach g b a
theorem Eqv.symm {g : G} {a b : Nat} (h : Eqv g a b) : Eqv g b a := ⟨h.2, h.1⟩
theorem Eqv.trans {g : G} {a b c : Nat} (h : Eqv g a b) (k : Eqv g b c) : Eqv g a c := ⟨h.1.trans k.1, k.2.trans h.2⟩
theorem Eqv.refl {g : G} {a : Nat} : Eqv g a a := ⟨Reach.refl, Reach.refl⟩
structure St where
  cnt : Nat
  idx : List Nat
  low : List Nat
  opn : List Bool
  stk : List Nat
  out : List (List Nat)
  of : List Nat
def St.I (t : St) (v : Nat) : Nat := t.idx.getD v 0
def St.L (t : St) (v : Nat) : Nat := t.low.getD v 0
def St.O (t : St) (v : Nat) : Bool := t.opn.getD v false
def start (n : Nat) : St := ⟨0, List.replicate n 0, List.replicate n 0, List.replicate n false, [], [], List.replicate n 0⟩
def enter (t : St) (a : Nat) : St := { t with cnt := t.cnt + 1, idx := t.idx.set a (t.cnt + 1), low := t.low.set a (t.cnt + 1), opn := t.opn.set a true, stk := t.stk ++ [a] }
def lower (t : St) (a x : Nat) : St := { t with low := t.low.set a (min (t.L a) x) }
def sortN (l : List Nat) : List Nat := l.mergeSort fun x y => decide (x ≤ y)
def sets {α : Type} (l : List α) (x : α) (c : List Nat) : List α := c.foldl (fun o b => o.set b x) l
def grp (t : St) (a : Nat) : List Nat := t.stk.drop (t.stk.idxOf a)
def close (t : St) (a : Nat) : St :=
  { t with stk := t.stk.take (t.stk.idxOf a), of := sets t.of t.out.length (grp t a), opn := sets t.opn false (grp t a), out := t.out ++ [sortN (grp t a)] }
def one (vis : St → Nat → St) (a : Nat) (t : St) (b : Nat) : St :=
  if t.I b = 0 then lower (vis t b) a ((vis t b).L b) else if t.O b = true then lower t a (t.I b) else t
def visit (g : G) : Nat → St → Nat → St
  | 0, t, _ => t
  | f + 1, t, a =>
    if ((g a).foldl (one (visit g f) a) (enter t a)).L a ≠ ((g a).foldl (one (visit g f) a) (enter t a)).I a then (g a).foldl (one (visit g f) a) (enter t a) else close ((g a).foldl (one (visit g f) a) (enter t a)) a
def whole (g : G) (n : Nat) : St := (List.range n).foldl (fun t a => if t.I a = 0 then visit g n t a else t) (start n)
/-! ### Lists -/
theorem getD_set {α : Type} (l : List α) (i j : Nat) (x d : α) : (l.set i x).getD j d = if i = j ∧ j < l.length then x else l.getD j d := by
  rw [List.getD_eq_getElem?_getD, List.getD_eq_getElem?_getD, List.getElem?_set]
  by_cases h : i = j
  · subst h
    by_cases h2 : i < l.length
    · simp [h2]
    · simp [h2]
  · simp [h]
theorem sets_len {α : Type} (x : α) : ∀ (c : List Nat) (l : List α), (sets l x c).length = l.length
  | [], l => rfl
  | b :: c, l => by show (sets (l.set b x) x c).length = _; rw [sets_len x c, List.length_set]
theorem sets_getD {α : Type} (x d : α) : ∀ (c : List Nat) (l : List α) (v : Nat), (sets l x c).getD v d = if v ∈ c ∧ v < l.length then x else l.getD v d
  | [], l, v => by simp [sets]
  | b :: c, l, v => by
    show (sets (l.set b x) x c).getD v d = _
    rw [sets_getD x d c, getD_set, List.length_set]
    by_cases h1 : v ∈ c
    · by_cases h2 : v < l.length <;> simp [h1, h2]
    · by_cases h2 : v < l.length
      · by_cases h3 : b = v
        · subst h3; simp [h1, h2]
        · have : ¬ v = b := fun e => h3 e.symm
          simp [h1, h2, h3, this]
      · simp [h1, h2]
theorem sortN_perm (l : List Nat) : (sortN l).Perm l := List.mergeSort_perm _ _
theorem sortN_lt {l : List Nat} (h : l.Nodup) : (sortN l).Pairwise (· < ·) := by
  have h1 := List.pairwise_mergeSort (le := fun x y : Nat => decide (x ≤ y)) (fun a b c h1 h2 => by simp at *; omega) (fun a b => by simp; omega) l
  have h2 : (sortN l).Nodup := (sortN_perm l).nodup_iff.2 h
  exact (h2.and h1).imp fun ⟨h3, h4⟩ => by simp at h4; omega
/-! ### The invariant -/
structure Inv (g : G) (n : Nat) (gr : List Nat) (t : St) : Prop where
  lidx : t.idx.length = n
  llow : t.low.length = n
  lopn : t.opn.length = n
  lof : t.of.length = n
  cnt : ∀ v, t.I v ≤ t.cnt
  stk : ∀ v ∈ t.stk, v < n ∧ 0 < t.I v
  asc : t.stk.Pairwise fun a b => t.I a < t.I b
  opn : ∀ v, t.O v = true ↔ v ∈ t.stk
  gray : ∀ v ∈ gr, v ∈ t.stk
  closed : ∀ v, 0 < t.I v → v ∉ t.stk → ∀ w ∈ g v, 0 < t.I w ∧ w ∉ t.stk
  black : ∀ v ∈ t.stk, v ∉ gr → ∀ w ∈ g v, 0 < t.I w
  fwd : ∀ u ∈ gr, ∀ y ∈ t.stk, t.I u ≤ t.I y → Reach g u y
  back : ∀ x ∈ t.stk, ∃ u ∈ gr, t.I u ≤ t.I x ∧ Reach g x u
  parts : ∀ v, (0 < t.I v ∧ v ∉ t.stk) ↔ ∃ c ∈ t.out, v ∈ c
  comp : ∀ (k : Nat) (c : List Nat), t.out[k]? = some c → c ≠ [] ∧ c.Pairwise (· < ·) ∧ ∀ v ∈ c, v < n ∧ t.of.getD v 0 = k ∧ ∀ u, u ∈ c ↔ Eqv g v u
/-- What a visit of node a leaves. -/
structure Post (g : G) (n : Nat) (gr : List Nat) (t : St) (a : Nat) (t' : St) : Prop where
  inv : Inv g n gr t'
  ext : ∃ S, t'.stk = t.stk ++ S
  keepI : ∀ v, 0 < t.I v → t'.I v = t.I v
  keepL : ∀ v, 0 < t.I v → t'.L v = t.L v
  new : ∀ v, t.I v = 0 → 0 < t'.I v → t.cnt < t'.I v
  cnt : t.cnt ≤ t'.cnt
  vis : 0 < t'.I a
  low : t.cnt < t'.L a ∨ ∃ y ∈ t.stk, t.I y = t'.L a ∧ Reach g a y
  bound : ∀ x ∈ t'.stk, x ∉ t.stk → ∀ y ∈ g x, y ∈ t.stk → t'.L a ≤ t.I y
/-- On the way through the successors of node a. -/
structure Mid (g : G) (n : Nat) (gr : List Nat) (t : St) (a : Nat) (done : List Nat) (u : St) : Prop where
  inv : Inv g n (gr ++ [a]) u
  ext : ∃ S, u.stk = t.stk ++ a :: S
  keepI : ∀ v, 0 < t.I v → u.I v = t.I v
  keepL : ∀ v, 0 < t.I v → u.L v = t.L v
  new : ∀ v, t.I v = 0 → 0 < u.I v → t.cnt < u.I v
  cnt : t.cnt < u.cnt
  ia : u.I a = t.cnt + 1
  la : u.L a ≤ u.I a
  low : u.L a = u.I a ∨ ∃ y ∈ t.stk, t.I y = u.L a ∧ Reach g a y
  vis : ∀ b ∈ done, 0 < u.I b
  bound : ∀ x ∈ u.stk, x ∉ t.stk → ∀ y ∈ g x, y ∈ t.stk → (x = a → y ∈ done) → u.L a ≤ t.I y
section
variable {g : G} {n : Nat} {gr : List Nat} {t u : St} {a : Nat}
theorem I_lower (t : St) (a x v : Nat) : (lower t a x).I v = t.I v := rfl
theorem O_lower (t : St) (a x v : Nat) : (lower t a x).O v = t.O v := rfl
theorem L_lower (t : St) (a x v : Nat) : (lower t a x).L v = if a = v ∧ v < t.low.length then min (t.L a) x else t.L v := by
  show (t.low.set a (min (t.L a) x)).getD v 0 = _
  rw [getD_set]; rfl
theorem Inv.lower (h : Inv g n gr t) (a x : Nat) : Inv g n gr (lower t a x) :=
  ⟨h.lidx, by show (t.low.set _ _).length = n; rw [List.length_set]; exact h.llow, h.lopn, h.lof, h.cnt, h.stk, h.asc, h.opn, h.gray, h.closed, h.black, h.fwd, h.back, h.parts, h.comp⟩
theorem Inv.nodup (h : Inv g n gr t) : t.stk.Nodup := h.asc.imp fun h e => by subst e; omega
theorem I_enter (ht : t.idx.length = n) (ha : a < n) (v : Nat) : (enter t a).I v = if v = a then t.cnt + 1 else t.I v := by
  show (t.idx.set a (t.cnt + 1)).getD v 0 = _
  rw [getD_set]
  by_cases h : v = a
  · subst h; rw [if_pos ⟨rfl, by omega⟩, if_pos rfl]
  · rw [if_neg (fun e => h e.1.symm), if_neg h]; rfl
theorem L_enter (ht : t.low.length = n) (ha : a < n) (v : Nat) : (enter t a).L v = if v = a then t.cnt + 1 else t.L v := by
  show (t.low.set a (t.cnt + 1)).getD v 0 = _
  rw [getD_set]
  by_cases h : v = a
  · subst h; rw [if_pos ⟨rfl, by omega⟩, if_pos rfl]
  · rw [if_neg (fun e => h e.1.symm), if_neg h]; rfl
theorem O_enter (ht : t.opn.length = n) (ha : a < n) (v : Nat) : (enter t a).O v = if v = a then true else t.O v := by
  show (t.opn.set a true).getD v false = _
  rw [getD_set]
  by_cases h : v = a
  · subst h; rw [if_pos ⟨rfl, by omega⟩, if_pos rfl]
  · rw [if_neg (fun e => h e.1.symm), if_neg h]; rfl
/-- At the start of a visit. -/
theorem mid_enter (h : Inv g n gr t) (ha : a < n) (h0 : t.I a = 0) (hr : ∀ x ∈ gr, Reach g x a) : Mid g n gr t a [] (enter t a) := by
  have hI := I_enter (a := a) h.lidx ha
  have hns : a ∉ t.stk := fun hm => by have := (h.stk a hm).2; omega
  have hIo : ∀ v ∈ t.stk, (enter t a).I v = t.I v := fun v hv => by rw [hI, if_neg (fun e => by subst e; exact hns hv)]
  have hIa : (enter t a).I a = t.cnt + 1 := by rw [hI, if_pos rfl]
  have hstk : (enter t a).stk = t.stk ++ [a] := rfl
  refine ⟨⟨by show (t.idx.set _ _).length = n; rw [List.length_set]; exact h.lidx, by show (t.low.set _ _).length = n; rw [List.length_set]; exact h.llow, by show (t.opn.set _ _).length = n; rw [List.length_set]; exact h.lopn, h.lof, ?_, ?_, ?_, ?_, ?_, ?_, ?_, ?_, ?_, ?_, h.comp⟩, ⟨[], hstk⟩, ?_, ?_, ?_, ?_, hIa, ?_, ?_, (fun b hb => by cases hb), ?_⟩
  · intro v; rw [hI]; show _ ≤ t.cnt + 1; have := h.cnt v; split <;> omega
  · intro v hv
    rw [hstk, List.mem_append] at hv
    rcases hv with hv | hv
    · rw [hIo v hv]; exact h.stk v hv
    · simp at hv; subst hv; rw [hIa]; exact ⟨ha, by omega⟩
  · rw [hstk, List.pairwise_append]
    refine ⟨h.asc.imp_of_mem fun h1 h2 h3 => ?_, by simp, fun x hx y hy => ?_⟩
    · rw [hIo _ h1, hIo _ h2]; exact h3
    · simp at hy; subst hy; rw [hIo x hx, hIa]; have := h.cnt x; omega
  · intro v
    rw [O_enter h.lopn ha, hstk, List.mem_append]
    by_cases e : v = a
    · subst e; simp
    · rw [if_neg e, h.opn]; simp [e]
  · intro v hv
    rw [List.mem_append] at hv
    rw [hstk, List.mem_append]
    rcases hv with hv | hv
    · exact Or.inl (h.gray v hv)
    · exact Or.inr hv
  · intro v hv hns' w hw
    rw [hstk, List.mem_append] at hns'
    have hva : v ≠ a := fun e => hns' (Or.inr (by simp [e]))
    rw [hI, if_neg hva] at hv
    have := h.closed v hv (fun hm => hns' (Or.inl hm)) w hw
    have hwa : w ≠ a := fun e => by subst e; omega
    rw [hI, if_neg hwa, hstk, List.mem_append]
    exact ⟨this.1, fun hm => hm.elim this.2 (fun hm => hwa (by simpa using hm))⟩
  · intro v hv hng w hw
    rw [hstk, List.mem_append] at hv
    rw [List.mem_append] at hng
    have hva : v ≠ a := fun e => hng (Or.inr (by simp [e]))
    have := h.black v (hv.elim id fun hm => absurd (by simpa using hm) hva) (fun hm => hng (Or.inl hm)) w hw
    rw [hI]; split <;> omega
  · intro x hx y hy hxy
    rw [List.mem_append] at hx
    rw [hstk, List.mem_append] at hy
    rcases hx with hx | hx
    · rcases hy with hy | hy
      · exact h.fwd x hx y hy (by rw [hIo x (h.gray x hx), hIo y hy] at hxy; exact hxy)
      · simp at hy; subst hy; exact hr x hx
    · simp at hx; subst hx
      rcases hy with hy | hy
      · rw [hIa, hIo y hy] at hxy; have := h.cnt y; omega
      · simp at hy; subst hy; exact Reach.refl
  · intro x hx
    rw [hstk, List.mem_append] at hx
    rcases hx with hx | hx
    · obtain ⟨u, hu, h1, h2⟩ := h.back x hx
      exact ⟨u, List.mem_append_left _ hu, by rw [hIo u (h.gray u hu), hIo x hx]; exact h1, h2⟩
    · simp at hx; subst hx; exact ⟨x, by simp, Nat.le_refl _, Reach.refl⟩
  · intro v
    rw [show (enter t a).out = t.out from rfl, ← h.parts v, hstk, List.mem_append, hI]
    by_cases e : v = a
    · subst e; simp [h0]
    · simp [e]
  · intro v hv; rw [hI, if_neg (fun e => by subst e; omega)]
  · intro v hv; rw [L_enter h.llow ha, if_neg (fun e => by subst e; omega)]
  · intro v hv hv'
    rw [hI] at hv' ⊢
    by_cases e : v = a
    · rw [if_pos e]; omega
    · rw [if_neg e] at hv'; omega
  · show t.cnt < t.cnt + 1; omega
  · rw [L_enter h.llow ha, if_pos rfl, hIa]; omega
  · left; rw [L_enter h.llow ha, if_pos rfl, hIa]
  · intro x hx hxs y hy hys hd
    rw [hstk, List.mem_append] at hx
    have hxa : x = a := hx.elim (fun h => absurd h hxs) fun h => by simpa using h
    cases hd hxa
/-- Nodes behind a on the stack are later. -/
theorem Mid.later {done : List Nat} (m : Mid g n gr t a done u) (ht : ∀ v ∈ t.stk, 0 < t.I v) {y : Nat} (hy : y ∈ u.stk) : y ∈ t.stk ∧ u.I y = t.I y ∧ u.I y < u.I a ∨ y ∉ t.stk ∧ u.I a ≤ u.I y := by
  obtain ⟨S, hS⟩ := m.ext
  have hp := m.inv.asc
  rw [hS] at hp hy
  rw [List.pairwise_append] at hp
  rcases List.mem_append.1 hy with h | h
  · exact Or.inl ⟨h, m.keepI y (ht y h), hp.2.2 y h a (by simp)⟩
  · right
    have hns : y ∉ t.stk := fun h1 => by have := hp.2.2 y h1 y h; omega
    refine ⟨hns, ?_⟩
    rcases List.mem_cons.1 h with rfl | h
    · exact Nat.le_refl _
    · have := (List.pairwise_cons.1 hp.2.1).1 y h; omega
theorem Mid.amem {done : List Nat} (m : Mid g n gr t a done u) : a ∈ u.stk := by obtain ⟨S, hS⟩ := m.ext; rw [hS]; simp
theorem Mid.step {done : List Nat} (m : Mid g n gr t a done u) (ht : Inv g n gr t) (h0 : t.I a = 0) (ha : a < n) {b : Nat} (hb : b ∈ g a) {vis : St → Nat → St} (hv : u.I b = 0 → Post g n (gr ++ [a]) u b (vis u b)) : Mid g n gr t a (done ++ [b]) (one vis a u b) := by
  have hia : 0 < u.I a := by rw [m.ia]; omega
  have hn : ∀ v ∈ t.stk, 0 < t.I v := fun v hv => (ht.stk v hv).2
  have hac := m.inv.cnt a
  have hla := m.la
  have hne : ∀ v, 0 < t.I v → ¬ a = v := fun v hv e => by subst e; omega
  obtain ⟨S, hS⟩ := m.ext
  have hsub : ∀ y ∈ t.stk, y ∈ u.stk := fun y hy => by rw [hS]; exact List.mem_append_left _ hy
  unfold one
  by_cases hb0 : u.I b = 0
  · rw [if_pos hb0]
    have p := hv hb0
    generalize vis u b = t' at *
    have hLa : t'.L a = u.L a := p.keepL a hia
    have hIa : t'.I a = u.I a := p.keepI a hia
    have hL : (lower t' a (t'.L b)).L a = min (u.L a) (t'.L b) := by rw [L_lower, if_pos ⟨rfl, by rw [p.inv.llow]; exact ha⟩, hLa]
    have key : u.L a ≤ t'.L b ∨ ∃ y ∈ t.stk, t.I y = t'.L b ∧ Reach g b y := by
      rcases p.low with h | ⟨y, hy, e, hr⟩
      · left; omega
      · rcases m.later hn hy with ⟨h1, h2, h3⟩ | ⟨h1, h2⟩
        · exact Or.inr ⟨y, h1, by rw [← h2]; exact e, hr⟩
        · left; omega
    refine ⟨p.inv.lower a _, ?_, ?_, ?_, ?_, ?_, ?_, ?_, ?_, ?_, ?_⟩
    · obtain ⟨S', hS'⟩ := p.ext
      exact ⟨S ++ S', by show t'.stk = _; rw [hS', hS]; simp⟩
    · intro v hv; show t'.I v = _; rw [p.keepI v (by rw [m.keepI v hv]; exact hv), m.keepI v hv]
    · intro v hv; rw [L_lower, if_neg (fun e => hne v hv e.1), p.keepL v (by rw [m.keepI v hv]; exact hv), m.keepL v hv]
    · intro v hv hv'
      show t.cnt < t'.I v
      have hv' : 0 < t'.I v := hv'
      by_cases e : u.I v = 0
      · have := p.new v e hv'; have := m.cnt; omega
      · rw [p.keepI v (by omega)]; exact m.new v hv (by omega)
    · show t.cnt < t'.cnt; have := m.cnt; have := p.cnt; omega
    · show t'.I a = _; rw [hIa, m.ia]
    · rw [hL]; show _ ≤ t'.I a; rw [hIa]; omega
    · rw [hL]; show _ = t'.I a ∨ _; rw [hIa]
      rcases key with h | ⟨y, h1, h2, h3⟩
      · rw [Nat.min_eq_left h]; exact m.low
      · by_cases h : u.L a ≤ t'.L b
        · rw [Nat.min_eq_left h]; exact m.low
        · rw [Nat.min_eq_right (by omega)]; exact Or.inr ⟨y, h1, h2, Reach.step hb h3⟩
    · intro c hc
      show 0 < t'.I c
      rcases List.mem_append.1 hc with h | h
      · have := m.vis c h; rw [p.keepI c this]; exact this
      · simp at h; subst h; exact p.vis
    · intro x hx hxs y hy hys hd
      rw [hL]
      have hx : x ∈ t'.stk := hx
      by_cases hxu : x ∈ u.stk
      · refine Nat.le_trans (Nat.min_le_left _ _) (m.bound x hxu hxs y hy hys fun e => ?_)
        rcases List.mem_append.1 (hd e) with h | h
        · exact h
        · simp at h; subst h
          have := m.keepI y (hn y hys); have := hn y hys; omega
      · have := p.bound x hx hxu y hy (hsub y hys)
        rw [m.keepI y (hn y hys)] at this
        exact Nat.le_trans (Nat.min_le_right _ _) this
  · rw [if_neg hb0]
    by_cases ho : u.O b = true
    · rw [if_pos ho]
      have hbm := (m.inv.opn b).1 ho
      have hL : (lower u a (u.I b)).L a = min (u.L a) (u.I b) := by rw [L_lower, if_pos ⟨rfl, by rw [m.inv.llow]; exact ha⟩]
      refine ⟨m.inv.lower a _, m.ext, m.keepI, ?_, m.new, m.cnt, m.ia, ?_, ?_, ?_, ?_⟩
      · intro v hv; rw [L_lower, if_neg (fun e => hne v hv e.1), m.keepL v hv]
      · rw [hL]; show _ ≤ u.I a; omega
      · rw [hL]; show _ = u.I a ∨ _
        by_cases h : u.L a ≤ u.I b
        · rw [Nat.min_eq_left h]; exact m.low
        · rw [Nat.min_eq_right (by omega)]
          rcases m.later hn hbm with ⟨h1, h2, h3⟩ | ⟨h1, h2⟩
          · exact Or.inr ⟨b, h1, h2.symm, Reach.one hb⟩
          · omega
      · intro c hc
        show 0 < u.I c
        rcases List.mem_append.1 hc with h | h
        · exact m.vis c h
        · simp at h; subst h; omega
      · intro x hx hxs y hy hys hd
        rw [hL]
        by_cases e : x = a
        · rcases List.mem_append.1 (hd e) with h | h
          · exact Nat.le_trans (Nat.min_le_left _ _) (m.bound x hx hxs y hy hys fun _ => h)
          · simp at h; subst h
            have := m.keepI y (hn y hys)
            exact Nat.le_trans (Nat.min_le_right _ _) (by omega)
        · exact Nat.le_trans (Nat.min_le_left _ _) (m.bound x hx hxs y hy hys fun h => absurd h e)
    · rw [if_neg ho]
      refine ⟨m.inv, m.ext, m.keepI, m.keepL, m.new, m.cnt, m.ia, m.la, m.low, ?_, ?_⟩
      · intro c hc
        rcases List.mem_append.1 hc with h | h
        · exact m.vis c h
        · simp at h; subst h; omega
      · intro x hx hxs y hy hys hd
        refine m.bound x hx hxs y hy hys fun e => ?_
        rcases List.mem_append.1 (hd e) with h | h
        · exact h
        · simp at h; subst h
          exact absurd ((m.inv.opn y).2 (hsub y hys)) ho
theorem Mid.fold {vis : St → Nat → St} (ht : Inv g n gr t) (h0 : t.I a = 0) (ha : a < n) (hv : ∀ (done : List Nat) (u : St) (b : Nat), Mid g n gr t a done u → b ∈ g a → u.I b = 0 → Post g n (gr ++ [a]) u b (vis u b)) :
    ∀ (l done : List Nat) (u : St), (∀ b ∈ l, b ∈ g a) → Mid g n gr t a done u → Mid g n gr t a (done ++ l) (l.foldl (one vis a) u)
  | [], done, u, _, m => by simpa using m
  | b :: l, done, u, hl, m => by
    have := Mid.fold ht h0 ha hv l (done ++ [b]) (one vis a u b) (fun c hc => hl c (by simp [hc])) (m.step ht h0 ha (hl b (by simp)) (hv done u b m (hl b (by simp))))
    rw [List.append_assoc] at this
    exact this
/-- What stands once all successors have been looked at. -/
theorem Mid.finish (m : Mid g n gr t a (g a) u) (ht : Inv g n gr t) (h0 : t.I a = 0) (ha : a < n) : Post g n gr t a (if u.L a ≠ u.I a then u else close u a) := by
  have hn : ∀ v ∈ t.stk, 0 < t.I v := fun v hv => (ht.stk v hv).2
  have hla := m.la
  have hia : 0 < u.I a := by rw [m.ia]; omega
  obtain ⟨S, hS⟩ := m.ext
  have hat : a ∉ t.stk := fun h => by have := hn a h; omega
  have hsub : ∀ y ∈ t.stk, y ∈ u.stk := fun y hy => by rw [hS]; exact List.mem_append_left _ hy
  have hgr : ∀ x ∈ gr, x ∈ t.stk := ht.gray
  have hblack : ∀ x ∈ u.stk, x ∉ t.stk → ∀ y ∈ g x, 0 < u.I y := fun x hx hxs y hy => by
    by_cases e : x = a
    · subst e; exact m.vis y hy
    · exact m.inv.black x hx (fun h => by
        rcases List.mem_append.1 h with h | h
        · exact hxs (hgr x h)
        · exact e (by simpa using h)) y hy
  by_cases hl : u.L a = u.I a
  · rw [if_neg (by simpa using hl)]
    have hK1 : ∀ x ∈ u.stk, x ∉ t.stk → ∀ y ∈ g x, y ∉ t.stk := fun x hx hxs y hy hys => by
      have h1 := m.bound x hx hxs y hy hys (fun e => by subst e; exact hy)
      rcases m.later hn (hsub y hys) with ⟨_, h2, h3⟩ | ⟨h2, _⟩
      · omega
      · exact h2 hys
    have hK3 : ∀ x w, Reach g x w → 0 < u.I x → x ∉ t.stk → 0 < u.I w ∧ w ∉ t.stk := fun x w hr => by
      induction hr with
      | refl => exact fun h1 h2 => ⟨h1, h2⟩
      | @step x y w hy _ ih =>
        intro h1 h2
        by_cases hxu : x ∈ u.stk
        · exact ih (hblack x hxu h2 y hy) (hK1 x hxu h2 y hy)
        · have := m.inv.closed x h1 hxu y hy
          exact ih this.1 (fun h => this.2 (hsub y h))
    have hK2 : ∀ v w, Reach g v w → 0 < u.I v → v ∉ u.stk → 0 < u.I w ∧ w ∉ u.stk := fun v w hr => by
      induction hr with
      | refl => exact fun h1 h2 => ⟨h1, h2⟩
      | @step x y w hy _ ih => exact fun h1 h2 => ih (m.inv.closed x h1 h2 y hy).1 (m.inv.closed x h1 h2 y hy).2
    have hK4 : ∀ x ∈ u.stk, x ∉ t.stk → Reach g x a := fun x hx hxs => by
      obtain ⟨w, hw, _, hr⟩ := m.inv.back x hx
      rcases List.mem_append.1 hw with h | h
      · exact absurd (hgr w h) (hK3 x w hr (m.inv.stk x hx).2 hxs).2
      · simp at h; subst h; exact hr
    have hK5 : ∀ x ∈ u.stk, x ∉ t.stk → Reach g a x := fun x hx hxs => by
      refine m.inv.fwd a (by simp) x hx ?_
      rcases m.later hn hx with ⟨h1, _⟩ | ⟨_, h2⟩
      · exact absurd h1 hxs
      · exact h2
    have hix : u.stk.idxOf a = t.stk.length := by rw [hS, List.idxOf_append, if_neg hat]; simp
    have hgp : grp u a = a :: S := by unfold grp; rw [hix, hS]; simp
    have htk : u.stk.take (u.stk.idxOf a) = t.stk := by rw [hix, hS]; simp
    have hnd := m.inv.nodup
    rw [hS] at hnd
    have hdis : ∀ x ∈ a :: S, x ∉ t.stk := fun x hx hxs => (List.nodup_append.1 hnd).2.2 x hxs x hx rfl
    have hmem : ∀ x, x ∈ a :: S ↔ x ∈ u.stk ∧ x ∉ t.stk := fun x => ⟨fun h => ⟨by rw [hS]; exact List.mem_append_right _ h, hdis x h⟩, fun ⟨h1, h2⟩ => by
      rw [hS] at h1
      exact (List.mem_append.1 h1).elim (fun h => absurd h h2) id⟩
    have cstk : (close u a).stk = t.stk := htk
    have cI : ∀ v, (close u a).I v = u.I v := fun v => rfl
    have cL : ∀ v, (close u a).L v = u.L v := fun v => rfl
    have cO : ∀ v, (close u a).O v = if v ∈ a :: S ∧ v < n then false else u.O v := fun v => by
      show (sets u.opn false (grp u a)).getD v false = _
      rw [sets_getD, hgp, m.inv.lopn]; rfl
    have cof : ∀ v, (close u a).of.getD v 0 = if v ∈ a :: S ∧ v < n then u.out.length else u.of.getD v 0 := fun v => by
      show (sets u.of u.out.length (grp u a)).getD v 0 = _
      rw [sets_getD, hgp, m.inv.lof]
    have cout : (close u a).out = u.out ++ [sortN (a :: S)] := by show u.out ++ [sortN (grp u a)] = _; rw [hgp]
    have hsn : ∀ x ∈ a :: S, x < n := fun x hx => (m.inv.stk x ((hmem x).1 hx).1).1
    refine ⟨⟨m.inv.lidx, m.inv.llow, by show (sets u.opn false _).length = n; rw [sets_len]; exact m.inv.lopn, by show (sets u.of _ _).length = n; rw [sets_len]; exact m.inv.lof, m.inv.cnt, ?_, ?_, ?_, ?_, ?_, ?_, ?_, ?_, ?_, ?_⟩, ⟨[], by rw [cstk]; simp⟩, m.keepI, m.keepL, m.new, by have := m.cnt; show t.cnt ≤ u.cnt; omega, hia, ?_, ?_⟩
    · intro v hv; rw [cstk] at hv; exact m.inv.stk v (hsub v hv)
    · rw [cstk]
      have := m.inv.asc
      rw [hS] at this
      exact (List.pairwise_append.1 this).1
    · intro v
      rw [cO, cstk]
      by_cases h : v ∈ a :: S
      · rw [if_pos ⟨h, hsn v h⟩]; simp [hdis v h]
      · rw [if_neg (fun e => h e.1), m.inv.opn, hS, List.mem_append]
        exact ⟨fun h' => h'.elim id fun h' => absurd h' h, Or.inl⟩
    · intro v hv; rw [cstk]; exact hgr v hv
    · intro v hv hvs w hw
      rw [cstk] at hvs ⊢
      exact hK3 v w (Reach.one hw) hv hvs
    · intro v hv hvg w hw
      rw [cstk] at hv
      have h1 := ht.black v hv hvg w hw
      show 0 < u.I w
      rw [m.keepI w h1]; exact h1
    · intro x hx y hy hxy
      rw [cstk] at hy
      exact m.inv.fwd x (List.mem_append_left _ hx) y (hsub y hy) hxy
    · intro x hx
      rw [cstk] at hx
      obtain ⟨w, hw, h1, h2⟩ := m.inv.back x (hsub x hx)
      rcases List.mem_append.1 hw with h | h
      · exact ⟨w, h, h1, h2⟩
      · simp at h; subst h
        rcases m.later hn (hsub x hx) with ⟨_, _, h3⟩ | ⟨h3, _⟩
        · omega
        · exact absurd hx h3
    · intro v
      rw [cstk, cout]
      show 0 < u.I v ∧ _ ↔ _
      constructor
      · rintro ⟨h1, h2⟩
        by_cases h : v ∈ u.stk
        · exact ⟨sortN (a :: S), by simp, (sortN_perm _).mem_iff.2 ((hmem v).2 ⟨h, h2⟩)⟩
        · obtain ⟨c, hc, hv⟩ := (m.inv.parts v).1 ⟨h1, h⟩
          exact ⟨c, List.mem_append_left _ hc, hv⟩
      · rintro ⟨c, hc, hv⟩
        rcases List.mem_append.1 hc with h | h
        · have := (m.inv.parts v).2 ⟨c, h, hv⟩
          exact ⟨this.1, fun h => this.2 (hsub v h)⟩
        · simp at h; subst h
          have := (hmem v).1 ((sortN_perm _).mem_iff.1 hv)
          exact ⟨(m.inv.stk v this.1).2, this.2⟩
    · intro k c hc
      rw [cout] at hc
      rcases Nat.lt_or_ge k u.out.length with hk | hk
      · rw [List.getElem?_append_left hk] at hc
        obtain ⟨h1, h2, h3⟩ := m.inv.comp k c hc
        refine ⟨h1, h2, fun v hv => ?_⟩
        obtain ⟨h4, h5, h6⟩ := h3 v hv
        refine ⟨h4, ?_, h6⟩
        have hvn := (m.inv.parts v).2 ⟨c, List.mem_of_getElem? hc, hv⟩
        rw [cof, if_neg (fun e => hvn.2 ((hmem v).1 e.1).1)]; exact h5
      · have hlen := (List.getElem?_eq_some_iff.1 hc).1
        have hk' : k = u.out.length := by simp at hlen; omega
        subst hk'
        rw [List.getElem?_append_right (Nat.le_refl _)] at hc
        simp at hc
        subst hc
        refine ⟨fun e => ?_, sortN_lt (List.nodup_append.1 hnd).2.1, fun v hv => ?_⟩
        · have := (sortN_perm (a :: S)).length_eq
          rw [e] at this; simp at this
        · have hv' := (sortN_perm _).mem_iff.1 hv
          obtain ⟨h1, h2⟩ := (hmem v).1 hv'
          refine ⟨hsn v hv', by rw [cof, if_pos ⟨hv', hsn v hv'⟩], fun x => ?_⟩
          rw [(sortN_perm _).mem_iff, hmem]
          constructor
          · rintro ⟨h3, h4⟩
            exact ⟨(hK4 v h1 h2).trans (hK5 x h3 h4), (hK4 x h3 h4).trans (hK5 v h1 h2)⟩
          · rintro ⟨h3, h4⟩
            have h5 := hK3 v x h3 (m.inv.stk v h1).2 h2
            refine ⟨?_, h5.2⟩
            by_cases hx : x ∈ u.stk
            · exact hx
            · exact absurd h1 (hK2 x v h4 h5.1 hx).2
    · left
      show t.cnt < u.L a
      rw [hl, m.ia]; omega
    · intro x hx hxs
      rw [cstk] at hx; exact absurd hx hxs
  · rw [if_pos hl]
    obtain ⟨y0, hy0, hy1, hy2⟩ : ∃ y ∈ t.stk, t.I y = u.L a ∧ Reach g a y := m.low.elim (fun h => absurd h hl) id
    refine ⟨⟨m.inv.lidx, m.inv.llow, m.inv.lopn, m.inv.lof, m.inv.cnt, m.inv.stk, m.inv.asc, m.inv.opn, ?_, m.inv.closed, ?_, ?_, ?_, m.inv.parts, m.inv.comp⟩, ⟨a :: S, hS⟩, m.keepI, m.keepL, m.new, by have := m.cnt; omega, hia, Or.inr ⟨y0, hy0, hy1, hy2⟩, ?_⟩
    · intro v hv; exact hsub v (hgr v hv)
    · intro v hv hvg w hw
      by_cases h : v ∈ t.stk
      · have h1 := ht.black v h hvg w hw
        rw [m.keepI w h1]; exact h1
      · exact hblack v hv h w hw
    · intro x hx y hy hxy; exact m.inv.fwd x (List.mem_append_left _ hx) y hy hxy
    · intro x hx
      obtain ⟨w, hw, h1, h2⟩ := m.inv.back x hx
      rcases List.mem_append.1 hw with h | h
      · exact ⟨w, h, h1, h2⟩
      · simp at h; subst h
        obtain ⟨w', hw', h3, h4⟩ := m.inv.back y0 (hsub y0 hy0)
        have h5 := m.keepI y0 (hn y0 hy0)
        rcases List.mem_append.1 hw' with h | h
        · exact ⟨w', h, by omega, h2.trans (hy2.trans h4)⟩
        · simp at h; subst h; omega
    · intro x hx hxs y hy hys
      exact m.bound x hx hxs y hy hys fun e => by subst e; exact hy
/-- How many nodes have not been visited. -/
def unv (n : Nat) (t : St) : Nat := ((List.range n).filter fun v => decide (t.I v = 0)).length
theorem filter_less {α : Type} {p q : α → Bool} : ∀ (l : List α), (∀ x, p x = true → q x = true) → (l.filter p).length ≤ (l.filter q).length ∧ ((∃ x ∈ l, q x = true ∧ p x = false) → (l.filter p).length < (l.filter q).length)
  | [], h => ⟨Nat.le_refl _, fun ⟨x, hx, _⟩ => by cases hx⟩
  | x :: l, h => by
    obtain ⟨h1, h2⟩ := filter_less l h
    cases hp : p x <;> cases hq : q x
    · simp only [List.filter_cons, hp, hq]
      refine ⟨by simpa using h1, fun ⟨y, hy, k⟩ => ?_⟩
      rcases List.mem_cons.1 hy with rfl | hy
      · rw [hq] at k; cases k.1
      · simpa using h2 ⟨y, hy, k⟩
    · simp only [List.filter_cons, hp, hq]
      exact ⟨by simp; omega, fun _ => by simp; omega⟩
    · exact absurd (h x hp) (by rw [hq]; decide)
    · simp only [List.filter_cons, hp, hq]
      refine ⟨by simp; omega, fun ⟨y, hy, k⟩ => ?_⟩
      rcases List.mem_cons.1 hy with rfl | hy
      · rw [hp] at k; cases k.2
      · have := h2 ⟨y, hy, k⟩
        simp; omega
theorem unv_le {t u : St} (h : ∀ v, 0 < t.I v → 0 < u.I v) : unv n u ≤ unv n t :=
  (filter_less _ fun v hv => by simp at hv ⊢; have := h v; omega).1
theorem unv_lt {t u : St} (h : ∀ v, 0 < t.I v → 0 < u.I v) {a : Nat} (ha : a < n) (h0 : t.I a = 0) (h1 : 0 < u.I a) : unv n u < unv n t :=
  (filter_less _ fun v hv => by simp at hv ⊢; have := h v; omega).2 ⟨a, by simpa using ha, by simpa using h0, by simp; omega⟩
theorem visit_post (hg : ∀ a < n, ∀ b ∈ g a, b < n) : ∀ (f : Nat) (gr : List Nat) (t : St) (a : Nat), Inv g n gr t → a < n → t.I a = 0 → (∀ x ∈ gr, Reach g x a) → unv n t ≤ f → Post g n gr t a (visit g f t a)
  | 0, gr, t, a, ht, ha, h0, hr, hf => by
    have := unv_lt (t := t) (u := enter t a) (n := n) (fun v hv => by rw [I_enter ht.lidx ha]; split <;> omega) ha h0 (by rw [I_enter ht.lidx ha, if_pos rfl]; omega)
    omega
  | f + 1, gr, t, a, ht, ha, h0, hr, hf => by
    have m := Mid.fold (vis := visit g f) ht h0 ha (fun done u b m hb hb0 => by
      have hl := unv_lt (n := n) (t := t) (u := u) (fun v hv => by rw [m.keepI v hv]; exact hv) ha h0 (by rw [m.ia]; omega)
      refine visit_post hg f (gr ++ [a]) u b m.inv (hg a ha b hb) hb0 (fun x hx => ?_) (by omega)
      rcases List.mem_append.1 hx with h | h
      · exact (hr x h).snoc hb
      · simp at h; subst h; exact Reach.one hb) (g a) [] (enter t a) (fun b hb => hb) (mid_enter ht ha h0 hr)
    exact m.finish ht h0 ha
theorem inv_start (g : G) (n : Nat) : Inv g n [] (start n) := by
  have hI : ∀ v, (start n).I v = 0 := fun v => by
    show (List.replicate n 0).getD v 0 = 0
    rw [List.getD_eq_getElem?_getD, List.getElem?_replicate]; split <;> rfl
  have hO : ∀ v, (start n).O v = false := fun v => by
    show (List.replicate n false).getD v false = false
    rw [List.getD_eq_getElem?_getD, List.getElem?_replicate]; split <;> rfl
  refine ⟨by simp [start], by simp [start], by simp [start], by simp [start], (fun v => by rw [hI]; omega), (fun v hv => by cases hv), List.Pairwise.nil, (fun v => by rw [hO]; simp [start]), (fun v hv => by cases hv), (fun v hv => by rw [hI] at hv; omega), (fun v hv => by cases hv), (fun v hv => by cases hv), (fun v hv => by cases hv), (fun v => ?_), (fun k c hc => by simp [start] at hc)⟩
  rw [hI]; simp [start]
/-- What the search leaves. -/
theorem whole_inv (hg : ∀ a < n, ∀ b ∈ g a, b < n) : Inv g n [] (whole g n) ∧ (whole g n).stk = [] ∧ ∀ v < n, 0 < (whole g n).I v := by
  have key : ∀ (l : List Nat) (t : St), (∀ a ∈ l, a < n) → Inv g n [] t → Inv g n [] (l.foldl (fun t a => if t.I a = 0 then visit g n t a else t) t) ∧ (∀ v, 0 < t.I v → 0 < (l.foldl (fun t a => if t.I a = 0 then visit g n t a else t) t).I v) ∧ ∀ v ∈ l, 0 < (l.foldl (fun t a => if t.I a = 0 then visit g n t a else t) t).I v := by
    intro l
    induction l with
    | nil => exact fun t _ ht => ⟨ht, fun v hv => hv, fun v hv => by cases hv⟩
    | cons a l ih =>
      intro t hl ht
      have ha := hl a (by simp)
      have hun : unv n t ≤ n := by unfold unv; exact Nat.le_trans (List.length_filter_le _ _) (by simp)
      rw [List.foldl_cons]
      by_cases h0 : t.I a = 0
      · rw [if_pos h0]
        have p := visit_post hg n [] t a ht ha h0 (fun x hx => by cases hx) hun
        obtain ⟨i1, i2, i3⟩ := ih (visit g n t a) (fun b hb => hl b (by simp [hb])) p.inv
        refine ⟨i1, fun v hv => i2 v (by rw [p.keepI v hv]; exact hv), fun v hv => ?_⟩
        rcases List.mem_cons.1 hv with rfl | hv
        · exact i2 v p.vis
        · exact i3 v hv
      · rw [if_neg h0]
        obtain ⟨i1, i2, i3⟩ := ih t (fun b hb => hl b (by simp [hb])) ht
        refine ⟨i1, i2, fun v hv => ?_⟩
        rcases List.mem_cons.1 hv with rfl | hv
        · exact i2 v (by omega)
        · exact i3 v hv
  obtain ⟨h1, _, h3⟩ := key (List.range n) (start n) (fun a ha => by simpa using ha) (inv_start g n)
  refine ⟨h1, ?_, fun v hv => h3 v (by simpa using hv)⟩
  cases hs : (whole g n).stk with
  | nil => rfl
  | cons x r =>
    obtain ⟨u, hu, _⟩ := h1.back x (by show x ∈ (whole g n).stk; rw [hs]; simp)
    cases hu
end
end Tj
end Go.Proofs.Ytljlihimmcmlmaa
set_option linter.unusedVariables false
set_option linter.unusedSimpArgs false
namespace Go.Proofs.Ytljlihimmcmlmaa
namespace Hp
variable {α : Type}
def swp (l : List α) (i j : Nat) : List α :=
  match l[i]?, l[j]? with
  | some x, some y => (l.set i y).set j x
  | _, _ => l
/-- The key at an index. -/
def K (k : α → Nat) (l : List α) (i : Nat) : Nat := ((l[i]?).map k).getD 0
def up (k : α → Nat) : Nat → List α → Nat → List α
  | 0, l, _ => l
  | f + 1, l, j => if (j - 1) / 2 = j ∨ ¬ K k l j < K k l ((j - 1) / 2) then l else up k f (swp l ((j - 1) / 2) j) ((j - 1) / 2)
/-- The lesser child. -/
def kid (k : α → Nat) (n : Nat) (l : List α) (i : Nat) : Nat := if 2 * i + 2 < n ∧ K k l (2 * i + 2) < K k l (2 * i + 1) then 2 * i + 2 else 2 * i + 1
def down (k : α → Nat) (n : Nat) : Nat → List α → Nat → List α
  | 0, l, _ => l
  | f + 1, l, i => if n ≤ 2 * i + 1 then l else if ¬ K k l (kid k n l i) < K k l i then l else down k n f (swp l i (kid k n l i)) (kid k n l i)
/-- The first n are in heap order. -/
def Heap (k : α → Nat) (l : List α) (n : Nat) : Prop := ∀ i, 0 < i → i < n → K k l ((i - 1) / 2) ≤ K k l i
variable {k : α → Nat} {l : List α} {i j m n : Nat}
theorem swp_len (l : List α) (i j : Nat) : (swp l i j).length = l.length := by
  unfold swp; split <;> simp
theorem swp_eq (hi : i < l.length) (hj : j < l.length) : swp l i j = (l.set i l[j]).set j l[i] := by
  unfold swp
  rw [List.getElem?_eq_getElem hi, List.getElem?_eq_getElem hj]
theorem swp_get (hi : i < l.length) (hj : j < l.length) (m : Nat) : (swp l i j)[m]? = if m = j then l[i]? else if m = i then l[j]? else l[m]? := by
  rw [swp_eq hi hj, List.getElem?_set]
  by_cases h1 : j = m
  · subst h1; simp [hj, hi]
  · rw [if_neg h1, if_neg (fun e => h1 e.symm), List.getElem?_set]
    by_cases h2 : i = m
    · subst h2; simp [hj, hi]
    · rw [if_neg h2, if_neg (fun e => h2 e.symm)]
theorem swp_K (hi : i < l.length) (hj : j < l.length) (m : Nat) : K k (swp l i j) m = if m = j then K k l i else if m = i then K k l j else K k l m := by
  unfold K
  rw [swp_get hi hj]
  split
  · rfl
  · split <;> rfl
theorem cons_set_perm : ∀ (r : List α) (j : Nat) (hj : j < r.length) (x : α), (r[j] :: r.set j x).Perm (x :: r)
  | y :: r, 0, _, x => by simp; exact List.Perm.swap _ _ _
  | y :: r, j + 1, hj, x => by
    have h := cons_set_perm r j (by simpa using hj) x
    simp only [List.getElem_cons_succ, List.set_cons_succ]
    exact (List.Perm.swap _ _ _).trans ((h.cons y).trans (List.Perm.swap _ _ _))
theorem swp_perm : ∀ (l : List α) (i j : Nat), i < l.length → j < l.length → (swp l i j).Perm l
  | [], i, j, hi, _ => by simp at hi
  | x :: r, 0, 0, hi, hj => by rw [swp_eq hi hj]; simp
  | x :: r, 0, j + 1, hi, hj => by
    rw [swp_eq hi hj]
    simpa using cons_set_perm r j (by simpa using hj) x
  | x :: r, i + 1, 0, hi, hj => by
    rw [swp_eq hi hj]
    simpa using cons_set_perm r i (by simpa using hi) x
  | x :: r, i + 1, j + 1, hi, hj => by
    have h := swp_perm r i j (by simpa using hi) (by simpa using hj)
    rw [swp_eq hi hj]
    rw [swp_eq (by simpa using hi) (by simpa using hj)] at h
    simpa using h.cons x
/-- In order but at j. -/
structure UpOk (k : α → Nat) (l : List α) (n j : Nat) : Prop where
  ne : ∀ i, 0 < i → i < n → i ≠ j → K k l ((i - 1) / 2) ≤ K k l i
  kids : ∀ i, 0 < i → i < n → (i - 1) / 2 = j → 0 < j → K k l ((j - 1) / 2) ≤ K k l i
theorem up_ok : ∀ (f : Nat) (l : List α) (j : Nat), j < f → j < n → n ≤ l.length → UpOk k l n j → Heap k (up k f l j) n ∧ (up k f l j).Perm l ∧ (up k f l j).length = l.length
  | 0, l, j, hf, _, _, _ => by omega
  | f + 1, l, j, hf, hj, hn, h => by
    unfold up
    split
    · rename_i hc
      refine ⟨fun i h0 hi => ?_, List.Perm.refl _, rfl⟩
      by_cases e : i = j
      · subst e; rcases hc with hc | hc <;> omega
      · exact h.ne i h0 hi e
    · rename_i hc
      have hc1 : ¬ (j - 1) / 2 = j := fun e => hc (Or.inl e)
      have hc2 : K k l j < K k l ((j - 1) / 2) := Classical.byContradiction fun e => hc (Or.inr e)
      have hq : (j - 1) / 2 < j := by omega
      have hs := fun m => swp_K (k := k) (show (j - 1) / 2 < l.length by omega) (show j < l.length by omega) m
      have hp := swp_perm l ((j - 1) / 2) j (by omega) (by omega)
      obtain ⟨q, hqe⟩ : ∃ q, (j - 1) / 2 = q := ⟨_, rfl⟩
      rw [hqe] at hs hp hq hc2 ⊢
      have hup : UpOk k (swp l q j) n q := by
        refine ⟨fun i h0 hi hne => ?_, fun i h0 hi he hq0 => ?_⟩
        · rw [hs, hs]
          by_cases e1 : i = j
          · subst e1; rw [if_pos rfl, hqe, if_neg (by omega), if_pos rfl]; omega
          · rw [if_neg e1, if_neg hne]
            by_cases e2 : (i - 1) / 2 = j
            · rw [if_pos e2]; have := h.kids i h0 hi e2 (by omega); rw [hqe] at this; exact this
            · rw [if_neg e2]
              have := h.ne i h0 hi e1
              by_cases e3 : (i - 1) / 2 = q
              · rw [if_pos e3]; rw [e3] at this; omega
              · rw [if_neg e3]; exact this
        · rw [hs, hs, if_neg (by omega), if_neg (by omega)]
          have h4 := h.ne q hq0 (by omega) (by omega)
          by_cases e1 : i = j
          · rw [if_pos e1]; exact h4
          · rw [if_neg e1, if_neg (by omega)]
            have := h.ne i h0 hi e1
            rw [he] at this; omega
      obtain ⟨h1, h2, h3⟩ := up_ok f (swp l q j) q (by omega) (by omega) (by rw [swp_len]; exact hn) hup
      exact ⟨h1, h2.trans hp, by rw [h3, swp_len]⟩
/-- In order but below i. -/
structure DownOk (k : α → Nat) (l : List α) (n i : Nat) : Prop where
  ne : ∀ m, 0 < m → m < n → (m - 1) / 2 ≠ i → K k l ((m - 1) / 2) ≤ K k l m
  kids : ∀ m, 0 < m → m < n → (m - 1) / 2 = i → 0 < i → K k l ((i - 1) / 2) ≤ K k l m
theorem down_ok : ∀ (f : Nat) (l : List α) (i : Nat), n ≤ i + f → n ≤ l.length → DownOk k l n i → Heap k (down k n f l i) n ∧ (down k n f l i).Perm l ∧ (down k n f l i).length = l.length ∧ ∀ m, n ≤ m → (down k n f l i)[m]? = l[m]?
  | 0, l, i, hf, hn, h => ⟨fun m h0 hm => h.ne m h0 hm (by omega), List.Perm.refl _, rfl, fun _ _ => rfl⟩
  | f + 1, l, i, hf, hn, h => by
    unfold down
    split
    · rename_i hc
      exact ⟨fun m h0 hm => h.ne m h0 hm (by omega), List.Perm.refl _, rfl, fun _ _ => rfl⟩
    · rename_i hc
      have hk : (kid k n l i = 2 * i + 1 ∨ kid k n l i = 2 * i + 2) ∧ kid k n l i < n ∧ ∀ m, m < n → (m = 2 * i + 1 ∨ m = 2 * i + 2) → K k l (kid k n l i) ≤ K k l m := by
        unfold kid
        split
        · rename_i h1
          exact ⟨Or.inr rfl, h1.1, fun m hm h2 => by rcases h2 with rfl | rfl <;> omega⟩
        · rename_i h1
          refine ⟨Or.inl rfl, by omega, fun m hm h2 => ?_⟩
          rcases h2 with rfl | rfl
          · exact Nat.le_refl _
          · have : ¬ K k l (2 * i + 2) < K k l (2 * i + 1) := fun e => h1 ⟨hm, e⟩
            omega
      obtain ⟨j, hj⟩ : ∃ j, kid k n l i = j := ⟨_, rfl⟩
      rw [hj] at hk ⊢
      obtain ⟨hj1, hj2, hj3⟩ := hk
      split
      · rename_i hd
        refine ⟨fun m h0 hm => ?_, List.Perm.refl _, rfl, fun _ _ => rfl⟩
        by_cases e : (m - 1) / 2 = i
        · rw [e]; have := hj3 m hm (by omega); omega
        · exact h.ne m h0 hm e
      · rename_i hd
        have hd : K k l j < K k l i := Classical.byContradiction hd
        have hs := fun m => swp_K (k := k) (show i < l.length by omega) (show j < l.length by omega) m
        have hdn : DownOk k (swp l i j) n j := by
          refine ⟨fun m h0 hm hne => ?_, fun m h0 hm he hj0 => ?_⟩
          · rw [hs, hs, if_neg hne]
            by_cases e1 : (m - 1) / 2 = i
            · rw [if_pos e1]
              by_cases e2 : m = j
              · rw [if_pos e2]; omega
              · rw [if_neg e2, if_neg (by omega)]; exact hj3 m hm (by omega)
            · rw [if_neg e1]
              by_cases e2 : m = j
              · omega
              · rw [if_neg e2]
                by_cases e3 : m = i
                · rw [if_pos e3, e3]
                  exact h.kids j (by omega) hj2 (by omega) (by omega)
                · rw [if_neg e3]; exact h.ne m h0 hm e1
          · have ej : (j - 1) / 2 = i := by omega
            rw [ej, hs, hs, if_neg (by omega), if_pos rfl, if_neg (by omega), if_neg (by omega)]
            have := h.ne m h0 hm (by omega)
            rw [he] at this; exact this
        obtain ⟨h1, h2, h3, h4⟩ := down_ok f (swp l i j) j (by omega) (by rw [swp_len]; exact hn) hdn
        refine ⟨h1, h2.trans (swp_perm l i j (by omega) (by omega)), by rw [h3, swp_len], fun m hm => ?_⟩
        rw [h4 m hm, swp_get (by omega) (by omega), if_neg (by omega), if_neg (by omega)]
theorem Heap.least (h : Heap k l n) : ∀ (b i : Nat), i ≤ b → i < n → K k l 0 ≤ K k l i
  | 0, i, hi, _ => by
    obtain rfl : i = 0 := by omega
    exact Nat.le_refl _
  | b + 1, i, hi, hn => by
    rcases Nat.eq_zero_or_pos i with rfl | h0
    · exact Nat.le_refl _
    · have h1 := h i h0 hn
      have h2 := Heap.least h b ((i - 1) / 2) (by omega) (by omega)
      omega
/-- What Push leaves. -/
def push (k : α → Nat) (l : List α) (x : α) : List α := up k (l.length + 1) (l ++ [x]) l.length
theorem K_app (h : i < l.length) (r : List α) : K k (l ++ r) i = K k l i := by unfold K; rw [List.getElem?_append_left h]
theorem push_ok (h : Heap k l l.length) (x : α) : Heap k (push k l x) (push k l x).length ∧ (push k l x).Perm (l ++ [x]) := by
  obtain ⟨h1, h2, h3⟩ := up_ok (k := k) (n := l.length + 1) (l.length + 1) (l ++ [x]) l.length (by omega) (by omega) (by simp) ⟨fun i h0 hi hne => by
    rw [K_app (by omega), K_app (by omega)]; exact h i h0 (by omega), fun i h0 hi he hj => by omega⟩
  have hl : (push k l x).length = l.length + 1 := by show (up k _ _ _).length = _; rw [h3]; simp
  exact ⟨by rw [hl]; exact h1, h2⟩
/-- What Pop leaves behind the last element. -/
def pop (k : α → Nat) (l : List α) : List α := (down k (l.length - 1) (l.length - 1) (swp l 0 (l.length - 1)) 0).take (l.length - 1)
theorem pop_ok {x : α} (h : Heap k l l.length) (hx : l[0]? = some x) : (down k (l.length - 1) (l.length - 1) (swp l 0 (l.length - 1)) 0)[l.length - 1]? = some x ∧ (down k (l.length - 1) (l.length - 1) (swp l 0 (l.length - 1)) 0).length = l.length ∧ Heap k (pop k l) (pop k l).length ∧ (x :: pop k l).Perm l ∧ ∀ y ∈ l, k x ≤ k y := by
  have hl : 0 < l.length := (List.getElem?_eq_some_iff.1 hx).1
  have hs := fun m => swp_K (k := k) hl (show l.length - 1 < l.length by omega) m
  obtain ⟨h1, h2, h3, h4⟩ := down_ok (k := k) (n := l.length - 1) (l.length - 1) (swp l 0 (l.length - 1)) 0 (by omega) (by rw [swp_len]; omega) ⟨fun m h0 hm hne => by
    rw [hs, hs, if_neg (by omega), if_neg (by omega), if_neg (by omega), if_neg (by omega)]; exact h m h0 (by omega), fun m h0 hm he hi => by omega⟩
  have hlast : (down k (l.length - 1) (l.length - 1) (swp l 0 (l.length - 1)) 0)[l.length - 1]? = some x := by
    rw [h4 _ (Nat.le_refl _), swp_get hl (by omega), if_pos rfl, hx]
  have hlen : (down k (l.length - 1) (l.length - 1) (swp l 0 (l.length - 1)) 0).length = l.length := by rw [h3, swp_len]
  have hperm := h2.trans (swp_perm l 0 (l.length - 1) hl (by omega))
  unfold pop
  generalize down k (l.length - 1) (l.length - 1) (swp l 0 (l.length - 1)) 0 = d at *
  have hdd : d = d.take (l.length - 1) ++ [x] := by
    have : d = d.take (l.length - 1 + 1) := by rw [List.take_of_length_le (by omega)]
    rw [List.take_add_one, hlast] at this
    simpa using this
  refine ⟨hlast, hlen, fun i h0 hi => ?_, ?_, fun y hy => ?_⟩
  · rw [List.length_take] at hi
    have := h1 i h0 (by omega)
    rw [hdd] at this
    rw [K_app (by rw [List.length_take]; omega), K_app (by rw [List.length_take]; omega)] at this
    exact this
  · have h5 : (x :: d.take (l.length - 1)).Perm (d.take (l.length - 1) ++ [x]) := (List.perm_append_singleton x _).symm
    rw [← hdd] at h5
    exact h5.trans hperm
  · obtain ⟨i, hi, e⟩ := List.mem_iff_getElem.1 hy
    have := h.least i i (Nat.le_refl _) hi
    unfold K at this
    rw [hx, List.getElem?_eq_getElem hi, e] at this
    exact this
end Hp
end Go.Proofs.Ytljlihimmcmlmaa
set_option linter.unusedVariables false
set_option linter.unusedSimpArgs false
namespace Go.Proofs.Ytljlihimmcmlmaa
namespace Tj
open Hp
/-- An edge of the graph, and whether it is negated. -/
structure Ed where
  a : Nat
  b : Nat
  g : Bool
  deriving DecidableEq
def next (es : List Ed) (v : Nat) : List Nat := (es.filter fun e => decide (e.a = v)).map (·.b)
theorem mem_next {es : List Ed} {v w : Nat} : w ∈ next es v ↔ ∃ e ∈ es, e.a = v ∧ e.b = w := by
  unfold next
  rw [List.mem_map]
  constructor
  · rintro ⟨e, he, rfl⟩
    rw [List.mem_filter] at he
    exact ⟨e, he.1, by simpa using he.2, rfl⟩
  · rintro ⟨e, he, h1, rfl⟩
    exact ⟨e, List.mem_filter.2 ⟨he, by simpa using h1⟩, rfl⟩
/-- A path of at least one edge. -/
def Dep (g : G) (a b : Nat) : Prop := ∃ c ∈ g a, Reach g c b
theorem Dep.reach {g : G} {a b : Nat} (h : Dep g a b) : Reach g a b := by obtain ⟨c, h1, h2⟩ := h; exact Reach.step h1 h2
theorem reach_dep {g : G} {a b : Nat} (h : Reach g a b) : a = b ∨ Dep g a b := by
  cases h with
  | refl => exact Or.inl rfl
  | step h1 h2 => exact Or.inr ⟨_, h1, h2⟩
theorem eqv_iff {g : G} {a b : Nat} : Eqv g a b ↔ a = b ∨ Dep g a b ∧ Dep g b a := by
  constructor
  · rintro ⟨h1, h2⟩
    rcases reach_dep h1 with h | h
    · exact Or.inl h
    · rcases reach_dep h2 with k | k
      · exact Or.inl k.symm
      · exact Or.inr ⟨h, k⟩
  · rintro (rfl | ⟨h1, h2⟩)
    · exact Eqv.refl
    · exact ⟨h1.reach, h2.reach⟩
open Classical in
/-- Whether a node may be chosen once those of done have been. -/
noncomputable def ready (g : G) (n : Nat) (done : List Nat) (a : Nat) : Bool := decide (a ∉ done ∧ ∀ b < n, Dep g a b → b ∈ done ∨ Eqv g a b)
open Classical in
noncomputable def compOf (g : G) (n a : Nat) : List Nat := (List.range n).filter fun b => decide (Eqv g a b)
noncomputable def ord (g : G) (n : Nat) : Nat → List Nat → List (List Nat)
  | 0, _ => []
  | f + 1, done => match (List.range n).find? (ready g n done) with
    | none => []
    | some a => compOf g n a :: ord g n f (done ++ compOf g n a)
/-- The components as the search leaves them. -/
structure Parts (g : G) (n : Nat) (cs : List (List Nat)) (of : Nat → Nat) : Prop where
  mem : ∀ v < n, ∃ c, cs[of v]? = some c ∧ v ∈ c
  comp : ∀ (k : Nat) (c : List Nat), cs[k]? = some c → c ≠ [] ∧ c.Pairwise (· < ·) ∧ ∀ v ∈ c, v < n ∧ of v = k ∧ ∀ u, u ∈ c ↔ Eqv g v u
theorem whole_parts {g : G} {n : Nat} (hg : ∀ a < n, ∀ b ∈ g a, b < n) : Parts g n (whole g n).out (fun v => (whole g n).of.getD v 0) := by
  obtain ⟨h1, h2, h3⟩ := whole_inv hg
  refine ⟨fun v hv => ?_, h1.comp⟩
  obtain ⟨c, hc, hvc⟩ := (h1.parts v).1 ⟨h3 v hv, by rw [h2]; simp⟩
  obtain ⟨k, hk⟩ := List.mem_iff_getElem?.1 hc
  obtain ⟨_, _, h4⟩ := h1.comp k c hk
  obtain ⟨_, h5, _⟩ := h4 v hvc
  exact ⟨c, by rw [h5]; exact hk, hvc⟩
section
variable {g : G} {n : Nat} {cs : List (List Nat)} {of : Nat → Nat}
theorem Parts.lt (h : Parts g n cs of) {v : Nat} (hv : v < n) : of v < cs.length := by
  obtain ⟨c, hc, _⟩ := h.mem v hv
  exact (List.getElem?_eq_some_iff.1 hc).1
theorem Parts.same (h : Parts g n cs of) {u v : Nat} (hu : u < n) (hv : v < n) : of u = of v ↔ Eqv g u v := by
  obtain ⟨c, hc, hm⟩ := h.mem u hu
  obtain ⟨d, hd, hm'⟩ := h.mem v hv
  obtain ⟨_, _, h3⟩ := h.comp _ c hc
  obtain ⟨_, _, h4⟩ := h3 u hm
  constructor
  · intro e
    rw [e, hd] at hc
    obtain rfl := Option.some.inj hc
    exact (h4 v).1 hm'
  · intro e
    have := (h4 v).2 e
    exact ((h3 v this).2.1).symm
theorem sorted_ext {a b : List Nat} (ha : a.Pairwise (· < ·)) (hb : b.Pairwise (· < ·)) (h : ∀ x, x ∈ a ↔ x ∈ b) : a = b :=
  List.Perm.eq_of_pairwise (le := (· < ·)) (fun x y _ _ h1 h2 => by omega) ha hb ((List.perm_ext_iff_of_nodup (ha.imp fun h e => by omega) (hb.imp fun h e => by omega)).2 h)
theorem compOf_sorted (g : G) (n a : Nat) : (compOf g n a).Pairwise (· < ·) := List.Pairwise.filter _ List.pairwise_lt_range
theorem Parts.compOf (h : Parts g n cs of) {v : Nat} (hv : v < n) {c : List Nat} (hc : cs[of v]? = some c) : compOf g n v = c := by
  obtain ⟨d, hd, hm⟩ := h.mem v hv
  rw [hc] at hd
  obtain rfl := Option.some.inj hd
  obtain ⟨_, h2, h3⟩ := h.comp _ c hc
  refine sorted_ext (compOf_sorted g n v) h2 fun x => ?_
  unfold Tj.compOf
  rw [List.mem_filter]
  simp only [List.mem_range, decide_eq_true_eq]
  exact ⟨fun ⟨_, e⟩ => ((h3 v hm).2.2 x).2 e, fun e => ⟨(h3 x e).1, ((h3 v hm).2.2 x).1 e⟩⟩
/-! ### Needs -/
abbrev Pa := Nat × Nat
/-- The pairs of different components that have an edge, each once. -/
def addP (of : Nat → Nat) (ps : List Pa) (e : Ed) : List Pa := if of e.a ≠ of e.b ∧ (of e.a, of e.b) ∉ ps then ps ++ [(of e.a, of e.b)] else ps
def pairs (of : Nat → Nat) (es : List Ed) : List Pa := es.foldl (addP of) []
theorem pairs_snoc (of : Nat → Nat) (es : List Ed) (e : Ed) : pairs of (es ++ [e]) = addP of (pairs of es) e := by simp [pairs]
theorem pairs_ok (of : Nat → Nat) : ∀ (k : Nat) (es : List Ed), es.length = k → (pairs of es).Nodup ∧ ∀ p : Pa, p ∈ pairs of es ↔ p.1 ≠ p.2 ∧ ∃ e ∈ es, of e.a = p.1 ∧ of e.b = p.2 := by
  intro k
  induction k with
  | zero => intro es he; rw [List.eq_nil_of_length_eq_zero he]; exact ⟨List.nodup_nil, fun p => by simp [pairs]⟩
  | succ k ih =>
    intro es he
    obtain ⟨M, x, rfl⟩ : ∃ M x, es = M ++ [x] := ⟨es.dropLast, es.getLast (by intro e; subst e; simp at he), (List.dropLast_concat_getLast _).symm⟩
    obtain ⟨h1, h2⟩ := ih M (by simpa using he)
    rw [pairs_snoc]
    unfold addP
    split
    · rename_i hc
      refine ⟨?_, fun p => ?_⟩
      · rw [List.nodup_append]
        exact ⟨h1, by simp, fun a ha b hb e => by simp at hb; subst e; rw [hb] at ha; exact hc.2 ha⟩
      · rw [List.mem_append, h2]
        constructor
        · rintro (⟨h3, e, he, h4⟩ | h3)
          · exact ⟨h3, e, List.mem_append_left _ he, h4⟩
          · simp at h3; subst h3; exact ⟨hc.1, x, by simp, rfl, rfl⟩
        · rintro ⟨h3, e, he, h4, h5⟩
          rcases List.mem_append.1 he with h | h
          · exact Or.inl ⟨h3, e, h, h4, h5⟩
          · simp at h; subst h; right; simp; exact Prod.ext h4.symm h5.symm
    · rename_i hc
      refine ⟨h1, fun p => ?_⟩
      rw [h2]
      constructor
      · rintro ⟨h3, e, he, h4⟩
        exact ⟨h3, e, List.mem_append_left _ he, h4⟩
      · rintro ⟨h3, e, he, h4, h5⟩
        rcases List.mem_append.1 he with h | h
        · exact ⟨h3, e, h, h4, h5⟩
        · simp at h; subst h
          by_cases hm : (of e.a, of e.b) ∈ pairs of M
          · have := (h2 _).1 hm
            simp only at this
            exact ⟨h3, by obtain ⟨_, e', he', h6, h7⟩ := this; exact ⟨e', he', h6.trans h4, h7.trans h5⟩⟩
          · exact absurd ⟨by rw [h4, h5]; exact h3, hm⟩ hc
/-- How many components a waits for, once those of pp are out. -/
def cnt (ps : List Pa) (pp : List Nat) (a : Nat) : Nat := (ps.filter fun p => decide (p.1 = a ∧ p.2 ∉ pp)).length
def users (ps : List Pa) (b : Nat) : List Nat := (ps.filter fun p => decide (p.2 = b)).map (·.1)
def key (c : List Nat) : Nat := c.headD 0
def relax (cs : List (List Nat)) (s : List Nat × List (List Nat)) (a : Nat) : List Nat × List (List Nat) :=
  (s.1.set a (s.1.getD a 0 - 1), if s.1.getD a 0 - 1 = 0 then push key s.2 (cs.getD a []) else s.2)
def kahn (cs : List (List Nat)) (of : Nat → Nat) (ps : List Pa) : Nat → List Nat → List (List Nat) → List (List Nat) → List (List Nat)
  | 0, _, _, out => out
  | f + 1, need, h, out => match h[0]? with
    | none => out
    | some x => kahn cs of ps f ((users ps (of (key x))).foldl (relax cs) (need, pop key h)).1 ((users ps (of (key x))).foldl (relax cs) (need, pop key h)).2 (out ++ [x])
end
end Tj
end Go.Proofs.Ytljlihimmcmlmaa
set_option linter.unusedVariables false
set_option linter.unusedSimpArgs false
namespace Go.Proofs.Ytljlihimmcmlmaa
namespace Tj
open Hp
theorem filter_add {α : Type} {l : List α} (hl : l.Nodup) {p q : α → Bool} {a : α} (ha : a ∈ l) (hp : p a = false) (hq : ∀ x, q x = true ↔ p x = true ∨ x = a) : (l.filter q).Perm (l.filter p ++ [a]) := by
  refine (List.perm_ext_iff_of_nodup (hl.filter _) ?_).2 fun x => ?_
  · rw [List.nodup_append]
    exact ⟨hl.filter _, by simp, fun x hx y hy e => by simp at hy; subst e; subst hy; rw [List.mem_filter, hp] at hx; cases hx.2⟩
  · rw [List.mem_filter, hq, List.mem_append, List.mem_filter]
    constructor
    · rintro ⟨h1, h2 | h2⟩
      · exact Or.inl ⟨h1, h2⟩
      · exact Or.inr (by simp [h2])
    · rintro (⟨h1, h2⟩ | h2)
      · exact ⟨h1, Or.inl h2⟩
      · simp at h2; subst h2; exact ⟨ha, Or.inr rfl⟩
theorem filter_one {α : Type} [BEq α] [LawfulBEq α] {x : α} {p q : α → Bool} (hq : ∀ y, q y = true ↔ p y = true ∧ y ≠ x) (hp : p x = true) : ∀ {l : List α}, l.Nodup → (l.filter p).length = (l.filter q).length + if x ∈ l then 1 else 0
  | [], _ => by simp
  | y :: l, hn => by
    have ih := filter_one hq hp (List.nodup_cons.1 hn).2
    by_cases e : y = x
    · subst e
      have hqy : q y = false := by
        cases h : q y with
        | false => rfl
        | true => exact absurd rfl ((hq y).1 h).2
      rw [if_neg (List.nodup_cons.1 hn).1] at ih
      simp [List.filter_cons, hp, hqy]; omega
    · have hpq : p y = q y := by
        cases h : q y with
        | true => exact ((hq y).1 h).1
        | false =>
          cases h' : p y with
          | false => rfl
          | true => rw [(hq y).2 ⟨h', e⟩] at h; cases h
      have hm : x ∈ y :: l ↔ x ∈ l := by
        rw [List.mem_cons]; exact ⟨fun h => h.elim (fun h => absurd h.symm e) id, Or.inr⟩
      simp only [List.filter_cons, hpq, hm]
      cases q y <;> simp <;> omega
theorem find_least {p : Nat → Bool} : ∀ {n v : Nat}, v < n → p v = true → (∀ a < v, p a = false) → (List.range n).find? p = some v
  | 0, v, h, _, _ => by omega
  | n + 1, v, h, hp, hl => by
    rw [List.range_succ, List.find?_append]
    by_cases e : v < n
    · rw [find_least e hp hl]; rfl
    · obtain rfl : v = n := by omega
      have : (List.range v).find? p = none := by
        rw [List.find?_eq_none]
        intro a ha; rw [hl a (by simpa using ha)]; decide
      rw [this]; simp [hp]
theorem cnt_more {ps : List Pa} (hn : ps.Nodup) {pp : List Nat} {b : Nat} (hb : b ∉ pp) (a : Nat) : cnt ps pp a = cnt ps (pp ++ [b]) a + if (a, b) ∈ ps then 1 else 0 := by
  unfold cnt
  refine filter_one (x := (a, b)) (p := fun p => decide (p.1 = a ∧ p.2 ∉ pp)) (q := fun p => decide (p.1 = a ∧ p.2 ∉ pp ++ [b])) (fun y => ?_) (by simpa using hb) hn
  simp only [decide_eq_true_eq, List.mem_append, List.mem_singleton, not_or]
  constructor
  · rintro ⟨h1, h2, h3⟩
    exact ⟨⟨h1, h2⟩, fun e => h3 (by rw [e])⟩
  · rintro ⟨⟨h1, h2⟩, h3⟩
    exact ⟨h1, h2, fun e => h3 (Prod.ext h1 e)⟩
theorem cnt_zero {ps : List Pa} {pp : List Nat} {a : Nat} : cnt ps pp a = 0 ↔ ∀ p ∈ ps, p.1 = a → p.2 ∈ pp := by
  unfold cnt
  rw [List.length_eq_zero_iff, List.filter_eq_nil_iff]
  constructor
  · intro h p hp e
    have := h p hp
    simp only [decide_eq_true_eq, not_and, Classical.not_not] at this
    exact this e
  · intro h p hp
    simp only [decide_eq_true_eq, not_and, Classical.not_not]
    exact h p hp
theorem mem_users {ps : List Pa} {a b : Nat} : a ∈ users ps b ↔ (a, b) ∈ ps := by
  unfold users
  rw [List.mem_map]
  constructor
  · rintro ⟨p, hp, rfl⟩
    rw [List.mem_filter] at hp
    have : p = (p.1, b) := Prod.ext rfl (by simpa using hp.2)
    rw [← this]; exact hp.1
  · intro h; exact ⟨(a, b), List.mem_filter.2 ⟨h, by simp⟩, rfl⟩
theorem users_nodup {ps : List Pa} (hn : ps.Nodup) (b : Nat) : (users ps b).Nodup := by
  unfold users
  refine (List.pairwise_map).2 ((hn.filter _).imp_of_mem fun h1 h2 h3 e => h3 ?_)
  rw [List.mem_filter] at h1 h2
  exact Prod.ext e ((by simpa using h1.2 : _ = b).trans (by simpa using h2.2 : _ = b).symm)
/-- The components with no unmet need that are not out yet. -/
def rdy (cs : List (List Nat)) (pp need : List Nat) : List (List Nat) := ((List.range cs.length).filter fun a => decide (a ∉ pp ∧ need.getD a 0 = 0)).map fun a => cs.getD a []
section
variable {g : G} {n : Nat} {cs : List (List Nat)} {of : Nat → Nat} {ps : List Pa}
/-- While the users of a component are looked at. -/
structure Rel (cs : List (List Nat)) (ps : List Pa) (pp u : List Nat) (s : List Nat × List (List Nat)) : Prop where
  len : s.1.length = cs.length
  need : ∀ a < cs.length, s.1.getD a 0 = cnt ps pp a + if a ∈ u then 1 else 0
  heap : Heap key s.2 s.2.length
  perm : s.2.Perm (rdy cs pp s.1)
theorem Rel.step {pp u : List Nat} {s : List Nat × List (List Nat)} {a : Nat} (h : Rel cs ps pp (a :: u) s) (ha : a < cs.length) (hp : a ∉ pp) (hu : a ∉ u) : Rel cs ps pp u (relax cs s a) := by
  have hna := h.need a ha
  rw [if_pos (by simp)] at hna
  have hset : ∀ x, (s.1.set a (s.1.getD a 0 - 1)).getD x 0 = if x = a then cnt ps pp a else s.1.getD x 0 := fun x => by
    rw [getD_set, h.len]
    by_cases e : x = a
    · subst e; rw [if_pos ⟨rfl, ha⟩, if_pos rfl]; omega
    · rw [if_neg (fun e' => e e'.1.symm), if_neg e]
  have hneed : ∀ x < cs.length, (s.1.set a (s.1.getD a 0 - 1)).getD x 0 = cnt ps pp x + if x ∈ u then 1 else 0 := fun x hx => by
    rw [hset]
    by_cases e : x = a
    · subst e; rw [if_pos rfl, if_neg hu]; rfl
    · rw [if_neg e, h.need x hx]; simp [e]
  unfold relax
  by_cases hz : s.1.getD a 0 - 1 = 0
  · rw [if_pos hz]
    obtain ⟨p1, p2⟩ := push_ok h.heap (cs.getD a [])
    refine ⟨by simp [h.len], hneed, p1, p2.trans ?_⟩
    have hfa : ((List.range cs.length).filter fun x => decide (x ∉ pp ∧ (s.1.set a (s.1.getD a 0 - 1)).getD x 0 = 0)).Perm (((List.range cs.length).filter fun x => decide (x ∉ pp ∧ s.1.getD x 0 = 0)) ++ [a]) := by
      refine filter_add List.nodup_range (by simpa using ha) (by simp only [decide_eq_false_iff_not, not_and]; intro _; omega) fun x => ?_
      simp only [decide_eq_true_eq, hset]
      by_cases e : x = a
      · subst e; simp only [if_true, or_true, iff_true]; exact ⟨hp, by omega⟩
      · simp [e]
    have := hfa.map fun x => cs.getD x []
    rw [List.map_append] at this
    exact (h.perm.append_right _).trans this.symm
  · rw [if_neg hz]
    refine ⟨by simp [h.len], hneed, h.heap, h.perm.trans ?_⟩
    unfold rdy
    have : ((List.range cs.length).filter fun x => decide (x ∉ pp ∧ s.1.getD x 0 = 0)) = ((List.range cs.length).filter fun x => decide (x ∉ pp ∧ (s.1.set a (s.1.getD a 0 - 1)).getD x 0 = 0)) := by
      refine List.filter_congr fun x _ => ?_
      rw [decide_eq_decide, hset]
      by_cases e : x = a
      · subst e; rw [if_pos rfl]
        exact ⟨fun h => by omega, fun h => by omega⟩
      · rw [if_neg e]
    rw [this]
theorem Rel.fold {pp : List Nat} : ∀ (u : List Nat) (s : List Nat × List (List Nat)), Rel cs ps pp u s → (∀ a ∈ u, a < cs.length ∧ a ∉ pp) → u.Nodup → Rel cs ps pp [] (u.foldl (relax cs) s)
  | [], s, h, _, _ => h
  | a :: u, s, h, hu, hn => Rel.fold u _ (h.step (hu a (by simp)).1 (hu a (by simp)).2 (List.nodup_cons.1 hn).1) (fun b hb => hu b (by simp [hb])) (List.nodup_cons.1 hn).2
/-- Before a component is taken. -/
structure KI (cs : List (List Nat)) (ps : List Pa) (pp need : List Nat) (h : List (List Nat)) : Prop where
  lt : ∀ a ∈ pp, a < cs.length
  nd : pp.Nodup
  closed : ∀ p ∈ ps, p.1 ∈ pp → p.2 ∈ pp
  rel : Rel cs ps pp [] (need, h)
theorem ready_iff {es : List Ed} (hes : ∀ e ∈ es, e.a < n ∧ e.b < n) (hP : Parts (next es) n cs of) (hps : ∀ p : Pa, p ∈ ps ↔ p.1 ≠ p.2 ∧ ∃ e ∈ es, of e.a = p.1 ∧ of e.b = p.2) {pp done : List Nat} (hcl : ∀ p ∈ ps, p.1 ∈ pp → p.2 ∈ pp) (hd : ∀ v, v ∈ done ↔ v < n ∧ of v ∈ pp) {a : Nat} (ha : a < n) :
    ready (next es) n done a = true ↔ of a ∉ pp ∧ cnt ps pp (of a) = 0 := by
  have hstep : ∀ v w, v < n → w ∈ next es v → w < n ∧ (of v = of w ∨ (of v, of w) ∈ ps) := fun v w hv hw => by
    obtain ⟨e, he, rfl, rfl⟩ := mem_next.1 hw
    refine ⟨(hes e he).2, ?_⟩
    by_cases h : of e.a = of e.b
    · exact Or.inl h
    · exact Or.inr ((hps _).2 ⟨h, e, he, rfl, rfl⟩)
  have hrd : ready (next es) n done a = true ↔ a ∉ done ∧ ∀ b < n, Dep (next es) a b → b ∈ done ∨ Eqv (next es) a b := by simp only [ready, decide_eq_true_eq]
  rw [hrd, cnt_zero]
  constructor
  · rintro ⟨h1, h2⟩
    refine ⟨fun h => h1 ((hd a).2 ⟨ha, h⟩), fun p hp e => ?_⟩
    obtain ⟨hne, ed, hed, h3, h4⟩ := (hps p).1 hp
    obtain ⟨l1, l2⟩ := hes ed hed
    have heq : Eqv (next es) a ed.a := (hP.same ha l1).1 (e.symm.trans h3.symm)
    have hdep : Dep (next es) a ed.b := by
      rcases reach_dep heq.1 with h | ⟨c, hc, hr⟩
      · exact ⟨ed.b, mem_next.2 ⟨ed, hed, h.symm, rfl⟩, Reach.refl⟩
      · exact ⟨c, hc, hr.snoc (mem_next.2 ⟨ed, hed, rfl, rfl⟩)⟩
    rcases h2 ed.b l2 hdep with h | h
    · rw [← h4]; exact ((hd _).1 h).2
    · exact absurd (e.trans (((hP.same ha l2).2 h).trans h4)) hne
  · rintro ⟨h1, h2⟩
    refine ⟨fun h => h1 ((hd a).1 h).2, fun b hb hdep => ?_⟩
    have key : ∀ v w, Reach (next es) v w → v < n → (of v = of a ∨ of v ∈ pp) → (of w = of a ∨ of w ∈ pp) := fun v w hr => by
      induction hr with
      | refl => exact fun _ h => h
      | @step x y w hy _ ih =>
        intro hx h
        obtain ⟨hyn, h3⟩ := hstep x y hx hy
        refine ih hyn ?_
        rcases h with h | h
        · rcases h3 with h3 | h3
          · exact Or.inl (h3.symm.trans h)
          · exact Or.inr (h2 _ h3 h)
        · rcases h3 with h3 | h3
          · exact Or.inr (h3 ▸ h)
          · exact Or.inr (hcl _ h3 h)
    rcases key a b hdep.reach ha (Or.inl rfl) with h | h
    · exact Or.inr ((hP.same ha hb).1 h.symm)
    · exact Or.inl ((hd b).2 ⟨hb, h⟩)
theorem head_least {c : List Nat} (h : c.Pairwise (· < ·)) {v : Nat} (hv : v ∈ c) : key c ∈ c ∧ key c ≤ v := by
  cases c with
  | nil => cases hv
  | cons x r =>
    refine ⟨by simp [key], ?_⟩
    rcases List.mem_cons.1 hv with rfl | hv
    · exact Nat.le_refl _
    · exact Nat.le_of_lt ((List.pairwise_cons.1 h).1 v hv)
theorem kahn_ord {es : List Ed} (hes : ∀ e ∈ es, e.a < n ∧ e.b < n) (hP : Parts (next es) n cs of) (hpn : ps.Nodup) (hps : ∀ p : Pa, p ∈ ps ↔ p.1 ≠ p.2 ∧ ∃ e ∈ es, of e.a = p.1 ∧ of e.b = p.2) :
    ∀ (f f' : Nat) (pp need done : List Nat) (h out : List (List Nat)), KI cs ps pp need h → (∀ v, v ∈ done ↔ v < n ∧ of v ∈ pp) → cs.length ≤ pp.length + f → cs.length ≤ pp.length + f' → kahn cs of ps f need h out = out ++ ord (next es) n f' done := by
  intro f
  induction f with
  | zero =>
    intro f' pp need done h out hk hd hf hf'
    have hall : ∀ a < cs.length, a ∈ pp := fun a ha => by
      have := hk.nd.length_le_of_subset (l₂ := List.range cs.length) (fun x hx => by simpa using hk.lt x hx)
      refine Classical.byContradiction fun hn => ?_
      have h2 : (a :: pp).Nodup := List.nodup_cons.2 ⟨hn, hk.nd⟩
      have := h2.length_le_of_subset (l₂ := List.range cs.length) (fun x hx => by
        rcases List.mem_cons.1 hx with rfl | hx
        · simpa using ha
        · simpa using hk.lt x hx)
      simp at this; omega
    have ho : ord (next es) n f' done = [] := by
      cases f' with
      | zero => rfl
      | succ f' =>
        unfold ord
        have : (List.range n).find? (ready (next es) n done) = none := by
          rw [List.find?_eq_none]
          intro a ha hr
          have := ((ready_iff hes hP hps hk.closed hd (by simpa using ha)).1 hr).1
          exact this (hall _ (hP.lt (by simpa using ha)))
        rw [this]
    rw [ho]; simp [kahn]
  | succ f ih =>
    intro f' pp need done h out hk hd hf hf'
    have hnd0 : ∀ a < cs.length, need.getD a 0 = cnt ps pp a := fun a ha => by
      have := hk.rel.need a ha
      rwa [if_neg (by simp), Nat.add_zero] at this
    unfold kahn
    cases hx : h[0]? with
    | none =>
      have h0 : h = [] := List.eq_nil_of_length_eq_zero (by have := List.getElem?_eq_none_iff.1 hx; omega)
      have ho : ord (next es) n f' done = [] := by
        cases f' with
        | zero => rfl
        | succ f' =>
          unfold ord
          have : (List.range n).find? (ready (next es) n done) = none := by
            rw [List.find?_eq_none]
            intro a ha hr
            have ha' : a < n := by simpa using ha
            obtain ⟨h1, h2⟩ := (ready_iff hes hP hps hk.closed hd ha').1 hr
            have hm : cs.getD (of a) [] ∈ rdy cs pp need := List.mem_map.2 ⟨of a, List.mem_filter.2 ⟨by simpa using hP.lt ha', by
              rw [decide_eq_true_eq]; exact ⟨h1, by rw [hnd0 _ (hP.lt ha')]; exact h2⟩⟩, rfl⟩
            have := hk.rel.perm.mem_iff.2 hm
            simp only [h0] at this; cases this
          rw [this]
      rw [ho]; simp
    | some x =>
      have hxm : x ∈ h := List.mem_of_getElem? hx
      obtain ⟨b, hb, hbx⟩ := List.mem_map.1 (hk.rel.perm.mem_iff.1 hxm)
      rw [List.mem_filter] at hb
      have hbl : b < cs.length := by simpa using hb.1
      have hbp : b ∉ pp ∧ need.getD b 0 = 0 := of_decide_eq_true hb.2
      have hcb : cs[b]? = some x := by
        rw [List.getElem?_eq_getElem hbl, ← hbx, List.getD_eq_getElem?_getD, List.getElem?_eq_getElem hbl]; rfl
      obtain ⟨hne, hsx, hmx⟩ := hP.comp b x hcb
      obtain ⟨v1, hv1⟩ : ∃ v, v ∈ x := by cases x with | nil => exact absurd rfl hne | cons v r => exact ⟨v, by simp⟩
      obtain ⟨hkx, _⟩ := head_least hsx hv1
      obtain ⟨hkn, hko, _⟩ := hmx (key x) hkx
      have hcz : cnt ps pp b = 0 := by rw [← hnd0 b hbl]; exact hbp.2
      obtain ⟨f'', rfl⟩ : ∃ k, f' = k + 1 := by
        refine ⟨f' - 1, ?_⟩
        have h2 : (b :: pp).Nodup := List.nodup_cons.2 ⟨hbp.1, hk.nd⟩
        have := h2.length_le_of_subset (l₂ := List.range cs.length) (fun y hy => by
          rcases List.mem_cons.1 hy with rfl | hy
          · simpa using hbl
          · simpa using hk.lt y hy)
        simp at this; omega
      have hpop := pop_ok hk.rel.heap hx
      have hfind : (List.range n).find? (ready (next es) n done) = some (key x) := by
        refine find_least hkn ((ready_iff hes hP hps hk.closed hd hkn).2 (by rw [hko]; exact ⟨hbp.1, hcz⟩)) fun a ha => ?_
        cases hr : ready (next es) n done a with
        | false => rfl
        | true =>
          exfalso
          have ha' : a < n := by omega
          obtain ⟨h1, h2⟩ := (ready_iff hes hP hps hk.closed hd ha').1 hr
          obtain ⟨c, hc, hac⟩ := hP.mem a ha'
          have hcg : cs.getD (of a) [] = c := by rw [List.getD_eq_getElem?_getD, hc]; rfl
          have hm : c ∈ h := hk.rel.perm.mem_iff.2 (by
            rw [← hcg]
            exact List.mem_map.2 ⟨of a, List.mem_filter.2 ⟨by simpa using hP.lt ha', by
              rw [decide_eq_true_eq]; exact ⟨h1, by rw [hnd0 _ (hP.lt ha')]; exact h2⟩⟩, rfl⟩)
          have h3 := hpop.2.2.2.2 c hm
          have h4 := (head_least (hP.comp _ c hc).2.1 hac).2
          omega
      have hcomp : compOf (next es) n (key x) = x := hP.compOf hkn (by rw [hko]; exact hcb)
      have hus : ∀ a ∈ users ps b, a < cs.length ∧ a ∉ pp ++ [b] := fun a ha => by
        have hm := mem_users.1 ha
        obtain ⟨h1, e, he, h2, h3⟩ := (hps _).1 hm
        refine ⟨by have := hP.lt (hes e he).1; rw [h2] at this; exact this, fun h => ?_⟩
        rcases List.mem_append.1 h with h | h
        · exact hbp.1 (hk.closed _ hm h)
        · exact h1 (by simpa using h)
      have hrel : Rel cs ps (pp ++ [b]) (users ps b) (need, pop key h) := by
        refine ⟨hk.rel.len, fun a ha => ?_, hpop.2.2.1, ?_⟩
        · have := hk.rel.need a ha
          simp only [List.not_mem_nil, if_false, Nat.add_zero] at this
          rw [this, cnt_more hpn hbp.1]
          simp only [mem_users]
        · have hfa : ((List.range cs.length).filter fun a => decide (a ∉ pp ∧ need.getD a 0 = 0)).Perm (((List.range cs.length).filter fun a => decide (a ∉ pp ++ [b] ∧ need.getD a 0 = 0)) ++ [b]) := by
            refine filter_add List.nodup_range (by simpa using hbl) (by simp) fun y => ?_
            simp only [decide_eq_true_eq, List.mem_append, List.mem_singleton, not_or]
            constructor
            · rintro ⟨h1, h2⟩
              by_cases e : y = b
              · exact Or.inr e
              · exact Or.inl ⟨⟨h1, e⟩, h2⟩
            · rintro (⟨⟨h1, _⟩, h2⟩ | rfl)
              · exact ⟨h1, h2⟩
              · exact hbp
          have h1 := hfa.map fun a => cs.getD a []
          rw [List.map_append, List.map_singleton, hbx] at h1
          have h2 : (x :: pop key h).Perm (x :: rdy cs (pp ++ [b]) need) := (hpop.2.2.2.1.trans hk.rel.perm).trans (h1.trans (List.perm_append_singleton _ _))
          exact h2.cons_inv
      have hK : KI cs ps (pp ++ [b]) ((users ps b).foldl (relax cs) (need, pop key h)).1 ((users ps b).foldl (relax cs) (need, pop key h)).2 := by
        refine ⟨fun a ha => ?_, ?_, fun p hp h1 => ?_, hrel.fold _ _ hus (users_nodup hpn b)⟩
        · rcases List.mem_append.1 ha with h | h
          · exact hk.lt a h
          · simp at h; subst h; exact hbl
        · rw [List.nodup_append]
          exact ⟨hk.nd, by simp, fun a ha c hc e => by simp at hc; subst e; subst hc; exact hbp.1 ha⟩
        · rw [List.mem_append] at h1 ⊢
          rcases h1 with h1 | h1
          · exact Or.inl (hk.closed p hp h1)
          · exact Or.inl (cnt_zero.1 hcz p hp (by simpa using h1))
      simp only [hko]
      rw [ih f'' (pp ++ [b]) _ (done ++ x) _ (out ++ [x]) hK (fun v => ?_) (by simp; omega) (by simp; omega)]
      · conv => rhs; unfold ord
        rw [hfind]
        simp only [hcomp]
        rw [List.append_assoc]; rfl
      · rw [List.mem_append, hd]
        rw [List.mem_append]
        constructor
        · rintro (⟨h1, h2⟩ | h1)
          · exact ⟨h1, Or.inl h2⟩
          · exact ⟨(hmx v h1).1, Or.inr (by simp [(hmx v h1).2.1])⟩
        · rintro ⟨h1, h2 | h2⟩
          · exact Or.inl ⟨h1, h2⟩
          · right
            simp at h2
            obtain ⟨c, hc, hm⟩ := hP.mem v h1
            rw [h2, hcb] at hc
            obtain rfl := Option.some.inj hc
            exact hm
end
end Tj
end Go.Proofs.Ytljlihimmcmlmaa
set_option linter.unusedVariables false
set_option linter.unusedSimpArgs false
namespace Go.Proofs.Ytljlihimmcmlmaa
namespace Tj
abbrev Mx := List (List Bool)
def mget (M : Mx) (a b : Nat) : Bool := (M.getD a []).getD b false
def mset (M : Mx) (a b : Nat) (x : Bool) : Mx := M.set a ((M.getD a []).set b x)
/-- n rows of n. -/
structure Sq (n : Nat) (M : Mx) : Prop where
  rows : M.length = n
  cols : ∀ r ∈ M, r.length = n
theorem Sq.row {n : Nat} {M : Mx} (h : Sq n M) {a : Nat} (ha : a < n) : (M.getD a []).length = n := by
  rw [List.getD_eq_getElem?_getD, List.getElem?_eq_getElem (by rw [h.rows]; exact ha)]
  exact h.cols _ (List.getElem_mem _)
theorem Sq.set {n : Nat} {M : Mx} (h : Sq n M) {a b : Nat} (ha : a < n) (x : Bool) : Sq n (mset M a b x) := by
  refine ⟨by unfold mset; rw [List.length_set]; exact h.rows, fun r hr => ?_⟩
  unfold mset at hr
  rcases List.mem_or_eq_of_mem_set hr with hr | rfl
  · exact h.cols r hr
  · rw [List.length_set]; exact h.row ha
theorem mget_mset {n : Nat} {M : Mx} (h : Sq n M) {a b : Nat} (ha : a < n) (hb : b < n) (x : Bool) (a' b' : Nat) : mget (mset M a b x) a' b' = if a' = a ∧ b' = b then x else mget M a' b' := by
  unfold mget mset
  rw [getD_set]
  by_cases e : a = a'
  · subst e
    rw [if_pos ⟨rfl, by rw [h.rows]; exact ha⟩, getD_set]
    by_cases e2 : b = b'
    · subst e2; rw [if_pos ⟨rfl, by rw [h.row ha]; exact hb⟩, if_pos ⟨rfl, rfl⟩]
    · rw [if_neg (fun e' => e2 e'.1), if_neg (fun e' => e2 e'.2.symm)]
  · rw [if_neg (fun e' => e e'.1), if_neg (fun e' => e e'.1.symm)]
def mzero (n : Nat) : Mx := List.replicate n (List.replicate n false)
theorem sq_zero (n : Nat) : Sq n (mzero n) := ⟨by simp [mzero], fun r hr => by simp [mzero] at hr; rw [hr.2]; simp⟩
theorem mget_zero (n a b : Nat) : mget (mzero n) a b = false := by
  unfold mget mzero
  rw [List.getD_eq_getElem?_getD (i := a), List.getElem?_replicate]
  split
  · simp only [Option.getD_some]
    rw [List.getD_eq_getElem?_getD, List.getElem?_replicate]; split <;> rfl
  · simp
def medges (n : Nat) (es : List Ed) : Mx := es.foldl (fun M e => mset M e.a e.b true) (mzero n)
def wb (k a : Nat) (M : Mx) (b : Nat) : Mx := mset M a b (mget M a b || (mget M a k && mget M k b))
def wa (n k : Nat) (M : Mx) (a : Nat) : Mx := (List.range n).foldl (wb k a) M
def wk (n : Nat) (M : Mx) (k : Nat) : Mx := (List.range n).foldl (wa n k) M
def depends (n : Nat) (es : List Ed) : Mx := (List.range n).foldl (wk n) (medges n es)
/-- A path whose nodes on the way are below k. -/
inductive Path (g : G) (k : Nat) : Nat → Nat → Prop
  | one {a b : Nat} : b ∈ g a → Path g k a b
  | cons {a c b : Nat} : c ∈ g a → c < k → Path g k c b → Path g k a b
theorem path_more {g : G} {k a b : Nat} (h : Path g (k + 1) a b) : Path g k a b ∨ Path g k a k ∧ Path g k k b := by
  induction h with
  | one h => exact Or.inl (Path.one h)
  | @cons a c b h1 h2 _ ih =>
    by_cases e : c = k
    · subst e
      refine Or.inr ⟨Path.one h1, ?_⟩
      rcases ih with h | h
      · exact h
      · exact h.2
    · rcases ih with h | h
      · exact Or.inl (Path.cons h1 (by omega) h)
      · exact Or.inr ⟨Path.cons h1 (by omega) h.1, h.2⟩
theorem path_of {g : G} {n : Nat} (hg : ∀ a < n, ∀ b ∈ g a, b < n) {a b : Nat} (ha : a < n) (h : Dep g a b) : Path g n a b := by
  obtain ⟨c, hc, hr⟩ := h
  have key : ∀ c b, Reach g c b → ∀ a, a < n → c ∈ g a → Path g n a b := fun c b hr => by
    induction hr with
    | refl => exact fun a _ h => Path.one h
    | @step c d b hd _ ih => exact fun a ha h => Path.cons h (hg a ha c h) (ih c (hg a ha c h) hd)
  exact key c b hr a ha hc
theorem Dep.trans {g : G} {a b c : Nat} (h : Dep g a b) (k : Dep g b c) : Dep g a c := by
  obtain ⟨x, hx, hr⟩ := h
  exact ⟨x, hx, hr.trans k.reach⟩
/-- What holds on the way: a square, true where M was, true for dependences alone. -/
structure War (g : G) (n : Nat) (M M' : Mx) : Prop where
  sq : Sq n M'
  up : ∀ a b, mget M a b = true → mget M' a b = true
  ok : ∀ a b, a < n → b < n → mget M' a b = true → Dep g a b
theorem War.trans {g : G} {n : Nat} {A B C : Mx} (h : War g n A B) (k : War g n B C) : War g n A C := ⟨k.sq, fun a b e => k.up a b (h.up a b e), k.ok⟩
theorem wb_war {g : G} {n : Nat} {A M : Mx} (h : War g n A M) {k a b : Nat} (hk : k < n) (ha : a < n) (hb : b < n) : War g n A (wb k a M b) ∧ (mget M a k = true → mget M k b = true → mget (wb k a M b) a b = true) := by
  have hm := mget_mset h.sq ha hb (mget M a b || (mget M a k && mget M k b))
  refine ⟨⟨h.sq.set ha _, fun x y e => ?_, fun x y hx hy e => ?_⟩, fun h1 h2 => ?_⟩
  · have := h.up x y e
    unfold wb; rw [hm]
    split
    · rename_i hc; rw [← hc.1, ← hc.2, this]; rfl
    · exact this
  · unfold wb at e; rw [hm] at e
    split at e
    · rename_i hc
      rw [Bool.or_eq_true, Bool.and_eq_true] at e
      rw [hc.1, hc.2]
      rcases e with e | ⟨e1, e2⟩
      · exact h.ok a b ha hb e
      · exact (h.ok a k ha hk e1).trans (h.ok k b hk hb e2)
    · exact h.ok x y hx hy e
  · unfold wb; rw [hm, if_pos ⟨rfl, rfl⟩, h1, h2]; simp
theorem wa_war {g : G} {n : Nat} {A M : Mx} (h : War g n A M) {k a : Nat} (hk : k < n) (ha : a < n) : War g n A (wa n k M a) ∧ ∀ b < n, mget A a k = true → mget A k b = true → mget (wa n k M a) a b = true := by
  have key : ∀ (l : List Nat) (M : Mx), (∀ b ∈ l, b < n) → War g n A M → War g n A (l.foldl (wb k a) M) ∧ (∀ x y, mget M x y = true → mget (l.foldl (wb k a) M) x y = true) ∧ ∀ b ∈ l, mget A a k = true → mget A k b = true → mget (l.foldl (wb k a) M) a b = true := by
    intro l
    induction l with
    | nil => exact fun M _ h => ⟨h, fun x y e => e, fun b hb => by cases hb⟩
    | cons b l ih =>
      intro M hl h
      obtain ⟨h1, h2⟩ := wb_war h (b := b) hk ha (hl b (by simp))
      obtain ⟨i1, i2, i3⟩ := ih (wb k a M b) (fun c hc => hl c (by simp [hc])) h1
      have hmono : ∀ x y, mget M x y = true → mget (wb k a M b) x y = true := fun x y e => by
        have hm := mget_mset h.sq ha (hl b (by simp)) (mget M a b || (mget M a k && mget M k b)) x y
        unfold wb; rw [hm]
        split
        · rename_i hc; rw [← hc.1, ← hc.2, e]; rfl
        · exact e
      refine ⟨i1, fun x y e => i2 x y (hmono x y e), fun c hc e1 e2 => ?_⟩
      rcases List.mem_cons.1 hc with rfl | hc
      · exact i2 a c (h2 (h.up a k e1) (h.up k c e2))
      · exact i3 c hc e1 e2
  obtain ⟨h1, _, h3⟩ := key (List.range n) M (fun b hb => by simpa using hb) h
  exact ⟨h1, fun b hb => h3 b (by simpa using hb)⟩
theorem wk_war {g : G} {n : Nat} {A M : Mx} (h : War g n A M) {k : Nat} (hk : k < n) : War g n M (wk n M k) ∧ ∀ a < n, ∀ b < n, mget M a k = true → mget M k b = true → mget (wk n M k) a b = true := by
  have key : ∀ (l : List Nat) (N : Mx), (∀ b ∈ l, b < n) → War g n M N → War g n M (l.foldl (wa n k) N) ∧ (∀ x y, mget N x y = true → mget (l.foldl (wa n k) N) x y = true) ∧ ∀ a ∈ l, ∀ b < n, mget M a k = true → mget M k b = true → mget (l.foldl (wa n k) N) a b = true := by
    intro l
    induction l with
    | nil => exact fun N _ h => ⟨h, fun x y e => e, fun b hb => by cases hb⟩
    | cons a l ih =>
      intro N hl h
      obtain ⟨h1, h2⟩ := wa_war h (a := a) hk (hl a (by simp))
      obtain ⟨h1', _⟩ := wa_war (A := N) (M := N) (g := g) ⟨h.sq, fun _ _ e => e, h.ok⟩ (a := a) hk (hl a (by simp))
      obtain ⟨i1, i2, i3⟩ := ih (wa n k N a) (fun c hc => hl c (by simp [hc])) h1
      refine ⟨i1, fun x y e => i2 x y (h1'.up x y e), fun c hc b hb e1 e2 => ?_⟩
      rcases List.mem_cons.1 hc with rfl | hc
      · exact i2 c b (h2 b hb e1 e2)
      · exact i3 c hc b hb e1 e2
  obtain ⟨h1, _, h3⟩ := key (List.range n) M (fun b hb => by simpa using hb) ⟨h.sq, fun _ _ e => e, h.ok⟩
  exact ⟨h1, fun a ha b hb => h3 a (by simpa using ha) b hb⟩
/-- The matrix says which node depends on which. -/
theorem depends_iff {n : Nat} {es : List Ed} (hes : ∀ e ∈ es, e.a < n ∧ e.b < n) : Sq n (depends n es) ∧ ∀ a b, a < n → b < n → (mget (depends n es) a b = true ↔ Dep (next es) a b) := by
  have hg : ∀ a < n, ∀ b ∈ next es a, b < n := fun a _ b hb => by
    obtain ⟨e, he, _, rfl⟩ := mem_next.1 hb; exact (hes e he).2
  have hed : ∀ (l : List Ed) (M : Mx), (∀ e ∈ l, e ∈ es) → Sq n M → (∀ a b, a < n → b < n → mget M a b = true → Dep (next es) a b) → Sq n (l.foldl (fun M e => mset M e.a e.b true) M) ∧ (∀ a b, a < n → b < n → mget (l.foldl (fun M e => mset M e.a e.b true) M) a b = true → Dep (next es) a b) ∧ (∀ x y, mget M x y = true → mget (l.foldl (fun M e => mset M e.a e.b true) M) x y = true) ∧ ∀ e ∈ l, mget (l.foldl (fun M e => mset M e.a e.b true) M) e.a e.b = true := by
    intro l
    induction l with
    | nil => exact fun M _ h1 h2 => ⟨h1, h2, fun x y e => e, fun e he => by cases he⟩
    | cons e l ih =>
      intro M hl h1 h2
      obtain ⟨ha, hb⟩ := hes e (hl e (by simp))
      have hm := mget_mset h1 ha hb true
      obtain ⟨i1, i2, i3, i4⟩ := ih (mset M e.a e.b true) (fun x hx => hl x (by simp [hx])) (h1.set ha _) (fun a b ha' hb' h => by
        rw [hm] at h
        split at h
        · rename_i hc
          rw [hc.1, hc.2]
          exact ⟨e.b, mem_next.2 ⟨e, hl e (by simp), rfl, rfl⟩, Reach.refl⟩
        · exact h2 a b ha' hb' h)
      refine ⟨i1, i2, fun x y h => i3 x y (by rw [hm]; split <;> first | rfl | exact h), fun x hx => ?_⟩
      rcases List.mem_cons.1 hx with rfl | hx
      · exact i3 _ _ (by rw [hm, if_pos ⟨rfl, rfl⟩])
      · exact i4 x hx
  obtain ⟨m1, m2, _, m4⟩ := hed es (mzero n) (fun e he => he) (sq_zero n) (fun a b _ _ h => by rw [mget_zero] at h; cases h)
  have key : ∀ K, K ≤ n → Sq n ((List.range K).foldl (wk n) (medges n es)) ∧ (∀ a b, a < n → b < n → mget ((List.range K).foldl (wk n) (medges n es)) a b = true → Dep (next es) a b) ∧ ∀ a b, a < n → b < n → Path (next es) K a b → mget ((List.range K).foldl (wk n) (medges n es)) a b = true := by
    intro K
    induction K with
    | zero =>
      intro _
      refine ⟨m1, m2, fun a b ha hb h => ?_⟩
      cases h with
      | one h =>
        obtain ⟨e, he, rfl, rfl⟩ := mem_next.1 h
        exact m4 e he
      | cons _ h _ => omega
    | succ K ih =>
      intro hK
      obtain ⟨i1, i2, i3⟩ := ih (by omega)
      rw [List.range_succ, List.foldl_append]
      obtain ⟨w1, w2⟩ := wk_war (A := (List.range K).foldl (wk n) (medges n es)) (g := next es) ⟨i1, fun _ _ e => e, i2⟩ (k := K) (by omega)
      refine ⟨w1.sq, w1.ok, fun a b ha hb h => ?_⟩
      rcases path_more h with h | ⟨h1, h2⟩
      · exact w1.up a b (i3 a b ha hb h)
      · exact w2 a ha b hb (i3 a K ha (by omega) h1) (i3 K b (by omega) hb h2)
  obtain ⟨k1, k2, k3⟩ := key n (Nat.le_refl n)
  exact ⟨k1, fun a b ha hb => ⟨k2 a b ha hb, fun h => k3 a b ha hb (path_of hg ha h)⟩⟩
end Tj
end Go.Proofs.Ytljlihimmcmlmaa
set_option linter.unusedVariables false
set_option linter.unusedSimpArgs false
namespace Go.Proofs.Ytljlihimmcmlmaa
namespace Tj
def tog (M : Mx) (a b : Nat) : Bool := decide (a = b) || (mget M a b && mget M b a)
def rrdy (n : Nat) (M : Mx) (dn : List Bool) (a : Nat) : Bool := !dn.getD a false && (List.range n).all fun b => !mget M a b || dn.getD b false || tog M a b
def rcomp (n : Nat) (M : Mx) (a : Nat) : List Nat := (List.range n).filter (tog M a)
def rcomps (n : Nat) (M : Mx) : Nat → List Bool → List (List Nat)
  | 0, _ => []
  | f + 1, dn => match (List.range n).find? (rrdy n M dn) with
    | none => []
    | some a => rcomp n M a :: rcomps n M f (sets dn true (rcomp n M a))
theorem tog_iff {n : Nat} {es : List Ed} {M : Mx} (hM : ∀ a b, a < n → b < n → (mget M a b = true ↔ Dep (next es) a b)) {a b : Nat} (ha : a < n) (hb : b < n) : tog M a b = true ↔ Eqv (next es) a b := by
  unfold tog
  rw [Bool.or_eq_true, Bool.and_eq_true, decide_eq_true_eq, hM a b ha hb, hM b a hb ha, eqv_iff]
theorem rcomp_eq {n : Nat} {es : List Ed} {M : Mx} (hM : ∀ a b, a < n → b < n → (mget M a b = true ↔ Dep (next es) a b)) {a : Nat} (ha : a < n) : rcomp n M a = compOf (next es) n a := by
  unfold rcomp compOf
  refine List.filter_congr fun b hb => ?_
  rw [Bool.eq_iff_iff, tog_iff hM ha (by simpa using hb)]
  simp only [decide_eq_true_eq]
theorem rrdy_eq {n : Nat} {es : List Ed} {M : Mx} (hM : ∀ a b, a < n → b < n → (mget M a b = true ↔ Dep (next es) a b)) {dn : List Bool} {done : List Nat} (hd : ∀ b < n, (dn.getD b false = true ↔ b ∈ done)) {a : Nat} (ha : a < n) : rrdy n M dn a = ready (next es) n done a := by
  have hr : ready (next es) n done a = true ↔ a ∉ done ∧ ∀ b < n, Dep (next es) a b → b ∈ done ∨ Eqv (next es) a b := by simp only [ready, decide_eq_true_eq]
  rw [Bool.eq_iff_iff, hr]
  unfold rrdy
  rw [Bool.and_eq_true, List.all_eq_true]
  refine and_congr ?_ ?_
  · rw [Bool.not_eq_true', ← Bool.not_eq_true, hd a ha]
  · constructor
    · intro h b hb hdep
      have := h b (by simpa using hb)
      rw [Bool.or_eq_true, Bool.or_eq_true, hd b hb, tog_iff hM ha hb, (hM a b ha hb).2 hdep] at this
      simpa using this
    · intro h b hb
      have hb' : b < n := by simpa using hb
      rw [Bool.or_eq_true, Bool.or_eq_true, hd b hb', tog_iff hM ha hb']
      cases hm : mget M a b with
      | false => exact Or.inl (Or.inl rfl)
      | true =>
        rcases h b hb' ((hM a b ha hb').1 hm) with h | h
        · exact Or.inl (Or.inr h)
        · exact Or.inr h
theorem find_congr {α : Type} {p q : α → Bool} : ∀ {l : List α}, (∀ x ∈ l, p x = q x) → l.find? p = l.find? q
  | [], _ => rfl
  | x :: l, h => by
    rw [List.find?_cons, List.find?_cons, h x (by simp), find_congr fun y hy => h y (by simp [hy])]
theorem rcomps_ord {n : Nat} {es : List Ed} {M : Mx} (hM : ∀ a b, a < n → b < n → (mget M a b = true ↔ Dep (next es) a b)) : ∀ (f : Nat) (dn : List Bool) (done : List Nat), dn.length = n → (∀ b < n, (dn.getD b false = true ↔ b ∈ done)) → rcomps n M f dn = ord (next es) n f done
  | 0, _, _, _, _ => rfl
  | f + 1, dn, done, hl, hd => by
    unfold rcomps ord
    rw [find_congr (fun a ha => rrdy_eq hM hd (by simpa using ha))]
    cases hf : (List.range n).find? (ready (next es) n done) with
    | none => rfl
    | some a =>
      have ha : a < n := by simpa using List.mem_of_find?_eq_some hf
      simp only
      rw [rcomp_eq hM ha, rcomps_ord hM f (sets dn true (compOf (next es) n a)) (done ++ compOf (next es) n a) (by rw [sets_len, hl]) fun b hb => ?_]
      rw [sets_getD, hl, List.mem_append, ← hd b hb]
      by_cases h : b ∈ compOf (next es) n a
      · rw [if_pos ⟨h, hb⟩]; simp [h]
      · rw [if_neg (fun e => h e.1)]; simp [h]
end Tj
end Go.Proofs.Ytljlihimmcmlmaa
