/- The order of the components, said row by row: each row is the class of the least node that is ready, and every node comes; no program in sight. -/
import Derived.Test.YtljlihimmcmlmaaTRCm
set_option linter.unusedVariables false
set_option linter.unusedSimpArgs false
namespace Go.Proofs.Ytljlihimmcmlmaa
namespace Tj
section
variable {g : G} {n : Nat}
theorem mem_compOf {a b : Nat} : b ∈ compOf g n a ↔ b < n ∧ Eqv g a b := by
  unfold compOf
  rw [List.mem_filter]
  simp
theorem ready_eq {done : List Nat} {a : Nat} : ready g n done a = true ↔ a ∉ done ∧ ∀ b < n, Dep g a b → b ∈ done ∨ Eqv g a b := by
  unfold ready
  simp only [decide_eq_true_eq]
open Classical in
/-- How many nodes a node reaches. -/
noncomputable def wide (g : G) (n v : Nat) : Nat := ((List.range n).filter fun u => decide (Reach g v u)).length
theorem wide_le {v b : Nat} (h : Reach g v b) : wide g n b ≤ wide g n v := by
  classical
  exact (filter_less (p := fun u => decide (Reach g b u)) (q := fun u => decide (Reach g v u)) (List.range n) (fun x hx => by
    simp only [decide_eq_true_eq] at hx ⊢
    exact h.trans hx)).1
theorem wide_lt {v b : Nat} (hv : v < n) (h : Reach g v b) (hn : ¬ Reach g b v) : wide g n b < wide g n v := by
  classical
  refine (filter_less (p := fun u => decide (Reach g b u)) (q := fun u => decide (Reach g v u)) (List.range n) (fun x hx => by
    simp only [decide_eq_true_eq] at hx ⊢
    exact h.trans hx)).2 ⟨v, List.mem_range.2 hv, ?_, ?_⟩
  · simp only [decide_eq_true_eq]
    exact Reach.refl
  · simp only [decide_eq_false_iff_not]
    exact hn
theorem wide_n (v : Nat) : wide g n v ≤ n := by
  unfold wide
  have := List.length_filter_le (fun u => @decide (Reach g v u) (Classical.propDecidable _)) (List.range n)
  rw [List.length_range] at this
  exact this
theorem ready_some (done : List Nat) : ∀ (m v : Nat), wide g n v ≤ m → v < n → v ∉ done → ∃ a, a < n ∧ ready g n done a = true := by
  intro m
  induction m with
  | zero =>
    intro v hm hv hd
    refine ⟨v, hv, ready_eq.2 ⟨hd, fun b hb hr => ?_⟩⟩
    by_cases h : Reach g b v
    · exact Or.inr ⟨hr.reach, h⟩
    · have := wide_lt hv hr.reach h
      omega
  | succ m ih =>
    intro v hm hv hd
    by_cases hex : ∃ b, b < n ∧ Dep g v b ∧ b ∉ done ∧ ¬ Reach g b v
    · obtain ⟨b, hb, hr, hbd, hnr⟩ := hex
      exact ih b (by have := wide_lt hv hr.reach hnr; omega) hb hbd
    · refine ⟨v, hv, ready_eq.2 ⟨hd, fun b hb hr => ?_⟩⟩
      by_cases h1 : b ∈ done
      · exact Or.inl h1
      · refine Or.inr ⟨hr.reach, ?_⟩
        by_cases h2 : Reach g b v
        · exact h2
        · exact absurd ⟨b, hb, hr, h1, h2⟩ hex
/-- Row i is the class of the least node that is ready behind the rows before. -/
def RowOk (g : G) (n : Nat) (L : List (List Nat)) (i : Nat) (c : List Nat) : Prop := ∃ a, a < n ∧ c = compOf g n a ∧ ready g n (L.take i).flatten a = true ∧ ∀ b < a, ready g n (L.take i).flatten b = false
structure Lay (g : G) (n : Nat) (L : List (List Nat)) : Prop where
  row : ∀ (i : Nat) (c : List Nat), L[i]? = some c → RowOk g n L i c
  all : ∀ v < n, v ∈ L.flatten
theorem ord_lay : ∀ (f : Nat) (D : List (List Nat)), (∀ (i : Nat) (c : List Nat), D[i]? = some c → RowOk g n D i c) → ((List.range n).filter fun v => decide (v ∉ D.flatten)).length ≤ f → Lay g n (D ++ ord g n f D.flatten)
  | 0, D, hD, hf => by
    unfold ord
    rw [List.append_nil]
    refine ⟨hD, fun v hv => ?_⟩
    by_cases h : v ∈ D.flatten
    · exact h
    · have h0 : ((List.range n).filter fun v => decide (v ∉ D.flatten)) = [] := List.eq_nil_of_length_eq_zero (by omega)
      have : v ∈ ((List.range n).filter fun v => decide (v ∉ D.flatten)) := List.mem_filter.2 ⟨List.mem_range.2 hv, by simpa using h⟩
      rw [h0] at this
      cases this
  | f + 1, D, hD, hf => by
    unfold ord
    cases hq : (List.range n).find? (ready g n D.flatten) with
    | none =>
      dsimp only
      rw [List.append_nil]
      refine ⟨hD, fun v hv => ?_⟩
      by_cases h : v ∈ D.flatten
      · exact h
      · obtain ⟨a, ha, hr⟩ := ready_some D.flatten _ v (Nat.le_refl _) hv h
        have := List.find?_eq_none.1 hq a (List.mem_range.2 ha)
        exact absurd hr this
    | some a =>
      dsimp only
      obtain ⟨ha, han, hl⟩ := List.find?_range_eq_some.1 hq
      have han : a < n := List.mem_range.1 han
      have e : D ++ compOf g n a :: ord g n f (D.flatten ++ compOf g n a) = (D ++ [compOf g n a]) ++ ord g n f (D ++ [compOf g n a]).flatten := by simp
      rw [e]
      refine ord_lay f _ (fun i c hc => ?_) ?_
      · rcases Nat.lt_trichotomy i D.length with h | h | h
        · rw [List.getElem?_append_left h] at hc
          obtain ⟨b, h1, h2, h3, h4⟩ := hD i c hc
          refine ⟨b, h1, h2, ?_, ?_⟩ <;> rw [List.take_append_of_le_length (by omega)] <;> assumption
        · subst h
          have : c = compOf g n a := by simpa using hc.symm
          subst this
          refine ⟨a, han, rfl, ?_, ?_⟩ <;> rw [List.take_left' rfl]
          · exact ha
          · intro b hb; have := hl b hb; simpa using this
        · rw [List.getElem?_eq_none (by simp; omega)] at hc; cases hc
      · refine Nat.le_of_lt_succ (Nat.lt_of_lt_of_le ?_ hf)
        refine (filter_less (p := fun v => decide (v ∉ (D ++ [compOf g n a]).flatten)) (q := fun v => decide (v ∉ D.flatten)) (List.range n) (fun x hx => ?_)).2 ⟨a, List.mem_range.2 han, ?_, ?_⟩
        · simp only [decide_eq_true_eq] at hx ⊢
          intro h; exact hx (by simp [h])
        · simpa using (ready_eq.1 ha).1
        · simp only [decide_eq_false_iff_not, Classical.not_not]
          simp [mem_compOf, han, Eqv.refl]
theorem ord_lay0 : Lay g n (ord g n n []) := by
  have := ord_lay (g := g) (n := n) n [] (fun i c h => by simp at h) (by
    refine Nat.le_trans (List.length_filter_le _ _) ?_
    rw [List.length_range]
    exact Nat.le_refl n)
  simpa using this
variable {L : List (List Nat)}
theorem Lay.mem (h : Lay g n L) {i : Nat} {c : List Nat} (hc : L[i]? = some c) {v : Nat} (hv : v ∈ c) : v < n ∧ ∀ u, u ∈ c ↔ u < n ∧ Eqv g v u := by
  obtain ⟨a, ha, rfl, _⟩ := h.row i c hc
  rw [mem_compOf] at hv
  refine ⟨hv.1, fun u => ?_⟩
  rw [mem_compOf]
  exact and_congr_right fun _ => ⟨fun e => hv.2.symm.trans e, fun e => hv.2.trans e⟩
theorem Lay.sorted (h : Lay g n L) {i : Nat} {c : List Nat} (hc : L[i]? = some c) : c ≠ [] ∧ c.Pairwise (· < ·) := by
  obtain ⟨a, ha, rfl, _⟩ := h.row i c hc
  refine ⟨fun e => ?_, compOf_sorted _ _ _⟩
  have : a ∈ compOf g n a := mem_compOf.2 ⟨ha, Eqv.refl⟩
  rw [e] at this
  cases this
theorem Lay.lt (h : Lay g n L) {i j : Nat} {c d : List Nat} (hc : L[i]? = some c) (hd : L[j]? = some d) (hij : i < j) {v : Nat} (hv : v ∈ c) : v ∉ d := fun hvd => by
  obtain ⟨a, ha, rfl, hr, _⟩ := h.row j d hd
  have h1 := (ready_eq.1 hr).1
  have h2 := (mem_compOf.1 hvd).2
  have h3 : a ∈ c := ((h.mem hc hv).2 a).2 ⟨ha, h2.symm⟩
  exact h1 (List.mem_flatten.2 ⟨c, List.mem_iff_getElem?.2 ⟨i, by rw [List.getElem?_take, if_pos hij]; exact hc⟩, h3⟩)
theorem Lay.uniq (h : Lay g n L) {i j : Nat} {c d : List Nat} (hc : L[i]? = some c) (hd : L[j]? = some d) {v : Nat} (hv : v ∈ c) (hvd : v ∈ d) : i = j := by
  rcases Nat.lt_trichotomy i j with e | e | e
  · exact absurd hvd (h.lt hc hd e hv)
  · exact e
  · exact absurd hv (h.lt hd hc e hvd)
/-- The row of a node. -/
def rowOf (L : List (List Nat)) (v : Nat) : Nat := L.findIdx fun c => c.contains v
theorem Lay.rowOf (h : Lay g n L) {v : Nat} (hv : v < n) : ∃ c, L[rowOf L v]? = some c ∧ v ∈ c := by
  obtain ⟨c, hc, hvc⟩ := List.mem_flatten.1 (h.all v hv)
  have h1 : Tj.rowOf L v < L.length := List.findIdx_lt_length.2 ⟨c, hc, by simpa using hvc⟩
  refine ⟨L[Tj.rowOf L v], List.getElem?_eq_getElem h1, ?_⟩
  have := List.findIdx_getElem (w := h1)
  exact List.contains_iff_mem.1 this
theorem Lay.rowOf_eq (h : Lay g n L) {v i : Nat} {c : List Nat} (hc : L[i]? = some c) (hv : v ∈ c) : Tj.rowOf L v = i := by
  obtain ⟨d, hd, hvd⟩ := h.rowOf (h.mem hc hv).1
  exact h.uniq hd hc hvd hv
theorem Lay.same (h : Lay g n L) {u v : Nat} (hu : u < n) (hv : v < n) : Tj.rowOf L u = Tj.rowOf L v ↔ Eqv g u v := by
  obtain ⟨c, hc, huc⟩ := h.rowOf hu
  obtain ⟨d, hd, hvd⟩ := h.rowOf hv
  constructor
  · intro e
    rw [e, hd] at hc
    obtain rfl := Option.some.inj hc
    exact (((h.mem hd huc).2 v).1 hvd).2
  · intro e
    exact (h.rowOf_eq hc (((h.mem hc huc).2 v).2 ⟨hv, e⟩)).symm
theorem Lay.down (h : Lay g n L) {u v : Nat} (hu : u < n) (hv : v < n) (hd : Dep g u v) : Tj.rowOf L v ≤ Tj.rowOf L u := by
  obtain ⟨c, hc, huc⟩ := h.rowOf hu
  obtain ⟨a, ha, rfl, hr, _⟩ := h.row _ c hc
  have hau := (mem_compOf.1 huc).2
  have hdv : Dep g a v := by
    rcases reach_dep hau.1 with e | e
    · rw [e]; exact hd
    · exact e.trans hd
  rcases (ready_eq.1 hr).2 v hv hdv with h1 | h1
  · obtain ⟨d, hd1, hvd⟩ := List.mem_flatten.1 h1
    obtain ⟨j, hj⟩ := List.mem_iff_getElem?.1 hd1
    rw [List.getElem?_take] at hj
    split at hj
    · rename_i hlt
      rw [h.rowOf_eq hj hvd]
      omega
    · cases hj
  · rw [(h.same hu hv).2 (hau.symm.trans h1)]
    exact Nat.le_refl _
theorem Lay.closed (h : Lay g n L) {i a b : Nat} (hb : b < n) (ha : a ∈ (L.take i).flatten) (e : Eqv g a b) : b ∈ (L.take i).flatten := by
  obtain ⟨d, hd1, had⟩ := List.mem_flatten.1 ha
  obtain ⟨j, hj⟩ := List.mem_iff_getElem?.1 hd1
  have hj' := hj
  rw [List.getElem?_take] at hj
  split at hj
  · exact List.mem_flatten.2 ⟨d, hd1, ((h.mem hj had).2 b).2 ⟨hb, e⟩⟩
  · cases hj
theorem Lay.head (h : Lay g n L) {i : Nat} {c : List Nat} (hc : L[i]? = some c) : c[0]? = some (key c) ∧ key c < n ∧ c = compOf g n (key c) ∧ ready g n (L.take i).flatten (key c) = true ∧ ∀ b < key c, ready g n (L.take i).flatten b = false := by
  obtain ⟨hne, hs⟩ := h.sorted hc
  obtain ⟨a, ha, hca, hr, hl⟩ := h.row i c hc
  have hac : a ∈ c := by rw [hca]; exact mem_compOf.2 ⟨ha, Eqv.refl⟩
  obtain ⟨hk, hka⟩ := head_least hs hac
  have hka2 := (mem_compOf.1 (hca ▸ hk : key c ∈ compOf g n a)).2
  have hkn := (h.mem hc hk).1
  have e : key c = a := by
    rcases Nat.lt_or_ge (key c) a with hlt | hge
    · exfalso
      have h0 := hl _ hlt
      have : ready g n (L.take i).flatten (key c) = true := by
        rw [ready_eq] at hr ⊢
        refine ⟨fun hm => hr.1 (h.closed ha hm hka2.symm), fun b hb hd => ?_⟩
        have hd2 : Dep g a b := by
          rcases reach_dep hka2.1 with e | e
          · rw [e]; exact hd
          · exact e.trans hd
        rcases hr.2 b hb hd2 with h1 | h1
        · exact Or.inl h1
        · exact Or.inr (hka2.symm.trans h1)
      rw [h0] at this
      cases this
    · omega
  refine ⟨?_, hkn, by rw [e]; exact hca, by rw [e]; exact hr, by rw [e]; exact hl⟩
  cases c with
  | nil => exact absurd rfl hne
  | cons x y => rfl
theorem Lay.early (h : Lay g n L) {i : Nat} {c d : List Nat} (hc : L[i]? = some c) (hd : L[i + 1]? = some d) (hlt : key d < key c) : Dep g (key d) (key c) := by
  obtain ⟨_, hcn, hcc, hcr, hcl⟩ := h.head hc
  obtain ⟨_, hdn, hdd, hdr, _⟩ := h.head hd
  have h0 := hcl _ hlt
  have hnot : ¬ ready g n (L.take i).flatten (key d) = true := by rw [h0]; simp
  rw [ready_eq] at hdr hnot
  have ht : (L.take (i + 1)).flatten = (L.take i).flatten ++ c := by rw [List.take_add_one, hc]; simp
  rw [ht] at hdr
  have h1 : key d ∉ (L.take i).flatten := fun hm => hdr.1 (List.mem_append_left _ hm)
  have h2 : ∃ b, b < n ∧ Dep g (key d) b ∧ b ∉ (L.take i).flatten ∧ ¬ Eqv g (key d) b := by
    by_cases hx : ∃ b, b < n ∧ Dep g (key d) b ∧ b ∉ (L.take i).flatten ∧ ¬ Eqv g (key d) b
    · exact hx
    · exfalso
      refine hnot ⟨h1, fun b hb hdb => ?_⟩
      by_cases q1 : b ∈ (L.take i).flatten
      · exact Or.inl q1
      · by_cases q2 : Eqv g (key d) b
        · exact Or.inr q2
        · exact absurd ⟨b, hb, hdb, q1, q2⟩ hx
  obtain ⟨b, hb, hdb, hb1, hb2⟩ := h2
  rcases hdr.2 b hb hdb with h3 | h3
  · rcases List.mem_append.1 h3 with h4 | h4
    · exact absurd h4 hb1
    · have h5 : Eqv g (key c) b := by
        have := ((h.mem hc h4).2 (key c)).1 (head_least (h.sorted hc).2 h4).1
        exact this.2.symm
      obtain ⟨x, hx, hr⟩ := hdb
      exact ⟨x, hx, hr.trans h5.2⟩
  · exact absurd h3 hb2
theorem Lay.nodup (h : Lay g n L) : L.flatten.Nodup := by
  unfold List.Nodup
  rw [List.pairwise_flatten]
  refine ⟨fun c hc => ?_, ?_⟩
  · obtain ⟨i, hi⟩ := List.mem_iff_getElem?.1 hc
    exact (h.sorted hi).2.imp fun hlt e => by omega
  · rw [List.pairwise_iff_getElem]
    intro i j hi hj hij x hx y hy e
    subst e
    exact h.lt (List.getElem?_eq_getElem hi) (List.getElem?_eq_getElem hj) hij hx hy
theorem Lay.count (h : Lay g n L) : L.flatten.length = n := by
  have hp : L.flatten.Perm (List.range n) := (List.perm_ext_iff_of_nodup h.nodup List.nodup_range).2 fun v => by
    rw [List.mem_range]
    refine ⟨fun hv => ?_, h.all v⟩
    obtain ⟨c, hc, hvc⟩ := List.mem_flatten.1 hv
    obtain ⟨i, hi⟩ := List.mem_iff_getElem?.1 hc
    exact (h.mem hi hvc).1
  rw [hp.length_eq, List.length_range]
end
end Tj
end Go.Proofs.Ytljlihimmcmlmaa
set_option linter.unusedVariables false
set_option linter.unusedSimpArgs false
namespace Go.Proofs.Ytljlihimmcmlmaa
namespace Tj
/-- The numbers that have come up: the first i rows, and k of the next. -/
def sofar (L : List (List Nat)) (i k : Nat) : List Nat := (L.take i).flatten ++ (L.getD i []).take k
def seenL (n : Nat) (D : List Nat) : List Bool := (List.range n).map fun v => decide (v ∈ D)
def numL (n : Nat) (L : List (List Nat)) (D : List Nat) : List Nat := (List.range n).map fun v => if v ∈ D then rowOf L v else 0
theorem range_map_set {α : Type} {n a : Nat} {f f' : Nat → α} {x : α} (h1 : f' a = x) (h2 : ∀ v, v ≠ a → f' v = f v) : ((List.range n).map f).set a x = (List.range n).map f' := by
  apply List.ext_getElem?
  intro j
  rw [List.getElem?_set]
  simp only [List.length_map, List.length_range, List.getElem?_map]
  split
  · rename_i e
    subst e
    split
    · rename_i hj
      rw [List.getElem?_range hj]; simp [h1]
    · rename_i hj
      rw [List.getElem?_eq_none (by simp; omega)]; rfl
  · rename_i e
    rcases Nat.lt_or_ge j n with hj | hj
    · rw [List.getElem?_range hj]; simp [h2 j (fun e' => e e'.symm)]
    · rw [List.getElem?_eq_none (by simp; omega)]; rfl
theorem getD_at {α : Type} {l : List α} {i : Nat} {x d : α} (h : l[i]? = some x) : l.getD i d = x := by rw [List.getD_eq_getElem?_getD, h]; rfl
section
variable {g : G} {n : Nat} {L : List (List Nat)}
theorem sofar_zero (L : List (List Nat)) : sofar L 0 0 = [] := by simp [sofar]
theorem sofar_next {i : Nat} {c : List Nat} (hc : L[i]? = some c) {k : Nat} (hk : c.length ≤ k) : sofar L i k = sofar L (i + 1) 0 := by
  unfold sofar
  rw [getD_at hc, List.take_of_length_le hk, List.take_zero, List.append_nil, List.take_add_one, hc]
  simp
theorem sofar_all {i : Nat} (hi : L.length ≤ i) : sofar L i 0 = L.flatten := by
  unfold sofar
  rw [List.take_zero, List.append_nil, List.take_of_length_le hi]
theorem sofar_snoc {i k a : Nat} {c : List Nat} (hc : L[i]? = some c) (hk : c[k]? = some a) : sofar L i (k + 1) = sofar L i k ++ [a] := by
  unfold sofar
  rw [getD_at hc, List.take_add_one, hk, List.append_assoc]
  rfl
theorem flat_split {i : Nat} {c : List Nat} (hc : L[i]? = some c) : L.flatten = (L.take i).flatten ++ (c ++ (L.drop (i + 1)).flatten) := by
  have hi := (List.getElem?_eq_some_iff.1 hc).1
  have he := (List.getElem?_eq_some_iff.1 hc).2
  conv => lhs; rw [← List.take_append_drop i L]
  rw [List.flatten_append, List.drop_eq_getElem_cons hi, List.flatten_cons, he]
theorem sofar_len (h : Lay g n L) {i k : Nat} {c : List Nat} (hc : L[i]? = some c) (hk : k ≤ c.length) : (sofar L i k).length + (c.length - k) ≤ n := by
  have h1 := h.count
  rw [flat_split hc, List.length_append, List.length_append] at h1
  unfold sofar
  rw [getD_at hc, List.length_append, List.length_take, Nat.min_eq_left hk]
  omega
theorem Lay.len (h : Lay g n L) : L.length ≤ n := by
  have h1 := h.count
  have key : ∀ M : List (List Nat), (∀ c ∈ M, c ≠ []) → M.length ≤ M.flatten.length := fun M => by
    induction M with
    | nil => intro _; simp
    | cons c M ih =>
      intro hM
      have h2 := ih fun d hd => hM d (List.mem_cons_of_mem _ hd)
      have h3 : 0 < c.length := List.length_pos_iff.2 (hM c (by simp))
      simp only [List.length_cons, List.flatten_cons, List.length_append]
      omega
  have := key L fun c hc => by
    obtain ⟨i, hi⟩ := List.mem_iff_getElem?.1 hc
    exact (h.sorted hi).1
  omega
theorem Lay.rlen (h : Lay g n L) {i : Nat} {c : List Nat} (hc : L[i]? = some c) : c.length ≤ n := by
  have h1 := h.count
  rw [flat_split hc, List.length_append, List.length_append] at h1
  omega
theorem Lay.num (h : Lay g n L) {i k a : Nat} {c : List Nat} (hc : L[i]? = some c) (hk : c[k]? = some a) : a < n ∧ a ∉ sofar L i k ∧ Tj.rowOf L a = i ∧ ∀ b q, k = q + 1 → c[q]? = some b → b < a := by
  have ha := List.mem_of_getElem? hk
  have hs := (h.sorted hc).2
  refine ⟨(h.mem hc ha).1, fun hm => ?_, h.rowOf_eq hc ha, fun b q hq hb => ?_⟩
  · unfold sofar at hm
    rw [getD_at hc] at hm
    rcases List.mem_append.1 hm with hm | hm
    · obtain ⟨d, hd, had⟩ := List.mem_flatten.1 hm
      obtain ⟨j, hj⟩ := List.mem_iff_getElem?.1 hd
      rw [List.getElem?_take] at hj
      split at hj
      · rename_i hlt
        exact h.lt hj hc hlt had ha
      · cases hj
    · obtain ⟨j, hj⟩ := List.mem_iff_getElem?.1 hm
      rw [List.getElem?_take] at hj
      split at hj
      · rename_i hlt
        rw [List.pairwise_iff_getElem] at hs
        have hj1 := (List.getElem?_eq_some_iff.1 hj)
        have hk1 := (List.getElem?_eq_some_iff.1 hk)
        have := hs j k hj1.1 hk1.1 hlt
        rw [hj1.2, hk1.2] at this
        omega
      · cases hj
  · rw [List.pairwise_iff_getElem] at hs
    have hj1 := (List.getElem?_eq_some_iff.1 hb)
    have hk1 := (List.getElem?_eq_some_iff.1 hk)
    have := hs q k hj1.1 hk1.1 (by omega)
    rw [hj1.2, hk1.2] at this
    exact this
theorem seenL_step {D : List Nat} {a : Nat} : (seenL n D).set a true = seenL n (D ++ [a]) :=
  range_map_set (by simp) (fun v hv => by simp [hv])
theorem numL_step (h : Lay g n L) {i a : Nat} {D : List Nat} (hr : Tj.rowOf L a = i) : (numL n L D).set a i = numL n L (D ++ [a]) :=
  range_map_set (by simp [hr]) (fun v hv => by simp [hv])
theorem seenL_len (D : List Nat) : (seenL n D).length = n := by simp [seenL]
theorem numL_len (D : List Nat) : (numL n L D).length = n := by simp [numL]
theorem seenL_get {D : List Nat} {a : Nat} (ha : a < n) : (seenL n D).getD a false = decide (a ∈ D) := by
  unfold seenL
  rw [List.getD_eq_getElem?_getD, List.getElem?_map, List.getElem?_range ha]; rfl
theorem numL_all (h : Lay g n L) : numL n L L.flatten = (List.range n).map (rowOf L) := by
  unfold numL
  refine List.map_congr_left fun v hv => ?_
  rw [if_pos (h.all v (List.mem_range.1 hv))]
end
end Tj
end Go.Proofs.Ytljlihimmcmlmaa
set_option linter.unusedVariables false
set_option linter.unusedSimpArgs false
namespace Go.Proofs.Ytljlihimmcmlmaa
namespace Tj
/-- What one edge adds to the marks and the list. -/
def rstep (x : Nat) (s : List Bool × List Nat) (e : Ed) : List Bool × List Nat := if e.a = x ∧ s.1.getD e.b false = false then (s.1.set e.b true, s.2 ++ [e.b]) else s
/-- The list's first i nodes are worked through, of the next one the first k edges. -/
structure RI (es : List Ed) (n src i k : Nat) (s : List Bool × List Nat) : Prop where
  len : s.1.length = n
  top : ∃ T, s.2 = src :: T ∧ T.Nodup ∧ ∀ b, b ∈ T ↔ s.1.getD b false = true
  dep : ∀ b, s.1.getD b false = true → b < n ∧ Dep (next es) src b
  all : ∀ j x, j < i → s.2[j]? = some x → ∀ e ∈ es, e.a = x → s.1.getD e.b false = true
  cur : ∀ x, s.2[i]? = some x → ∀ e ∈ es.take k, e.a = x → s.1.getD e.b false = true
theorem RI.bound {es : List Ed} {n src i k : Nat} {s : List Bool × List Nat} (h : RI es n src i k s) : s.2.length ≤ n + 1 := by
  obtain ⟨T, hT, hn, hm⟩ := h.top
  have : T.length ≤ (List.range n).length := List.Nodup.length_le_of_subset hn fun b hb => List.mem_range.2 (h.dep b ((hm b).1 hb)).1
  rw [hT, List.length_cons]
  rw [List.length_range] at this
  omega
theorem RI.start (es : List Ed) (n src : Nat) : RI es n src 0 0 (List.replicate n false, [src]) := by
  have hf : ∀ b, (List.replicate n false).getD b false = false := fun b => by
    rw [List.getD_eq_getElem?_getD, List.getElem?_replicate]
    split <;> rfl
  refine ⟨by simp, ⟨[], rfl, List.nodup_nil, fun b => ?_⟩, fun b hb => ?_, fun j x hj => by omega, fun x _ e he => by simp at he⟩
  · simp only [hf]; simp
  · rw [hf] at hb; cases hb
theorem RI.step {es : List Ed} {n src i k x : Nat} {s : List Bool × List Nat} (h : RI es n src i k s) (hes : ∀ e ∈ es, e.a < n ∧ e.b < n) (hx : s.2[i]? = some x) {e : Ed} (he : es[k]? = some e) : RI es n src i (k + 1) (rstep x s e) ∧ (rstep x s e).2[i]? = some x := by
  have hmem := List.mem_of_getElem? he
  have htk : es.take (k + 1) = es.take k ++ [e] := by rw [List.take_add_one, he]; rfl
  unfold rstep
  split
  · rename_i hc
    obtain ⟨ha, hb⟩ := hc
    have hbn := (hes e hmem).2
    have hg : ∀ b, (s.1.set e.b true).getD b false = true ↔ b = e.b ∨ s.1.getD b false = true := fun b => by
      rw [getD_set]
      split
      · rename_i h1; simp [h1.1]
      · rename_i h1
        constructor
        · exact Or.inr
        · rintro (rfl | h2)
          · exact absurd ⟨rfl, by rw [h.len]; exact hbn⟩ h1
          · exact h2
    have hil : i < s.2.length := (List.getElem?_eq_some_iff.1 hx).1
    have hx2 : (s.2 ++ [e.b])[i]? = some x := by rw [List.getElem?_append_left hil]; exact hx
    have hdx : Dep (next es) src e.b := by
      obtain ⟨T, hT, hn, hm⟩ := h.top
      have hnx : e.b ∈ next es x := mem_next.2 ⟨e, hmem, ha, rfl⟩
      have hxm := List.mem_of_getElem? hx
      rw [hT] at hxm
      rcases List.mem_cons.1 hxm with h1 | h1
      · subst h1; exact ⟨_, hnx, Reach.refl⟩
      · obtain ⟨c, hc, hr⟩ := (h.dep x ((hm x).1 h1)).2
        exact ⟨c, hc, hr.snoc hnx⟩
    refine ⟨⟨by simp [h.len], ?_, fun b hb2 => ?_, fun j y hj hy f hf hfy => ?_, fun y hy f hf hfy => ?_⟩, hx2⟩
    · obtain ⟨T, hT, hn, hm⟩ := h.top
      refine ⟨T ++ [e.b], by simp [hT], ?_, fun b => ?_⟩
      · rw [List.nodup_append]
        refine ⟨hn, by simp, fun a ha2 c hc e2 => ?_⟩
        simp at hc
        subst e2; subst hc
        have := (hm _).1 ha2
        rw [hb] at this
        cases this
      · rw [hg, List.mem_append, hm]
        simp [or_comm]
    · rcases (hg b).1 hb2 with h1 | h1
      · subst h1; exact ⟨hbn, hdx⟩
      · exact h.dep b h1
    · rw [List.getElem?_append_left (by omega)] at hy
      exact (hg _).2 (Or.inr (h.all j y hj hy f hf hfy))
    · rw [hx2] at hy
      obtain rfl := Option.some.inj hy
      dsimp only at hf ⊢
      rw [htk, List.mem_append] at hf
      rcases hf with h1 | h1
      · exact (hg _).2 (Or.inr (h.cur _ hx f h1 hfy))
      · simp at h1; subst h1; exact (hg _).2 (Or.inl rfl)
  · rename_i hc
    refine ⟨⟨h.len, h.top, h.dep, h.all, fun y hy f hf hfy => ?_⟩, hx⟩
    rw [htk, List.mem_append] at hf
    rcases hf with h1 | h1
    · exact h.cur y hy f h1 hfy
    · simp at h1
      subst h1
      rw [hx] at hy
      obtain rfl := Option.some.inj hy
      cases hb : s.1.getD f.b false with
      | true => rfl
      | false => exact absurd ⟨hfy, hb⟩ hc
theorem RI.next {es : List Ed} {n src i k : Nat} {s : List Bool × List Nat} (h : RI es n src i k s) (hk : es.length ≤ k) : RI es n src (i + 1) 0 s := by
  refine ⟨h.len, h.top, h.dep, fun j x hj hx e he hex => ?_, fun x hx e he => by simp at he⟩
  rcases Nat.lt_or_ge j i with h1 | h1
  · exact h.all j x h1 hx e he hex
  · obtain rfl : j = i := by omega
    exact h.cur x hx e (by rw [List.take_of_length_le hk]; exact he) hex
theorem RI.out {es : List Ed} {n src i : Nat} {s : List Bool × List Nat} (h : RI es n src i 0 s) (hi : s.2.length ≤ i) (b : Nat) : s.1.getD b false = true ↔ Dep (Tj.next es) src b := by
  refine ⟨fun hb => (h.dep b hb).2, ?_⟩
  obtain ⟨T, hT, hn, hm⟩ := h.top
  have key : ∀ x ∈ s.2, ∀ y ∈ Tj.next es x, s.1.getD y false = true := fun x hx y hy => by
    obtain ⟨e, he, h1, h2⟩ := mem_next.1 hy
    obtain ⟨j, hj⟩ := List.mem_iff_getElem?.1 hx
    have hjl := (List.getElem?_eq_some_iff.1 hj).1
    rw [← h2]
    exact h.all j x (by omega) hj e he h1
  have go : ∀ c y, Reach (Tj.next es) c y → s.1.getD c false = true → s.1.getD y false = true := fun c y hr => by
    induction hr with
    | refl => exact id
    | @step p q r hq _ ih => exact fun hp => ih (key p (by rw [hT]; exact List.mem_cons_of_mem _ ((hm p).2 hp)) q hq)
  rintro ⟨c, hc, hr⟩
  exact go c b hr (key src (by rw [hT]; simp) c hc)
end Tj
end Go.Proofs.Ytljlihimmcmlmaa
set_option linter.unusedVariables false
set_option linter.unusedSimpArgs false
namespace Go.Proofs.Ytljlihimmcmlmaa
namespace Tj
def w1 (e : Ed) : Nat := if e.g then 1 else 0
/-- One edge raises its head's level. -/
def lift (s : List Nat × Bool) (e : Ed) : List Nat × Bool := if s.1.getD e.a 0 < s.1.getD e.b 0 + w1 e then (s.1.set e.a (s.1.getD e.b 0 + w1 e), true) else s
def round (es : List Ed) (l : List Nat) : List Nat × Bool := es.foldl lift (l, false)
/-- The levels behind k rounds, and whether the last of them changed anything; a round that changes nothing is the last one. -/
def rounds (es : List Ed) : Nat → List Nat × Bool → List Nat × Bool
  | 0, s => s
  | k + 1, s => if s.2 then rounds es k (round es s.1) else s
/-- Levels that do not increase along edges, and decrease along negated ones. -/
def Fits (es : List Ed) (f : Nat → Nat) : Prop := ∀ e ∈ es, f e.b + w1 e ≤ f e.a
section
variable {es : List Ed} {n : Nat}
theorem lift_len (s : List Nat × Bool) (e : Ed) : (lift s e).1.length = s.1.length := by
  unfold lift; split <;> simp
theorem lifts_len : ∀ (es : List Ed) (s : List Nat × Bool), (es.foldl lift s).1.length = s.1.length
  | [], s => rfl
  | e :: es, s => by rw [List.foldl_cons, lifts_len es, lift_len]
theorem round_len (es : List Ed) (l : List Nat) : (round es l).1.length = l.length := lifts_len es (l, false)
theorem lift_up (s : List Nat × Bool) (e : Ed) (v : Nat) : s.1.getD v 0 ≤ (lift s e).1.getD v 0 := by
  unfold lift
  split
  · rename_i h
    rw [getD_set]
    split
    · rename_i h1; rw [← h1.1]; omega
    · exact Nat.le_refl _
  · exact Nat.le_refl _
theorem lifts_up : ∀ (es : List Ed) (s : List Nat × Bool) (v : Nat), s.1.getD v 0 ≤ (es.foldl lift s).1.getD v 0
  | [], s, v => Nat.le_refl _
  | e :: es, s, v => Nat.le_trans (lift_up s e v) (lifts_up es _ v)
theorem lift_le {f : Nat → Nat} {s : List Nat × Bool} {e : Ed} (he : f e.b + w1 e ≤ f e.a) (h : ∀ v, s.1.getD v 0 ≤ f v) (v : Nat) : (lift s e).1.getD v 0 ≤ f v := by
  unfold lift
  split
  · rw [getD_set]
    split
    · rename_i h1
      have := h e.b
      rw [← h1.1]
      omega
    · exact h v
  · exact h v
theorem lifts_le {f : Nat → Nat} : ∀ (es : List Ed) (s : List Nat × Bool), Fits es f → (∀ v, s.1.getD v 0 ≤ f v) → ∀ v, (es.foldl lift s).1.getD v 0 ≤ f v
  | [], s, _, h => h
  | e :: es, s, hf, h => lifts_le es _ (fun x hx => hf x (List.mem_cons_of_mem _ hx)) (lift_le (hf e (by simp)) h)
theorem lift_same {s : List Nat × Bool} {e : Ed} (h : (lift s e).2 = false) : lift s e = s ∧ s.1.getD e.b 0 + w1 e ≤ s.1.getD e.a 0 := by
  unfold lift at h ⊢
  split at h
  · cases h
  · rename_i h1
    rw [if_neg h1]
    exact ⟨rfl, by omega⟩
theorem lift_flag {s : List Nat × Bool} {e : Ed} (h : s.2 = true) : (lift s e).2 = true := by
  unfold lift
  split
  · rfl
  · exact h
theorem lifts_flag : ∀ (es : List Ed) (s : List Nat × Bool), s.2 = true → (es.foldl lift s).2 = true
  | [], s, h => h
  | e :: es, s, h => lifts_flag es _ (lift_flag h)
theorem lifts_same : ∀ (es : List Ed) (s : List Nat × Bool), (es.foldl lift s).2 = false → es.foldl lift s = s ∧ ∀ e ∈ es, s.1.getD e.b 0 + w1 e ≤ s.1.getD e.a 0
  | [], s, _ => ⟨rfl, fun e he => by cases he⟩
  | e :: es, s, h => by
    rw [List.foldl_cons] at h ⊢
    obtain ⟨h1, h2⟩ := lifts_same es _ h
    have h3 : (lift s e).2 = false := by
      cases hq : (lift s e).2 with
      | false => rfl
      | true => rw [lifts_flag es _ hq] at h; cases h
    obtain ⟨h4, h5⟩ := lift_same h3
    rw [h4] at h1 h2 ⊢
    refine ⟨h1, fun x hx => ?_⟩
    rcases List.mem_cons.1 hx with rfl | hx
    · exact h5
    · exact h2 x hx
theorem lifts_still : ∀ (es : List Ed) (s : List Nat × Bool), (∀ e ∈ es, s.1.getD e.b 0 + w1 e ≤ s.1.getD e.a 0) → es.foldl lift s = s
  | [], s, _ => rfl
  | e :: es, s, h => by
    have : lift s e = s := by
      unfold lift
      rw [if_neg]
      have := h e (by simp)
      omega
    rw [List.foldl_cons, this]
    exact lifts_still es s fun x hx => h x (List.mem_cons_of_mem _ hx)
theorem round_still {l : List Nat} (h : (round es l).2 = false) : (round es l).1 = l ∧ Fits es (fun v => l.getD v 0) := by
  obtain ⟨h1, h2⟩ := lifts_same es (l, false) h
  exact ⟨by unfold round; rw [h1], h2⟩
/-- An edge that holds the least levels tight is met in the round. -/
theorem lifts_tight {l : List Nat} {e : Ed} : ∀ (es : List Ed) (s : List Nat × Bool), e ∈ es → e.a < s.1.length → (∀ v, l.getD v 0 ≤ s.1.getD v 0) → l.getD e.b 0 + w1 e ≤ (es.foldl lift s).1.getD e.a 0
  | [], s, he, _, _ => by cases he
  | x :: es, s, he, hl, h => by
    rw [List.foldl_cons]
    rcases List.mem_cons.1 he with rfl | he
    · refine Nat.le_trans ?_ (lifts_up es _ e.a)
      have := h e.b
      unfold lift
      split
      · rw [getD_set, if_pos ⟨rfl, hl⟩]; omega
      · omega
    · exact lifts_tight es _ he (by rw [lift_len]; exact hl) fun v => Nat.le_trans (h v) (lift_up s x v)
/-! ### The least levels -/
def sumTo (n : Nat) (f : Nat → Nat) : Nat := ((List.range n).map f).sum
theorem sum_le {f g : Nat → Nat} (h : ∀ v, f v ≤ g v) : ∀ l : List Nat, (l.map f).sum ≤ (l.map g).sum
  | [] => Nat.le_refl _
  | x :: l => by simp only [List.map_cons, List.sum_cons]; have := h x; have := sum_le h l; omega
theorem sum_lt {f g : Nat → Nat} (h : ∀ v, f v ≤ g v) : ∀ (l : List Nat) (u : Nat), u ∈ l → f u < g u → (l.map f).sum < (l.map g).sum
  | [], u, hu, _ => by cases hu
  | x :: l, u, hu, hl => by
    simp only [List.map_cons, List.sum_cons]
    rcases List.mem_cons.1 hu with rfl | hu
    · have := sum_le h l; omega
    · have := h x; have := sum_lt h l u hu hl; omega
theorem least_of : ∀ (m : Nat) (f : Nat → Nat), sumTo n f ≤ m → Fits es f → ∃ t, Fits es t ∧ ∀ f, Fits es f → (∀ v, f v ≤ t v) → ∀ v < n, f v = t v
  | m, f, hm, hf => by
    by_cases h : ∃ g, Fits es g ∧ (∀ v, g v ≤ f v) ∧ ∃ v < n, g v ≠ f v
    · obtain ⟨g, hg, hle, v, hv, hne⟩ := h
      have hs : sumTo n g < sumTo n f := sum_lt hle _ v (List.mem_range.2 hv) (by have := hle v; omega)
      match m, hm with
      | 0, hm => omega
      | m + 1, hm => exact least_of m g (by omega) hg
    · refine ⟨f, hf, fun g hg hle v hv => ?_⟩
      by_cases e : g v = f v
      · exact e
      · exact absurd ⟨g, hg, hle, v, hv, e⟩ h
/-- How many nodes have not come up to their least level. -/
def short (n : Nat) (t : Nat → Nat) (l : List Nat) : Nat := ((List.range n).filter fun v => decide (l.getD v 0 < t v)).length
theorem round_less (hes : ∀ e ∈ es, e.a < n ∧ e.b < n) {t : Nat → Nat} (ht : Fits es t) (hmin : ∀ f, Fits es f → (∀ v, f v ≤ t v) → ∀ v < n, f v = t v) {l : List Nat} (hl : l.length = n) (hle : ∀ v, l.getD v 0 ≤ t v) :
    (∀ v, (round es l).1.getD v 0 ≤ t v) ∧ (0 < short n t l → short n t (round es l).1 < short n t l) := by
  have hle2 : ∀ v, (round es l).1.getD v 0 ≤ t v := lifts_le es (l, false) ht hle
  refine ⟨hle2, fun h0 => ?_⟩
  -- a short node that a tight edge leads from to one that is not short
  have hex : ∃ e ∈ es, l.getD e.a 0 < t e.a ∧ l.getD e.b 0 = t e.b ∧ t e.a = t e.b + w1 e := by
    by_cases hx : ∃ e ∈ es, l.getD e.a 0 < t e.a ∧ l.getD e.b 0 = t e.b ∧ t e.a = t e.b + w1 e
    · exact hx
    · exfalso
      have hfit : Fits es (fun v => if l.getD v 0 < t v then t v - 1 else t v) := fun e he => by
        have h1 := ht e he
        have hb := hle e.b
        dsimp only
        by_cases ha : l.getD e.a 0 < t e.a
        · rw [if_pos ha]
          split
          · omega
          · have : t e.a ≠ t e.b + w1 e := fun h2 => hx ⟨e, he, ha, by omega, h2⟩
            omega
        · rw [if_neg ha]
          split <;> omega
      obtain ⟨v, hv⟩ := List.exists_mem_of_length_pos h0
      rw [List.mem_filter] at hv
      have hv1 := List.mem_range.1 hv.1
      have hv2 : l.getD v 0 < t v := of_decide_eq_true hv.2
      have := hmin _ hfit (fun v => by split <;> omega) v hv1
      rw [if_pos hv2] at this
      omega
  obtain ⟨e, he, h1, h2, h3⟩ := hex
  have h4 := lifts_tight (l := l) es (l, false) he (by rw [hl]; exact (hes e he).1) (fun v => Nat.le_refl _)
  unfold short
  refine (filter_less (p := fun v => decide ((round es l).1.getD v 0 < t v)) (q := fun v => decide (l.getD v 0 < t v)) (List.range n) (fun x hx => ?_)).2 ⟨e.a, List.mem_range.2 (hes e he).1, decide_eq_true h1, ?_⟩
  · simp only [decide_eq_true_eq] at hx ⊢
    have := lifts_up es (l, false) x
    unfold round at hx
    dsimp only at this
    omega
  · simp only [decide_eq_false_iff_not]
    unfold round
    omega
theorem short_zero {t : Nat → Nat} {l : List Nat} (ht : Fits es t) (hes : ∀ e ∈ es, e.a < n ∧ e.b < n) (hle : ∀ v, l.getD v 0 ≤ t v) (h : short n t l = 0) : round es l = (l, false) := by
  refine lifts_still es (l, false) fun e he => ?_
  have key : ∀ v < n, l.getD v 0 = t v := fun v hv => by
    by_cases h1 : l.getD v 0 < t v
    · have : v ∈ (List.range n).filter fun v => decide (l.getD v 0 < t v) := List.mem_filter.2 ⟨List.mem_range.2 hv, decide_eq_true h1⟩
      have h0 : ((List.range n).filter fun v => decide (l.getD v 0 < t v)) = [] := List.eq_nil_of_length_eq_zero h
      rw [h0] at this
      cases this
    · have := hle v; omega
  dsimp only
  rw [key _ (hes e he).1, key _ (hes e he).2]
  exact ht e he
theorem short_le (t : Nat → Nat) (l : List Nat) : short n t l ≤ n := by
  unfold short
  have := List.length_filter_le (fun v => decide (l.getD v 0 < t v)) (List.range n)
  rw [List.length_range] at this
  exact this
theorem rounds_end (hes : ∀ e ∈ es, e.a < n ∧ e.b < n) {t : Nat → Nat} (ht : Fits es t) (hmin : ∀ f, Fits es f → (∀ v, f v ≤ t v) → ∀ v < n, f v = t v) :
    ∀ (k : Nat) (s : List Nat × Bool), s.1.length = n → (∀ v, s.1.getD v 0 ≤ t v) → short n t s.1 < k → (rounds es k s).2 = false
  | 0, s, _, _, h => by omega
  | k + 1, s, hl, hle, h => by
    unfold rounds
    split
    · obtain ⟨h1, h2⟩ := round_less hes ht hmin hl hle
      rcases Nat.eq_zero_or_pos (short n t s.1) with h0 | h0
      · rw [short_zero ht hes hle h0]
        cases k <;> rfl
      · exact rounds_end hes ht hmin k _ (by rw [round_len]; exact hl) h1 (by have := h2 h0; omega)
    · rename_i h3
      simpa using h3
theorem rounds_fits : ∀ (k : Nat) (s : List Nat × Bool), (s.2 = false → Fits es (fun v => s.1.getD v 0)) → (rounds es k s).2 = false → ∃ f, Fits es f
  | 0, s, h, h2 => ⟨_, h h2⟩
  | k + 1, s, h, h2 => by
    unfold rounds at h2
    split at h2
    · refine rounds_fits k _ (fun h3 => ?_) h2
      obtain ⟨e, hf⟩ := round_still h3
      rw [e]
      exact hf
    · exact ⟨_, h h2⟩
/-- A negated edge inside a class. -/
def Bad (es : List Ed) : Prop := ∃ e ∈ es, e.g = true ∧ Reach (next es) e.b e.a
theorem fits_reach {f : Nat → Nat} (hf : Fits es f) {a b : Nat} (h : Reach (next es) a b) : f b ≤ f a := by
  induction h with
  | refl => exact Nat.le_refl _
  | @step x y z hy _ ih =>
    obtain ⟨e, he, h1, h2⟩ := mem_next.1 hy
    have := hf e he
    rw [h1, h2] at this
    omega
theorem fits_iff (hes : ∀ e ∈ es, e.a < n ∧ e.b < n) : (∃ f, Fits es f) ↔ ¬ Bad es := by
  constructor
  · rintro ⟨f, hf⟩ ⟨e, he, hg, hr⟩
    have h1 := hf e he
    have h2 := fits_reach hf hr
    unfold w1 at h1
    rw [hg] at h1
    simp at h1
    omega
  · intro hb
    refine ⟨wide (next es) n, fun e he => ?_⟩
    have hr : Reach (next es) e.a e.b := Reach.one (mem_next.2 ⟨e, he, rfl, rfl⟩)
    unfold w1
    split
    · rename_i hg
      exact wide_lt (hes e he).1 hr fun h => hb ⟨e, he, hg, h⟩
    · exact wide_le hr
theorem rounds_iff (hes : ∀ e ∈ es, e.a < n ∧ e.b < n) : (rounds es (n + 1) (List.replicate n 0, true)).2 = true ↔ Bad es := by
  rw [← Bool.not_eq_false, ← Classical.not_not (a := Bad es), ← fits_iff hes]
  refine not_congr ⟨fun h => rounds_fits _ _ (fun h => by cases h) h, ?_⟩
  rintro ⟨f, hf⟩
  obtain ⟨t, ht, hmin⟩ := least_of (n := n) _ f (Nat.le_refl _) hf
  exact rounds_end hes ht hmin _ _ (by simp) (fun v => by
    rw [List.getD_eq_getElem?_getD, List.getElem?_replicate]
    split <;> simp) (Nat.lt_succ_of_le (short_le _ _))
end
end Tj
end Go.Proofs.Ytljlihimmcmlmaa
