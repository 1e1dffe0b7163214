/- The walks of Clone, Compact, and of the small methods of families. -/
import Derived.Test.YtphmicbpkljmfaaGreatSMin2
import Derived.Lib.SlicesCompact
namespace Go.Proofs.YtphmicbpkljmfaaGreat
set_option linter.unusedVariables false
set_option linter.unusedSimpArgs false
open Go.RowKit Go.Sort
/-- A slice's block is of this type. -/
def Typ (w : World) (t : TypeId) (v : Value) : Prop := ∀ g o n c, v = .slice (some ⟨g, o, none⟩) n c → ∃ cs fr, w.heap[g]? = some (.cells cs t fr)
theorem Typ.grown {w w' : World} {t : TypeId} {v : Value} {r : Option Nat} (h : Typ w t v) (hg : w.grownBy w' r) (hr : ∀ k cs fr, r = some k → w.heap[k]? ≠ some (.cells cs t fr)) : Typ w' t v := by
  intro g o n c e
  obtain ⟨cs, fr, hh⟩ := h g o n c e
  exact ⟨cs, fr, (hg.block g (Array.getElem?_eq_some_iff.1 hh).1 (fun e => hr g cs fr e.symm hh)).trans hh⟩
theorem Typ.below {w w' : World} {t : TypeId} {v : Value} (h : Typ w t v) (hb : Below w.heap.size w w') : Typ w' t v := by
  intro g o n c e
  obtain ⟨cs, fr, hh⟩ := h g o n c e
  exact ⟨cs, fr, (hb.block g (Array.getElem?_eq_some_iff.1 hh).1).trans hh⟩
theorem SetV.grownT {w w' : World} {t : TypeId} {v : Value} {s : List Int} {r : Option Nat} (h : SetV w v s) (ht : Typ w t v) (hg : w.grownBy w' r) (hr : ∀ k cs fr, r = some k → w.heap[k]? ≠ some (.cells cs t fr)) : SetV w' v s := by
  obtain ⟨B, c, rfl, h2, h3, h4, h5⟩ := h
  refine ⟨B, c, rfl, h2, h3, h4, fun hn => ?_⟩
  obtain ⟨g, o, rfl, hlt, hc⟩ := h5 hn
  obtain ⟨cs, fr, hh⟩ := ht g o _ _ rfl
  exact ⟨g, o, rfl, Nat.lt_of_lt_of_le hlt hg.size, fun k x hx => hg.cell (hc k x hx) (fun e => hr g cs fr e.symm hh)⟩
theorem own_typ {w : World} {B n size : Nat} {t : TypeId} {v : Value} {xs : List Value} (h : w.ownsRow B t size v n xs) : Typ w t v := by
  intro g o m c e
  rcases h.2 with ⟨rfl, _⟩ | ⟨g', cap, cur, rfl, _, hh, _⟩
  · cases e
  · injection e with e1 e2 e3
    injection e1 with e1
    injection e1 with e1 _ _
    subst e1
    exact ⟨_, _, hh⟩
theorem own_not {w : World} {B n size : Nat} {t t' : TypeId} {v : Value} {xs : List Value} (h : w.ownsRow B t size v n xs) (hne : t ≠ t') : ∀ k cs fr, v.ownBlock = some k → w.heap[k]? ≠ some (.cells cs t' fr) := by
  intro k cs fr hk hh'
  rcases h.2 with ⟨rfl, _⟩ | ⟨g', cap, cur, rfl, _, hh, _⟩
  · simp [Value.ownBlock] at hk
  · have : g' = k := by simpa [Value.ownBlock] using hk
    subst this
    rw [hh] at hh'
    simp at hh'
    exact hne hh'.2.1
theorem compact_inc {zs : List Int} (hs : zs.Pairwise (· ≤ ·)) : Fm.Inc (Lib.compact zs) ∧ ∀ x, x ∈ Lib.compact zs ↔ x ∈ zs := by
  have hat : ∀ i j, i ≤ j → j < zs.length → zs.toArray[i]! ≤ zs.toArray[j]! := by
    intro i j hij hj
    have e1 : zs.toArray[i]! = zs[i]'(by omega) := by rw [getElem!_pos zs.toArray i (by simp; omega)]; simp
    have e2 : zs.toArray[j]! = zs[j] := by rw [getElem!_pos zs.toArray j (by simpa using hj)]; simp
    rw [e1, e2]
    rcases Nat.lt_or_eq_of_le hij with h | h
    · exact (List.pairwise_iff_getElem.1 hs) i j _ _ h
    · subst h; exact Int.le_refl _
  have key : ∀ m, m ≤ zs.length → Fm.Inc (Lib.compactUpTo zs.toArray m) ∧ ∀ x, x ∈ Lib.compactUpTo zs.toArray m ↔ ∃ j, j < m ∧ zs.toArray[j]! = x := by
    intro m
    induction m with
    | zero => intro _; exact ⟨by simp [Lib.compactUpTo], fun x => by simp [Lib.compactUpTo]⟩
    | succ m ih =>
      intro hm
      obtain ⟨h1, h2⟩ := ih (by omega)
      rw [Lib.compactUpTo_succ]
      by_cases hk : m = 0 ∨ zs.toArray[m]! ≠ zs.toArray[m - 1]!
      · have hkeep : Lib.keeps zs.toArray m = true := by unfold Lib.keeps; exact decide_eq_true hk
        rw [hkeep, if_pos rfl]
        constructor
        · unfold Fm.Inc
          rw [List.pairwise_append]
          refine ⟨h1, by simp, fun a ha b hb => ?_⟩
          rw [List.mem_singleton] at hb; subst hb
          obtain ⟨j, hj, rfl⟩ := (h2 a).1 ha
          have h3 := hat j (m - 1) (by omega) (by omega)
          have h4 := hat (m - 1) m (by omega) (by omega)
          rcases hk with hk | hk
          · omega
          · omega
        · intro x
          rw [List.mem_append, h2]
          constructor
          · rintro (⟨j, hj, e⟩ | h)
            · exact ⟨j, by omega, e⟩
            · simp at h; exact ⟨m, by omega, by simp [h]⟩
          · rintro ⟨j, hj, e⟩
            by_cases hjm : j = m
            · subst hjm; exact Or.inr (by simp at e ⊢; exact e.symm)
            · exact Or.inl ⟨j, by omega, e⟩
      · have hkeep : Lib.keeps zs.toArray m = false := by unfold Lib.keeps; exact decide_eq_false hk
        rw [hkeep, if_neg (by decide), List.append_nil]
        refine ⟨h1, fun x => ?_⟩
        rw [h2]
        constructor
        · rintro ⟨j, hj, e⟩; exact ⟨j, by omega, e⟩
        · rintro ⟨j, hj, e⟩
          by_cases hjm : j = m
          · subst hjm
            have : zs.toArray[j]! = zs.toArray[j - 1]! := Classical.not_not.1 fun h => hk (Or.inr h)
            have hj0 : j ≠ 0 := fun h => hk (Or.inl h)
            exact ⟨j - 1, by omega, by rw [← this]; exact e⟩
          · exact ⟨j, by omega, e⟩
  obtain ⟨h1, h2⟩ := key zs.length (Nat.le_refl _)
  refine ⟨h1, fun x => (h2 x).trans ?_⟩
  constructor
  · rintro ⟨j, hj, e⟩
    rw [getElem!_pos zs.toArray j (by simpa using hj)] at e
    simp at e
    exact e ▸ List.getElem_mem hj
  · intro hx
    obtain ⟨j, hj, e⟩ := List.mem_iff_getElem.1 hx
    exact ⟨j, hj, by rw [getElem!_pos zs.toArray j (by simpa using hj)]; simpa using e⟩
theorem compact_le (zs : List Int) : (Lib.compact zs).length ≤ zs.length := by
  unfold Lib.compact Lib.compactUpTo
  rw [List.length_map]
  have := List.length_filter_le (Lib.keeps zs.toArray) (List.range zs.length)
  simpa using this
/-- slices.Compact of a set of the call's own. -/
theorem compact_own (B : Nat) (v : Value) (xs : List Int) (w : World) (h : w.ownsRow B 3 1 v xs.length (icells xs)) (hB : B ≤ w.heap.size) (hl : xs.length ≤ 1000000) :
    Calls Tryz.prog 116 #[v] w fun e w' => ∃ v', e = .returned v' ∧ SetV w' v' (Lib.compact xs) ∧ Typ w' 3 v' ∧ Below B w w' := by
  rcases h.2 with ⟨rfl, h0⟩ | ⟨g, cap, cur, rfl, hg, hh, h1, h2, h3, h4⟩
  · have hx : xs = [] := List.eq_nil_of_length_eq_zero h0
    subst hx
    refine (AnyG.slices_Compact_int_empty Tryz.laysCP none 0 w).mono ?_
    rintro e w' ⟨rfl, rfl⟩
    exact ⟨_, rfl, setV_nil _, (fun g o n c e => by cases e), Below.refl _ _⟩
  · have h4' : cur.toList.take xs.length = xs.map (Value.int .i64) := by rw [Nat.mul_one] at h4; exact h4
    have hlt := (Array.getElem?_eq_some_iff.1 hh).1
    refine (AnyG.slices_Compact_int Tryz.laysCP g 0 cap xs w (holds_of_blockI hh h4') (by omega) h1).mono ?_
    rintro e w' ⟨rfl, q, rfl⟩
    have hlen := compact_le xs
    obtain ⟨ts, hts⟩ : ∃ ts, ts = Lib.compact xs ++ List.replicate (xs.length - (Lib.compact xs).length) (0 : Int) := ⟨_, rfl⟩
    have htl : ts.length = xs.length := by rw [hts]; simp; omega
    rw [← hts]
    have e1 : putRow (Value.int .i64) (Sort.ahead w q) g 0 ts.toArray = sortWorld (Value.int .i64) w g 0 q ts.toArray #[] := by unfold sortWorld; rw [grow_empty]
    rw [e1]
    have ho := ownsRow_sorted' (enc := Value.int .i64) (w := w) (n := q) (os := #[]) htl hg hh h1 h2 h3
    obtain ⟨A, c, e2, _, _, h5⟩ := own_cells ho
    injection e2 with e3 e4 e5
    refine ⟨_, rfl, ⟨_, cap, rfl, by omega, h2, (fun h => by cases h), fun hn => ⟨g, 0, rfl, Nat.lt_of_lt_of_le hlt (sortWorld_size _ _ _ _ _ _), fun k x hx => ?_⟩⟩, ?_, (Below.refl B w).grown (grownBy_sorted' _) hB (fun k hk => by injection hk with hk; omega)⟩
    · rcases h5 with h5 | ⟨g', e6, _, _, h5⟩
      · exfalso
        have : (Lib.compact xs).length = 0 := by omega
        exact hn (List.eq_nil_of_length_eq_zero this)
      · rw [← e3] at e6
        injection e6 with e6
        injection e6 with e6
        subst e6
        rw [Nat.zero_add]
        have hk := (List.getElem?_eq_some_iff.1 hx).1
        refine h5 k _ ?_
        rw [List.getElem?_map, hts, List.getElem?_append_left hk, hx]; rfl
    · intro g' o n c' e
      injection e with e1 _ _
      injection e1 with e1
      injection e1 with e1 _ _
      subst e1
      exact ⟨_, _, heap_sorted' _ hh⟩
theorem nums_news' {w : World} {A : Option Addr} {l : List Int} (h : Nums w A l) : ∀ ad, A = some ad → ∀ j u, (icells l)[j]? = some u → w.cell? (ad.add j) = some u := nums_news h
set_option maxHeartbeats 1000000 in
theorem cloneset_any (A : Option Addr) (c : Nat) (s : List Int) (w : World) (hl : s.length ≤ 1000000) (hn : A = none → s.length = 0 ∧ c = 0) (hA : Nums w A s) :
    Calls Tryz.prog 114 #[.slice A s.length c] w fun e w' => ∃ v, e = .returned v ∧ w'.ownsRow w.heap.size 3 1 v s.length (icells s) ∧ Below w.heap.size w w' := by
  obtain ⟨in0, hi0, hz0, hz1, hz2⟩ := info_parts int_info
  have LL := Lib.hid (icells_len s)
  have q1 := Lib.run_eql_slice_nil (P := Tryz.prog)
  cases A with
  | none =>
    obtain ⟨h1, h2⟩ := hn rfl
    have hl0 : s = [] := List.length_eq_zero_iff.1 h1
    subst hl0; subst h2
    go_enter Tryz.func114, Tryz.ntmps114
    go_wp2_with fail
    go_ret
    exact ⟨_, rfl, World.ownsRow_nil _ _ _ _, Below.refl _ _⟩
  | some ad =>
    have o0 := own_empty w 3 1 w.heap.size (Nat.le_refl _)
    have hA1 := hA.below (below1 w (.cells #[] 3))
    go_enter Tryz.func114, Tryz.ntmps114
    go_wp2_with (first
      | (at_builtin; refine wpList_append_from rfl (.tmp 5) (.tmp 6) 53 rfl w.heap.size 3 in0 _ 1 8 Tryz.underlying53 hi0 hz0 hz1 hz2 rfl (by omega) (.slice (some ⟨w.heap.size, 0, none⟩) 0 0) 0 [] rfl o0 (some ad) s.length c (icells s) rfl (by rw [LL.out]; omega) (fun h => by cases h) (nums_news hA1) (icells_one s) (by unfold maxLen; omega) (by omega) (by simp) ?_; intro v1 w1 o1 g1))
    simp only [Nat.zero_add, List.nil_append] at o1
    have b1 : Below w.heap.size w w1 := (below1 w _).grown g1 (by simp) (fun q hq => by simp [Value.ownBlock] at hq; omega)
    go_ret
    exact ⟨_, rfl, o1, b1⟩
theorem Sets.news {w : World} {A : Option Addr} {F : List (List Int)} (h : Sets w A F) : ∃ vs, Hdrs w vs F ∧ ∀ ad, A = some ad → ∀ j u, vs[j]? = some u → w.cell? (ad.add j) = some u := by
  by_cases hn : F = []
  · subst hn; exact ⟨[], hdrs_nil w, fun ad _ j u hu => by simp at hu⟩
  · obtain ⟨g, o, vs, e, hg, hd, hc⟩ := h hn
    refine ⟨vs, hd, fun ad he j u hu => ?_⟩
    rw [he] at e
    obtain rfl := Option.some.inj e
    rw [add_at]
    exact hc j u hu
set_option maxHeartbeats 1000000 in
theorem clonefam_any (A : Option Addr) (c : Nat) (F : List (List Int)) (w : World) (hl : F.length ≤ 1000000) (hn : A = none → F.length = 0 ∧ c = 0) (hA : Sets w A F) :
    Calls Tryz.prog 113 #[.slice A F.length c] w fun e w' => ∃ v, e = .returned v ∧ ∃ vs, w'.ownsRow w.heap.size 53 1 v F.length vs ∧ Hdrs w vs F ∧ Below w.heap.size w w' := by
  obtain ⟨in0, hi0, hz0, hz1, hz2⟩ := info_parts set_info
  have q1 := Lib.run_eql_slice_nil (P := Tryz.prog)
  cases A with
  | none =>
    obtain ⟨h1, h2⟩ := hn rfl
    have hl0 : F = [] := List.length_eq_zero_iff.1 h1
    subst hl0; subst h2
    go_enter Tryz.func113, Tryz.ntmps113
    go_wp2_with fail
    go_ret
    exact ⟨_, rfl, [], World.ownsRow_nil _ _ _ _, hdrs_nil _, Below.refl _ _⟩
  | some ad =>
    have o0 := own_empty w 53 1 w.heap.size (Nat.le_refl _)
    have hb := below1 w (.cells #[] 53)
    obtain ⟨vs, hd, hnews⟩ := hA.news
    have hlen := hd.1
    have hone := hd.one
    have hnews1 : ∀ ad', some ad = some ad' → ∀ j u, vs[j]? = some u → (w.alloc (.cells #[] 53)).cell? (ad'.add j) = some u := fun ad' he j u hu => by
      have h1 := hnews ad' he j u hu
      exact (hb.cell (cell_lt h1)).trans h1
    have HD := Lib.hid hd
    clear hd hnews
    go_enter Tryz.func113, Tryz.ntmps113
    go_wp2_with (first
      | (at_builtin; refine wpList_append_from rfl (.tmp 5) (.tmp 6) 50 rfl w.heap.size 53 in0 _ 1 24 Tryz.underlying50 hi0 hz0 hz1 hz2 rfl (by omega) (.slice (some ⟨w.heap.size, 0, none⟩) 0 0) 0 [] rfl o0 (some ad) F.length c vs rfl (by omega) (fun h => by cases h) hnews1 hone (by unfold maxLen; omega) (by omega) (by simp) ?_; intro v1 w1 o1 g1))
    simp only [Nat.zero_add, List.nil_append] at o1
    have b1 : Below w.heap.size w w1 := (below1 w _).grown g1 (by simp) (fun q hq => by simp [Value.ownBlock] at hq; omega)
    go_ret
    exact ⟨_, rfl, vs, o1, HD.out, b1⟩
end Go.Proofs.YtphmicbpkljmfaaGreat
