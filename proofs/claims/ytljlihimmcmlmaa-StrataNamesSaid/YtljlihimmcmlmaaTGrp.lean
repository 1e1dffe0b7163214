/- Three slices made and put into three fresh cells, in whatever order. -/
import Derived.Test.YtljlihimmcmlmaaTVis
import Derived.Test.YtljlihimmcmlmaaInv5
import Derived.Test.YtljlihimmcmlmaaTRpo
import Derived.Laws.EntriesVeiled
namespace Go.Proofs.Ytljlihimmcmlmaa
set_option linter.unusedVariables false
set_option linter.unusedSimpArgs false
open Go.RowKit
def zeros (n : Nat) : Array Value := Array.replicate n (.int .i64 0)
theorem zeros_eq (n : Nat) : zeros n = (ncells (List.replicate n 0)).toArray := by
  unfold zeros ncells
  apply Array.ext
  · simp
  · intro i h1 h2; simp
structure R3 (w0 : World) (n : Nat) (L : Nat → Bool) (v : Nat → Value) (W : World) : Prop where
  below : Below w0.heap.size w0 W
  mv : ∀ c, c < 3 → L (2 * c) = true → v (2 * c) = .int .i64 (n : Int)
  ma : ∀ c, c < 3 → L (2 * c + 1) = true → ∃ b, v (2 * c + 1) = .slice (some ⟨b, 0, none⟩) n n ∧ w0.heap.size ≤ b ∧ At W b 3 (zeros n)
  al : ∀ c, c < 3 → L (6 + c) = true → ∃ b, v (6 + c) = .pointer (some ⟨b, 0, none⟩) ∧ w0.heap.size ≤ b ∧ ∃ h, At W b 42 #[h]
  st : ∀ c, c < 3 → L (9 + c) = true → L (6 + c) = true ∧ L (2 * c + 1) = true ∧ ∀ b, v (6 + c) = .pointer (some ⟨b, 0, none⟩) → At W b 42 #[v (2 * c + 1)]
  dm : ∀ c d, c < 3 → d < 3 → c ≠ d → L (2 * c + 1) = true → L (2 * d + 1) = true → v (2 * c + 1) ≠ v (2 * d + 1)
  da : ∀ c d, c < 3 → d < 3 → c ≠ d → L (6 + c) = true → L (6 + d) = true → v (6 + c) ≠ v (6 + d)
section
variable {w0 W W' : World} {n : Nat} {L : Nat → Bool} {v : Nat → Value}
theorem mark_ne {i j : Nat} (h : j ≠ i) : mark L i j = L j := by unfold mark; simp [h]
theorem vset_ne {x : Value} {i j : Nat} (h : j ≠ i) : vset v i x j = v j := by unfold vset; rw [if_neg h]
theorem vset_self {x : Value} {i : Nat} : vset v i x i = x := by unfold vset; rw [if_pos rfl]
theorem mark_self {i : Nat} : mark L i i = true := by unfold mark; simp
theorem R3.start (hL : ∀ i, i < 12 → L i = false) : R3 w0 n L v w0.drew := by
  refine ⟨(Below.refl _ _).drew, fun c hc h => ?_, fun c hc h => ?_, fun c hc h => ?_, fun c hc h => ?_, fun c d hc hd _ h => ?_, fun c d hc hd _ h => ?_⟩
  all_goals (rw [hL _ (by omega)] at h; cases h)
theorem R3.move (h : R3 w0 n L v W) {c : Nat} (hc : c < 3) : R3 w0 n (mark L (2 * c)) (vset v (2 * c) (.int .i64 (n : Int))) W := by
  refine ⟨h.below, fun d hd hl => ?_, fun d hd hl => ?_, fun d hd hl => ?_, fun d hd hl => ?_, fun d e hd he hne hl hl2 => ?_, fun d e hd he hne hl hl2 => ?_⟩
  · by_cases e : 2 * d = 2 * c
    · rw [e, vset_self]
    · rw [mark_ne e] at hl; rw [vset_ne e]; exact h.mv d hd hl
  · rw [mark_ne (by omega)] at hl; rw [vset_ne (by omega)]; exact h.ma d hd hl
  · rw [mark_ne (by omega)] at hl; rw [vset_ne (by omega)]; exact h.al d hd hl
  · rw [mark_ne (by omega)] at hl; rw [mark_ne (by omega), mark_ne (by omega), vset_ne (by omega), vset_ne (by omega)]; exact h.st d hd hl
  · rw [mark_ne (by omega)] at hl hl2; rw [vset_ne (by omega), vset_ne (by omega)]; exact h.dm d e hd he hne hl hl2
  · rw [mark_ne (by omega)] at hl hl2; rw [vset_ne (by omega), vset_ne (by omega)]; exact h.da d e hd he hne hl hl2
theorem R3.make (h : R3 w0 n L v W) {c : Nat} (hc : c < 3) (hl0 : L (2 * c + 1) = false) : R3 w0 n (mark L (2 * c + 1)) (vset v (2 * c + 1) (.slice (some ⟨W.heap.size, 0, none⟩) n n)) (W.alloc (.cells (zeros n) 3)) := by
  have hb := below1 W (.cells (zeros n) 3)
  refine ⟨h.below.alloc h.below.size _, fun d hd hl => ?_, fun d hd hl => ?_, fun d hd hl => ?_, fun d hd hl => ?_, fun d e hd he hne hl hl2 => ?_, fun d e hd he hne hl hl2 => ?_⟩
  · rw [mark_ne (by omega)] at hl; rw [vset_ne (by omega)]; exact h.mv d hd hl
  · by_cases e : 2 * d + 1 = 2 * c + 1
    · rw [e, vset_self]; exact ⟨_, rfl, h.below.size, At.new _ _ _⟩
    · rw [mark_ne e] at hl; rw [vset_ne e]
      obtain ⟨b, e1, e2, e3⟩ := h.ma d hd hl
      exact ⟨b, e1, e2, e3.next hb⟩
  · rw [mark_ne (by omega)] at hl; rw [vset_ne (by omega)]
    obtain ⟨b, e1, e2, x, e3⟩ := h.al d hd hl
    exact ⟨b, e1, e2, x, e3.next hb⟩
  · rw [mark_ne (by omega)] at hl
    obtain ⟨h1, h2, h3⟩ := h.st d hd hl
    have hdc : 2 * d + 1 ≠ 2 * c + 1 := fun e => by rw [e, hl0] at h2; cases h2
    rw [mark_ne (by omega), mark_ne hdc, vset_ne (by omega), vset_ne hdc]
    exact ⟨h1, h2, fun b hb' => (h3 b hb').next hb⟩
  · by_cases e1 : 2 * d + 1 = 2 * c + 1
    · have e2 : 2 * e + 1 ≠ 2 * c + 1 := by omega
      rw [mark_ne e2] at hl2; rw [e1, vset_self, vset_ne e2]
      obtain ⟨b, e3, _, e4⟩ := h.ma e he hl2
      rw [e3]
      intro h5; injection h5 with h5; injection h5 with h5; injection h5 with h5
      have := e4.lt; omega
    · rw [mark_ne e1] at hl
      by_cases e2 : 2 * e + 1 = 2 * c + 1
      · rw [e2, vset_self, vset_ne e1]
        obtain ⟨b, e3, _, e4⟩ := h.ma d hd hl
        rw [e3]
        intro h5; injection h5 with h5; injection h5 with h5; injection h5 with h5
        have := e4.lt; omega
      · rw [mark_ne e2] at hl2; rw [vset_ne e1, vset_ne e2]; exact h.dm d e hd he hne hl hl2
  · rw [mark_ne (by omega)] at hl hl2; rw [vset_ne (by omega), vset_ne (by omega)]; exact h.da d e hd he hne hl hl2
theorem R3.alloc (h : R3 w0 n L v W) {c : Nat} (hc : c < 3) (hl0 : L (6 + c) = false) (x : Value) : R3 w0 n (mark L (6 + c)) (vset v (6 + c) (.pointer (some ⟨W.heap.size, 0, none⟩))) (W.alloc (.cells #[x] 42)) := by
  have hb := below1 W (.cells #[x] 42)
  refine ⟨h.below.alloc h.below.size _, fun d hd hl => ?_, fun d hd hl => ?_, fun d hd hl => ?_, fun d hd hl => ?_, fun d e hd he hne hl hl2 => ?_, fun d e hd he hne hl hl2 => ?_⟩
  · rw [mark_ne (by omega)] at hl; rw [vset_ne (by omega)]; exact h.mv d hd hl
  · rw [mark_ne (by omega)] at hl; rw [vset_ne (by omega)]
    obtain ⟨b, e1, e2, e3⟩ := h.ma d hd hl
    exact ⟨b, e1, e2, e3.next hb⟩
  · by_cases e : 6 + d = 6 + c
    · rw [e, vset_self]; exact ⟨_, rfl, h.below.size, _, At.new _ _ _⟩
    · rw [mark_ne e] at hl; rw [vset_ne e]
      obtain ⟨b, e1, e2, x, e3⟩ := h.al d hd hl
      exact ⟨b, e1, e2, x, e3.next hb⟩
  · rw [mark_ne (by omega)] at hl
    obtain ⟨h1, h2, h3⟩ := h.st d hd hl
    have hdc : 6 + d ≠ 6 + c := fun e => by rw [e, hl0] at h1; cases h1
    rw [mark_ne hdc, mark_ne (by omega), vset_ne hdc, vset_ne (by omega)]
    exact ⟨h1, h2, fun b hb' => (h3 b hb').next hb⟩
  · rw [mark_ne (by omega)] at hl hl2; rw [vset_ne (by omega), vset_ne (by omega)]; exact h.dm d e hd he hne hl hl2
  · by_cases e1 : 6 + d = 6 + c
    · have e2 : 6 + e ≠ 6 + c := by omega
      rw [mark_ne e2] at hl2; rw [e1, vset_self, vset_ne e2]
      obtain ⟨b, e3, _, _, e4⟩ := h.al e he hl2
      rw [e3]
      intro h5; injection h5 with h5; injection h5 with h5; injection h5 with h5
      have := e4.lt; omega
    · rw [mark_ne e1] at hl
      by_cases e2 : 6 + e = 6 + c
      · rw [e2, vset_self, vset_ne e1]
        obtain ⟨b, e3, _, _, e4⟩ := h.al d hd hl
        rw [e3]
        intro h5; injection h5 with h5; injection h5 with h5; injection h5 with h5
        have := e4.lt; omega
      · rw [mark_ne e2] at hl2; rw [vset_ne e1, vset_ne e2]; exact h.da d e hd he hne hl hl2
theorem R3.store (h : R3 w0 n L v W) {c : Nat} (hc : c < 3) (h6 : L (6 + c) = true) (h1 : L (2 * c + 1) = true) {b : Nat} (hv : v (6 + c) = .pointer (some ⟨b, 0, none⟩)) (x : Value) (hx : v (2 * c + 1) = x) : R3 w0 n (mark L (9 + c)) (vset v (9 + c) undef) (W.setCell ⟨b, 0, none⟩ x) := by
  obtain ⟨b', e1, hB, y, hat⟩ := h.al c hc h6
  obtain rfl : b' = b := by rw [hv] at e1; injection e1 with e1; injection e1 with e1; injection e1 with e1; exact e1.symm
  have hput : At (W.setCell ⟨b', 0, none⟩ x) b' 42 #[x] := by have := hat.put 0 x; simpa using this
  refine ⟨h.below.setCell (p := ⟨b', 0, none⟩) hB x, fun d hd hl => ?_, fun d hd hl => ?_, fun d hd hl => ?_, fun d hd hl => ?_, fun d e hd he hne hl hl2 => ?_, fun d e hd he hne hl hl2 => ?_⟩
  · rw [mark_ne (by omega)] at hl; rw [vset_ne (by omega)]; exact h.mv d hd hl
  · rw [mark_ne (by omega)] at hl; rw [vset_ne (by omega)]
    obtain ⟨q, e1, e2, e3⟩ := h.ma d hd hl
    exact ⟨q, e1, e2, e3.far (p := ⟨b', 0, none⟩) (e3.ne hat (by decide)) _⟩
  · rw [mark_ne (by omega)] at hl; rw [vset_ne (by omega)]
    obtain ⟨q, r1, r2, z, r3⟩ := h.al d hd hl
    by_cases e : q = b'
    · exact ⟨q, r1, r2, x, by rw [e]; exact hput⟩
    · exact ⟨q, r1, r2, z, r3.far (p := ⟨b', 0, none⟩) e _⟩
  · rw [mark_ne (by omega), mark_ne (by omega), vset_ne (by omega), vset_ne (by omega)]
    by_cases e : d = c
    · subst e
      refine ⟨h6, h1, fun q hq => ?_⟩
      obtain rfl : b' = q := by rw [hv] at hq; injection hq with hq; injection hq with hq; injection hq with hq
      rw [hx]; exact hput
    · rw [mark_ne (by omega)] at hl
      obtain ⟨k1, k2, k3⟩ := h.st d hd hl
      refine ⟨k1, k2, fun q hq => (k3 q hq).far (p := ⟨b', 0, none⟩) (fun e2 => ?_) _⟩
      have e3 : q = b' := e2
      subst e3
      exact h.da d c hd hc e k1 h6 (hq.trans hv.symm)
  · rw [mark_ne (by omega)] at hl hl2; rw [vset_ne (by omega), vset_ne (by omega)]; exact h.dm d e hd he hne hl hl2
  · rw [mark_ne (by omega)] at hl hl2; rw [vset_ne (by omega), vset_ne (by omega)]; exact h.da d e hd he hne hl hl2
end
/-- What the statement leaves. -/
theorem R3.done {w0 W : World} {n : Nat} {L : Nat → Bool} {v : Nat → Value} (h : R3 w0 n L v W) (hL : ∀ i, i < 12 → L i = true) : ∃ a0 a1 a2 c0 c1 c2 : Nat, v 6 = .pointer (some ⟨c0, 0, none⟩) ∧ v 7 = .pointer (some ⟨c1, 0, none⟩) ∧ v 8 = .pointer (some ⟨c2, 0, none⟩) ∧
    At W c0 42 #[.slice (some ⟨a0, 0, none⟩) n n] ∧ At W c1 42 #[.slice (some ⟨a1, 0, none⟩) n n] ∧ At W c2 42 #[.slice (some ⟨a2, 0, none⟩) n n] ∧ At W a0 3 (zeros n) ∧ At W a1 3 (zeros n) ∧ At W a2 3 (zeros n) ∧
    (w0.heap.size ≤ a0 ∧ w0.heap.size ≤ a1 ∧ w0.heap.size ≤ a2 ∧ w0.heap.size ≤ c0 ∧ w0.heap.size ≤ c1 ∧ w0.heap.size ≤ c2) ∧ (a0 ≠ a1 ∧ a0 ≠ a2 ∧ a1 ≠ a2 ∧ c0 ≠ c1 ∧ c0 ≠ c2 ∧ c1 ≠ c2) ∧ Below w0.heap.size w0 W := by
  obtain ⟨a0, m0, n0, k0⟩ := h.ma 0 (by decide) (hL _ (by decide))
  obtain ⟨a1, m1, n1, k1⟩ := h.ma 1 (by decide) (hL _ (by decide))
  obtain ⟨a2, m2, n2, k2⟩ := h.ma 2 (by decide) (hL _ (by decide))
  obtain ⟨c0, p0, q0, _⟩ := h.al 0 (by decide) (hL _ (by decide))
  obtain ⟨c1, p1, q1, _⟩ := h.al 1 (by decide) (hL _ (by decide))
  obtain ⟨c2, p2, q2, _⟩ := h.al 2 (by decide) (hL _ (by decide))
  have s0 := (h.st 0 (by decide) (hL _ (by decide))).2.2 _ p0
  have s1 := (h.st 1 (by decide) (hL _ (by decide))).2.2 _ p1
  have s2 := (h.st 2 (by decide) (hL _ (by decide))).2.2 _ p2
  rw [m0] at s0; rw [m1] at s1; rw [m2] at s2
  refine ⟨a0, a1, a2, c0, c1, c2, p0, p1, p2, s0, s1, s2, k0, k1, k2, ⟨n0, n1, n2, q0, q1, q2⟩, ⟨fun e => ?_, fun e => ?_, fun e => ?_, fun e => ?_, fun e => ?_, fun e => ?_⟩, h.below⟩
  · exact h.dm 0 1 (by decide) (by decide) (by decide) (hL _ (by decide)) (hL _ (by decide)) (by rw [m0, m1, e])
  · exact h.dm 0 2 (by decide) (by decide) (by decide) (hL _ (by decide)) (hL _ (by decide)) (by rw [m0, m2, e])
  · exact h.dm 1 2 (by decide) (by decide) (by decide) (hL _ (by decide)) (hL _ (by decide)) (by rw [m1, m2, e])
  · exact h.da 0 1 (by decide) (by decide) (by decide) (hL _ (by decide)) (hL _ (by decide)) (by rw [p0, p1, e])
  · exact h.da 0 2 (by decide) (by decide) (by decide) (hL _ (by decide)) (hL _ (by decide)) (by rw [p0, p2, e])
  · exact h.da 1 2 (by decide) (by decide) (by decide) (hL _ (by decide)) (hL _ (by decide)) (by rw [p1, p2, e])
end Go.Proofs.Ytljlihimmcmlmaa
namespace Go.Proofs.Ytljlihimmcmlmaa
set_option linter.unusedVariables false
set_option linter.unusedSimpArgs false
open Go.RowKit
theorem kok_of {S T : Nat} (l : List Nat) (hl : l.length = 13) (hn : l.Nodup) (hb : ∀ x ∈ l, S ≤ x ∧ x < T) : KOk S T (fun i => l.getD i 0) := by
  have hm : ∀ i, i < 13 → l.getD i 0 ∈ l := fun i hi => by
    rw [List.getD_eq_getElem?_getD, List.getElem?_eq_getElem (by omega)]
    exact List.getElem_mem _
  refine ⟨fun i hi => (hb _ (hm i hi)).1, fun i hi => (hb _ (hm i hi)).2, fun i j hi hj e => ?_⟩
  have e' : l.getD i 0 = l.getD j 0 := e
  rw [List.getD_eq_getElem?_getD, List.getD_eq_getElem?_getD, List.getElem?_eq_getElem (by omega), List.getElem?_eq_getElem (by omega)] at e'
  exact (List.getElem_inj hn).1 e'
theorem bcells_zero (n : Nat) : (Array.replicate n (Value.bool false)) = bcells (List.replicate n false) := by
  unfold bcells
  apply Array.ext
  · simp
  · intro i h1 h2; simp
theorem groups_start {w1 w3 w4 W5 : World} {n ge a0 a1 a2 c0 c1 c2 : Nat} (hw3 : Below w1.heap.size w1 w3) (hkn : At w3 w1.heap.size 36 #[.slice (some ⟨ge, 0, none⟩) n n]) (hs3 : w3.heap.size = w1.heap.size + 1)
    (s0 : At w4 c0 42 #[.slice (some ⟨a0, 0, none⟩) n n]) (s1 : At w4 c1 42 #[.slice (some ⟨a1, 0, none⟩) n n]) (s2 : At w4 c2 42 #[.slice (some ⟨a2, 0, none⟩) n n]) (k0 : At w4 a0 3 (zeros n)) (k1 : At w4 a1 3 (zeros n)) (k2 : At w4 a2 3 (zeros n))
    (hlo : w3.heap.size ≤ a0 ∧ w3.heap.size ≤ a1 ∧ w3.heap.size ≤ a2 ∧ w3.heap.size ≤ c0 ∧ w3.heap.size ≤ c1 ∧ w3.heap.size ≤ c2) (hne : a0 ≠ a1 ∧ a0 ≠ a2 ∧ a1 ≠ a2 ∧ c0 ≠ c1 ∧ c0 ≠ c2 ∧ c1 ≠ c2) (hb4 : Below w3.heap.size w3 w4)
    {vF : Value} (hW : W5 = (((((w4.alloc (.cells (Array.replicate n (.bool false)) 4)).alloc (.cells #[.slice (some ⟨w4.heap.size, 0, none⟩) n n] 31)).alloc (.cells #[.slice none 0 0] 42)).alloc (.cells #[.slice none 0 0] 36)).alloc (.cells #[.int .i64 0] 3)).alloc (.cells #[vF] 78)) :
    ∃ k : Nat → Nat, KOk w1.heap.size (w4.heap.size + 6) k ∧ (k 0 = w4.heap.size + 1 + 1 + 1 + 1 ∧ k 1 = c2 ∧ k 2 = c1 ∧ k 3 = w4.heap.size + 1 ∧ k 4 = w4.heap.size + 1 + 1 ∧ k 5 = w1.heap.size ∧ k 6 = w4.heap.size + 1 + 1 + 1 + 1 + 1 ∧ k 7 = w4.heap.size + 1 + 1 + 1 ∧ k 8 = c0 ∧ k 9 = a2 ∧ k 10 = a1 ∧ k 11 = w4.heap.size ∧ k 12 = a0) ∧
      (vF = visF k → TS (w4.heap.size + 6) w1 k n ge 0 (List.replicate n 0) (List.replicate n 0) (List.replicate n false) (List.replicate n 0) (.slice none 0 0) [] (.slice none 0 0) [] [] W5) := by
  have h40 := s0.lt; have h41 := s1.lt; have h42 := s2.lt; have h43 := k0.lt; have h44 := k1.lt; have h45 := k2.lt
  have e00 := k0.ne s0 (by decide); have e01 := k0.ne s1 (by decide); have e02 := k0.ne s2 (by decide)
  have e10 := k1.ne s0 (by decide); have e11 := k1.ne s1 (by decide); have e12 := k1.ne s2 (by decide)
  have e20 := k2.ne s0 (by decide); have e21 := k2.ne s1 (by decide); have e22 := k2.ne s2 (by decide)
  have hsz := hb4.size
  obtain ⟨S, hS⟩ : ∃ S, w4.heap.size = S := ⟨_, rfl⟩
  obtain ⟨S1, hS1⟩ : ∃ S, w1.heap.size = S := ⟨_, rfl⟩
  obtain ⟨n1, n2, n3, n4, n5, n6⟩ := hne
  obtain ⟨l1, l2, l3, l4, l5, l6⟩ := hlo
  have hk : KOk S1 (S + 6) (fun i => [S + 1 + 1 + 1 + 1, c2, c1, S + 1, S + 1 + 1, S1, S + 1 + 1 + 1 + 1 + 1, S + 1 + 1 + 1, c0, a2, a1, S, a0].getD i 0) := by
    refine kok_of _ rfl ?_ ?_
    · simp only [List.nodup_cons, List.mem_cons, List.not_mem_nil, or_false, not_or, List.nodup_nil, and_true, not_false_eq_true]
      refine ⟨?_, ?_, ?_, ?_, ?_, ?_, ?_, ?_, ?_, ?_, ?_, ?_⟩ <;> (try refine ⟨?_, ?_, ?_, ?_, ?_, ?_, ?_, ?_, ?_, ?_, ?_, ?_⟩) <;> omega
    · intro x hx
      simp only [List.mem_cons, List.not_mem_nil, or_false] at hx
      omega
  subst hS; subst hS1
  have B5 : Below w4.heap.size w4 W5 := by
    rw [hW]
    exact (((((below1 _ _).alloc (by simp) _).alloc (by simp; omega) _).alloc (by simp; omega) _).alloc (by simp; omega) _).alloc (by simp; omega) _
  have d11 : At W5 w4.heap.size 4 (bcells (List.replicate n false)) := by
    rw [hW, ← bcells_zero]
    exact (((((At.newAt (by simp) _ _).alloc _).alloc _).alloc _).alloc _).alloc _
  have d3 : At W5 (w4.heap.size + 1) 31 #[.slice (some ⟨w4.heap.size, 0, none⟩) n n] := by
    rw [hW]; exact ((((At.newAt (by simp) _ _).alloc _).alloc _).alloc _).alloc _
  have d4 : At W5 (w4.heap.size + 1 + 1) 42 #[.slice none 0 0] := by
    rw [hW]; exact (((At.newAt (by simp) _ _).alloc _).alloc _).alloc _
  have d7 : At W5 (w4.heap.size + 1 + 1 + 1) 36 #[.slice none 0 0] := by
    rw [hW]; exact ((At.newAt (by simp) _ _).alloc _).alloc _
  have d0 : At W5 (w4.heap.size + 1 + 1 + 1 + 1) 3 #[.int .i64 0] := by
    rw [hW]; exact (At.newAt (by simp) _ _).alloc _
  have d6 : At W5 (w4.heap.size + 1 + 1 + 1 + 1 + 1) 78 #[vF] := by
    rw [hW]; exact At.newAt (by simp) _ _
  have hz5 : w4.heap.size + 6 ≤ W5.heap.size := by rw [hW]; simp
  have t0 := s0.next B5; have t1 := s1.next B5; have t2 := s2.next B5
  have u0 := k0.next B5; have u1 := k1.next B5; have u2 := k2.next B5
  rw [zeros_eq] at u0 u1 u2
  have d5 := (hkn.next hb4).next B5
  refine ⟨_, hk, ⟨rfl, rfl, rfl, rfl, rfl, rfl, rfl, rfl, rfl, rfl, rfl, rfl, rfl⟩, fun hvf => ?_⟩
  have hwB : Below w1.heap.size w1 W5 := hw3.trans ((hb4.trans (B5.mono hsz)).mono hw3.size)
  exact ⟨d0, t2, t1, d3, d4, d5, by rw [← hvf]; exact d6, d7, t0, u2, u1, d11, u0, World.ownsRow_nil _ _ _ _, LsOwn.nil _ _, (fun u hu => by cases hu), hwB, hz5⟩
end Go.Proofs.Ytljlihimmcmlmaa
namespace Go.Proofs.Ytljlihimmcmlmaa
set_option linter.unusedVariables false
set_option linter.unusedSimpArgs false
open Go.RowKit
theorem fan_get {w : World} {B ge n : Nat} {hs : List Value} {g : Tj.G} (h : Fan w B ge hs ((List.range n).map g)) : ∀ a, a < n → ∃ A c, ∀ W, Below w.heap.size w W → W.cell? ⟨ge, a, none⟩ = some (.slice A (g a).length c) ∧ NumsN W A (g a) := fun a ha => by
  obtain ⟨row, A, c, h1, h2, h3, h4⟩ := h.get (a := a) (by simpa using ha)
  have hr : row = g a := by
    rw [List.getElem?_map, range_get ha] at h1
    exact (Option.some.inj h1).symm
  subst hr
  obtain ⟨A', c', e, hn⟩ := numsN_own h3
  injection e with e1 e2 e3
  subst e1
  exact ⟨A, c, fun W hb => ⟨(hb.cell h.cells.lt).trans h4, hn.below hb⟩⟩
theorem next_in {n : Nat} {es : List Tj.Ed} (hes : ∀ e ∈ es, e.a < n ∧ e.b < n) : ∀ a, a < n → ∀ b ∈ Tj.next es a, b < n := fun a ha b hb => by
  unfold Tj.next at hb
  rw [List.mem_map] at hb
  obtain ⟨e, he, rfl⟩ := hb
  exact (hes e (List.mem_filter.1 he).1).2
theorem next_le (es : List Tj.Ed) (a : Nat) : (Tj.next es a).length ≤ es.length := by
  unfold Tj.next
  rw [List.length_map]
  exact List.length_filter_le _ _
def vstep (g : Tj.G) (n : Nat) (t : Tj.St) (a : Nat) : Tj.St := if t.I a = 0 then Tj.visit g n t a else t
set_option maxHeartbeats 2000000 in
set_option maxRecDepth 100000 in
theorem groups_any (p : Pg) (n : Nat) (w : World) (hp : PgOk w p) (hf : PgFine p n) :
    Calls Try.prog 32 #[p.v] w fun e w' => ∃ A1 c1 A2 c2, e = .returned (.tuple #[.slice A1 n c1, .slice A2 (Tj.whole (Tj.next (edges p)) n).out.length c2]) ∧ NumsN w' A1 (Tj.whole (Tj.next (edges p)) n).of ∧ LsAt w' A2 (Tj.whole (Tj.next (edges p)) n).out ∧ Below w.heap.size w w' := by
  obtain ⟨in0, hi0, hz0, hz1, hz2⟩ := info_of bool_info
  obtain ⟨in2, hi2, hx0, hx1, hx2⟩ := info_of int_info
  have HUS := Lib.hid (fun W (h : Below w.heap.size w W) => uses_any p n W (hp.below h) hf)
  have HNI := Lib.hid (next_in hf.es)
  have HNL := Lib.hid (fun a => Nat.le_trans (next_le (edges p) a) hf.el)
  have hn1 := hf.n1
  have hn := hf.hn
  generalize Tj.next (edges p) = g at *
  obtain ⟨R, hR⟩ : ∃ R, Tj.whole g n = R := ⟨_, rfl⟩
  rw [hR]
  have HR := Lib.hid (show (List.range n).foldl (vstep g n) (Tj.start n) = R from hR)
  clear hR hf hp
  unfold Pg.v at HUS ⊢
  generalize p.ra = ra at *
  generalize p.pa = pa at *
  rw [hn] at HUS ⊢
  clear hn
  go_enter Try.func32, Try.ntmps32
  go_wp2_with (go_at_call 40; refine (HUS.out _ (below1 _ _)).mono ?_; rintro e w1 ⟨ge, hs0, rfl, hfan, hb1⟩)
  have hw3 : Below w1.heap.size w1 (w1.alloc (.cells #[.slice (some ⟨ge, 0, none⟩) n n] 36)) := below1 _ _
  have hkn := At.new w1 36 #[.slice (some ⟨ge, 0, none⟩) n n]
  have hs3 : (w1.alloc (.cells #[.slice (some ⟨ge, 0, none⟩) n n] 36)).heap.size = w1.heap.size + 1 := by simp
  generalize w1.alloc (.cells #[.slice (some ⟨ge, 0, none⟩) n n] 36) = w3 at *
  refine' wp_region_inv _ (R3 w3 n) ?hF (by kernel_rfl) (by kernel_rfl) (by kernel_rfl) (fun L v hL => R3.start (fun i hi => hL i (by simpa using hi))) ?hops ?hend
  case hF => (intro v; simp only [over, Act.put, List.setIfInBounds_toArray, List.set_cons_zero, List.set_cons_succ, Nat.zero_add, Nat.reduceAdd]; exact rfl)
  case hops =>
    refine ⟨?_, ?_⟩
    · intro L v w' hL hd _ hI K hK
      have hk := hK.out
      simp only [ Act.put, List.setIfInBounds_toArray, List.set_cons_zero, List.set_cons_succ] at hk
      have HK := Lib.hid hk
      clear hd hk hK
      go_simp
      exact HK.out _ _ (hI.out.move (c := 0) (by decide))
    refine ⟨?_, ?_⟩
    · intro L v w' hL hd _ hI K hK
      have t0 : v 0 = _ := hI.out.mv 0 (by decide) (hd.out 0 (by kernel_rfl))
      have q0 := run_make_one w' Try.underlying42 hi2 hx0 hx1 (by rw [hx2]; decide) rfl n (by omega)
      have hk := hK.out
      simp only [t0, Act.put, List.setIfInBounds_toArray, List.set_cons_zero, List.set_cons_succ] at hk
      have HK := Lib.hid hk
      clear hd hk hK
      go_simp
      exact HK.out _ _ (hI.out.make (c := 0) (by decide) hL)
    refine ⟨?_, ?_⟩
    · intro L v w' hL hd _ hI K hK
      have hk := hK.out
      simp only [ Act.put, List.setIfInBounds_toArray, List.set_cons_zero, List.set_cons_succ] at hk
      have HK := Lib.hid hk
      clear hd hk hK
      go_simp
      exact HK.out _ _ (hI.out.move (c := 1) (by decide))
    refine ⟨?_, ?_⟩
    · intro L v w' hL hd _ hI K hK
      have t2 : v 2 = _ := hI.out.mv 1 (by decide) (hd.out 2 (by kernel_rfl))
      have q0 := run_make_one w' Try.underlying42 hi2 hx0 hx1 (by rw [hx2]; decide) rfl n (by omega)
      have hk := hK.out
      simp only [t2, Act.put, List.setIfInBounds_toArray, List.set_cons_zero, List.set_cons_succ] at hk
      have HK := Lib.hid hk
      clear hd hk hK
      go_simp
      exact HK.out _ _ (hI.out.make (c := 1) (by decide) hL)
    refine ⟨?_, ?_⟩
    · intro L v w' hL hd _ hI K hK
      have hk := hK.out
      simp only [ Act.put, List.setIfInBounds_toArray, List.set_cons_zero, List.set_cons_succ] at hk
      have HK := Lib.hid hk
      clear hd hk hK
      go_simp
      exact HK.out _ _ (hI.out.move (c := 2) (by decide))
    refine ⟨?_, ?_⟩
    · intro L v w' hL hd _ hI K hK
      have t4 : v 4 = _ := hI.out.mv 2 (by decide) (hd.out 4 (by kernel_rfl))
      have q0 := run_make_one w' Try.underlying42 hi2 hx0 hx1 (by rw [hx2]; decide) rfl n (by omega)
      have hk := hK.out
      simp only [t4, Act.put, List.setIfInBounds_toArray, List.set_cons_zero, List.set_cons_succ] at hk
      have HK := Lib.hid hk
      clear hd hk hK
      go_simp
      exact HK.out _ _ (hI.out.make (c := 2) (by decide) hL)
    refine ⟨?_, ?_⟩
    · intro L v w' hL hd _ hI K hK
      have hk := hK.out
      simp only [ Act.put, List.setIfInBounds_toArray, List.set_cons_zero, List.set_cons_succ] at hk
      have HK := Lib.hid hk
      clear hd hk hK
      go_simp
      exact HK.out _ _ (hI.out.alloc (c := 0) (by decide) hL _)
    refine ⟨?_, ?_⟩
    · intro L v w' hL hd _ hI K hK
      have hk := hK.out
      simp only [ Act.put, List.setIfInBounds_toArray, List.set_cons_zero, List.set_cons_succ] at hk
      have HK := Lib.hid hk
      clear hd hk hK
      go_simp
      exact HK.out _ _ (hI.out.alloc (c := 1) (by decide) hL _)
    refine ⟨?_, ?_⟩
    · intro L v w' hL hd _ hI K hK
      have hk := hK.out
      simp only [ Act.put, List.setIfInBounds_toArray, List.set_cons_zero, List.set_cons_succ] at hk
      have HK := Lib.hid hk
      clear hd hk hK
      go_simp
      exact HK.out _ _ (hI.out.alloc (c := 2) (by decide) hL _)
    refine ⟨?_, ?_⟩
    · intro L v w' hL hd _ hI K hK
      have l6 : L 6 = true := hd.out 6 (by kernel_rfl)
      have l1 : L 1 = true := hd.out 1 (by kernel_rfl)
      obtain ⟨b, t6, hB, h5, hat⟩ := hI.out.al 0 (by decide) l6
      obtain ⟨b1, t1, _, _⟩ := hI.out.ma 0 (by decide) l1
      have yc : w'.cell? ⟨b, 0, none⟩ = some h5 := hat.cell 0
      have yf := hat.frozen 0
      have HST := Lib.hid (hI.out.store (c := 0) (by decide) l6 l1 t6 _ t1)
      simp only [Nat.reduceAdd, Nat.reduceMul] at t6 t1
      have hk := hK.out
      simp only [t6, t1, Act.put, List.setIfInBounds_toArray, List.set_cons_zero, List.set_cons_succ] at hk
      have HK := Lib.hid hk
      clear hd hk hK
      go_simp
      exact HK.out undef _ HST.out
    refine ⟨?_, ?_⟩
    · intro L v w' hL hd _ hI K hK
      have l6 : L 7 = true := hd.out 7 (by kernel_rfl)
      have l1 : L 3 = true := hd.out 3 (by kernel_rfl)
      obtain ⟨b, t7, hB, h5, hat⟩ := hI.out.al 1 (by decide) l6
      obtain ⟨b1, t3, _, _⟩ := hI.out.ma 1 (by decide) l1
      have yc : w'.cell? ⟨b, 0, none⟩ = some h5 := hat.cell 0
      have yf := hat.frozen 0
      have HST := Lib.hid (hI.out.store (c := 1) (by decide) l6 l1 t7 _ t3)
      simp only [Nat.reduceAdd, Nat.reduceMul] at t7 t3
      have hk := hK.out
      simp only [t7, t3, Act.put, List.setIfInBounds_toArray, List.set_cons_zero, List.set_cons_succ] at hk
      have HK := Lib.hid hk
      clear hd hk hK
      go_simp
      exact HK.out undef _ HST.out
    refine ⟨?_, ?_⟩
    · intro L v w' hL hd _ hI K hK
      have l6 : L 8 = true := hd.out 8 (by kernel_rfl)
      have l1 : L 5 = true := hd.out 5 (by kernel_rfl)
      obtain ⟨b, t8, hB, h5, hat⟩ := hI.out.al 2 (by decide) l6
      obtain ⟨b1, t5, _, _⟩ := hI.out.ma 2 (by decide) l1
      have yc : w'.cell? ⟨b, 0, none⟩ = some h5 := hat.cell 0
      have yf := hat.frozen 0
      have HST := Lib.hid (hI.out.store (c := 2) (by decide) l6 l1 t8 _ t5)
      simp only [Nat.reduceAdd, Nat.reduceMul] at t8 t5
      have hk := hK.out
      simp only [t8, t5, Act.put, List.setIfInBounds_toArray, List.set_cons_zero, List.set_cons_succ] at hk
      have HK := Lib.hid hk
      clear hd hk hK
      go_simp
      exact HK.out undef _ HST.out
    trivial
  case hend =>
    intro L v w4 hL hI
    obtain ⟨a0, a1, a2, c0, c1, c2, t6, t7, t8, s0, s1, s2, k0, k1, k2, hlo, hne, hb4⟩ := hI.out.done (fun i hi => hL.out i (by simpa using hi))
    simp only [t6, t7, t8]
    clear hL hI t6 t7 t8
    have q1 := run_make_one w4 Try.underlying31 hi0 hz0 hz1 (by rw [hz2]; decide) rfl n (by omega)
    obtain ⟨W5, hW5⟩ : ∃ W5, W5 = (((((w4.alloc (.cells (Array.replicate n (.bool false)) 4)).alloc (.cells #[.slice (some ⟨w4.heap.size, 0, none⟩) n n] 31)).alloc (.cells #[.slice none 0 0] 42)).alloc (.cells #[.slice none 0 0] 36)).alloc (.cells #[.int .i64 0] 3)).alloc (.cells #[.func (.func 44) #[] #[.pointer (some ⟨w4.heap.size + 1 + 1 + 1 + 1, 0, none⟩), .pointer (some ⟨c2, 0, none⟩), .pointer (some ⟨c1, 0, none⟩), .pointer (some ⟨w4.heap.size + 1, 0, none⟩), .pointer (some ⟨w4.heap.size + 1 + 1, 0, none⟩), .pointer (some ⟨w1.heap.size, 0, none⟩), .pointer (some ⟨w4.heap.size + 1 + 1 + 1 + 1 + 1, 0, none⟩), .pointer (some ⟨w4.heap.size + 1 + 1 + 1, 0, none⟩), .pointer (some ⟨c0, 0, none⟩)]] 78) := ⟨_, rfl⟩
    obtain ⟨k, hk, ⟨e0, e1, e2, e3, e4, e5, e6, e7, e8, e9, e10, e11, e12⟩, hTSf⟩ := groups_start hw3 hkn hs3 s0 s1 s2 k0 k1 k2 hlo hne hb4 hW5
    have hTS := hTSf (by unfold visF; rw [e0, e1, e2, e3, e4, e5, e6, e7, e8])
    have HTS := Lib.hid hTS
    have HW5 := Lib.hid hW5
    have HHK := Lib.hid hk
    have hb1' : Below w.heap.size w w1 := (below1 _ _).trans (hb1.mono (by simp))
    have hfg := fan_get hfan
    have HFG := Lib.hid hfg
    have HE := Lib.hid (show k 0 = w4.heap.size + 1 + 1 + 1 + 1 ∧ k 1 = c2 ∧ k 2 = c1 ∧ k 3 = w4.heap.size + 1 ∧ k 4 = w4.heap.size + 1 + 1 ∧ k 5 = w1.heap.size ∧ k 6 = w4.heap.size + 1 + 1 + 1 + 1 + 1 ∧ k 7 = w4.heap.size + 1 + 1 + 1 ∧ k 8 = c0 ∧ k 9 = a2 from ⟨e0, e1, e2, e3, e4, e5, e6, e7, e8, e9⟩)
    clear hfg hk hTS hTSf hW5 e0 e1 e2 e3 e4 e5 e6 e7 e8 e9 e10 e11 e12 s0 s1 s2 k0 k1 k2 hlo hne hb4 hw3 hkn hs3 hb1 hfan
    go_wp2_with fail
    rw [← HW5.out]
    obtain ⟨e0, e1, e2, e3, e4, e5, e6, e7, e8, e9⟩ := HE.out
    rw [← e6, ← e0, ← e7, ← e4, ← e3, ← e5, ← e1, ← e2, ← e8]
    clear e0 e1 e2 e3 e4 e5 e6 e7 e8 e9 HE HW5 q1
    go_loopw [14, 29] (fun _ i wr => ∃ (a : Nat) (t : Tj.St) (sv ov : Value) (hs : List Value), a ≤ n ∧ i = .int .i64 a ∧ Hid (t = (List.range a).foldl (vstep g n) (Tj.start n)) ∧ TS (w4.heap.size + 6) w1 k n ge t.cnt t.idx t.low t.opn t.of sv t.stk ov hs t.out wr ∧ Hid (Tj.Inv g n [] t) ∧ t.cnt + Tj.unv n t ≤ n) (fun _ i _ => n - (intOf i).toNat)
    case atStart => exact ⟨0, Tj.start n, _, _, _, by omega, rfl, Lib.hid rfl, HTS.out, Lib.hid (Tj.inv_start g n), by
      have : Tj.unv n (Tj.start n) ≤ n := by unfold Tj.unv; exact Nat.le_trans (List.length_filter_le _ _) (by simp)
      show 0 + _ ≤ n
      omega⟩
    case round =>
      clear HTS
      obtain ⟨a, t, sv, ov, hs, ha, rfl, HT, hTS, HV, hct⟩ := hrel
      obtain ⟨y0, y1, y2, y3, y4, y5, y6, y7, y8⟩ := hTS.heads
      by_cases h1 : a < n
      · have d1 : decide ((a : Int) < (n : Int)) = true := by simp; omega
        have yi := ncell hTS.c9 (j := a) (by rw [HV.out.lidx]; exact h1)
        obtain ⟨iv, hiv⟩ : ∃ x, t.idx.getD a 0 = x := ⟨_, rfl⟩
        rw [hiv] at yi
        have i0 : (0 : Int) ≤ (a : Int) := by omega
        have i1 : (a : Int) < (n : Int) := by omega
        have HT2 := Lib.hid (show (List.range (a + 1)).foldl (vstep g n) (Tj.start n) = vstep g n t a by rw [List.range_succ, List.foldl_append, ← HT.out]; rfl)
        have hvs : vstep g n t a = if iv = 0 then Tj.visit g n t a else t := by rw [← hiv]; rfl
        have HIV := Lib.hid hiv
        clear hiv
        by_cases hz : iv = 0
        · have t1 : ((iv : Int) == 0) = true := by rw [beq_iff_eq]; omega
          rw [if_pos hz] at hvs
          have hI : t.I a = 0 := HIV.out.trans hz
          have hun : Tj.unv n t ≤ n := by omega
          have HC := Lib.hid (visit_any (w4.heap.size + 6) w1 k n ge g HHK.out hn1 HNI.out HFG.out (fun a _ => HNL.out a) n [] t a sv ov hs wr hTS HV.out h1 hI (fun x hx => by cases hx) hun hct)
          have HPO := Lib.hid (Tj.visit_post HNI.out n [] t a HV.out h1 hI (fun x hx => by cases hx) hun)
          have HVS := Lib.hid hvs
          unfold kargs at HC
          unfold visF at y6
          clear hvs hz hI
          go_wp2_with fail
          refine HC.out.mono ?_
          rintro e w5 ⟨rfl, hc5, sv5, ov5, hs5, hT5⟩
          have HT5 := Lib.hid hT5
          clear hT5 y0 y1 y2 y3 y4 y5 y6 y7 y8 yi hTS
          go_wp2_with fail
          go_roundw
          case rel => exact ⟨a + 1, _, sv5, ov5, hs5, by omega, by go_num, Lib.hid (by rw [HT2.out, HVS.out]), HT5.out, Lib.hid HPO.out.inv, hc5⟩
          case measure => simp [intOf]; omega
        · have t1 : ((iv : Int) == 0) = false := by rw [beq_eq_false_iff_ne]; omega
          rw [if_neg hz] at hvs
          have HVS := Lib.hid hvs
          clear hvs hz
          go_wp2_with fail
          go_roundw
          case rel => exact ⟨a + 1, t, sv, ov, hs, by omega, by go_num, Lib.hid (by rw [HT2.out, HVS.out]), hTS, HV, hct⟩
          case measure => simp [intOf]; omega
      · have d1 : decide ((a : Int) < (n : Int)) = false := by simp; omega
        have HE := Lib.hid (show t = R by rw [HT.out, show a = n by omega]; exact HR.out)
        obtain ⟨oa, oc, rfl⟩ := own_len hTS.uo.own
        have HTS := Lib.hid hTS
        go_wp2_with fail
        clear y0 y1 y2 y3 y4 y5 y6 y7 y8 hTS
        refine' wp_region_each _ (TS (w4.heap.size + 6) w1 k n ge t.cnt t.idx t.low t.opn t.of sv t.stk (.slice oa t.out.length oc) hs t.out) (Onward) (Vl :: Vl :: Vl :: Vl :: []) ?hF (by kernel_rfl) (by kernel_rfl) (by kernel_rfl) (HTS.out.next ((Below.refl _ _).drew)) (lasting_cons (lasting_vl) (lasting_cons (lasting_vl) (lasting_cons (lasting_vl) (lasting_cons (lasting_vl) (lasting_none))))) ?hops ?hend
        case hF => (intro v; simp only [over, Act.put, List.setIfInBounds_toArray, List.set_cons_zero, List.set_cons_succ, Nat.zero_add, Nat.reduceAdd]; exact rfl)
        case hops =>
          refine ⟨?_, ?_⟩
          · intro v w' hj hd hs K hK
            obtain ⟨y0, y1, y2, y3, y4, y5, y6, y7, y8⟩ := hj.out.heads
            have hk := hK.out
            simp only [Act.put, List.setIfInBounds_toArray, List.set_cons_zero, List.set_cons_succ] at hk
            have HK := Lib.hid hk
            clear hd hs hk hK
            go_simp
            exact HK.out _ _ hj.out (Below.refl _ _) (show _ = _ from rfl)
          refine ⟨?_, ?_⟩
          · intro v w' hj hd hs K hK
            obtain ⟨y0, y1, y2, y3, y4, y5, y6, y7, y8⟩ := hj.out.heads
            have hk := hK.out
            simp only [Act.put, List.setIfInBounds_toArray, List.set_cons_zero, List.set_cons_succ] at hk
            have HK := Lib.hid hk
            clear hd hs hk hK
            go_simp
            exact HK.out _ _ hj.out (Below.refl _ _) (show _ = _ from rfl)
          refine ⟨?_, ?_⟩
          · intro v w' hj hd hs K hK
            have t0 : v 0 = _ := hd.out 0 (by kernel_rfl)
            have hk := hK.out
            simp only [t0, Act.put, List.setIfInBounds_toArray, List.set_cons_zero, List.set_cons_succ] at hk
            have HK := Lib.hid hk
            clear hd hs hk hK
            go_simp
            exact HK.out _ _ hj.out (Below.refl _ _) (show _ = _ from rfl)
          refine ⟨?_, ?_⟩
          · intro v w' hj hd hs K hK
            have t1 : v 1 = _ := hd.out 1 (by kernel_rfl)
            have hk := hK.out
            simp only [t1, Act.put, List.setIfInBounds_toArray, List.set_cons_zero, List.set_cons_succ] at hk
            have HK := Lib.hid hk
            clear hd hs hk hK
            go_simp
            exact HK.out _ _ hj.out (Below.refl _ _) (show _ = _ from rfl)
          trivial
        case hend =>
          intro v6 w6 hj hd
          have t2 : v6 2 = _ := hd.out 2 (of_decide_eq_true (by kernel_rfl))
          have t3 : v6 3 = _ := hd.out 3 (of_decide_eq_true (by kernel_rfl))
          simp only [t2, t3]
          have hT := hj.out
          clear hj hd t2 t3 HTS
          go_wp2_with fail
          go_ret2
          obtain ⟨A', c', e, hl⟩ := hT.uo.ls
          injection e with e1 e2 e3
          subst e1
          rw [← HE.out]
          refine ⟨some ⟨k 12, 0, none⟩, n, oa, oc, rfl, fun hne => ⟨k 12, 0, rfl, hT.c12.lt, fun j x hx => ?_⟩, hl, hb1'.trans (hT.below.mono hb1'.size)⟩
          rw [Nat.zero_add, hT.c12.cell j]
          simpa using ncells_get hx
end Go.Proofs.Ytljlihimmcmlmaa
