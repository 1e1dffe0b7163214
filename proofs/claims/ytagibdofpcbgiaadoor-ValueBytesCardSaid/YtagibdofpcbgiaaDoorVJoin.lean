/- join of the laws. -/
import Derived.Test.YtagibdofpcbgiaaDoorVHead
import Derived.Laws.AppendOwnNone
namespace Go.Proofs.YtagibdofpcbgiaaDoor
set_option linter.unusedVariables false
set_option linter.unusedSimpArgs false
open Go.RowKit Go.Shelf
/-- append to a slice of the call's own, from any slice that holds known cells. -/
theorem wpList_append_from {P : Program} {w : World} {ops : Array Oper} {rest : List Oper} {o : Oper} {a : Act} {Q : Exit → Act → World → Prop} (hgd : o.guard = none) (s x : Operand) (t : TypeId)
    (ho : o.op = .call { callee := .builtin .append, args := #[s, x], argTypes := #[t, t] })
    (base : Nat) (e : TypeId) (i : TypeInfo) (z : Value) (size bytes : Nat) (ht : P.underlying t = some (.slice e)) (hi : P.info? e = some i) (hz : i.zero = some z)
    (hsize : i.size = size) (hby : i.bytes = bytes) (hzs : z.cells.size = size) (hsz : 0 < size)
    (v : Value) (n : Nat) (xs : List Value) (hs : a.eval s = v) (hown : w.ownsRow base e size v n xs)
    (A : Option Addr) (m c : Nat) (news : List Value) (hx : a.eval x = .slice A m c) (hl : news.length = m * size) (hnone : A = none → m = 0 ∧ c = 0) (hnews : ∀ ad, A = some ad → ∀ j u, news[j]? = some u → w.cell? (ad.add j) = some u) (h1 : ∀ u ∈ news, u.oneCell' = true)
    (h63 : n + m ≤ maxLen) (hbytes : (n + m) * bytes ≤ 140737488355328) (hbase : base ≤ w.heap.size)
    (h : ∀ v' w', w'.ownsRow base e size v' (n + m) (xs ++ news) → w.grownBy w' v.ownBlock → wpList P ops Q rest (a.put o.dst v') w') : wpList P ops Q (o :: rest) a w := by
  cases A with
  | some ad => exact wpList_append_own w hgd s x t ho base e i z size bytes ht hi hz hsize hby hzs hsz v n xs hs hown ad m c news hx hl (hnews ad rfl) h1 h63 hbytes hbase fun v' w' h2 h3 _ => h v' w' h2 h3
  | none =>
    obtain ⟨rfl, rfl⟩ := hnone rfl
    have hn : news = [] := List.eq_nil_of_length_eq_zero (by simpa using hl)
    subst hn
    refine wpList_append_own_none hgd s x t ho base e i size ht hi v n xs hs hown hx ?_
    refine h v w (by simpa using hown) ?_
    exact ⟨rfl, rfl, rfl, Nat.le_refl _, fun k hk _ => rfl⟩
theorem vcells_one (l : List Vx.V) : ∀ u ∈ vcells l, u.oneCell' = true := by
  intro u hu
  unfold vcells at hu
  rw [List.mem_flatMap] at hu
  obtain ⟨v, _, hv⟩ := hu
  exact one3 (by rfl) (by rfl) (by rfl) u hv
theorem vcells_at (l : List Vx.V) (j : Nat) (u : Value) (h : (vcells l)[j]? = some u) : ∃ k v, l[k]? = some v ∧ ((j = k * 3 ∧ u = .int .i64 v.t) ∨ (j = k * 3 + 1 ∧ u = .int .i64 v.n) ∨ (j = k * 3 + 2 ∧ u = .string ⟨v.s.toArray⟩)) := by
  have hj : j < l.length * 3 := by
    rw [← vcells_len]
    obtain ⟨h, _⟩ := List.getElem?_eq_some_iff.1 h
    exact h
  have hk : j / 3 < l.length := by omega
  refine ⟨j / 3, _, List.getElem?_eq_getElem hk, ?_⟩
  obtain ⟨a, b, c⟩ := vcells_get l (j / 3) _ (List.getElem?_eq_getElem hk)
  rcases (by omega : j = j / 3 * 3 ∨ j = j / 3 * 3 + 1 ∨ j = j / 3 * 3 + 2) with e | e | e
  · left; refine ⟨e, ?_⟩; rw [← e] at a; rw [a] at h; exact (Option.some.inj h).symm
  · right; left; refine ⟨e, ?_⟩; rw [← e] at b; rw [b] at h; exact (Option.some.inj h).symm
  · right; right; refine ⟨e, ?_⟩; rw [← e] at c; rw [c] at h; exact (Option.some.inj h).symm
theorem tup_news {w : World} {A : Option Addr} {l : List Vx.V} (h : Tup w A l) : ∀ ad, A = some ad → ∀ j u, (vcells l)[j]? = some u → w.cell? (ad.add j) = some u := by
  intro ad hA j u hu
  obtain ⟨k, v, hk, hc⟩ := vcells_at l j u hu
  obtain ⟨g, o, e, hg, hcell⟩ := h (by intro e; rw [e] at hk; simp at hk)
  rw [hA] at e
  obtain rfl := Option.some.inj e
  obtain ⟨a, b, c⟩ := hcell k v hk
  rw [add_at]
  rcases hc with ⟨rfl, rfl⟩ | ⟨rfl, rfl⟩ | ⟨rfl, rfl⟩
  · exact a
  · exact b
  · exact c
theorem tup_none {w : World} {A : Option Addr} {l : List Vx.V} (h : Tup w A l) (hA : A = none) : l.length = 0 := by
  rcases Nat.eq_zero_or_pos l.length with e | e
  · exact e
  · obtain ⟨g, o, e', _⟩ := h.at e
    rw [hA] at e'; cases e'
theorem vcells_app (l r : List Vx.V) : vcells (l ++ r) = vcells l ++ vcells r := by simp [vcells]
theorem own_empty (w : World) (t : TypeId) (size : Nat) (B : Nat) (hB : B ≤ w.heap.size) : (w.alloc (.cells #[] t)).ownsRow B t size (.slice (some ⟨w.heap.size, 0, none⟩) 0 0) 0 [] :=
  ⟨by simp, Or.inr ⟨w.heap.size, 0, #[], rfl, hB, heap_alloc_new w _, Nat.le_refl _, by unfold maxLen; omega, by simp, by simp⟩⟩
set_option maxHeartbeats 1000000 in
set_option maxRecDepth 100000 in
theorem join_any (A B : Option Addr) (c d : Nat) (xs ys : List Vx.V) (w : World) (hx : xs.length ≤ 1000000) (hy : ys.length ≤ 1000000) (hA : Tup w A xs) (hB : Tup w B ys) (zA : A = none → c = 0) (zB : B = none → d = 0) :
    Calls Tryd.prog 27 #[.slice A xs.length c, .slice B ys.length d] w (TupOut1 (xs ++ ys) w) := by
  obtain ⟨i0, hi, hz0, hz1, hz2⟩ := info_parts value_info
  have nA : A = none → xs.length = 0 ∧ c = 0 := fun h => ⟨tup_none hA h, zA h⟩
  have nB : B = none → ys.length = 0 ∧ d = 0 := fun h => ⟨tup_none hB h, zB h⟩
  have lA := vcells_len xs
  have lB := vcells_len ys
  have LA := Lib.hid lA
  have LB := Lib.hid lB
  clear lA lB zA zB
  have o0 := own_empty w 23 3 w.heap.size (Nat.le_refl _)
  have hA1 := hA.below (below1 w (.cells #[] 23))
  have hB1 := hB.below (below1 w (.cells #[] 23))
  go_enter Tryd.func27, Tryd.ntmps27
  go_wp2_with (first
    | (at_builtin; refine wpList_append_from rfl (.tmp 5) (.tmp 6) 24 rfl w.heap.size 23 i0 _ 3 32 Tryd.underlying24 hi hz0 hz1 hz2 rfl (by omega) (.slice (some ⟨w.heap.size, 0, none⟩) 0 0) 0 [] rfl o0 A xs.length c (vcells xs) rfl LA.out nA (tup_news hA1) (vcells_one xs) (by unfold maxLen; omega) (by omega) (by simp) ?_; intro v1 w1 o1 g1
       simp only [Nat.zero_add, List.nil_append] at o1
       obtain ⟨a1, k1, rfl⟩ := own_len o1
       have b1 : Below w.heap.size w w1 := (below1 w _).grown g1 (by simp) (fun q hq => by simp [Value.ownBlock] at hq; omega)
       have hB2 := hB.below b1)
    | (at_builtin; refine wpList_append_from rfl (.tmp 7) (.tmp 8) 24 rfl w.heap.size 23 i0 _ 3 32 Tryd.underlying24 hi hz0 hz1 hz2 rfl (by omega) (.slice a1 xs.length k1) xs.length (vcells xs) rfl o1 B ys.length d (vcells ys) rfl LB.out nB (tup_news hB2) (vcells_one ys) (by unfold maxLen; omega) (by omega) b1.size ?_; intro v2 w2 o2 g2))
  have b2 : Below w.heap.size w w2 := b1.grown g2 b1.size (fun q hq => (own_lt o1 hq).1)
  have hf : w2.ownsRow w.heap.size 23 3 v2 (xs ++ ys).length (vcells (xs ++ ys)) := by rw [List.length_append, vcells_app]; exact o2
  obtain ⟨A3, c3, rfl, q1, q2, q3⟩ := tup_of_own hf
  go_ret
  exact ⟨A3, c3, rfl, q1, q2, q3, b2⟩
end Go.Proofs.YtagibdofpcbgiaaDoor
