/- Copies of lists; the reference's move. -/
import Derived.Test.YtpcmlkpnjimbiaaDoorPMut
import Derived.Test.YtpcmlkpnjimbiaaDoorInv4
namespace Go.Proofs.YtpcmlkpnjimbiaaDoor
set_option linter.unusedVariables false
set_option linter.unusedSimpArgs false
open Go.RowKit
/-- append to a fresh list without room, from any slice that holds known cells: what was there stays. -/
theorem wp_append_zeroK {P : Program} {w : World} {o : Oper} {a : Act} {K : Act → World → Prop} {Q : Exit → Act → World → Prop} (s x : Operand) (t : TypeId)
  (ho : o.op = .call { callee := .builtin .append, args := #[s, x], argTypes := #[t, t] })
  (base : Nat) (e : TypeId) (i : TypeInfo) (z : Value) (size bytes : Nat) (ht : P.underlying t = some (.slice e)) (hi : P.info? e = some i) (hz : i.zero = some z)
  (hsize : i.size = size) (hby : i.bytes = bytes) (hzs : z.cells.size = size)
  (g : Nat) (hs : a.eval s = .slice (some ⟨g, 0, none⟩) 0 0) (hown : w.ownsRow base e size (.slice (some ⟨g, 0, none⟩) 0 0) 0 [])
  (v : Value) (m : Nat) (news : List Value) (hx : a.eval x = v) (hrow : TRow w e size v m news) (h1 : ∀ u ∈ news, u.oneCell' = true)
  (hbytes : m * bytes ≤ 140737488355328) (hbase : base ≤ w.heap.size)
  (h : ∀ g' c' w', w'.ownsRow base e size (.slice (some ⟨g', 0, none⟩) m c') m news → Below w.heap.size w w' → (g' = g ∨ w.heap.size ≤ g') → K (a.put o.dst (.slice (some ⟨g', 0, none⟩) m c')) w') : o.wp P a w K Q := by
 obtain ⟨hl, A, c, rfl, hmc, hcm, hnone, hrow⟩ := hrow
 cases A with
 | none =>
  have hc0 := hnone rfl
  subst hc0
  obtain rfl : m = 0 := by omega
  have hn : news = [] := List.eq_nil_of_length_eq_zero (by rw [hl, Nat.zero_mul])
  subst hn
  have hrun := run_append_owned_none (P := P) (w := w) base t o.type e i size ht hi _ 0 [] hown
  unfold Oper.wp
  simp [execOp, ho, resolve, invoke, builtin, hs, hx, hrun, Result.andThen]
  exact h _ _ w hown (Below.refl _ _) (Or.inl rfl)
 | some ad =>
  have hnews : ∀ j u, news[j]? = some u → w.cell? (ad.add j) = some u := fun j u hj => by
   rcases hrow with rfl | ⟨g1, o1, cur, fr, he, hh, hc⟩
   ·rw [Nat.zero_mul] at hl
    rw [List.eq_nil_of_length_eq_zero hl] at hj
    simp at hj
   ·obtain rfl := Option.some.inj he
    have := hc j u hj
    rw [show (Addr.add ⟨g1, o1, none⟩ j) = ⟨g1, o1 + j, none⟩ from add_at g1 o1 j]
    exact (cell_of_row w g1 (o1 + j) cur e fr hh).trans this
  refine wp_append_two s x t ho base e i z size bytes ht hi hz hsize hby hzs g 0 0 [] hs hown ad m c news hx hl hnews h1 (by omega) (by rw [Nat.zero_add]; exact hbytes) hbase fun g' c' w' h2 h3 => ?_
  simp only [Nat.zero_add, List.nil_append] at h2
  rw [show (0 + m) = m by omega]
  rcases h3 with ⟨rfl, rfl, h3⟩ | ⟨hg', h3⟩
  ·refine h _ _ w' h2 ?_ (Or.inl rfl)
   by_cases hm : m = 0
   ·subst hm
    rcases h2.2 with ⟨h2, _⟩ | ⟨g2, cap2, cur2, hv2, hb2, hh2, r2⟩
    ·cases h2
    ·rcases hown.2 with ⟨h4, _⟩ | ⟨g4, cap4, cur4, hv4, hb4, hh4, r4⟩
     ·cases h4
     ·simp only [Value.slice.injEq, Option.some.injEq, Addr.mk.injEq] at hv2 hv4
      obtain ⟨⟨rfl, _⟩, _, rfl⟩ := hv2
      obtain ⟨⟨rfl, _⟩, _, rfl⟩ := hv4
      have z2 : cur2 = #[] := Array.eq_empty_of_size_eq_zero (by rw [r2.2.2.1, Nat.zero_mul])
      have z4 : cur4 = #[] := Array.eq_empty_of_size_eq_zero (by rw [r4.2.2.1, Nat.zero_mul])
      subst z2; subst z4
      refine ⟨h3.os, h3.tape, h3.output, h3.size, fun k hk => ?_⟩
      by_cases hkg : k = g'
      ·subst hkg
       rw [hh2, hh4]
      ·exact h3.block k hk (fun e => hkg (by simpa using e))
   ·exfalso
    rcases h2.2 with ⟨h2, _⟩ | ⟨g2, cap2, cur2, hv2, hb2, hh2, r2⟩
    ·cases h2
    ·simp only [Value.slice.injEq] at hv2
     omega
  ·exact h g' c' w' h2 ⟨h3.os, h3.tape, h3.output, h3.size, fun k hk => h3.block k hk (by simp)⟩ (Or.inr (by omega))
def EmpX (B : Nat) (e : TypeId) (k : Nat) : Value → World → Prop := fun x W => ∃ g, x = .slice (some ⟨g, 0, none⟩) 0 0 ∧ W.ownsRow B e k (.slice (some ⟨g, 0, none⟩) 0 0) 0 []
def OwnX (B : Nat) (e : TypeId) (k n : Nat) (xs : List Value) : Value → World → Prop := fun x W => ∃ g c, x = .slice (some ⟨g, 0, none⟩) n c ∧ W.ownsRow B e k (.slice (some ⟨g, 0, none⟩) n c) n xs
theorem empX_on {J : World → Prop} (B : Nat) (e : TypeId) (k : Nat) : Lasting J Onward (EmpX B e k) := fun x w w' _ hb ⟨g, e1, h⟩ => ⟨g, e1, own_below h hb⟩
theorem ownX_on {J : World → Prop} (B : Nat) (e : TypeId) (k n : Nat) (xs : List Value) : Lasting J Onward (OwnX B e k n xs) := fun x w w' _ hb ⟨g, c, e1, h⟩ => ⟨g, c, e1, own_below h hb⟩
theorem sl_one {w : World} {e : TypeId} {k n : Nat} {v : Value} {xs : List Value} (h : TRow w e k v n xs) : v.oneCell' = true := by
 obtain ⟨A, c, rfl⟩ := h.slice
 rfl
theorem one_cons {u : Value} {l : List Value} (h : u.oneCell' = true) (hl : ∀ z ∈ l, z.oneCell' = true) : ∀ z ∈ u :: l, z.oneCell' = true := fun z hz => by
 rcases List.mem_cons.1 hz with rfl | hz
 ·exact h
 ·exact hl z hz
theorem one_nil : ∀ z ∈ ([] : List Value), z.oneCell' = true := fun z hz => by cases hz
theorem LaR.one {w : World} {r : List Value} {x : Ap.La} (h : LaR w r x) : ∀ u ∈ r, u.oneCell' = true := by
 obtain ⟨a, b, rfl, h1, h2⟩ := h
 exact one_cons rfl (one_cons (sl_one h1) (one_cons (sl_one h2) (one_cons rfl one_nil)))
theorem FuR.one {w : World} {r : List Value} {x : Ap.Fu} (h : FuR w r x) : ∀ u ∈ r, u.oneCell' = true := by
 obtain ⟨a, b, c, rfl, h1, h2, h3⟩ := h
 exact one_cons rfl (one_cons rfl (one_cons rfl (one_cons (sl_one h1) (one_cons (sl_one h2) (one_cons (sl_one h3) (one_cons rfl one_nil))))))
theorem PrR.one {w : World} {r : List Value} {x : Ap.Pr} (h : PrR w r x) : ∀ u ∈ r, u.oneCell' = true := by
 obtain ⟨a, rfl, h1⟩ := h
 exact one_cons rfl (one_cons (sl_one h1) (one_cons rfl (one_cons rfl (one_cons rfl (one_cons rfl (one_cons rfl one_nil))))))
theorem LiR.one {w : World} {r : List Value} {x : Ap.Li} (h : LiR w r x) : ∀ u ∈ r, u.oneCell' = true := by
 obtain ⟨a, rfl, h1⟩ := h
 exact one_cons rfl (one_cons rfl (one_cons rfl (one_cons (sl_one h1) (one_cons rfl (one_cons rfl (one_cons rfl (one_cons rfl (one_cons rfl one_nil))))))))
theorem RuR.one {w : World} {r : List Value} {x : Ap.Ru} (h : RuR w r x) : ∀ u ∈ r, u.oneCell' = true := by
 obtain ⟨a, b, rfl, h1, h2⟩ := h
 obtain ⟨B, d, rfl⟩ := h2.slice
 exact one_cons rfl (one_cons rfl (one_cons (sl_one h1) (one_cons rfl (one_cons rfl (one_cons rfl (one_cons rfl (one_cons rfl (one_cons rfl one_nil))))))))
theorem RowsR.ones {α : Type} {R : World → List Value → α → Prop} {w : World} {rows : List (List Value)} {xs : List α} (h : RowsR R w rows xs) (h1 : ∀ r x, R w r x → ∀ u ∈ r, u.oneCell' = true) : ∀ u ∈ rows.flatten, u.oneCell' = true := fun u hu => by
 obtain ⟨r, hr, hu⟩ := List.mem_flatten.1 hu
 obtain ⟨i, hi⟩ := List.mem_iff_getElem?.1 hr
 obtain ⟨x, hx⟩ : ∃ x, xs[i]? = some x := ⟨_, List.getElem?_eq_getElem (by rw [← h.1]; exact (List.getElem?_eq_some_iff.1 hi).1)⟩
 exact h1 r x (h.2 i r x hi hx) u hu
/-- Where an offset of one list of tokens goes in the other one. -/
def mvTo : List Lx.Tok → List Lx.Tok → Int → Int
 | t :: ts, u :: us, a => if (t.pos : Int) = a then (u.pos : Int) else mvTo ts us a
 | _, _, a => a
theorem mvTo_nil (l : List Lx.Tok) (a : Int) : mvTo [] l a = a := by cases l <;> rfl
theorem mvTo_nil2 (l : List Lx.Tok) (a : Int) : mvTo l [] a = a := by cases l <;> rfl
theorem tkc_flat (l : List Lx.Tok) {k : Nat} {x : Lx.Tok} (h : l[k]? = some x) : (l.flatMap tkfs)[k * 3 + 2]? = some (.int .i64 x.pos) := by
 have e : l.flatMap tkfs = (l.map tkfs).flatten := by rw [List.flatMap_def]
 rw [e]
 have hk : ∀ r ∈ l.map tkfs, r.length = 3 := fun r hr => by
  obtain ⟨x, _, rfl⟩ := List.mem_map.1 hr; rfl
 exact flat_at _ hk k (tkfs x) (by rw [List.getElem?_map, h]; rfl) 2 _ rfl
def TkR (w : World) (v : Value) (l : List Lx.Tok) : Prop := TRow w 41 3 v l.length (l.flatMap tkfs)
theorem TkR.nil (w : World) : TkR w (.slice none 0 0) [] := TRow.nil w _ _
set_option maxHeartbeats 1000000 in
set_option maxRecDepth 100000 in
theorem move_any (v v' : Value) (l m : List Lx.Tok) (a : Int) (w : World) (hl : l.length ≤ 1000000 ∧ m.length ≤ 1000000) (h : TkR w v l) (h' : TkR w v' m) :
  Calls Tryd.prog 37 #[.int .i64 a, v, v'] w fun e w' => e = .returned (.int .i64 (mvTo l m a)) ∧ Below w.heap.size w w' := by
 obtain ⟨A, c, rfl⟩ := TRow.slice h
 obtain ⟨A', c', rfl⟩ := TRow.slice h'
 obtain ⟨R, hR⟩ : ∃ R, mvTo l m a = R := ⟨_, rfl⟩
 rw [hR]
 have HR := Lib.hid hR
 clear hR
 go_enter Tryd.func37, Tryd.ntmps37
 go_wp2_with fail
 go_loopw [7] (fun i wr => ∃ (k : Nat), k ≤ l.length ∧ k ≤ m.length ∧ i = .int .i64 k ∧ Hid (mvTo (l.drop k) (m.drop k) a = R) ∧ Below w.heap.size w wr) (fun i _ => l.length - (intOf i).toNat)
 case atStart => exact ⟨0, by omega, by omega, rfl, Lib.hid HR.out, Below.refl _ _⟩
 case round =>
  obtain ⟨k, hk, hk', rfl, HI, hbw⟩ := hrel
  by_cases h1 : k < l.length
  ·have d1 : decide ((k : Int) < (l.length : Int)) = true := decide_eq_true (by omega)
   have n1 : decide (k < l.length) = true := decide_eq_true h1
   by_cases h2 : k < m.length
   ·have d2 : decide ((k : Int) < (m.length : Int)) = true := decide_eq_true (by omega)
    have n2 : decide (k < m.length) = true := decide_eq_true h2
    obtain ⟨x, hx⟩ : ∃ x, l[k]? = some x := ⟨_, List.getElem?_eq_getElem h1⟩
    obtain ⟨y, hy⟩ : ∃ y, m[k]? = some y := ⟨_, List.getElem?_eq_getElem h2⟩
    obtain ⟨g, o, c1, e1, hg, q1⟩ := (TRow.below h hbw).cells (by omega)
    obtain ⟨g', o', c1', e1', hg', q1'⟩ := (TRow.below h' hbw).cells (by omega)
    have c0 := q1 _ _ (tkc_flat l hx)
    have d0 := q1' _ _ (tkc_flat m hy)
    simp only [← Nat.add_assoc] at c0 d0
    injection e1 with e1 e9 e3
    clear e9
    injection e1' with e1' e9 e3'
    clear e9
    subst e1; subst e1'; subst e3; subst e3'
    have e2 : mvTo (l.drop k) (m.drop k) a = if (x.pos : Int) = a then (y.pos : Int) else mvTo (l.drop (k + 1)) (m.drop (k + 1)) a := by
     rw [List.getElem?_eq_getElem h1] at hx
     rw [List.getElem?_eq_getElem h2] at hy
     rw [List.drop_eq_getElem_cons h1, List.drop_eq_getElem_cons h2, ← Option.some.inj hx, ← Option.some.inj hy]
     rfl
    by_cases hp : (x.pos : Int) = a
    ·have t1 : ((x.pos : Int) == a) = true := beq_iff_eq.2 hp
     have HV := Lib.hid (show R = (y.pos : Int) by rw [← HI.out, e2, if_pos hp])
     clear hx hy q1 q1' h h' e2 hp
     go_wp2_with fail
     go_ret
     exact ⟨by rw [HV.out]; rfl, hbw⟩
    ·have t1 : ((x.pos : Int) == a) = false := beq_eq_false_iff_ne.2 hp
     have HV := Lib.hid (show mvTo (l.drop (k + 1)) (m.drop (k + 1)) a = R by rw [← HI.out, e2, if_neg hp])
     clear hx hy q1 q1' h h' e2 hp
     go_wp2_with fail
     go_roundw
     case rel => exact ⟨k + 1, by omega, by omega, by go_num, HV, hbw⟩
     case measure => simp [intOf]; omega
   ·have d2 : decide ((k : Int) < (m.length : Int)) = false := decide_eq_false (by omega)
    have n2 : decide (k < m.length) = false := decide_eq_false h2
    have HV := Lib.hid (show R = a by rw [← HI.out, List.drop_of_length_le (show m.length ≤ k by omega), mvTo_nil2])
    clear h1 h2
    go_wp2_with fail
    go_ret
    exact ⟨by rw [HV.out]; rfl, hbw⟩
  ·have d1 : decide ((k : Int) < (l.length : Int)) = false := decide_eq_false (by omega)
   have n1 : decide (k < l.length) = false := decide_eq_false h1
   have HV := Lib.hid (show R = a by rw [← HI.out, List.drop_of_length_le (show l.length ≤ k by omega), mvTo_nil])
   clear h1
   go_wp2_with fail
   go_ret
   exact ⟨by rw [HV.out]; rfl, hbw⟩
end Go.Proofs.YtpcmlkpnjimbiaaDoor
