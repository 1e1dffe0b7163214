/- A program of the call's own in memory, whose offsets are stored one by one. -/
import Derived.Test.YtpcmlkpnjimbiaaDoorPEq3
import Derived.Test.YtpcmlkpnjimbiaaDoorPBnd
import Derived.Test.YtpcmlkpnjimbiaaDoorTOwn
namespace Go.Proofs.YtpcmlkpnjimbiaaDoor
set_option linter.unusedVariables false
set_option linter.unusedSimpArgs false
open Go.RowKit
theorem flatten_set {k : Nat} : ∀ (rows : List (List Value)), (∀ r ∈ rows, r.length = k) → ∀ (i : Nat) (r : List Value), rows[i]? = some r → ∀ (j : Nat) (u : Value), j < k → rows.flatten.set (i * k + j) u = (rows.set i (r.set j u)).flatten
 | [], _, i, r, h, _, _, _ => by simp at h
 | r0 :: rows, hk, 0, r, h, j, u, hj => by
  simp at h; subst h
  have h0 := hk r0 (by simp)
  rw [List.flatten_cons, Nat.zero_mul, Nat.zero_add, List.set_append, if_pos (by omega), List.set_cons_zero, List.flatten_cons]
 | r0 :: rows, hk, i + 1, r, h, j, u, hj => by
  have h0 := hk r0 (by simp)
  have ih := flatten_set rows (fun r hr => hk r (by simp [hr])) i r (by simpa using h) j u hj
  have e : (i + 1) * k + j - r0.length = i * k + j := by rw [h0, Nat.succ_mul]; omega
  rw [List.flatten_cons, List.set_append, if_neg (by rw [h0, Nat.succ_mul]; omega), e, ih, List.set_cons_succ, List.flatten_cons]
section
variable {w : World} {B : Nat} {e : TypeId} {k n : Nat} {v : Value} {rows : List (List Value)}
theorem own_set {g c : Nat} (h : w.ownsRow B e k (.slice (some ⟨g, 0, none⟩) n c) n rows.flatten) (hk : ∀ r ∈ rows, r.length = k) {i j : Nat} {r : List Value} (hi : rows[i]? = some r) (hj : j < k) (u : Value) :
  (w.setCell ⟨g, i * k + j, none⟩ u).ownsRow B e k (.slice (some ⟨g, 0, none⟩) n c) n (rows.set i (r.set j u)).flatten := by
 obtain ⟨h1, h2⟩ := h
 have hf := flatten_set rows hk i r hi j u hj
 rcases h2 with ⟨h2, _⟩ | ⟨g', cap, cur, hv, hg, hh, h3, h4, h5, h6⟩
 ·cases h2
 ·simp only [Value.slice.injEq, Option.some.injEq, Addr.mk.injEq] at hv
  obtain ⟨⟨rfl, _⟩, _, rfl⟩ := hv
  have ha : At w g e cur := hh
  have hp : At (w.setCell ⟨g, i * k + j, none⟩ u) g e (cur.setIfInBounds (i * k + j) u) := ha.put _ u
  refine ⟨by rw [← hf, List.length_set]; exact h1, Or.inr ⟨g, c, _, rfl, hg, hp, h3, h4, by simpa using h5, ?_⟩⟩
  rw [← hf, ← h6, Array.toList_setIfInBounds, List.take_set]
theorem own_read (h : w.ownsRow B e k v n rows.flatten) (hk : ∀ r ∈ rows, r.length = k) (h0 : 0 < k) {i : Nat} {r : List Value} (hi : rows[i]? = some r) :
  ∃ g c cur, v = .slice (some ⟨g, 0, none⟩) n c ∧ B ≤ g ∧ At w g e cur ∧ ∀ (j : Nat) (u : Value), r[j]? = some u → w.cell? ⟨g, i * k + j, none⟩ = some u := by
 have hc := own_cells h
 rcases h.2 with ⟨rfl, rfl⟩ | ⟨g, cap, cur, rfl, hg, hh, h1, h2, h3, h4⟩
 ·exfalso
  have hl := h.1
  rw [Nat.zero_mul] at hl
  have hr := hk r (List.mem_of_getElem? hi)
  cases r with
  | nil => simp at hr; omega
  | cons u r =>
   have := flat_at rows hk i _ hi 0 u rfl
   rw [List.eq_nil_of_length_eq_zero hl] at this
   simp at this
 ·refine ⟨g, cap, cur, rfl, hg, hh, fun j u hj => ?_⟩
  have hf := flat_at rows hk i r hi j u hj
  rw [← h4, List.getElem?_take] at hf
  rw [cell_of_row w g _ cur _ (0, 0) hh]
  split at hf
  ·simpa using hf
  ·cases hf
end
theorem RowsR.set {α : Type} {R : World → List Value → α → Prop} {w : World} {rows : List (List Value)} {xs : List α} (h : RowsR R w rows xs) {i : Nat} {r : List Value} {x : α} (hr : R w r x) (hl : i < xs.length) : RowsR R w (rows.set i r) (xs.set i x) := by
 refine ⟨by rw [List.length_set, List.length_set]; exact h.1, fun j r' x' h1 h2 => ?_⟩
 by_cases hj : j = i
 ·subst hj
  rw [List.getElem?_set_self (by rw [h.1]; exact hl)] at h1
  rw [List.getElem?_set_self hl] at h2
  obtain rfl := Option.some.inj h1
  obtain rfl := Option.some.inj h2
  exact hr
 ·rw [List.getElem?_set_ne (Ne.symm hj)] at h1 h2
  exact h.2 j r' x' h1 h2
theorem RowsR.lens {α : Type} {R : World → List Value → α → Prop} {w : World} {rows : List (List Value)} {xs : List α} {k : Nat} (h : RowsR R w rows xs) (hk : ∀ r x, R w r x → r.length = k) : ∀ r ∈ rows, r.length = k := fun r hr => by
 obtain ⟨i, hi⟩ := List.mem_iff_getElem?.1 hr
 obtain ⟨x, hx⟩ : ∃ x, xs[i]? = some x := ⟨_, List.getElem?_eq_getElem (by rw [← h.1]; exact (List.getElem?_eq_some_iff.1 hi).1)⟩
 exact hk r x (h.2 i r x hi hx)
theorem RowsR.row {α : Type} {R : World → List Value → α → Prop} {w : World} {rows : List (List Value)} {xs : List α} (h : RowsR R w rows xs) {i : Nat} {x : α} (hx : xs[i]? = some x) : ∃ r, rows[i]? = some r ∧ R w r x := by
 obtain ⟨r, hr⟩ : ∃ r, rows[i]? = some r := ⟨_, List.getElem?_eq_getElem (by rw [h.1]; exact (List.getElem?_eq_some_iff.1 hx).1)⟩
 exact ⟨r, hr, h.2 i r x hr hx⟩
/-- Rules of the call's own; the bodies before number m are its own too. -/
def MRu (w0 w : World) (m : Nat) (v : Value) (xs : List Ap.Ru) : Prop :=
 ∃ (rows : List (List Value)) (bs : Nat → Value), w.ownsRow w0.heap.size 66 9 v xs.length rows.flatten ∧ rows.length = xs.length ∧
  (∀ (i : Nat) (x : Ap.Ru), xs[i]? = some x → ∃ a, rows[i]? = some (ruFs x a (bs i)) ∧ TRow w0 71 4 a x.args.length (tmCells x.args) ∧
   (i < m → ∃ brs, w.ownsRow w0.heap.size 58 9 (bs i) x.body.length brs.flatten ∧ RowsR LiR w0 brs x.body) ∧ (m ≤ i → TRows LiR w0 58 9 (bs i) x.body)) ∧
  ∀ i j, i < j → j < m → Apart (bs i) (bs j)
def MRows {α : Type} (R : World → List Value → α → Prop) (w0 w : World) (e : TypeId) (k : Nat) (v : Value) (xs : List α) : Prop := ∃ rows, w.ownsRow w0.heap.size e k v xs.length rows.flatten ∧ RowsR R w0 rows xs
theorem MRows.other {α : Type} {R : World → List Value → α → Prop} {w0 w : World} {e : TypeId} {k : Nat} {v : Value} {xs : List α} (h : MRows R w0 w e k v xs) {g : Nat} {t : TypeId} {cs : Array Value} (ha : At w g t cs) (hne : t ≠ e) (j : Nat) (u : Value) : MRows R w0 (w.setCell ⟨g, j, none⟩ u) e k v xs := by
 obtain ⟨rows, h1, h2⟩ := h
 exact ⟨rows, own_putne h1 (own_far h1 ha hne) u, h2⟩
theorem MRu.other {w0 w : World} {m : Nat} {v : Value} {xs : List Ap.Ru} (h : MRu w0 w m v xs) {g : Nat} {t : TypeId} {cs : Array Value} (ha : At w g t cs) (hne : t ≠ 66) (hne2 : t ≠ 58) (j : Nat) (u : Value) : MRu w0 (w.setCell ⟨g, j, none⟩ u) m v xs := by
 obtain ⟨rows, bs, h1, h2, h3, h4⟩ := h
 refine ⟨rows, bs, own_putne h1 (own_far h1 ha hne) u, h2, fun i x hx => ?_, h4⟩
 obtain ⟨a, k1, k2, k3, k4⟩ := h3 i x hx
 refine ⟨a, k1, k2, fun hi => ?_, k4⟩
 obtain ⟨brs, b1, b2⟩ := k3 hi
 exact ⟨brs, own_putne b1 (own_far b1 ha hne2) u, b2⟩
/-- A program whose lists are the call's own; w0: the world that it began in. -/
structure Mp (w0 w : World) (m : Nat) (l f p r : Value) (P : Ap.Pg) : Prop where
 lats : MRows LaR w0 w 77 4 l P.lats
 funs : MRows FuR w0 w 94 7 f P.funs
 preds : MRows PrR w0 w 73 7 p P.preds
 rules : MRu w0 w m r P.rules
 low : Below w0.heap.size w0 w
theorem MRows.trows {α : Type} {R : World → List Value → α → Prop} {w0 w : World} {e : TypeId} {k : Nat} {v : Value} {xs : List α} (h : MRows R w0 w e k v xs) (hR : ∀ r x, R w0 r x → R w r x) : TRows R w e k v xs := by
 obtain ⟨rows, h1, h2⟩ := h
 exact ⟨rows, TRow.of_own h1, h2.kept hR⟩
theorem Mp.pg {w0 w : World} {m : Nat} {l f p r : Value} {P : Ap.Pg} (h : Mp w0 w m l f p r P) : PgR w l f p r P := by
 have kb := fun e => Kept.below h.low e
 refine ⟨h.lats.trows (LaR.kept (kb _) (kb _)), h.funs.trows (FuR.kept (kb _) (kb _)), h.preds.trows (PrR.kept (kb _)), ?_⟩
 obtain ⟨rows, bs, h1, h2, h3, h4⟩ := h.rules
 refine ⟨rows, TRow.of_own h1, h2, fun i r x hr hx => ?_⟩
 obtain ⟨a, k1, k2, k3, k4⟩ := h3 i x hx
 rw [hr] at k1
 refine ⟨a, bs i, Option.some.inj k1, k2.kept (kb _), ?_⟩
 by_cases hi : i < m
 ·obtain ⟨brs, b1, b2⟩ := k3 hi
  exact ⟨brs, TRow.of_own b1, b2.kept (LiR.kept (kb _))⟩
 ·exact (k4 (by omega)).kept (kb _) (LiR.kept (kb _))
theorem MRows.put {α : Type} {R : World → List Value → α → Prop} {w0 w : World} {e : TypeId} {k j : Nat} {v : Value} {xs : List α} (h : MRows R w0 w e k v xs) (hlen : ∀ r x, R w0 r x → r.length = k) (hj : j < k) {i : Nat} {x : α} (hi : xs[i]? = some x) (to : Int → α) (hto : ∀ (r : List Value) (z : Int), R w0 r x → R w0 (r.set j (.int .i64 z)) (to z)) :
  ∃ g c cur, v = .slice (some ⟨g, 0, none⟩) xs.length c ∧ w0.heap.size ≤ g ∧ At w g e cur ∧ (∃ r, R w0 r x ∧ ∀ (q : Nat) (u : Value), r[q]? = some u → w.cell? ⟨g, i * k + q, none⟩ = some u) ∧
   ∀ z, MRows R w0 (w.setCell ⟨g, i * k + j, none⟩ (.int .i64 z)) e k v (xs.set i (to z)) := by
 obtain ⟨rows, h1, h2⟩ := h
 obtain ⟨r, hr, hR⟩ := h2.row hi
 have hk := h2.lens hlen
 obtain ⟨g, c, cur, rfl, hg, ha, hc⟩ := own_read h1 hk (by omega) hr
 refine ⟨g, c, cur, rfl, hg, ha, ⟨r, hR, hc⟩, fun z => ⟨rows.set i (r.set j (.int .i64 z)), ?_, h2.set (hto r z hR) (List.getElem?_eq_some_iff.1 hi).1⟩⟩
 rw [List.length_set]
 exact own_set h1 hk hr hj _
section
variable {w0 w : World} {m : Nat} {l f p r : Value} {P : Ap.Pg}
theorem Mp.lat (h : Mp w0 w m l f p r P) {i : Nat} {x : Ap.La} (hi : P.lats[i]? = some x) :
  ∃ g c cur, l = .slice (some ⟨g, 0, none⟩) P.lats.length c ∧ w0.heap.size ≤ g ∧ At w g 77 cur ∧ w.cell? ⟨g, i * 4 + 3, none⟩ = some (.int .i64 x.pos) ∧
   ∀ z, Mp w0 (w.setCell ⟨g, i * 4 + 3, none⟩ (.int .i64 z)) m l f p r { P with lats := P.lats.set i { x with pos := z } } := by
 obtain ⟨g, c, cur, h1, hg, ha, ⟨r1, ⟨a, b, rfl, _⟩, hc⟩, hz⟩ := h.lats.put (j := 3) (fun _ _ => LaR.len) (by omega) hi (fun z => { x with pos := z }) (fun r z ⟨a, b, e, k1, k2⟩ => ⟨a, b, by rw [e]; rfl, k1, k2⟩)
 exact ⟨g, c, cur, h1, hg, ha, hc 3 _ rfl, fun z => ⟨hz z, h.funs.other ha (by decide) _ _, h.preds.other ha (by decide) _ _, h.rules.other ha (by decide) (by decide) _ _, h.low.setCell (p := ⟨g, _, none⟩) hg _⟩⟩
theorem Mp.fn (h : Mp w0 w m l f p r P) {i : Nat} {x : Ap.Fu} (hi : P.funs[i]? = some x) :
  ∃ g c cur, f = .slice (some ⟨g, 0, none⟩) P.funs.length c ∧ w0.heap.size ≤ g ∧ At w g 94 cur ∧ w.cell? ⟨g, i * 7 + 6, none⟩ = some (.int .i64 x.pos) ∧
   ∀ z, Mp w0 (w.setCell ⟨g, i * 7 + 6, none⟩ (.int .i64 z)) m l f p r { P with funs := P.funs.set i { x with pos := z } } := by
 obtain ⟨g, c, cur, h1, hg, ha, ⟨r1, ⟨a, b, b2, rfl, _⟩, hc⟩, hz⟩ := h.funs.put (j := 6) (fun _ _ => FuR.len) (by omega) hi (fun z => { x with pos := z }) (fun r z ⟨a, b, b2, e, k1, k2, k3⟩ => ⟨a, b, b2, by rw [e]; rfl, k1, k2, k3⟩)
 exact ⟨g, c, cur, h1, hg, ha, hc 6 _ rfl, fun z => ⟨h.lats.other ha (by decide) _ _, hz z, h.preds.other ha (by decide) _ _, h.rules.other ha (by decide) (by decide) _ _, h.low.setCell (p := ⟨g, _, none⟩) hg _⟩⟩
theorem Mp.pr (h : Mp w0 w m l f p r P) {i : Nat} {x : Ap.Pr} (hi : P.preds[i]? = some x) :
  ∃ g c cur, p = .slice (some ⟨g, 0, none⟩) P.preds.length c ∧ w0.heap.size ≤ g ∧ At w g 73 cur ∧ w.cell? ⟨g, i * 7 + 6, none⟩ = some (.int .i64 x.pos) ∧
   ∀ z, Mp w0 (w.setCell ⟨g, i * 7 + 6, none⟩ (.int .i64 z)) m l f p r { P with preds := P.preds.set i { x with pos := z } } := by
 obtain ⟨g, c, cur, h1, hg, ha, ⟨r1, ⟨a, rfl, _⟩, hc⟩, hz⟩ := h.preds.put (j := 6) (fun _ _ => PrR.len) (by omega) hi (fun z => { x with pos := z }) (fun r z ⟨a, e, k1⟩ => ⟨a, by rw [e]; rfl, k1⟩)
 exact ⟨g, c, cur, h1, hg, ha, hc 6 _ rfl, fun z => ⟨h.lats.other ha (by decide) _ _, h.funs.other ha (by decide) _ _, hz z, h.rules.other ha (by decide) (by decide) _ _, h.low.setCell (p := ⟨g, _, none⟩) hg _⟩⟩
theorem ru_lens {w0 : World} {rows : List (List Value)} {bs : Nat → Value} {xs : List Ap.Ru} (h2 : rows.length = xs.length) (h3 : ∀ (i : Nat) (x : Ap.Ru), xs[i]? = some x → ∃ a, rows[i]? = some (ruFs x a (bs i))) : ∀ r ∈ rows, r.length = 9 := fun r hr => by
 obtain ⟨i, hi⟩ := List.mem_iff_getElem?.1 hr
 obtain ⟨x, hx⟩ : ∃ x, xs[i]? = some x := ⟨_, List.getElem?_eq_getElem (by rw [← h2]; exact (List.getElem?_eq_some_iff.1 hi).1)⟩
 obtain ⟨a, e⟩ := h3 i x hx
 rw [hi] at e
 rw [Option.some.inj e]
 rfl
/-- A rule's offset, and the slice of its body. -/
theorem Mp.ru (h : Mp w0 w m l f p r P) {i : Nat} {x : Ap.Ru} (hi : P.rules[i]? = some x) :
  ∃ g c cur b, r = .slice (some ⟨g, 0, none⟩) P.rules.length c ∧ w0.heap.size ≤ g ∧ At w g 66 cur ∧ w.cell? ⟨g, i * 9 + 8, none⟩ = some (.int .i64 x.pos) ∧ w.cell? ⟨g, i * 9 + 7, none⟩ = some b ∧ (m ≤ i → TRows LiR w0 58 9 b x.body) ∧ (∃ A c, b = .slice A x.body.length c) ∧
   ∀ z, Mp w0 (w.setCell ⟨g, i * 9 + 8, none⟩ (.int .i64 z)) m l f p r { P with rules := P.rules.set i { x with pos := z } } := by
 obtain ⟨rows, bs, h1, h2, h3, h4⟩ := h.rules
 have hlt := (List.getElem?_eq_some_iff.1 hi).1
 obtain ⟨a, k1, k2, k3, k4⟩ := h3 i x hi
 have hk := ru_lens (w0 := w0) (bs := bs) h2 fun i x hx => by obtain ⟨a, e, _⟩ := h3 i x hx; exact ⟨a, e⟩
 obtain ⟨g, c, cur, rfl, hg, ha, hc⟩ := own_read h1 hk (by omega) k1
 refine ⟨g, c, cur, bs i, rfl, hg, ha, hc 8 _ rfl, hc 7 _ rfl, k4, ?_, fun z => ⟨h.lats.other ha (by decide) _ _, h.funs.other ha (by decide) _ _, h.preds.other ha (by decide) _ _, ⟨rows.set i ((ruFs x a (bs i)).set 8 (.int .i64 z)), bs, ?_, ?_, ?_, h4⟩, h.low.setCell (p := ⟨g, _, none⟩) hg _⟩⟩
 ·by_cases him : i < m
  ·obtain ⟨brs, b1, _⟩ := k3 him
   exact own_len b1
  ·exact (k4 (by omega)).slice
 ·show World.ownsRow _ _ _ _ _ (P.rules.set i _).length _
  rw [List.length_set]
  exact own_set h1 hk k1 (by omega) _
 ·show _ = (P.rules.set i _).length
  rw [List.length_set, List.length_set]
  exact h2
 ·intro j y hy
  have hy' : (P.rules.set i { x with pos := z })[j]? = some y := hy
  have oth : ∀ {b : Value} {n : Nat} {brs : List (List Value)}, w.ownsRow w0.heap.size 58 9 b n brs.flatten → (w.setCell ⟨g, i * 9 + 8, none⟩ (.int .i64 z)).ownsRow w0.heap.size 58 9 b n brs.flatten := fun hb => own_putne hb (own_far hb ha (by decide)) _
  by_cases hj : j = i
  ·subst hj
   rw [List.getElem?_set_self hlt] at hy'
   obtain rfl := Option.some.inj hy'
   refine ⟨a, ?_, k2, fun him => ?_, k4⟩
   ·rw [List.getElem?_set_self (by rw [h2]; exact hlt)]
    rfl
   ·obtain ⟨brs, b1, b2⟩ := k3 him
    exact ⟨brs, oth b1, b2⟩
  ·rw [List.getElem?_set_ne (Ne.symm hj)] at hy'
   obtain ⟨a', e1, e2, e3, e4⟩ := h3 j y hy'
   refine ⟨a', by rw [List.getElem?_set_ne (Ne.symm hj)]; exact e1, e2, fun him => ?_, e4⟩
   obtain ⟨brs, b1, b2⟩ := e3 him
   exact ⟨brs, oth b1, b2⟩
/-- The offset of a literal in a body of the call's own. -/
theorem Mp.lit (h : Mp w0 w m l f p r P) {i k : Nat} {x : Ap.Ru} {y : Ap.Li} (hi : P.rules[i]? = some x) (him : i < m) (hy : x.body[k]? = some y) :
  ∃ g c cur gb cb cur2, r = .slice (some ⟨g, 0, none⟩) P.rules.length c ∧ w0.heap.size ≤ g ∧ At w g 66 cur ∧ w.cell? ⟨g, i * 9 + 7, none⟩ = some (.slice (some ⟨gb, 0, none⟩) x.body.length cb) ∧ w0.heap.size ≤ gb ∧ At w gb 58 cur2 ∧ w.cell? ⟨gb, k * 9 + 8, none⟩ = some (.int .i64 y.pos) ∧
   ∀ z, Mp w0 (w.setCell ⟨gb, k * 9 + 8, none⟩ (.int .i64 z)) m l f p r { P with rules := P.rules.set i { x with body := x.body.set k { y with pos := z } } } := by
 obtain ⟨rows, bs, h1, h2, h3, h4⟩ := h.rules
 have hlt := (List.getElem?_eq_some_iff.1 hi).1
 obtain ⟨a, k1, k2, k3, k4⟩ := h3 i x hi
 have hk := ru_lens (w0 := w0) (bs := bs) h2 fun i x hx => by obtain ⟨a, e, _⟩ := h3 i x hx; exact ⟨a, e⟩
 obtain ⟨g, c, cur, rfl, hg, ha, hc⟩ := own_read h1 hk (by omega) k1
 obtain ⟨brs, b1, b2⟩ := k3 him
 obtain ⟨br, hbr, ab, hab, hta⟩ := b2.row hy
 subst hab
 have hbk := b2.lens (fun _ _ => LiR.len)
 obtain ⟨gb, cb, cur2, hbv, hgb, ha2, hc2⟩ := own_read b1 hbk (by omega) hbr
 have hbl := (List.getElem?_eq_some_iff.1 hy).1
 have bi : w.cell? ⟨g, i * 9 + 7, none⟩ = some (bs i) := hc 7 _ rfl
 rw [hbv] at bi
 refine ⟨g, c, cur, gb, cb, cur2, rfl, hg, ha, bi, hgb, ha2, hc2 8 _ rfl, fun z => ⟨h.lats.other ha2 (by decide) _ _, h.funs.other ha2 (by decide) _ _, h.preds.other ha2 (by decide) _ _, ⟨rows, bs, ?_, ?_, ?_, h4⟩, h.low.setCell (p := ⟨gb, _, none⟩) hgb _⟩⟩
 ·show World.ownsRow _ _ _ _ _ (P.rules.set i _).length _
  rw [List.length_set]
  exact own_putne h1 (own_far h1 ha2 (by decide)) _
 ·show _ = (P.rules.set i _).length
  rw [List.length_set]
  exact h2
 ·intro j y' hy'
  have hy2 : (P.rules.set i { x with body := x.body.set k { y with pos := z } })[j]? = some y' := hy'
  by_cases hj : j = i
  ·subst hj
   rw [List.getElem?_set_self hlt] at hy2
   obtain rfl := Option.some.inj hy2
   refine ⟨a, k1, k2, fun _ => ⟨brs.set k ((liFs y ab).set 8 (.int .i64 z)), ?_, b2.set (x := { y with pos := z }) ⟨ab, rfl, hta⟩ hbl⟩, fun hmj => by omega⟩
   have := own_set (w := w) (B := w0.heap.size) (by rw [hbv] at b1; exact b1) hbk hbr (j := 8) (by omega) (.int .i64 z)
   rw [hbv]
   show World.ownsRow _ _ _ _ _ (x.body.set k _).length _
   rw [List.length_set]
   exact this
  ·rw [List.getElem?_set_ne (Ne.symm hj)] at hy2
   obtain ⟨a', e1, e2, e3, e4⟩ := h3 j y' hy2
   refine ⟨a', e1, e2, fun hjm => ?_, e4⟩
   obtain ⟨brs', b1', b2'⟩ := e3 hjm
   have hap : Apart (bs i) (bs j) := by
    rcases Nat.lt_or_ge i j with hij | hij
    ·exact h4 i j hij hjm
    ·exact (h4 j i (by omega) him).symm
   refine ⟨brs', own_putne b1' ?_ _, b2'⟩
   intro he
   exact hap gb (by rw [hbv]; rfl) he.symm
end
/-! ### Lists that are turned from the front -/
def mix {α : Type} (g : α → α) (k : Nat) (xs : List α) : List α := (xs.take k).map g ++ xs.drop k
section
variable {α : Type} {g : α → α} {k : Nat} {xs : List α}
theorem mix_zero : mix g 0 xs = xs := by simp [mix]
theorem mix_all (h : xs.length ≤ k) : mix g k xs = xs.map g := by simp [mix, List.take_of_length_le h, List.drop_of_length_le h]
theorem mix_length : (mix g k xs).length = xs.length := by
 unfold mix
 rw [List.length_append, List.length_map, List.length_take, List.length_drop]
 omega
theorem mix_get (hk : k ≤ xs.length) : (mix g k xs)[k]? = xs[k]? := by
 unfold mix
 rw [List.getElem?_append_right (by simp; omega), List.getElem?_drop]
 simp only [List.length_map, List.length_take]
 congr 1
 omega
theorem mix_set {x : α} (h : xs[k]? = some x) : (mix g k xs).set k (g x) = mix g (k + 1) xs := by
 have hk := (List.getElem?_eq_some_iff.1 h).1
 unfold mix
 have hd : xs.drop k = x :: xs.drop (k + 1) := by
  rw [List.drop_eq_getElem_cons hk]
  rw [List.getElem?_eq_getElem hk] at h
  rw [Option.some.inj h]
 have hlen : ((xs.take k).map g).length = k := by simp; omega
 rw [List.set_append, if_neg (by omega), hlen, Nat.sub_self, hd, List.set_cons_zero, List.take_add_one, h]
 simp
end
end Go.Proofs.YtpcmlkpnjimbiaaDoor
