/- A program of the call's own: further worlds, a copied body. -/
import Derived.Test.YtpcmlkpnjimbiaaDoorPMv0
namespace Go.Proofs.YtpcmlkpnjimbiaaDoor
set_option linter.unusedVariables false
set_option linter.unusedSimpArgs false
open Go.RowKit
theorem MRows.next {α : Type} {R : World → List Value → α → Prop} {w0 w w' : World} {e : TypeId} {k : Nat} {v : Value} {xs : List α} (h : MRows R w0 w e k v xs) (hb : Below w.heap.size w w') : MRows R w0 w' e k v xs := by
 obtain ⟨rows, h1, h2⟩ := h
 exact ⟨rows, own_below h1 hb, h2⟩
theorem MRu.next {w0 w w' : World} {m : Nat} {v : Value} {xs : List Ap.Ru} (h : MRu w0 w m v xs) (hb : Below w.heap.size w w') : MRu w0 w' m v xs := by
 obtain ⟨rows, bs, h1, h2, h3, h4⟩ := h
 refine ⟨rows, bs, own_below h1 hb, h2, fun i x hx => ?_, h4⟩
 obtain ⟨a, k1, k2, k3, k4⟩ := h3 i x hx
 refine ⟨a, k1, k2, fun hi => ?_, k4⟩
 obtain ⟨brs, b1, b2⟩ := k3 hi
 exact ⟨brs, own_below b1 hb, b2⟩
section
variable {w0 w w' : World} {m : Nat} {l f p r : Value} {P P' : Ap.Pg}
theorem Mp.next (h : Mp w0 w m l f p r P) (hb : Below w.heap.size w w') : Mp w0 w' m l f p r P :=
 ⟨h.lats.next hb, h.funs.next hb, h.preds.next hb, h.rules.next hb, h.low.trans (hb.mono h.low.size)⟩
theorem Mp.cast (h : Mp w0 w m l f p r P) (e : P = P') : Mp w0 w m l f p r P' := e ▸ h
theorem at_apart {w : World} {b g : Nat} {t t' : TypeId} {cs cs' : Array Value} (h : At w b t cs) (h' : At w g t' cs') (hne : t ≠ t') : b ≠ g := by
 rintro rfl
 unfold At at h h'
 rw [h] at h'
 simp at h'
 exact hne h'.2
theorem mru_of {w0 w : World} {B : Nat} {v : Value} {rows : List (List Value)} {xs : List Ap.Ru} (h : w.ownsRow B 66 9 v xs.length rows.flatten) (hB : w0.heap.size ≤ B) (hr : RowsR RuR w0 rows xs) : MRu w0 w 0 v xs := by
 refine ⟨rows, fun i => (rows.getD i []).getD 7 undef, own_mono h hB, hr.1, fun i x hx => ?_, fun i j _ hj => by omega⟩
 obtain ⟨r, hri, a, b, rfl, h1, h2⟩ := hr.row hx
 have e : (rows.getD i []).getD 7 undef = b := by
  have e2 : rows.getD i [] = ruFs x a b := by rw [List.getD_eq_getElem?_getD, hri]; rfl
  rw [e2]
  rfl
 dsimp only
 rw [e]
 exact ⟨a, hri, h1, fun hi => by omega, fun _ => h2⟩
theorem mrows_of {α : Type} {R : World → List Value → α → Prop} {w0 w : World} {B : Nat} {e : TypeId} {k : Nat} {v : Value} {rows : List (List Value)} {xs : List α} (h : w.ownsRow B e k v xs.length rows.flatten) (hB : w0.heap.size ≤ B) (hr : RowsR R w0 rows xs) : MRows R w0 w e k v xs := ⟨rows, own_mono h hB, hr⟩
/-- The body of rule m, copied into a fresh block. -/
theorem Mp.body (h : Mp w0 w m l f p r P) (hb : Below w.heap.size w w') {x : Ap.Ru} (hi : P.rules[m]? = some x) {v : Value} {brs : List (List Value)} (hv : w'.ownsRow w.heap.size 58 9 v x.body.length brs.flatten) (hbr : RowsR LiR w0 brs x.body) :
  ∃ g c cur, r = .slice (some ⟨g, 0, none⟩) P.rules.length c ∧ At w' g 66 cur ∧ Mp w0 (w'.setCell ⟨g, m * 9 + 7, none⟩ v) (m + 1) l f p r P := by
 have h' := h.next hb
 obtain ⟨rows, bs, h1, h2, h3, h4⟩ := h.rules
 have hlt := (List.getElem?_eq_some_iff.1 hi).1
 obtain ⟨a, k1, k2, k3, k4⟩ := h3 m x hi
 have hk := ru_lens (w0 := w0) (bs := bs) h2 fun i x hx => by obtain ⟨a, e, _⟩ := h3 i x hx; exact ⟨a, e⟩
 have h1' := own_below h1 hb
 obtain ⟨g, c, cur, rfl, hg, ha, hc⟩ := own_read h1' hk (by omega) k1
 refine ⟨g, c, cur, rfl, ha, ⟨h'.lats.other ha (by decide) _ _, h'.funs.other ha (by decide) _ _, h'.preds.other ha (by decide) _ _, ⟨rows.set m ((ruFs x a (bs m)).set 7 v), fun i => if i = m then v else bs i, ?_, ?_, ?_, ?_⟩, h'.low.setCell (p := ⟨g, _, none⟩) hg _⟩⟩
 ·exact own_set h1' hk k1 (by omega) _
 ·rw [List.length_set]
  exact h2
 ·intro j y hy
  by_cases hj : j = m
  ·subst hj
   rw [hi] at hy
   obtain rfl := Option.some.inj hy
   simp only [if_pos]
   refine ⟨a, ?_, k2, fun _ => ⟨brs, ?_, hbr⟩, fun hmj => by omega⟩
   ·rw [List.getElem?_set_self (by rw [h2]; exact hlt)]
    rfl
   ·exact own_putne (own_mono hv h.low.size) (own_far hv ha (by decide)) _
  ·simp only [if_neg hj]
   obtain ⟨a', e1, e2, e3, e4⟩ := h3 j y hy
   refine ⟨a', by rw [List.getElem?_set_ne (Ne.symm hj)]; exact e1, e2, fun hjm => ?_, fun hmj => e4 (by omega)⟩
   obtain ⟨brs', b1', b2'⟩ := e3 (by omega)
   have b3 := own_below b1' hb
   exact ⟨brs', own_putne b3 (own_far b3 ha (by decide)) _, b2'⟩
 ·intro i j hij hj
  by_cases hjm : j = m
  ·subst hjm
   simp only [if_pos, if_neg (show ¬ i = j by omega)]
   obtain ⟨y, hy⟩ : ∃ y, P.rules[i]? = some y := ⟨_, List.getElem?_eq_getElem (by omega)⟩
   obtain ⟨a', e1, e2, e3, e4⟩ := h3 i y hy
   obtain ⟨brs', b1', b2'⟩ := e3 hij
   intro q hq hq2
   have g1 := (own_lt b1' hq).2
   have g2 := (own_lt hv hq2).1
   omega
  ·simp only [if_neg hjm, if_neg (show ¬ i = m by omega)]
   exact h4 i j hij (by omega)
theorem Mp.other (h : Mp w0 w m l f p r P) {g : Nat} {cs : Array Value} (ha : At w g 34 cs) (hg : w0.heap.size ≤ g) (j : Nat) (u : Value) : Mp w0 (w.setCell ⟨g, j, none⟩ u) m l f p r P :=
 ⟨h.lats.other ha (by decide) _ _, h.funs.other ha (by decide) _ _, h.preds.other ha (by decide) _ _, h.rules.other ha (by decide) (by decide) _ _, h.low.setCell (p := ⟨g, _, none⟩) hg _⟩
theorem Mp.put4 (h : Mp w0 w m l f p r P) {g : Nat} {y0 y1 y2 y3 : Value} (ha : At w g 34 #[y0, y1, y2, y3]) (hg : w0.heap.size ≤ g) (x0 x1 x2 x3 : Value) :
  Mp w0 ((((w.setCell ⟨g, 0, none⟩ x0).setCell ⟨g, 1, none⟩ x1).setCell ⟨g, 2, none⟩ x2).setCell ⟨g, 3, none⟩ x3) m l f p r P ∧ At ((((w.setCell ⟨g, 0, none⟩ x0).setCell ⟨g, 1, none⟩ x1).setCell ⟨g, 2, none⟩ x2).setCell ⟨g, 3, none⟩ x3) g 34 #[x0, x1, x2, x3] := by
 have a1 := ha.put 0 x0
 have a2 := a1.put 1 x1
 have a3 := a2.put 2 x2
 have a4 := a3.put 3 x3
 simp only [List.setIfInBounds_toArray, List.set_cons_zero, List.set_cons_succ] at a4
 exact ⟨(((h.other ha hg 0 x0).other a1 hg 1 x1).other a2 hg 2 x2).other a3 hg 3 x3, a4⟩
theorem own_put4 {w : World} {B g : Nat} {e : TypeId} {k n : Nat} {v : Value} {xs : List Value} {y0 y1 y2 y3 : Value} (h : w.ownsRow B e k v n xs) (ha : At w g 34 #[y0, y1, y2, y3]) (hne : 34 ≠ e) (x0 x1 x2 x3 : Value) :
  ((((w.setCell ⟨g, 0, none⟩ x0).setCell ⟨g, 1, none⟩ x1).setCell ⟨g, 2, none⟩ x2).setCell ⟨g, 3, none⟩ x3).ownsRow B e k v n xs :=
 own_putne (own_putne (own_putne (own_putne h (own_far h ha hne) _) (own_far h ha hne) _) (own_far h ha hne) _) (own_far h ha hne) _
end
end Go.Proofs.YtpcmlkpnjimbiaaDoor
