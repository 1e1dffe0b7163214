/- The memory of the closure that visits the nodes. -/
import Derived.Test.YtljlihimmcmlmaaTUse
import Derived.Test.YtljlihimmcmlmaaTRco
namespace Go.Proofs.Ytljlihimmcmlmaa
set_option linter.unusedVariables false
set_option linter.unusedSimpArgs false
open Go.RowKit
/-- The captured cells and the arrays: each its own block. -/
structure KOk (S T : Nat) (k : Nat → Nat) : Prop where
  low : ∀ i, i < 13 → S ≤ k i
  top : ∀ i, i < 13 → k i < T
  inj : ∀ i j, i < 13 → j < 13 → k i = k j → i = j
theorem KOk.ne {S T : Nat} {k : Nat → Nat} (h : KOk S T k) {i j : Nat} (hi : i < 13) (hj : j < 13) (e : i ≠ j) : k i ≠ k j := fun h2 => e (h.inj i j hi hj h2)
def kptr (k : Nat → Nat) (i : Nat) : Value := .pointer (some ⟨k i, 0, none⟩)
def visF (k : Nat → Nat) : Value := .func (.func 44) #[] #[.pointer (some ⟨k 0, 0, none⟩), .pointer (some ⟨k 1, 0, none⟩), .pointer (some ⟨k 2, 0, none⟩), .pointer (some ⟨k 3, 0, none⟩), .pointer (some ⟨k 4, 0, none⟩), .pointer (some ⟨k 5, 0, none⟩), .pointer (some ⟨k 6, 0, none⟩), .pointer (some ⟨k 7, 0, none⟩), .pointer (some ⟨k 8, 0, none⟩)]
structure TS (T : Nat) (w0 : World) (k : Nat → Nat) (n ge cnt : Nat) (idx low : List Nat) (opn : List Bool) (of : List Nat) (sv : Value) (stk : List Nat) (ov : Value) (hs : List Value) (out : List (List Nat)) (W : World) : Prop where
  c0 : At W (k 0) 3 #[.int .i64 (cnt : Int)]
  c1 : At W (k 1) 42 #[.slice (some ⟨k 9, 0, none⟩) n n]
  c2 : At W (k 2) 42 #[.slice (some ⟨k 10, 0, none⟩) n n]
  c3 : At W (k 3) 31 #[.slice (some ⟨k 11, 0, none⟩) n n]
  c4 : At W (k 4) 42 #[sv]
  c5 : At W (k 5) 36 #[.slice (some ⟨ge, 0, none⟩) n n]
  c6 : At W (k 6) 78 #[visF k]
  c7 : At W (k 7) 36 #[ov]
  c8 : At W (k 8) 42 #[.slice (some ⟨k 12, 0, none⟩) n n]
  c9 : At W (k 9) 3 (ncells idx).toArray
  c10 : At W (k 10) 3 (ncells low).toArray
  c11 : At W (k 11) 4 (bcells opn)
  c12 : At W (k 12) 3 (ncells of).toArray
  so : W.ownsRow T 3 1 sv stk.length (ncells stk)
  uo : LsOwn W T ov hs out
  ap : ∀ u ∈ hs, ∀ q, u.ownBlock = some q → sv.ownBlock ≠ some q
  below : Below w0.heap.size w0 W
  size : T ≤ W.heap.size
theorem ncell {w : World} {g : Nat} {l : List Nat} (h : At w g 3 (ncells l).toArray) {j : Nat} (hj : j < l.length) : w.cell? ⟨g, j, none⟩ = some (.int .i64 ((l.getD j 0 : Nat) : Int)) := by
  rw [h.cell j]
  simp [ncells, List.getElem?_eq_getElem hj]
theorem nput {w : World} {g : Nat} {l : List Nat} (h : At w g 3 (ncells l).toArray) (j x : Nat) : At (w.setCell ⟨g, j, none⟩ (.int .i64 (x : Int))) g 3 (ncells (l.set j x)).toArray := by
  have := h.put j (.int .i64 (x : Int))
  unfold ncells at this ⊢
  rw [List.map_set, ← List.setIfInBounds_toArray]
  exact this
theorem LsOwn.low {w : World} {B g : Nat} {v : Value} {hs : List Value} {F : List (List Nat)} (h : LsOwn w B v hs F) (hg : g < B) (o : Nat) (x : Value) : LsOwn (w.setCell ⟨g, o, none⟩ x) B v hs F :=
  ⟨own_put (p := ⟨g, o, none⟩) h.own hg x, fun a u r e1 e2 => own_put (p := ⟨g, o, none⟩) (h.rows a u r e1 e2) hg x⟩
section
variable {T : Nat} {w0 : World} {k : Nat → Nat} {n ge cnt : Nat} {idx low : List Nat} {opn : List Bool} {of : List Nat} {sv : Value} {stk : List Nat} {ov : Value} {hs : List Value} {out : List (List Nat)} {W W' : World}
theorem TS.next (h : TS T w0 k n ge cnt idx low opn of sv stk ov hs out W) (hb : Below W.heap.size W W') : TS T w0 k n ge cnt idx low opn of sv stk ov hs out W' :=
  ⟨h.c0.next hb, h.c1.next hb, h.c2.next hb, h.c3.next hb, h.c4.next hb, h.c5.next hb, h.c6.next hb, h.c7.next hb, h.c8.next hb, h.c9.next hb, h.c10.next hb, h.c11.next hb, h.c12.next hb, own_below h.so hb, h.uo.below hb, h.ap, h.below.trans (hb.mono h.below.size), Nat.le_trans h.size hb.size⟩
theorem TS.sizeSet {p : Addr} {x : Value} (h : T ≤ W.heap.size) : T ≤ (W.setCell p x).heap.size := by simpa using h
theorem TS.setCnt (h : TS T w0 k n ge cnt idx low opn of sv stk ov hs out W) (hk : KOk w0.heap.size T k) (c : Nat) : TS T w0 k n ge c idx low opn of sv stk ov hs out (W.setCell ⟨k 0, 0, none⟩ (.int .i64 (c : Int))) :=
  ⟨by have := h.c0.put 0 (.int .i64 (c : Int)); simpa using this, h.c1.far (hk.ne (by decide) (by decide) (by decide)) _, h.c2.far (hk.ne (by decide) (by decide) (by decide)) _, h.c3.far (hk.ne (by decide) (by decide) (by decide)) _, h.c4.far (hk.ne (by decide) (by decide) (by decide)) _, h.c5.far (hk.ne (by decide) (by decide) (by decide)) _, h.c6.far (hk.ne (by decide) (by decide) (by decide)) _, h.c7.far (hk.ne (by decide) (by decide) (by decide)) _, h.c8.far (hk.ne (by decide) (by decide) (by decide)) _, h.c9.far (hk.ne (by decide) (by decide) (by decide)) _, h.c10.far (hk.ne (by decide) (by decide) (by decide)) _, h.c11.far (hk.ne (by decide) (by decide) (by decide)) _, h.c12.far (hk.ne (by decide) (by decide) (by decide)) _, own_put (p := ⟨k 0, 0, none⟩) h.so (hk.top 0 (by decide)) _, h.uo.low (hk.top 0 (by decide)) _ _, h.ap, h.below.setCell (p := ⟨k 0, 0, none⟩) (hk.low 0 (by decide)) _, TS.sizeSet h.size⟩
theorem TS.setIdx (h : TS T w0 k n ge cnt idx low opn of sv stk ov hs out W) (hk : KOk w0.heap.size T k) (a x : Nat) : TS T w0 k n ge cnt (idx.set a x) low opn of sv stk ov hs out (W.setCell ⟨k 9, a, none⟩ (.int .i64 (x : Int))) :=
  ⟨h.c0.far (hk.ne (by decide) (by decide) (by decide)) _, h.c1.far (hk.ne (by decide) (by decide) (by decide)) _, h.c2.far (hk.ne (by decide) (by decide) (by decide)) _, h.c3.far (hk.ne (by decide) (by decide) (by decide)) _, h.c4.far (hk.ne (by decide) (by decide) (by decide)) _, h.c5.far (hk.ne (by decide) (by decide) (by decide)) _, h.c6.far (hk.ne (by decide) (by decide) (by decide)) _, h.c7.far (hk.ne (by decide) (by decide) (by decide)) _, h.c8.far (hk.ne (by decide) (by decide) (by decide)) _, nput h.c9 a x, h.c10.far (hk.ne (by decide) (by decide) (by decide)) _, h.c11.far (hk.ne (by decide) (by decide) (by decide)) _, h.c12.far (hk.ne (by decide) (by decide) (by decide)) _, own_put (p := ⟨k 9, a, none⟩) h.so (hk.top 9 (by decide)) _, h.uo.low (hk.top 9 (by decide)) _ _, h.ap, h.below.setCell (p := ⟨k 9, a, none⟩) (hk.low 9 (by decide)) _, TS.sizeSet h.size⟩
theorem TS.setLow (h : TS T w0 k n ge cnt idx low opn of sv stk ov hs out W) (hk : KOk w0.heap.size T k) (a x : Nat) : TS T w0 k n ge cnt idx (low.set a x) opn of sv stk ov hs out (W.setCell ⟨k 10, a, none⟩ (.int .i64 (x : Int))) :=
  ⟨h.c0.far (hk.ne (by decide) (by decide) (by decide)) _, h.c1.far (hk.ne (by decide) (by decide) (by decide)) _, h.c2.far (hk.ne (by decide) (by decide) (by decide)) _, h.c3.far (hk.ne (by decide) (by decide) (by decide)) _, h.c4.far (hk.ne (by decide) (by decide) (by decide)) _, h.c5.far (hk.ne (by decide) (by decide) (by decide)) _, h.c6.far (hk.ne (by decide) (by decide) (by decide)) _, h.c7.far (hk.ne (by decide) (by decide) (by decide)) _, h.c8.far (hk.ne (by decide) (by decide) (by decide)) _, h.c9.far (hk.ne (by decide) (by decide) (by decide)) _, nput h.c10 a x, h.c11.far (hk.ne (by decide) (by decide) (by decide)) _, h.c12.far (hk.ne (by decide) (by decide) (by decide)) _, own_put (p := ⟨k 10, a, none⟩) h.so (hk.top 10 (by decide)) _, h.uo.low (hk.top 10 (by decide)) _ _, h.ap, h.below.setCell (p := ⟨k 10, a, none⟩) (hk.low 10 (by decide)) _, TS.sizeSet h.size⟩
theorem TS.setOpn (h : TS T w0 k n ge cnt idx low opn of sv stk ov hs out W) (hk : KOk w0.heap.size T k) (a : Nat) (x : Bool) : TS T w0 k n ge cnt idx low (opn.set a x) of sv stk ov hs out (W.setCell ⟨k 11, a, none⟩ (.bool x)) :=
  ⟨h.c0.far (hk.ne (by decide) (by decide) (by decide)) _, h.c1.far (hk.ne (by decide) (by decide) (by decide)) _, h.c2.far (hk.ne (by decide) (by decide) (by decide)) _, h.c3.far (hk.ne (by decide) (by decide) (by decide)) _, h.c4.far (hk.ne (by decide) (by decide) (by decide)) _, h.c5.far (hk.ne (by decide) (by decide) (by decide)) _, h.c6.far (hk.ne (by decide) (by decide) (by decide)) _, h.c7.far (hk.ne (by decide) (by decide) (by decide)) _, h.c8.far (hk.ne (by decide) (by decide) (by decide)) _, h.c9.far (hk.ne (by decide) (by decide) (by decide)) _, h.c10.far (hk.ne (by decide) (by decide) (by decide)) _, bput h.c11 a x, h.c12.far (hk.ne (by decide) (by decide) (by decide)) _, own_put (p := ⟨k 11, a, none⟩) h.so (hk.top 11 (by decide)) _, h.uo.low (hk.top 11 (by decide)) _ _, h.ap, h.below.setCell (p := ⟨k 11, a, none⟩) (hk.low 11 (by decide)) _, TS.sizeSet h.size⟩
theorem TS.setOf (h : TS T w0 k n ge cnt idx low opn of sv stk ov hs out W) (hk : KOk w0.heap.size T k) (a x : Nat) : TS T w0 k n ge cnt idx low opn (of.set a x) sv stk ov hs out (W.setCell ⟨k 12, a, none⟩ (.int .i64 (x : Int))) :=
  ⟨h.c0.far (hk.ne (by decide) (by decide) (by decide)) _, h.c1.far (hk.ne (by decide) (by decide) (by decide)) _, h.c2.far (hk.ne (by decide) (by decide) (by decide)) _, h.c3.far (hk.ne (by decide) (by decide) (by decide)) _, h.c4.far (hk.ne (by decide) (by decide) (by decide)) _, h.c5.far (hk.ne (by decide) (by decide) (by decide)) _, h.c6.far (hk.ne (by decide) (by decide) (by decide)) _, h.c7.far (hk.ne (by decide) (by decide) (by decide)) _, h.c8.far (hk.ne (by decide) (by decide) (by decide)) _, h.c9.far (hk.ne (by decide) (by decide) (by decide)) _, h.c10.far (hk.ne (by decide) (by decide) (by decide)) _, h.c11.far (hk.ne (by decide) (by decide) (by decide)) _, nput h.c12 a x, own_put (p := ⟨k 12, a, none⟩) h.so (hk.top 12 (by decide)) _, h.uo.low (hk.top 12 (by decide)) _ _, h.ap, h.below.setCell (p := ⟨k 12, a, none⟩) (hk.low 12 (by decide)) _, TS.sizeSet h.size⟩
theorem TS.setStk (h : TS T w0 k n ge cnt idx low opn of sv stk ov hs out W) (hk : KOk w0.heap.size T k) {sv' : Value} {stk' : List Nat} (hn : W.ownsRow T 3 1 sv' stk'.length (ncells stk')) (hap : ∀ u ∈ hs, ∀ q, u.ownBlock = some q → sv'.ownBlock ≠ some q) : TS T w0 k n ge cnt idx low opn of sv' stk' ov hs out (W.setCell ⟨k 4, 0, none⟩ sv') :=
  ⟨h.c0.far (hk.ne (by decide) (by decide) (by decide)) _, h.c1.far (hk.ne (by decide) (by decide) (by decide)) _, h.c2.far (hk.ne (by decide) (by decide) (by decide)) _, h.c3.far (hk.ne (by decide) (by decide) (by decide)) _, by have := h.c4.put 0 sv'; simpa using this, h.c5.far (hk.ne (by decide) (by decide) (by decide)) _, h.c6.far (hk.ne (by decide) (by decide) (by decide)) _, h.c7.far (hk.ne (by decide) (by decide) (by decide)) _, h.c8.far (hk.ne (by decide) (by decide) (by decide)) _, h.c9.far (hk.ne (by decide) (by decide) (by decide)) _, h.c10.far (hk.ne (by decide) (by decide) (by decide)) _, h.c11.far (hk.ne (by decide) (by decide) (by decide)) _, h.c12.far (hk.ne (by decide) (by decide) (by decide)) _, own_put (p := ⟨k 4, 0, none⟩) hn (hk.top 4 (by decide)) _, h.uo.low (hk.top 4 (by decide)) _ _, hap, h.below.setCell (p := ⟨k 4, 0, none⟩) (hk.low 4 (by decide)) _, TS.sizeSet h.size⟩
theorem TS.setOut (h : TS T w0 k n ge cnt idx low opn of sv stk ov hs out W) (hk : KOk w0.heap.size T k) {ov' : Value} {hs' : List Value} {out' : List (List Nat)} (hn : LsOwn W T ov' hs' out') (hap : ∀ u ∈ hs', ∀ q, u.ownBlock = some q → sv.ownBlock ≠ some q) : TS T w0 k n ge cnt idx low opn of sv stk ov' hs' out' (W.setCell ⟨k 7, 0, none⟩ ov') :=
  ⟨h.c0.far (hk.ne (by decide) (by decide) (by decide)) _, h.c1.far (hk.ne (by decide) (by decide) (by decide)) _, h.c2.far (hk.ne (by decide) (by decide) (by decide)) _, h.c3.far (hk.ne (by decide) (by decide) (by decide)) _, h.c4.far (hk.ne (by decide) (by decide) (by decide)) _, h.c5.far (hk.ne (by decide) (by decide) (by decide)) _, h.c6.far (hk.ne (by decide) (by decide) (by decide)) _, by have := h.c7.put 0 ov'; simpa using this, h.c8.far (hk.ne (by decide) (by decide) (by decide)) _, h.c9.far (hk.ne (by decide) (by decide) (by decide)) _, h.c10.far (hk.ne (by decide) (by decide) (by decide)) _, h.c11.far (hk.ne (by decide) (by decide) (by decide)) _, h.c12.far (hk.ne (by decide) (by decide) (by decide)) _, own_put (p := ⟨k 7, 0, none⟩) h.so (hk.top 7 (by decide)) _, hn.low (hk.top 7 (by decide)) _ _, hap, h.below.setCell (p := ⟨k 7, 0, none⟩) (hk.low 7 (by decide)) _, TS.sizeSet h.size⟩
/-- What grows in a block behind the fixed ones. -/
theorem TS.grew (h : TS T w0 k n ge cnt idx low opn of sv stk ov hs out W) (hk : KOk w0.heap.size T k) {row : Option Nat} (hg : W.grownBy W' row) (hr : ∀ q, row = some q → T ≤ q) (hso : W'.ownsRow T 3 1 sv stk.length (ncells stk)) (huo : LsOwn W' T ov hs out) : TS T w0 k n ge cnt idx low opn of sv stk ov hs out W' := by
  have hfix : ∀ i, i < 13 → some (k i) ≠ row := fun i hi e => by have := hr _ e.symm; have := hk.top i hi; omega
  have hlo := hk.low 0 (by decide)
  have hto := hk.top 0 (by decide)
  exact ⟨h.c0.grown hg (hfix 0 (by decide)), h.c1.grown hg (hfix 1 (by decide)), h.c2.grown hg (hfix 2 (by decide)), h.c3.grown hg (hfix 3 (by decide)), h.c4.grown hg (hfix 4 (by decide)), h.c5.grown hg (hfix 5 (by decide)), h.c6.grown hg (hfix 6 (by decide)), h.c7.grown hg (hfix 7 (by decide)), h.c8.grown hg (hfix 8 (by decide)), h.c9.grown hg (hfix 9 (by decide)), h.c10.grown hg (hfix 10 (by decide)), h.c11.grown hg (hfix 11 (by decide)), h.c12.grown hg (hfix 12 (by decide)), hso, huo, h.ap, h.below.grown hg h.below.size (fun q hq => by have := hr q hq; omega), Nat.le_trans h.size hg.size⟩
end
end Go.Proofs.Ytljlihimmcmlmaa
