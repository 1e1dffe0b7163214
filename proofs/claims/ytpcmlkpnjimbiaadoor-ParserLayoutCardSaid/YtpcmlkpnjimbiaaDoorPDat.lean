/- Programs as they lie in memory: rows of structs, and what leaves them as they are. -/
import Derived.Test.YtpcmlkpnjimbiaaDoorPElem
import Derived.Test.YtpcmlkpnjimbiaaDoorTOwn
namespace Go.Proofs.YtpcmlkpnjimbiaaDoor
set_option linter.unusedVariables false
set_option linter.unusedSimpArgs false
open Go.RowKit
namespace Ap
structure Li where
 kind : Int
 name : List UInt8
 pred : Int
 args : List Px.T
 bnd : List UInt8
 elem : List UInt8
 least : Int
 op : Int
 pos : Int
 deriving DecidableEq
structure El where
 kind : Int
 name : List UInt8
 var : List UInt8
 index : Int
 deriving DecidableEq
structure Ru where
 name : List UInt8
 pred : Int
 args : List Px.T
 elem : El
 body : List Li
 pos : Int
 deriving DecidableEq
structure La where
 name : List UInt8
 elems : List (List UInt8)
 covers : List (Int × Int)
 pos : Int
 deriving DecidableEq
structure Fu where
 name : List UInt8
 lat : List UInt8
 fof : Int
 froms : List (List UInt8)
 tos : List (List UInt8)
 table : List Int
 pos : Int
 deriving DecidableEq
structure Pr where
 name : List UInt8
 types : List Int
 lat : List UInt8
 pof : Int
 base : Bool
 key : Int
 pos : Int
 deriving DecidableEq
structure Pg where
 lats : List La
 funs : List Fu
 preds : List Pr
 rules : List Ru
 deriving DecidableEq
end Ap
def Px.L.ap (f : Nat → Int) (x : Px.L) : Ap.Li := ⟨x.kind, x.name, -1, x.args, x.bnd, x.elem, -1, x.op, f x.pos⟩
def Px.E.ap (x : Px.E) : Ap.El := ⟨x.kind, x.name, x.var, -1⟩
def Px.Ru.ap (f : Nat → Int) (x : Px.Ru) : Ap.Ru := ⟨x.name, -1, x.args, x.elem.ap, x.body.map (Px.L.ap f), f x.pos⟩
def Px.La.ap (f : Nat → Int) (x : Px.La) : Ap.La := ⟨x.name, x.elems, x.covers.map fun c => ((c.1 : Int), (c.2 : Int)), f x.pos⟩
def Px.Fu.ap (f : Nat → Int) (x : Px.Fu) : Ap.Fu := ⟨x.name, x.lat, -1, x.froms, x.tos, [], f x.pos⟩
def Px.Pr.ap (f : Nat → Int) (x : Px.Pr) : Ap.Pr := ⟨x.name, x.types, x.lat, -1, x.base, x.key, f x.pos⟩
/-- A program with one more item. -/
def Ap.Pg.add (f : Nat → Int) (P : Ap.Pg) : Px.It → Ap.Pg
 | .lat x => { P with lats := P.lats ++ [x.ap f] }
 | .fn x => { P with funs := P.funs ++ [x.ap f] }
 | .pr x => { P with preds := P.preds ++ [x.ap f] }
 | .ru x => { P with rules := P.rules ++ [x.ap f] }
/-- The offset of a token, by its number. -/
def offI (ts : List Lx.Tok) (sz : Nat) (k : Nat) : Int := ((tokAt ts sz k).pos : Int)
/-- A slice of n structs of k cells of the type e. -/
def TRow (w : World) (e : TypeId) (k : Nat) (v : Value) (n : Nat) (xs : List Value) : Prop :=
 xs.length = n * k ∧ ∃ A c, v = .slice A n c ∧ n ≤ c ∧ c ≤ maxLen ∧ (A = none → c = 0) ∧ (n = 0 ∨ ∃ g o cur fr, A = some ⟨g, o, none⟩ ∧ w.heap[g]? = some (.cells cur e fr) ∧ ∀ (j : Nat) (u : Value), xs[j]? = some u → cur[o + j]? = some u)
/-- The blocks of the type e stay as they are. -/
def Kept (e : TypeId) (w w' : World) : Prop := ∀ (g : Nat) (cur : Array Value) (fr : Nat × Nat), w.heap[g]? = some (.cells cur e fr) → w'.heap[g]? = some (.cells cur e fr)
theorem Kept.refl (e : TypeId) (w : World) : Kept e w w := fun _ _ _ h => h
theorem Kept.trans {e : TypeId} {a b c : World} (h : Kept e a b) (k : Kept e b c) : Kept e a c := fun g cur fr hh => k g cur fr (h g cur fr hh)
theorem Kept.below {w w' : World} (hb : Below w.heap.size w w') (e : TypeId) : Kept e w w' := fun g cur fr h => (hb.block g (Array.getElem?_eq_some_iff.1 h).1).trans h
theorem Kept.alloc (w : World) (o : Obj) (e : TypeId) : Kept e w (w.alloc o) := Kept.below (below1 w o) e
theorem Kept.put {w : World} {g : Nat} {t : TypeId} {cs : Array Value} (h : At w g t cs) (j : Nat) (v : Value) {e : TypeId} (hne : t ≠ e) : Kept e w (w.setCell ⟨g, j, none⟩ v) := fun b cur fr hh => by
 have : b ≠ g := by
  rintro rfl
  unfold At at h
  rw [h] at hh
  simp at hh
  exact hne hh.2.1
 exact (Below.heap_setCell w ⟨g, j, none⟩ v b this).trans hh
theorem Kept.grown {w w' : World} {B : Nat} {t : TypeId} {size n : Nat} {v : Value} {xs : List Value} (ho : w.ownsRow B t size v n xs) (hg : w.grownBy w' v.ownBlock) {e : TypeId} (hne : t ≠ e) : Kept e w w' := fun b cur fr hh => by
 refine (hg.block b (Array.getElem?_eq_some_iff.1 hh).1 ?_).trans hh
 rcases ho.2 with ⟨rfl, _⟩ | ⟨g, cap, c2, rfl, _, h2, _⟩
 ·simp [Value.ownBlock]
 ·intro he
  have : b = g := by simpa [Value.ownBlock] using he
  subst this
  rw [h2] at hh
  simp at hh
  exact hne hh.2.1
theorem Kept.mv {w w' : World} {rb j : Nat} {cs : Array Value} (h : At w rb 87 cs) (hm : Mv rb j w w') {e : TypeId} (hne : 87 ≠ e) : Kept e w w' := (Kept.put h 1 (.int .i64 (j : Int)) hne).trans fun g cur fr hh => by
 have hl := (Array.getElem?_eq_some_iff.1 hh).1
 exact (hm.block g (by simpa using hl)).trans hh
theorem TRow.kept {w w' : World} {e : TypeId} {k n : Nat} {v : Value} {xs : List Value} (h : TRow w e k v n xs) (hk : Kept e w w') : TRow w' e k v n xs := by
 obtain ⟨h1, A, c, h2, h3, h4, h5, h6⟩ := h
 refine ⟨h1, A, c, h2, h3, h4, h5, ?_⟩
 rcases h6 with h6 | ⟨g, o, cur, fr, h7, h8, h9⟩
 ·exact Or.inl h6
 ·exact Or.inr ⟨g, o, cur, fr, h7, hk g cur fr h8, h9⟩
theorem TRow.of_own {w : World} {B : Nat} {e : TypeId} {k n : Nat} {v : Value} {xs : List Value} (h : w.ownsRow B e k v n xs) : TRow w e k v n xs := by
 obtain ⟨h1, h2⟩ := h
 refine ⟨h1, ?_⟩
 rcases h2 with ⟨rfl, rfl⟩ | ⟨g, cap, cur, rfl, _, h3, h4, h5, h6, h7⟩
 ·exact ⟨none, 0, rfl, Nat.le_refl _, by unfold maxLen; omega, fun _ => rfl, Or.inl rfl⟩
 ·refine ⟨_, cap, rfl, h4, h5, (fun h => by cases h), Or.inr ⟨g, 0, cur, _, rfl, h3, fun j u hj => ?_⟩⟩
  rw [← h7, List.getElem?_take] at hj
  split at hj
  ·simpa using hj
  ·cases hj
theorem TRow.slice {w : World} {e : TypeId} {k n : Nat} {v : Value} {xs : List Value} (h : TRow w e k v n xs) : ∃ A c, v = .slice A n c := by
 obtain ⟨_, A, c, h2, _⟩ := h; exact ⟨A, c, h2⟩
theorem TRow.cells {w : World} {e : TypeId} {k n : Nat} {v : Value} {xs : List Value} (h : TRow w e k v n xs) (hn : 0 < n) : ∃ g o c, v = .slice (some ⟨g, o, none⟩) n c ∧ g < w.heap.size ∧ ∀ (j : Nat) (u : Value), xs[j]? = some u → w.cell? ⟨g, o + j, none⟩ = some u := by
 obtain ⟨_, A, c, h2, _, _, _, h6⟩ := h
 rcases h6 with h6 | ⟨g, o, cur, fr, rfl, h8, h9⟩
 ·omega
 ·exact ⟨g, o, c, h2, (Array.getElem?_eq_some_iff.1 h8).1, fun j u hu => (cell_of_row w g (o + j) cur e fr h8).trans (h9 j u hu)⟩
theorem TRow.nil (w : World) (e : TypeId) (k : Nat) : TRow w e k (.slice none 0 0) 0 [] := ⟨by simp, none, 0, rfl, Nat.le_refl _, by unfold maxLen; omega, fun _ => rfl, Or.inl rfl⟩
/-- Rows of cells that stand for these things. -/
def RowsR {α : Type} (R : World → List Value → α → Prop) (w : World) (rows : List (List Value)) (xs : List α) : Prop :=
 rows.length = xs.length ∧ ∀ (i : Nat) (r : List Value) (x : α), rows[i]? = some r → xs[i]? = some x → R w r x
def TRows {α : Type} (R : World → List Value → α → Prop) (w : World) (e : TypeId) (k : Nat) (v : Value) (xs : List α) : Prop := ∃ rows, TRow w e k v xs.length rows.flatten ∧ RowsR R w rows xs
def ORows {α : Type} (R : World → List Value → α → Prop) (w : World) (B : Nat) (e : TypeId) (k : Nat) (v : Value) (xs : List α) : Prop := ∃ rows, w.ownsRow B e k v xs.length rows.flatten ∧ RowsR R w rows xs
section
variable {α : Type} {R : World → List Value → α → Prop} {w w' : World} {e : TypeId} {k B : Nat} {v : Value} {xs : List α} {rows : List (List Value)}
theorem RowsR.turn {f : α → α} (h : RowsR R w rows xs) (hR : ∀ r x, R w r x → R w' r x) : RowsR R w' rows xs := ⟨h.1, fun i r x h1 h2 => hR r x (h.2 i r x h1 h2)⟩
theorem RowsR.kept (h : RowsR R w rows xs) (hR : ∀ r x, R w r x → R w' r x) : RowsR R w' rows xs := ⟨h.1, fun i r x h1 h2 => hR r x (h.2 i r x h1 h2)⟩
theorem RowsR.push (h : RowsR R w rows xs) {r : List Value} {x : α} (hr : R w r x) : RowsR R w (rows ++ [r]) (xs ++ [x]) := by
 refine ⟨by simp [h.1], fun i r' x' h1 h2 => ?_⟩
 by_cases hi : i < rows.length
 ·rw [List.getElem?_append_left hi] at h1
  rw [List.getElem?_append_left (by rw [← h.1]; exact hi)] at h2
  exact h.2 i r' x' h1 h2
 ·have hi2 : i = rows.length := by
   have := (List.getElem?_eq_some_iff.1 h1).1
   simp at this; omega
  subst hi2
  rw [List.getElem?_append_right (Nat.le_refl _)] at h1
  rw [List.getElem?_append_right (by rw [h.1]; exact Nat.le_refl _), h.1] at h2
  simp at h1 h2
  subst h1; subst h2
  exact hr
theorem TRows.kept (h : TRows R w e k v xs) (hk : Kept e w w') (hR : ∀ r x, R w r x → R w' r x) : TRows R w' e k v xs := by
 obtain ⟨rows, h1, h2⟩ := h
 exact ⟨rows, h1.kept hk, h2.kept hR⟩
theorem TRows.of_own (h : ORows R w B e k v xs) : TRows R w e k v xs := by
 obtain ⟨rows, h1, h2⟩ := h
 exact ⟨rows, TRow.of_own h1, h2⟩
theorem TRows.slice (h : TRows R w e k v xs) : ∃ A c, v = .slice A xs.length c := by
 obtain ⟨rows, h1, _⟩ := h; exact h1.slice
theorem ORows.nil (w : World) (B : Nat) (e : TypeId) (k : Nat) : ORows R w B e k (.slice none 0 0) [] := ⟨[], by exact World.ownsRow_nil _ _ _ _, rfl, fun i r x h => by simp at h⟩
theorem ORows.slice (h : ORows R w B e k v xs) : ∃ A c, v = .slice A xs.length c := by
 obtain ⟨rows, h1, _⟩ := h; exact own_len h1
theorem ORows.mono (h : ORows R w B e k v xs) {B' : Nat} (hB : B' ≤ B) : ORows R w B' e k v xs := by
 obtain ⟨rows, h1, h2⟩ := h; exact ⟨rows, own_mono h1 hB, h2⟩
theorem ORows.mv {rb j : Nat} (h : ORows R w B e k v xs) (hB : rb < B) (hm : Mv rb j w w') (hR : ∀ r x, R w r x → R w' r x) : ORows R w' B e k v xs := by
 obtain ⟨rows, h1, h2⟩ := h; exact ⟨rows, own_mv hB h1 hm, h2.kept hR⟩
theorem ORows.below (h : ORows R w B e k v xs) (hb : Below w.heap.size w w') (hR : ∀ r x, R w r x → R w' r x) : ORows R w' B e k v xs := by
 obtain ⟨rows, h1, h2⟩ := h; exact ⟨rows, own_below h1 hb, h2.kept hR⟩
theorem flat_at {k : Nat} : ∀ (rows : List (List Value)), (∀ r ∈ rows, r.length = k) → ∀ (i : Nat) (r : List Value), rows[i]? = some r → ∀ (j : Nat) (u : Value), r[j]? = some u → rows.flatten[i * k + j]? = some u
 | [], _, i, r, h, _, _, _ => by simp at h
 | r0 :: rows, hk, 0, r, h, j, u, hj => by
  simp at h; subst h
  have := (List.getElem?_eq_some_iff.1 hj).1
  rw [List.flatten_cons, Nat.zero_mul, Nat.zero_add, List.getElem?_append_left this]
  exact hj
 | r0 :: rows, hk, i + 1, r, h, j, u, hj => by
  have h0 := hk r0 (by simp)
  have ih := flat_at rows (fun r hr => hk r (by simp [hr])) i r (by simpa using h) j u hj
  rw [List.flatten_cons, List.getElem?_append_right (by rw [h0, Nat.succ_mul]; omega), h0]
  rw [show (i + 1) * k + j - k = i * k + j by rw [Nat.succ_mul]; omega]
  exact ih
/-- The cells of one thing in a slice. -/
theorem TRows.at (h : TRows R w e k v xs) (hk : ∀ r x, R w r x → r.length = k) {i : Nat} {x : α} (hi : xs[i]? = some x) : ∃ g o c r, v = .slice (some ⟨g, o, none⟩) xs.length c ∧ g < w.heap.size ∧ R w r x ∧ ∀ (j : Nat) (u : Value), r[j]? = some u → w.cell? ⟨g, o + i * k + j, none⟩ = some u := by
 obtain ⟨rows, h1, h2, h3⟩ := h
 have hlt := (List.getElem?_eq_some_iff.1 hi).1
 obtain ⟨g, o, c, rfl, hg, hc⟩ := h1.cells (by omega)
 obtain ⟨r, hr⟩ : ∃ r, rows[i]? = some r := ⟨_, List.getElem?_eq_getElem (by omega)⟩
 refine ⟨g, o, c, r, rfl, hg, h3 i r x hr hi, fun j u hj => ?_⟩
 have := hc (i * k + j) u (flat_at rows (fun r' hr' => ?_) i r hr j u hj)
 ·rw [show o + i * k + j = o + (i * k + j) by omega]; exact this
 ·obtain ⟨q, hq⟩ := List.mem_iff_getElem?.1 hr'
  obtain ⟨x', hx'⟩ : ∃ x', xs[q]? = some x' := ⟨_, List.getElem?_eq_getElem (by have := (List.getElem?_eq_some_iff.1 hq).1; omega)⟩
  exact hk r' x' (h3 q r' x' hq hx')
end
def sCells (l : List (List UInt8)) : List Value := l.map fun s => .string (bs s)
def cvCells (l : List (Int × Int)) : List Value := l.flatMap fun c => [.int .i64 c.1, .int .i64 c.2]
def liFs (x : Ap.Li) (a : Value) : List Value := [.int .i64 x.kind, .string (bs x.name), .int .i64 x.pred, a, .string (bs x.bnd), .string (bs x.elem), .int .i64 x.least, .int .i64 x.op, .int .i64 x.pos]
def LiR (w : World) (r : List Value) (x : Ap.Li) : Prop := ∃ a, r = liFs x a ∧ TRow w 71 4 a x.args.length (tmCells x.args)
def ruFs (x : Ap.Ru) (a b : Value) : List Value := [.string (bs x.name), .int .i64 x.pred, a, .int .i64 x.elem.kind, .string (bs x.elem.name), .string (bs x.elem.var), .int .i64 x.elem.index, b, .int .i64 x.pos]
def RuR (w : World) (r : List Value) (x : Ap.Ru) : Prop := ∃ a b, r = ruFs x a b ∧ TRow w 71 4 a x.args.length (tmCells x.args) ∧ TRows LiR w 58 9 b x.body
def laFs (x : Ap.La) (a b : Value) : List Value := [.string (bs x.name), a, b, .int .i64 x.pos]
def LaR (w : World) (r : List Value) (x : Ap.La) : Prop := ∃ a b, r = laFs x a b ∧ TRow w 9 1 a x.elems.length (sCells x.elems) ∧ TRow w 116 2 b x.covers.length (cvCells x.covers)
def fuFs (x : Ap.Fu) (a b c : Value) : List Value := [.string (bs x.name), .string (bs x.lat), .int .i64 x.fof, a, b, c, .int .i64 x.pos]
def FuR (w : World) (r : List Value) (x : Ap.Fu) : Prop := ∃ a b c, r = fuFs x a b c ∧ TRow w 9 1 a x.froms.length (sCells x.froms) ∧ TRow w 9 1 b x.tos.length (sCells x.tos) ∧ TRow w 3 1 c x.table.length (iCells x.table)
def prFs (x : Ap.Pr) (a : Value) : List Value := [.string (bs x.name), a, .string (bs x.lat), .int .i64 x.pof, .bool x.base, .int .i64 x.key, .int .i64 x.pos]
def PrR (w : World) (r : List Value) (x : Ap.Pr) : Prop := ∃ a, r = prFs x a ∧ TRow w 3 1 a x.types.length (iCells x.types)
theorem LiR.len {w : World} {r : List Value} {x : Ap.Li} (h : LiR w r x) : r.length = 9 := by obtain ⟨a, rfl, _⟩ := h; rfl
theorem RuR.len {w : World} {r : List Value} {x : Ap.Ru} (h : RuR w r x) : r.length = 9 := by obtain ⟨a, b, rfl, _⟩ := h; rfl
theorem LaR.len {w : World} {r : List Value} {x : Ap.La} (h : LaR w r x) : r.length = 4 := by obtain ⟨a, b, rfl, _⟩ := h; rfl
theorem FuR.len {w : World} {r : List Value} {x : Ap.Fu} (h : FuR w r x) : r.length = 7 := by obtain ⟨a, b, c, rfl, _⟩ := h; rfl
theorem PrR.len {w : World} {r : List Value} {x : Ap.Pr} (h : PrR w r x) : r.length = 7 := by obtain ⟨a, rfl, _⟩ := h; rfl
theorem LiR.kept {w w' : World} (h1 : Kept 71 w w') : ∀ r x, LiR w r x → LiR w' r x := fun r x ⟨a, e, h⟩ => ⟨a, e, h.kept h1⟩
theorem RuR.kept {w w' : World} (h1 : Kept 71 w w') (h2 : Kept 58 w w') : ∀ r x, RuR w r x → RuR w' r x := fun r x ⟨a, b, e, h, k⟩ => ⟨a, b, e, h.kept h1, k.kept h2 (LiR.kept h1)⟩
theorem LaR.kept {w w' : World} (h1 : Kept 9 w w') (h2 : Kept 116 w w') : ∀ r x, LaR w r x → LaR w' r x := fun r x ⟨a, b, e, h, k⟩ => ⟨a, b, e, h.kept h1, k.kept h2⟩
theorem FuR.kept {w w' : World} (h1 : Kept 9 w w') (h2 : Kept 3 w w') : ∀ r x, FuR w r x → FuR w' r x := fun r x ⟨a, b, c, e, h, k, l⟩ => ⟨a, b, c, e, h.kept h1, k.kept h1, l.kept h2⟩
theorem PrR.kept {w w' : World} (h1 : Kept 3 w w') : ∀ r x, PrR w r x → PrR w' r x := fun r x ⟨a, e, h⟩ => ⟨a, e, h.kept h1⟩
/-- A program in memory: the values of its four slices. -/
structure PgR (w : World) (l f p r : Value) (P : Ap.Pg) : Prop where
 lats : TRows LaR w 77 4 l P.lats
 funs : TRows FuR w 94 7 f P.funs
 preds : TRows PrR w 73 7 p P.preds
 rules : TRows RuR w 66 9 r P.rules
/-- All blocks of programs stay as they are. -/
def KeptAll (w w' : World) : Prop := ∀ e ∈ [77, 94, 73, 66, 58, 71, 9, 116, 3], Kept e w w'
theorem KeptAll.below {w w' : World} (hb : Below w.heap.size w w') : KeptAll w w' := fun e _ => Kept.below hb e
theorem PgR.kept {w w' : World} {l f p r : Value} {P : Ap.Pg} (h : PgR w l f p r P) (k : KeptAll w w') : PgR w' l f p r P :=
 ⟨h.lats.kept (k _ (by simp)) (LaR.kept (k _ (by simp)) (k _ (by simp))), h.funs.kept (k _ (by simp)) (FuR.kept (k _ (by simp)) (k _ (by simp))), h.preds.kept (k _ (by simp)) (PrR.kept (k _ (by simp))), h.rules.kept (k _ (by simp)) (RuR.kept (k _ (by simp)) (k _ (by simp)))⟩
theorem PgR.next {w w' : World} {l f p r : Value} {P : Ap.Pg} (h : PgR w l f p r P) (hb : Below w.heap.size w w') : PgR w' l f p r P := h.kept (KeptAll.below hb)
/-- The rows of a reader's program so far, in blocks from B on. -/
structure Outw (w : World) (B : Nat) (o : Outs) (P : Ap.Pg) : Prop where
 lats : ORows LaR w B 77 4 (.slice o.l.a o.l.n o.l.c) P.lats
 funs : ORows FuR w B 94 7 (.slice o.f.a o.f.n o.f.c) P.funs
 preds : ORows PrR w B 73 7 (.slice o.p.a o.p.n o.p.c) P.preds
 rules : ORows RuR w B 66 9 (.slice o.r.a o.r.n o.r.c) P.rules
theorem Outw.mv {w w' : World} {B rb j : Nat} {o : Outs} {P : Ap.Pg} {cs : Array Value} (h : Outw w B o P) (hB : rb < B) (ha : At w rb 87 cs) (hm : Mv rb j w w') : Outw w' B o P := by
 have k : ∀ e, 87 ≠ e → Kept e w w' := fun e he => Kept.mv ha hm he
 exact ⟨h.lats.mv hB hm (LaR.kept (k _ (by decide)) (k _ (by decide))), h.funs.mv hB hm (FuR.kept (k _ (by decide)) (k _ (by decide))), h.preds.mv hB hm (PrR.kept (k _ (by decide))), h.rules.mv hB hm (RuR.kept (k _ (by decide)) (k _ (by decide)))⟩
theorem Outw.pg {w : World} {B : Nat} {o : Outs} {P : Ap.Pg} (h : Outw w B o P) : PgR w (.slice o.l.a o.l.n o.l.c) (.slice o.f.a o.f.n o.f.c) (.slice o.p.a o.p.n o.p.c) (.slice o.r.a o.r.n o.r.c) P := ⟨TRows.of_own h.lats, TRows.of_own h.funs, TRows.of_own h.preds, TRows.of_own h.rules⟩
end Go.Proofs.YtpcmlkpnjimbiaaDoor
