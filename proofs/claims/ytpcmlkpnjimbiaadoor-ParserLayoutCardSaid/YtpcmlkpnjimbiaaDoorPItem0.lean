/- How an item goes into the reader's program. -/
import Derived.Test.YtpcmlkpnjimbiaaDoorPLits
namespace Go.Proofs.YtpcmlkpnjimbiaaDoor
set_option linter.unusedVariables false
set_option linter.unusedSimpArgs false
open Go.RowKit
section
variable {α : Type} {R : World → List Value → α → Prop} {w w' : World} {B k : Nat} {e : TypeId} {v : Value} {xs : List α}
theorem ORows.grown {B' size n : Nat} {t : TypeId} {v' : Value} {ys : List Value} (h : ORows R w B e k v xs) (ho : w.ownsRow B' t size v' n ys) (hg : w.grownBy w' v'.ownBlock) (hne : e ≠ t) (hR : ∀ r x, R w r x → R w' r x) : ORows R w' B e k v xs := by
 obtain ⟨rows, h1, h2⟩ := h
 exact ⟨rows, own_grown h1 hg (fun b hb => fun he => own_apart h1 ho hne b hb he), h2.kept hR⟩
theorem ORows.put {g : Nat} {t : TypeId} {cs : Array Value} (h : ORows R w B e k v xs) (ha : At w g t cs) (hne : t ≠ e) (i : Nat) (u : Value) (hR : ∀ r x, R w r x → R (w.setCell ⟨g, i, none⟩ u) r x) : ORows R (w.setCell ⟨g, i, none⟩ u) B e k v xs := by
 obtain ⟨rows, h1, h2⟩ := h
 exact ⟨rows, own_putne h1 (own_far h1 ha hne) u, h2.kept hR⟩
theorem ORows.slice' {β : Type} {f : β → α} {ys : List β} (h : ORows R w B e k v (ys.map f)) : ∃ A c, v = .slice A ys.length c := by
 have := h.slice
 rwa [List.length_map] at this
/-- Through new memory, the growth of a row of another type, and a store into the reader. -/
theorem ORows.through {W1 W : World} {t : TypeId} {size n g i : Nat} {v' u : Value} {ys : List Value} {cs : Array Value} (h : ORows R w B e k v xs) (h1 : Below w.heap.size w W1) (ho : W1.ownsRow B t size v' n ys) (hg : W1.grownBy W v'.ownBlock) (ha : At W g 87 cs) (hne : e ≠ t) (hne2 : 87 ≠ e) (hR : ∀ r x, R w r x → R (W.setCell ⟨g, i, none⟩ u) r x) : ORows R (W.setCell ⟨g, i, none⟩ u) B e k v xs := by
 obtain ⟨rows, o1, o2⟩ := h
 have q1 := own_below o1 h1
 have q2 := own_grown q1 hg (fun b hb => fun he => own_apart q1 ho hne b hb he)
 exact ⟨rows, own_putne q2 (own_far q2 ha hne2) u, o2.kept hR⟩
end
theorem ORows.mvL {w w' : World} {B rb j : Nat} {v : Value} {xs : List Ap.Li} {cs : Array Value} (h : ORows LiR w B 58 9 v xs) (hB : rb < B) (ha : At w rb 87 cs) (hm : Mv rb j w w') : ORows LiR w' B 58 9 v xs := h.mv hB hm (LiR.kept (Kept.mv ha hm (by decide)))
theorem ORows.putL {w : World} {B g : Nat} {t : TypeId} {cs : Array Value} {v : Value} {xs : List Ap.Li} (h : ORows LiR w B 58 9 v xs) (ha : At w g t cs) (h1 : t ≠ 58) (h2 : t ≠ 71) (i : Nat) (u : Value) : ORows LiR (w.setCell ⟨g, i, none⟩ u) B 58 9 v xs := h.put ha h1 i u (LiR.kept (Kept.put ha i u h2))
section
variable {w : World} {rb : Nat} {TA : Option Addr} {tc : Nat} {ts : List Lx.Tok} {sz i : Nat} {o : Outs}
theorem Rd.turn (h : Rd w rb TA tc ts sz i o) {w' : World} (hb : Below rb w w') {j : Nat} {o' : Outs} (hbox : At w' rb 87 (rdc TA ts.length tc j sz o')) (hj : j ≤ ts.length) : Rd w' rb TA tc ts sz j o' := by
 refine ⟨hbox, fun hn => ?_, ⟨h.few.1, h.few.2.1, hj⟩, h.tb.below hb, h.dig, h.old⟩
 obtain ⟨g, og, e, hg, hc⟩ := h.toks hn
 have hgr : g < rb := h.old _ e
 exact ⟨g, og, e, Nat.lt_trans hgr hbox.lt, fun k fs hk q v hv => (hb.cell (p := ⟨g, og + k * 3 + q, none⟩) hgr).trans (hc k fs hk q v hv)⟩
theorem Mv.belowR {w' : World} {j : Nat} (hm : Mv rb j w w') (hl : rb < w.heap.size) : Below rb w w' := ((Below.refl rb w).setCell (p := ⟨rb, 1, none⟩) (Nat.le_refl _) (.int .i64 (j : Int))).trans (Below.mono hm (Nat.le_of_lt hl))
theorem keep_grown {W1 W : World} {B size n : Nat} {t : TypeId} {v : Value} {ys : List Value} (ho : W1.ownsRow B t size v n ys) (hg : W1.grownBy W v.ownBlock) {g : Nat} {ob : Obj} (h : W1.heap[g]? = some ob) (hne : ∀ cur fr, ob ≠ .cells cur t fr) : W.heap[g]? = some ob := by
 refine (hg.block g (Array.getElem?_eq_some_iff.1 h).1 ?_).trans h
 rcases ho.2 with ⟨rfl, _⟩ | ⟨g', cap, c2, rfl, _, h2, _⟩
 ·simp [Value.ownBlock]
 ·intro he
  have : g = g' := by simpa [Value.ownBlock] using he
  subst this
  rw [h2] at h
  exact hne _ _ (Option.some.inj h).symm
theorem keep_put {W1 : World} {b : Nat} {t : TypeId} {cs : Array Value} (ha : At W1 b t cs) (k : Nat) (u : Value) {g : Nat} {ob : Obj} (h : W1.heap[g]? = some ob) (hne : ∀ cur fr, ob ≠ .cells cur t fr) : (W1.setCell ⟨b, k, none⟩ u).heap[g]? = some ob := by
 have : g ≠ b := by
  rintro rfl
  unfold At at ha
  rw [ha] at h
  exact hne _ _ (Option.some.inj h).symm
 exact (Below.heap_setCell W1 ⟨b, k, none⟩ u g this).trans h
theorem keep_mv {W1 W : World} {rb j : Nat} {cs : Array Value} (ha : At W1 rb 87 cs) (hm : Mv rb j W1 W) {g : Nat} {ob : Obj} (h : W1.heap[g]? = some ob) (hne : ∀ cur fr, ob ≠ .cells cur 87 fr) : W.heap[g]? = some ob := by
 have h2 := keep_put ha 1 (.int .i64 (j : Int)) h hne
 exact (hm.block g (Array.getElem?_eq_some_iff.1 h).1).trans h2
/-- No block of the reader or of the program's rows. -/
def NotX (ob : Obj) : Prop := ∀ e ∈ [87, 77, 94, 73, 66], ∀ cur fr, ob ≠ .cells cur e fr
/-- The blocks stay as they are, but those of the reader and of the program's rows. -/
def KeptX (w w' : World) : Prop := ∀ (g : Nat) (ob : Obj), w.heap[g]? = some ob → NotX ob → w'.heap[g]? = some ob
theorem KeptX.trans {a b c : World} (h : KeptX a b) (k : KeptX b c) : KeptX a c := fun g ob h1 h2 => k g ob (h g ob h1 h2) h2
theorem KeptX.below {w w' : World} (hb : Below w.heap.size w w') : KeptX w w' := fun g ob h _ => (hb.block g (Array.getElem?_eq_some_iff.1 h).1).trans h
theorem KeptX.mv {w' : World} {j : Nat} (h : Rd w rb TA tc ts sz i o) (hm : Mv rb j w w') : KeptX w w' := fun g ob h1 h2 => keep_mv h.box hm h1 (h2 _ (by simp))
/-- How a method ends that reads an item. -/
def IPost {α : Type} (w : World) (rb : Nat) (TA : Option Addr) (tc : Nat) (ts : List Lx.Tok) (sz B : Nat) (P : Ap.Pg) (add : Ap.Pg → α → Ap.Pg) (r : Px.R α) (e : Ending) (w' : World) : Prop := match r with
 | .ok x j => e = .returned (.tuple #[]) ∧ Below rb w w' ∧ KeptX w w' ∧ ∃ o', Rd w' rb TA tc ts sz j o' ∧ Outw w' B o' (add P x)
 | .fail j => e = .panicked (wrongC ts sz j) ∧ Below rb w w' ∧ KeptX w w' ∧ ∃ o', Rd w' rb TA tc ts sz j o' ∧ Outw w' B o' P
/-- An item's method that panics has turned nothing but the place. -/
theorem IPost.failed {α : Type} {B : Nat} {P : Ap.Pg} {add : Ap.Pg → α → Ap.Pg} (h : Rd w rb TA tc ts sz i o) (ho : Outw w B o P) (hB : rb < B) {w' : World} {j : Nat} (hm : Mv rb j w w') (hr : Rd w' rb TA tc ts sz j o) : IPost w rb TA tc ts sz B P add (.fail j) (.panicked (wrongC ts sz j)) w' :=
 ⟨rfl, hm.belowR h.box.lt, KeptX.mv h hm, o, hr, ho.mv hB h.box hm⟩
theorem below_grown {W1 W : World} {B size n : Nat} {t : TypeId} {v : Value} {ys : List Value} (ho : W1.ownsRow B t size v n ys) (hg : W1.grownBy W v.ownBlock) {b : Nat} (hb : b ≤ W1.heap.size) (hB : b ≤ B) : Below b W1 W :=
 ⟨hg.os, hg.tape, hg.output, hg.size, fun k hk => hg.block k (by omega) (fun e => by have := (own_lt ho e.symm).1; omega)⟩
theorem end_lats {W0 W1 W : World} {B j c : Nat} {P : Ap.Pg} {A : Option Addr} {x : Ap.La} {a b : Value} {rows : List (List Value)} (hr : Rd W0 rb TA tc ts sz j o) (ho : Outw W0 B o P) (hB : rb < B) (h1 : Below W0.heap.size W0 W1)
  (hrows : W1.ownsRow B 77 4 (.slice o.l.a o.l.n o.l.c) P.lats.length rows.flatten) (hRR : RowsR LaR W0 rows P.lats) (hg : W1.grownBy W (Value.ownBlock (.slice o.l.a o.l.n o.l.c)))
  (h5 : W.ownsRow B 77 4 (.slice A (P.lats.length + 1) c) (P.lats.length + 1) (rows.flatten ++ laFs x a b)) (hx : LaR W0 (laFs x a b) x) :
  Rd (W.setCell ⟨rb, 3, none⟩ (.slice A (P.lats.length + 1) c)) rb TA tc ts sz j { o with l := ⟨A, P.lats.length + 1, c⟩ } ∧ Outw (W.setCell ⟨rb, 3, none⟩ (.slice A (P.lats.length + 1) c)) B { o with l := ⟨A, P.lats.length + 1, c⟩ } { P with lats := P.lats ++ [x] } ∧ Below rb W0 (W.setCell ⟨rb, 3, none⟩ (.slice A (P.lats.length + 1) c)) ∧ KeptX W0 (W.setCell ⟨rb, 3, none⟩ (.slice A (P.lats.length + 1) c)) := by
 have hl := hr.box.lt
 have at1 := hr.box.next h1
 have at2 := at1.grown hg (own_far hrows at1 (by decide))
 have at3 := at2.put 3 (.slice A (P.lats.length + 1) c)
 have e3 : (rdc TA ts.length tc j sz o).setIfInBounds 3 (.slice A (P.lats.length + 1) c) = rdc TA ts.length tc j sz { o with l := ⟨A, P.lats.length + 1, c⟩ } := by
  unfold rdc
  rw [List.setIfInBounds_toArray]
  rfl
 rw [e3] at at3
 have hbl : Below rb W0 (W.setCell ⟨rb, 3, none⟩ (.slice A (P.lats.length + 1) c)) := ((h1.mono (Nat.le_of_lt hl)).trans (below_grown hrows hg (Nat.le_trans (Nat.le_of_lt hl) h1.size) (Nat.le_of_lt hB))).setCell (p := ⟨rb, 3, none⟩) (Nat.le_refl _) _
 have KA : ∀ e : TypeId, 77 ≠ e → 87 ≠ e → Kept e W0 (W.setCell ⟨rb, 3, none⟩ (.slice A (P.lats.length + 1) c)) := fun e he1 he2 => (Kept.below h1 e).trans ((Kept.grown hrows hg he1).trans (Kept.put at2 3 _ he2))
 refine ⟨hr.turn hbl at3 hr.few.2.2, ?_, hbl, fun g ob q1 q2 => keep_put at2 3 _ (keep_grown hrows hg ((h1.block g (Array.getElem?_eq_some_iff.1 q1).1).trans q1) (q2 _ (by simp))) (q2 _ (by simp))⟩
 exact ⟨⟨rows ++ [laFs x a b], by
  rw [List.length_append, List.flatten_append]
  have := own_putne h5 (own_far h5 at2 (by decide)) (p := ⟨rb, 3, none⟩) (.slice A (P.lats.length + 1) c)
  simpa using this, (hRR.kept (LaR.kept (KA 9 (by decide) (by decide)) (KA 116 (by decide) (by decide)))).push (LaR.kept (KA 9 (by decide) (by decide)) (KA 116 (by decide) (by decide)) _ _ hx)⟩,
  ho.funs.through h1 hrows hg at2 (by decide) (by decide) (FuR.kept (KA 9 (by decide) (by decide)) (KA 3 (by decide) (by decide))),
  ho.preds.through h1 hrows hg at2 (by decide) (by decide) (PrR.kept (KA 3 (by decide) (by decide))),
  ho.rules.through h1 hrows hg at2 (by decide) (by decide) (RuR.kept (KA 71 (by decide) (by decide)) (KA 58 (by decide) (by decide)))⟩
theorem end_funs {W0 W1 W : World} {B j c : Nat} {P : Ap.Pg} {A : Option Addr} {x : Ap.Fu} {a b d : Value} {rows : List (List Value)} (hr : Rd W0 rb TA tc ts sz j o) (ho : Outw W0 B o P) (hB : rb < B) (h1 : Below W0.heap.size W0 W1)
  (hrows : W1.ownsRow B 94 7 (.slice o.f.a o.f.n o.f.c) P.funs.length rows.flatten) (hRR : RowsR FuR W0 rows P.funs) (hg : W1.grownBy W (Value.ownBlock (.slice o.f.a o.f.n o.f.c)))
  (h5 : W.ownsRow B 94 7 (.slice A (P.funs.length + 1) c) (P.funs.length + 1) (rows.flatten ++ fuFs x a b d)) (hx : FuR W0 (fuFs x a b d) x) :
  Rd (W.setCell ⟨rb, 4, none⟩ (.slice A (P.funs.length + 1) c)) rb TA tc ts sz j { o with f := ⟨A, P.funs.length + 1, c⟩ } ∧ Outw (W.setCell ⟨rb, 4, none⟩ (.slice A (P.funs.length + 1) c)) B { o with f := ⟨A, P.funs.length + 1, c⟩ } { P with funs := P.funs ++ [x] } ∧ Below rb W0 (W.setCell ⟨rb, 4, none⟩ (.slice A (P.funs.length + 1) c)) ∧ KeptX W0 (W.setCell ⟨rb, 4, none⟩ (.slice A (P.funs.length + 1) c)) := by
 have hl := hr.box.lt
 have at1 := hr.box.next h1
 have at2 := at1.grown hg (own_far hrows at1 (by decide))
 have at3 := at2.put 4 (.slice A (P.funs.length + 1) c)
 have e3 : (rdc TA ts.length tc j sz o).setIfInBounds 4 (.slice A (P.funs.length + 1) c) = rdc TA ts.length tc j sz { o with f := ⟨A, P.funs.length + 1, c⟩ } := by
  unfold rdc
  rw [List.setIfInBounds_toArray]
  rfl
 rw [e3] at at3
 have hbl : Below rb W0 (W.setCell ⟨rb, 4, none⟩ (.slice A (P.funs.length + 1) c)) := ((h1.mono (Nat.le_of_lt hl)).trans (below_grown hrows hg (Nat.le_trans (Nat.le_of_lt hl) h1.size) (Nat.le_of_lt hB))).setCell (p := ⟨rb, 4, none⟩) (Nat.le_refl _) _
 have KA : ∀ e : TypeId, 94 ≠ e → 87 ≠ e → Kept e W0 (W.setCell ⟨rb, 4, none⟩ (.slice A (P.funs.length + 1) c)) := fun e he1 he2 => (Kept.below h1 e).trans ((Kept.grown hrows hg he1).trans (Kept.put at2 4 _ he2))
 refine ⟨hr.turn hbl at3 hr.few.2.2, ?_, hbl, fun g ob q1 q2 => keep_put at2 4 _ (keep_grown hrows hg ((h1.block g (Array.getElem?_eq_some_iff.1 q1).1).trans q1) (q2 _ (by simp))) (q2 _ (by simp))⟩
 exact ⟨ho.lats.through h1 hrows hg at2 (by decide) (by decide) (LaR.kept (KA 9 (by decide) (by decide)) (KA 116 (by decide) (by decide))),
  ⟨rows ++ [fuFs x a b d], by
  rw [List.length_append, List.flatten_append]
  have := own_putne h5 (own_far h5 at2 (by decide)) (p := ⟨rb, 4, none⟩) (.slice A (P.funs.length + 1) c)
  simpa using this, (hRR.kept (FuR.kept (KA 9 (by decide) (by decide)) (KA 3 (by decide) (by decide)))).push (FuR.kept (KA 9 (by decide) (by decide)) (KA 3 (by decide) (by decide)) _ _ hx)⟩,
  ho.preds.through h1 hrows hg at2 (by decide) (by decide) (PrR.kept (KA 3 (by decide) (by decide))),
  ho.rules.through h1 hrows hg at2 (by decide) (by decide) (RuR.kept (KA 71 (by decide) (by decide)) (KA 58 (by decide) (by decide)))⟩
theorem end_preds {W0 W1 W : World} {B j c : Nat} {P : Ap.Pg} {A : Option Addr} {x : Ap.Pr} {a : Value} {rows : List (List Value)} (hr : Rd W0 rb TA tc ts sz j o) (ho : Outw W0 B o P) (hB : rb < B) (h1 : Below W0.heap.size W0 W1)
  (hrows : W1.ownsRow B 73 7 (.slice o.p.a o.p.n o.p.c) P.preds.length rows.flatten) (hRR : RowsR PrR W0 rows P.preds) (hg : W1.grownBy W (Value.ownBlock (.slice o.p.a o.p.n o.p.c)))
  (h5 : W.ownsRow B 73 7 (.slice A (P.preds.length + 1) c) (P.preds.length + 1) (rows.flatten ++ prFs x a)) (hx : PrR W0 (prFs x a) x) :
  Rd (W.setCell ⟨rb, 5, none⟩ (.slice A (P.preds.length + 1) c)) rb TA tc ts sz j { o with p := ⟨A, P.preds.length + 1, c⟩ } ∧ Outw (W.setCell ⟨rb, 5, none⟩ (.slice A (P.preds.length + 1) c)) B { o with p := ⟨A, P.preds.length + 1, c⟩ } { P with preds := P.preds ++ [x] } ∧ Below rb W0 (W.setCell ⟨rb, 5, none⟩ (.slice A (P.preds.length + 1) c)) ∧ KeptX W0 (W.setCell ⟨rb, 5, none⟩ (.slice A (P.preds.length + 1) c)) := by
 have hl := hr.box.lt
 have at1 := hr.box.next h1
 have at2 := at1.grown hg (own_far hrows at1 (by decide))
 have at3 := at2.put 5 (.slice A (P.preds.length + 1) c)
 have e3 : (rdc TA ts.length tc j sz o).setIfInBounds 5 (.slice A (P.preds.length + 1) c) = rdc TA ts.length tc j sz { o with p := ⟨A, P.preds.length + 1, c⟩ } := by
  unfold rdc
  rw [List.setIfInBounds_toArray]
  rfl
 rw [e3] at at3
 have hbl : Below rb W0 (W.setCell ⟨rb, 5, none⟩ (.slice A (P.preds.length + 1) c)) := ((h1.mono (Nat.le_of_lt hl)).trans (below_grown hrows hg (Nat.le_trans (Nat.le_of_lt hl) h1.size) (Nat.le_of_lt hB))).setCell (p := ⟨rb, 5, none⟩) (Nat.le_refl _) _
 have KA : ∀ e : TypeId, 73 ≠ e → 87 ≠ e → Kept e W0 (W.setCell ⟨rb, 5, none⟩ (.slice A (P.preds.length + 1) c)) := fun e he1 he2 => (Kept.below h1 e).trans ((Kept.grown hrows hg he1).trans (Kept.put at2 5 _ he2))
 refine ⟨hr.turn hbl at3 hr.few.2.2, ?_, hbl, fun g ob q1 q2 => keep_put at2 5 _ (keep_grown hrows hg ((h1.block g (Array.getElem?_eq_some_iff.1 q1).1).trans q1) (q2 _ (by simp))) (q2 _ (by simp))⟩
 exact ⟨ho.lats.through h1 hrows hg at2 (by decide) (by decide) (LaR.kept (KA 9 (by decide) (by decide)) (KA 116 (by decide) (by decide))),
  ho.funs.through h1 hrows hg at2 (by decide) (by decide) (FuR.kept (KA 9 (by decide) (by decide)) (KA 3 (by decide) (by decide))),
  ⟨rows ++ [prFs x a], by
  rw [List.length_append, List.flatten_append]
  have := own_putne h5 (own_far h5 at2 (by decide)) (p := ⟨rb, 5, none⟩) (.slice A (P.preds.length + 1) c)
  simpa using this, (hRR.kept (PrR.kept (KA 3 (by decide) (by decide)))).push (PrR.kept (KA 3 (by decide) (by decide)) _ _ hx)⟩,
  ho.rules.through h1 hrows hg at2 (by decide) (by decide) (RuR.kept (KA 71 (by decide) (by decide)) (KA 58 (by decide) (by decide)))⟩
theorem end_rules {W0 W1 W : World} {B j c : Nat} {P : Ap.Pg} {A : Option Addr} {x : Ap.Ru} {a b : Value} {rows : List (List Value)} (hr : Rd W0 rb TA tc ts sz j o) (ho : Outw W0 B o P) (hB : rb < B) (h1 : Below W0.heap.size W0 W1)
  (hrows : W1.ownsRow B 66 9 (.slice o.r.a o.r.n o.r.c) P.rules.length rows.flatten) (hRR : RowsR RuR W0 rows P.rules) (hg : W1.grownBy W (Value.ownBlock (.slice o.r.a o.r.n o.r.c)))
  (h5 : W.ownsRow B 66 9 (.slice A (P.rules.length + 1) c) (P.rules.length + 1) (rows.flatten ++ ruFs x a b)) (hx : RuR W0 (ruFs x a b) x) :
  Rd (W.setCell ⟨rb, 6, none⟩ (.slice A (P.rules.length + 1) c)) rb TA tc ts sz j { o with r := ⟨A, P.rules.length + 1, c⟩ } ∧ Outw (W.setCell ⟨rb, 6, none⟩ (.slice A (P.rules.length + 1) c)) B { o with r := ⟨A, P.rules.length + 1, c⟩ } { P with rules := P.rules ++ [x] } ∧ Below rb W0 (W.setCell ⟨rb, 6, none⟩ (.slice A (P.rules.length + 1) c)) ∧ KeptX W0 (W.setCell ⟨rb, 6, none⟩ (.slice A (P.rules.length + 1) c)) := by
 have hl := hr.box.lt
 have at1 := hr.box.next h1
 have at2 := at1.grown hg (own_far hrows at1 (by decide))
 have at3 := at2.put 6 (.slice A (P.rules.length + 1) c)
 have e3 : (rdc TA ts.length tc j sz o).setIfInBounds 6 (.slice A (P.rules.length + 1) c) = rdc TA ts.length tc j sz { o with r := ⟨A, P.rules.length + 1, c⟩ } := by
  unfold rdc
  rw [List.setIfInBounds_toArray]
  rfl
 rw [e3] at at3
 have hbl : Below rb W0 (W.setCell ⟨rb, 6, none⟩ (.slice A (P.rules.length + 1) c)) := ((h1.mono (Nat.le_of_lt hl)).trans (below_grown hrows hg (Nat.le_trans (Nat.le_of_lt hl) h1.size) (Nat.le_of_lt hB))).setCell (p := ⟨rb, 6, none⟩) (Nat.le_refl _) _
 have KA : ∀ e : TypeId, 66 ≠ e → 87 ≠ e → Kept e W0 (W.setCell ⟨rb, 6, none⟩ (.slice A (P.rules.length + 1) c)) := fun e he1 he2 => (Kept.below h1 e).trans ((Kept.grown hrows hg he1).trans (Kept.put at2 6 _ he2))
 refine ⟨hr.turn hbl at3 hr.few.2.2, ?_, hbl, fun g ob q1 q2 => keep_put at2 6 _ (keep_grown hrows hg ((h1.block g (Array.getElem?_eq_some_iff.1 q1).1).trans q1) (q2 _ (by simp))) (q2 _ (by simp))⟩
 exact ⟨ho.lats.through h1 hrows hg at2 (by decide) (by decide) (LaR.kept (KA 9 (by decide) (by decide)) (KA 116 (by decide) (by decide))),
  ho.funs.through h1 hrows hg at2 (by decide) (by decide) (FuR.kept (KA 9 (by decide) (by decide)) (KA 3 (by decide) (by decide))),
  ho.preds.through h1 hrows hg at2 (by decide) (by decide) (PrR.kept (KA 3 (by decide) (by decide))),
  ⟨rows ++ [ruFs x a b], by
  rw [List.length_append, List.flatten_append]
  have := own_putne h5 (own_far h5 at2 (by decide)) (p := ⟨rb, 6, none⟩) (.slice A (P.rules.length + 1) c)
  simpa using this, (hRR.kept (RuR.kept (KA 71 (by decide) (by decide)) (KA 58 (by decide) (by decide)))).push (RuR.kept (KA 71 (by decide) (by decide)) (KA 58 (by decide) (by decide)) _ _ hx)⟩⟩
end
end Go.Proofs.YtpcmlkpnjimbiaaDoor
