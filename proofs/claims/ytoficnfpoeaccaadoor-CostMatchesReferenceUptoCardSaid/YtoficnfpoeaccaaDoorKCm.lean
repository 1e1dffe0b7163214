/- Maps that count different keys, the work of cost.Stats in memory; no program in sight but types. -/
import Derived.Test.YtoficnfpoeaccaaDoorKTab
import Derived.Test.YtoficnfpoeaccaaDoorKTup
import Derived.Test.YtoficnfpoeaccaaDoorKCnt
import Derived.Test.YtoficnfpoeaccaaDoorKCost0
import Derived.Test.YtoficnfpoeaccaaDoorInv2
namespace Go.Proofs.YtoficnfpoeaccaaDoor
set_option linter.unusedVariables false
set_option linter.unusedSimpArgs false
open Go.RowKit
/-- A map whose keys are just these, each once counted. -/
def CMap (w : World) (b : Nat) (ks : List ByteArray) : Prop :=
  ∃ D : DataW Unit, w.ownsMap Tryd.prog 9 (plainElem Tryd.prog 4) b ks.length D ∧ (∀ x : ByteArray, FitS x → (Maps.has D (.string x.data.toList) = true ↔ x ∈ ks)) ∧ Maps.size D = Ct.dcount ks
section
variable {w w' : World} {b : Nat} {ks : List ByteArray}
theorem CMap.madeAt {g : Nat} (hg : w.heap.size = g) : CMap (w.alloc (.map #[] 0)) g [] := by
  subst hg
  exact ⟨_, World.ownsMap_made w _ _ _, fun x _ => ⟨fun h => (by cases h), fun h => (by cases h)⟩, rfl⟩
theorem CMap.kept {row : Option Nat} (h : CMap w b ks) (hg : w.grownBy w' row) (hne : some b ≠ row) : CMap w' b ks := by
  obtain ⟨D, h, r⟩ := h; exact ⟨D, h.kept hg hne, r⟩
theorem CMap.next (h : CMap w b ks) (hb : Below w.heap.size w w') : CMap w' b ks := by
  obtain ⟨D, h, r⟩ := h
  exact ⟨D, h.kept (grown_of_below hb none) (fun e => by cases e), r⟩
theorem CMap.setCell (h : CMap w b ks) {a : Addr} (ha : b ≠ a.block) (u : Value) : CMap (w.setCell a u) b ks := by
  obtain ⟨D, h, r⟩ := h; exact ⟨D, h.setCell ha u, r⟩
theorem CMap.lt (h : CMap w b ks) : b < w.heap.size := by obtain ⟨D, h, _⟩ := h; exact h.lt
theorem CMap.obj (h : CMap w b ks) : ∃ es c, w.heap[b]? = some (.map es c) := by
  obtain ⟨D, ⟨es, clock, h1, h2⟩, r⟩ := h
  exact ⟨es, clock, h1⟩
theorem CMap.drew (h : CMap w b ks) : CMap w.drew b ks := by
  obtain ⟨D, h, r⟩ := h; exact ⟨D, h.drew, r⟩
theorem str_key {x : ByteArray} (h : FitS x) : keyOf Tryd.prog 9 (.string x) = some (.string x.data.toList) := by
  simp [keyOf, Tryd.underlying9, mapKey]; exact h
theorem CMap.put (h : CMap w b ks) {D : DataW Unit} {x : ByteArray} (hx : FitS x) (hD : w.ownsMap Tryd.prog 9 (plainElem Tryd.prog 4) b ks.length D) (hh : ∀ x : ByteArray, FitS x → (Maps.has D (.string x.data.toList) = true ↔ x ∈ ks)) (hs : Maps.size D = Ct.dcount ks)
    (h' : w'.ownsMap Tryd.prog 9 (plainElem Tryd.prog 4) b (ks.length + 1) (D.put (.string x.data.toList) (.lit (.bool true)))) : CMap w' b (ks ++ [x]) := by
  have K := (str_enc0.keyed)
  have hk := K.key (str_key hx)
  refine ⟨_, by rw [List.length_append]; exact h', fun y hy => ?_, ?_⟩
  · by_cases e : y = x
    · subst e
      rw [Maps.has_put_same hD.isMap hk]
      simp
    · rw [Maps.has_put_other (fun el => e (by
        injection el with el
        apply ByteArray.ext; apply Array.toList_inj.1; exact el)), hh y hy]
      simp [e]
  · rw [Maps.size_put (hD.tidy K), Ct.dcount_snoc, hs]
    by_cases e : x ∈ ks
    · rw [if_pos ((hh x hx).2 e), if_pos e]
    · rw [if_neg (fun h => e ((hh x hx).1 h)), if_neg e]
end
/-- A store of true at the operation. -/
theorem oper_cmap {w : World} {o : Oper} {a : Act} {K : Act → World → Prop} {Q : Exit → Act → World → Prop} {m x v : Operand} (hop : o.op = Op.mapUpdate 83 m x v) {b : Nat} {ks : List ByteArray} (h : CMap w b ks) (hm : a.eval m = .map (some b)) {key : ByteArray} (hx : a.eval x = .string key) (hk : FitS key) (hv : a.eval v = .bool true) (hl : ks.length < 1000000)
    (hK : ∀ w', CMap w' b (ks ++ [key]) → w.grownBy w' (some b) → K (a.put o.dst undef) w') : o.wp Tryd.prog a w K Q := by
  obtain ⟨D, hD, hh, hs⟩ := id h
  obtain ⟨w', hrun, r1, r2⟩ := hD.update (str_enc0.keyed) Tryd.underlying83 (by unfold maxLen; omega) (str_key hk) (bool_enc.reads true)
  unfold Oper.wp
  simp [execOp, hop, hm, hx, hv, hrun, Result.andThen]
  exact hK w' (h.put hk hD hh hs r1) r2
theorem wpList_cmap {w : World} {ops : Array Oper} {rest : List Oper} {o : Oper} {a : Act} {Q : Exit → Act → World → Prop} (hg : o.guard = none) (m x v : Operand) (hop : o.op = Op.mapUpdate 83 m x v) {b : Nat} {ks : List ByteArray} (h : CMap w b ks) (hm : a.eval m = .map (some b)) {key : ByteArray} (hx : a.eval x = .string key) (hk : FitS key) (hv : a.eval v = .bool true) (hl : ks.length < 1000000)
    (hK : ∀ w', CMap w' b (ks ++ [key]) → w.grownBy w' (some b) → wpList Tryd.prog ops Q rest (a.put o.dst undef) w') : wpList Tryd.prog ops Q (o :: rest) a w := by
  refine wpList_plain hg fun K' hK' => ?_
  exact oper_cmap hop h hm hx hk hv hl fun w' h1 h2 => hK' _ _ (hK w' h1 h2)
theorem CMap.len {w : World} {b : Nat} {ks : List ByteArray} (h : CMap w b ks) (ty : TypeId) : (Builtin.len_ #[83] ty #[.map (some b)]).run Tryd.prog w = .ok (.int .i64 ((Ct.dcount ks : Nat) : Int)) w := by
  obtain ⟨D, hD, hh, hs⟩ := h
  rw [hD.len Tryd.underlying83, hs]
/-! ### What Stats counts -/
def keyS (v : Qu.Vl3) : ByteArray := ⟨(Qu.keyB PT v).toArray⟩
def joinS (l : List Qu.Vl3) : ByteArray := ⟨(Qu.joinB PT l).toArray⟩
def goodOf (l : List Rw) (n : Nat) : List (List Qu.Vl3) := (l.filter fun r => decide (r.args.length = n)).map Rw.args
theorem goodOf_len {l : List Rw} {n : Nat} : ∀ r ∈ goodOf l n, r.length = n := by
  intro r hr
  obtain ⟨x, hx, rfl⟩ := List.mem_map.1 hr
  simpa using (List.mem_filter.1 hx).2
theorem keyS_inj {a b : Qu.Vl3} (h : keyS a = keyS b) : a = b := by
  have h2 : Qu.keyB PT a = Qu.keyB PT b := by simpa [keyS] using h
  exact (Qu.keyB_inj PT (x := []) (y := []) (by rw [h2])).1
theorem joinS_inj {a b : List Qu.Vl3} (hl : a.length = b.length) (h : joinS a = joinS b) : a = b := Qu.joinB_inj PT a b hl (by simpa [joinS] using h)
theorem count_rows (l : List Rw) (n : Nat) : Ct.dcount ((goodOf l n).map joinS) = Ct.dcount (goodOf l n) :=
  Ct.dcount_map_inj fun x hx y hy e => joinS_inj (by rw [goodOf_len x hx, goodOf_len y hy]) e
theorem count_col (l : List (List Qu.Vl3)) (i : Nat) : Ct.dcount ((Ct.col l i).map keyS) = Ct.dcount (Ct.col l i) :=
  Ct.dcount_map_inj fun x _ y _ e => keyS_inj e
theorem good_more {l : List Rw} {k n : Nat} {x : Rw} (h : l[k]? = some x) (hn : x.args.length = n) : goodOf (l.take (k + 1)) n = goodOf (l.take k) n ++ [x.args] := by
  unfold goodOf
  rw [take_more h, List.filter_append, List.map_append]
  simp [hn]
theorem good_skip {l : List Rw} {k n : Nat} {x : Rw} (h : l[k]? = some x) (hn : x.args.length ≠ n) : goodOf (l.take (k + 1)) n = goodOf (l.take k) n := by
  unfold goodOf
  rw [take_more h, List.filter_append, List.map_append]
  simp [hn]
theorem col_more {l : List (List Qu.Vl3)} {r : List Qu.Vl3} {i : Nat} {v : Qu.Vl3} (h : r[i]? = some v) : Ct.col (l ++ [r]) i = Ct.col l i ++ [v] := by
  rw [Ct.col_app]
  congr 1
  simp [Ct.col, h]
theorem col_same {l : List (List Qu.Vl3)} {r : List Qu.Vl3} {i : Nat} (h : r[i]? = none) : Ct.col (l ++ [r]) i = Ct.col l i := by
  rw [Ct.col_app]
  simp [Ct.col, h]
theorem col_len (l : List (List Qu.Vl3)) (i : Nat) : (Ct.col l i).length ≤ l.length := List.length_filterMap_le _ _
theorem goodOf_le (l : List Rw) (n : Nat) : (goodOf l n).length ≤ l.length := by
  unfold goodOf
  rw [List.length_map]
  exact List.length_filter_le _ _
/-- The maps of the columns. -/
structure Cols (w : World) (B bR : Nat) (mb : List Nat) (kR : List ByteArray) (ks : Nat → List ByteArray) : Prop where
  rows : CMap w bR kR
  each : ∀ (i b : Nat), mb[i]? = some b → CMap w b (ks i)
  low : B ≤ bR ∧ ∀ b ∈ mb, B ≤ b
  ne : ∀ b ∈ mb, b ≠ bR
  one : ∀ (i j b : Nat), mb[i]? = some b → mb[j]? = some b → i = j
section
variable {w w' : World} {B bR : Nat} {mb : List Nat} {kR : List ByteArray} {ks : Nat → List ByteArray}
theorem Cols.next (h : Cols w B bR mb kR ks) (hb : Below w.heap.size w w') : Cols w' B bR mb kR ks :=
  ⟨h.rows.next hb, fun i b hi => (h.each i b hi).next hb, h.low, h.ne, h.one⟩
theorem Cols.keptCells (h : Cols w B bR mb kR ks) {row : Option Nat} (hg : w.grownBy w' row) (hc : ∀ q, row = some q → ∀ es c, w.heap[q]? ≠ some (.map es c)) : Cols w' B bR mb kR ks := by
  have key : ∀ b ks, CMap w b ks → CMap w' b ks := fun b ks hm => hm.kept hg (fun e => by
    obtain ⟨es, c, ho⟩ := hm.obj
    exact hc b e.symm es c ho)
  exact ⟨key _ _ h.rows, fun i b hi => key _ _ (h.each i b hi), h.low, h.ne, h.one⟩
theorem Cols.setCell (h : Cols w B bR mb kR ks) {g : Nat} {t : TypeId} {cs : Array Value} (ha : At w g t cs) (i : Nat) (u : Value) : Cols (w.setCell ⟨g, i, none⟩ u) B bR mb kR ks := by
  have key : ∀ b ks, CMap w b ks → CMap (w.setCell ⟨g, i, none⟩ u) b ks := fun b ks hm => hm.setCell (fun e => by
    obtain ⟨es, c, ho⟩ := hm.obj
    exact ha.not_map ho (congrArg some e.symm)) u
  exact ⟨key _ _ h.rows, fun i b hi => key _ _ (h.each i b hi), h.low, h.ne, h.one⟩
theorem Cols.putRow (h : Cols w B bR mb kR ks) {k : List ByteArray} (h' : CMap w' bR k) (hg : w.grownBy w' (some bR)) : Cols w' B bR mb k ks :=
  ⟨h', fun i b hi => (h.each i b hi).kept hg (fun e => h.ne b (List.mem_of_getElem? hi) (by injection e)), h.low, h.ne, h.one⟩
theorem Cols.putCol (h : Cols w B bR mb kR ks) {i b : Nat} {k : List ByteArray} (hi : mb[i]? = some b) (h' : CMap w' b k) (hg : w.grownBy w' (some b)) : Cols w' B bR mb kR (fun j => if j = i then k else ks j) := by
  refine ⟨h.rows.kept hg (fun e => h.ne b (List.mem_of_getElem? hi) (by injection e with e; exact e.symm)), fun j c hj => ?_, h.low, h.ne, h.one⟩
  by_cases e : j = i
  · subst e
    rw [hi] at hj
    obtain rfl := Option.some.inj hj
    simp only [if_true]
    exact h'
  · rw [if_neg e]
    exact (h.each j c hj).kept hg (fun e2 => e (h.one j i b (by injection e2 with e2; rw [← e2]; exact hj) hi))
end
theorem own_not_map {w : World} {B : Nat} {e : TypeId} {size n : Nat} {v : Value} {xs : List Value} (h : w.ownsRow B e size v n xs) : ∀ q, v.ownBlock = some q → ∀ es c, w.heap[q]? ≠ some (.map es c) := by
  intro q hq es c
  rcases h.2 with ⟨rfl, _⟩ | ⟨g', cap, cur, rfl, _, hh, _⟩
  · simp [Value.ownBlock] at hq
  · have : g' = q := by simpa [Value.ownBlock] using hq
    subst this
    rw [hh]; simp
end Go.Proofs.YtoficnfpoeaccaaDoor
