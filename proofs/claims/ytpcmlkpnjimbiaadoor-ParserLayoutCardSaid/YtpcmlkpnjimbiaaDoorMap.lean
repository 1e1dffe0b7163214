/- A map of the call's own as a plain function from keys to elements; no program in sight. -/
import Derived.Maps.OwnSet
import Derived.DeepKeys4
import Derived.Test.YtpcmlkpnjimbiaaDoorOwn
namespace Go.Proofs.YtpcmlkpnjimbiaaDoor
set_option linter.unusedVariables false
set_option linter.unusedSimpArgs false
open Go.RowKit
open Go.Maps (Keyed)
/-- The keys of a map, as elements of a plain type. -/
structure KEnc {κ : Type} (P : Program) (k : TypeId) (val : κ → Value) (good : κ → Prop) : Prop where
 keyed : Keyed P k
 reads : ∀ x, good x → ∃ l, keyOf P k (val x) = some l
 inj : ∀ x y, val x = val y → x = y
/-- The elements of a map, as elements of a plain type. -/
structure EEnc {α : Type} (R : Value → Option (DataW Unit × List MemPlace)) (mk : α → Value) (dat : α → DataW Unit) : Prop where
 reads : ∀ a, R (mk a) = some (dat a, [])
 inv : ∀ v a ps, R v = some (dat a, ps) → v = mk a
/-- Block b is a map that holds f, of at most n entries. -/
def FMap {κ α : Type} (w : World) (P : Program) (k : TypeId) (R : Value → Option (DataW Unit × List MemPlace)) (val : κ → Value) (dat : α → DataW Unit) (b n : Nat) (f : κ → Option α) : Prop :=
 ∃ D, w.ownsMap P k R b n D ∧ ∀ x l, keyOf P k (val x) = some l → ∀ z, D.atKey l z = ((f x).map dat).getD z
section
variable {κ α : Type} {w : World} {P : Program} {k : TypeId} {R : Value → Option (DataW Unit × List MemPlace)} {val : κ → Value} {good : κ → Prop} {mk : α → Value} {dat : α → DataW Unit} {b n : Nat} {f : κ → Option α}
theorem FMap.made (w : World) (P : Program) (k : TypeId) (R : Value → Option (DataW Unit × List MemPlace)) (val : κ → Value) (dat : α → DataW Unit) : FMap (w.alloc (.map #[] 0)) P k R val dat w.heap.size 0 (fun _ => none) :=
 ⟨_, World.ownsMap_made w P k R, fun x l hl z => rfl⟩
theorem FMap.lt (h : FMap w P k R val dat b n f) : b < w.heap.size := by obtain ⟨D, h, _⟩ := h; exact h.lt
theorem FMap.kept {w' : World} {row : Option Nat} (h : FMap w P k R val dat b n f) (hg : w.grownBy w' row) (hne : some b ≠ row) : FMap w' P k R val dat b n f := by
 obtain ⟨D, h, r⟩ := h; exact ⟨D, h.kept hg hne, r⟩
theorem FMap.alloc (h : FMap w P k R val dat b n f) (o : Obj) : FMap (w.alloc o) P k R val dat b n f := by
 obtain ⟨D, h, r⟩ := h; exact ⟨D, h.alloc o, r⟩
theorem FMap.drew (h : FMap w P k R val dat b n f) : FMap w.drew P k R val dat b n f := by
 obtain ⟨D, h, r⟩ := h; exact ⟨D, h.drew, r⟩
theorem FMap.setCell (h : FMap w P k R val dat b n f) {a : Addr} (ha : b ≠ a.block) (u : Value) : FMap (w.setCell a u) P k R val dat b n f := by
 obtain ⟨D, h, r⟩ := h; exact ⟨D, h.setCell ha u, r⟩
theorem FMap.mono (h : FMap w P k R val dat b n f) {n' : Nat} (hn : n ≤ n') : FMap w P k R val dat b n' f := by
 obtain ⟨D, h, r⟩ := h; exact ⟨D, h.mono hn, r⟩
theorem FMap.below {w' : World} {B : Nat} (h : FMap w P k R val dat b n f) (hb : Below B w w') (hB : b < B) : FMap w' P k R val dat b n f := by
 obtain ⟨D, ⟨es, clock, h1, h2⟩, r⟩ := h
 exact ⟨D, ⟨es, clock, (hb.block b hB).trans h1, h2⟩, r⟩
theorem FMap.next {w' : World} (h : FMap w P k R val dat b n f) (hb : Below w.heap.size w w') : FMap w' P k R val dat b n f := h.below hb h.lt
theorem FMap.look_ok (h : FMap w P k R val dat b n f) (K : KEnc P k val good) (E : EEnc R mk dat) {t e : TypeId} (ht : P.underlying t = some (.map k e)) {a0 : α} (hz : (zeroValue e).run P w = .ok (mk a0) w) (x : κ) (hx : good x) :
  (Instr.lookup t (.map (some b)) (val x) true).run P w = .ok (.tuple #[mk ((f x).getD a0), .bool (f x).isSome]) w := by
 obtain ⟨D, h, r⟩ := h
 obtain ⟨l, hl⟩ := K.reads x hx
 obtain ⟨v, ps, hrun, hv⟩ := h.look_ok K.keyed ht hz (E.reads a0) hl
 rw [r x l hl] at hv
 have hh : Maps.has D l = (f x).isSome := by
  cases hf : f x with
  | none => exact Maps.has_false_of_atKey (fun z => by rw [r x l hl, hf]; rfl)
  | some a => exact Maps.has_true_of_atKey (y := dat a) (fun z => by rw [r x l hl, hf]; rfl)
 have hv' : R v = some (dat ((f x).getD a0), ps) := by
  rw [hv]
  cases f x <;> rfl
 rw [hrun, hh, E.inv v _ ps hv']
theorem FMap.look (h : FMap w P k R val dat b n f) (K : KEnc P k val good) (E : EEnc R mk dat) {t e : TypeId} (ht : P.underlying t = some (.map k e)) {a0 : α} (hz : (zeroValue e).run P w = .ok (mk a0) w) (x : κ) (hx : good x) :
  (Instr.lookup t (.map (some b)) (val x) false).run P w = .ok (mk ((f x).getD a0)) w := by
 obtain ⟨D, h, r⟩ := h
 obtain ⟨l, hl⟩ := K.reads x hx
 obtain ⟨v, ps, hrun, hv⟩ := h.lookup K.keyed ht hz (E.reads a0) hl
 rw [r x l hl] at hv
 have hv' : R v = some (dat ((f x).getD a0), ps) := by
  rw [hv]
  cases f x <;> rfl
 rw [hrun, E.inv v _ ps hv']
theorem FMap.update [DecidableEq κ] (h : FMap w P k R val dat b n f) (K : KEnc P k val good) (E : EEnc R mk dat) {t e : TypeId} (ht : P.underlying t = some (.map k e)) (hn : n < maxLen) (x : κ) (hx : good x) (a : α) :
  ∃ w', (Instr.mapUpdate t (.map (some b)) (val x) (mk a)).run P w = .ok () w' ∧ FMap w' P k R val dat b (n + 1) (fun y => if y = x then some a else f y) ∧ w.grownBy w' (some b) := by
 obtain ⟨D, h, r⟩ := h
 obtain ⟨l, hl⟩ := K.reads x hx
 obtain ⟨w', hrun, h', g⟩ := h.update K.keyed ht hn hl (E.reads a)
 refine ⟨w', hrun, ⟨_, h', fun y l' hl' z => ?_⟩, g⟩
 by_cases e : y = x
 ·subst e
  rw [hl] at hl'
  obtain rfl := Option.some.inj hl'
  rw [Maps.atKey_put_same h.isMap (K.keyed.key hl)]; simp
 ·have hne : l' ≠ l := fun el => e (K.inj _ _ (K.keyed.inj hl' (by rw [el]; exact hl)))
  rw [Maps.atKey_put_other hne, r y l' hl']; simp [e]
end
/-- An entry of a map that is written out. -/
theorem wpList_fmap_insert {κ α : Type} [DecidableEq κ] {P : Program} (w : World) {ops : Array Oper} {rest : List Oper} {o : Oper} {a : Act} {Q : Exit → Act → World → Prop}
  (hg : o.guard = none) (m x v : Operand) (t : TypeId) (hop : o.op = Op.insert t m x v)
  {k e : TypeId} {R : Value → Option (DataW Unit × List MemPlace)} {val : κ → Value} {good : κ → Prop} {mk : α → Value} {dat : α → DataW Unit} {b n : Nat} {f : κ → Option α}
  (hown : FMap w P k R val dat b n f) (K : KEnc P k val good) (E : EEnc R mk dat) (ht : P.underlying t = some (.map k e)) (hn : n < maxLen)
  (hm : a.eval m = .map (some b)) (key : κ) (hx : a.eval x = val key) (hk : good key) (el : α) (hv : a.eval v = mk el)
  (hK : ∀ w', FMap w' P k R val dat b (n + 1) (fun y => if y = key then some el else f y) → w.grownBy w' (some b) → wpList P ops Q rest (a.put o.dst undef) w') :
  wpList P ops Q (o :: rest) a w := by
 refine wpList_plain hg fun K' hK' => ?_
 obtain ⟨w', hrun, r1, r2⟩ := hown.update K E ht hn key hk el
 unfold Oper.wp
 simp [execOp, hop, hm, hx, hv, hrun, Result.andThen]
 exact hK' _ _ (hK w' r1 r2)
theorem grown_refl (w : World) (row : Option Nat) : w.grownBy w row := ⟨rfl, rfl, rfl, Nat.le_refl _, fun _ _ _ => rfl⟩
theorem grown_trans {a b c : World} {row : Option Nat} (h : a.grownBy b row) (k : b.grownBy c row) : a.grownBy c row :=
 ⟨k.os.trans h.os, k.tape.trans h.tape, k.output.trans h.output, Nat.le_trans h.size k.size, fun i hi hr => (k.block i (Nat.lt_of_lt_of_le hi h.size) hr).trans (h.block i hi hr)⟩
theorem below_of_grown {a b : World} {r B : Nat} (h : a.grownBy b (some r)) (hB : B ≤ r) (hs : B ≤ a.heap.size) : Below B a b :=
 ⟨h.os, h.tape, h.output, h.size, fun i hi => h.block i (by omega) (fun e => by injection e with e; omega)⟩
end Go.Proofs.YtpcmlkpnjimbiaaDoor
