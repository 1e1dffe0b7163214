/- Small lemmas on worlds, strings and lists; no program in sight. -/
import Derived.WalkKit
import Derived.Laws.Rows
import Derived.Lib.Strings
import Derived.Lib.Hide
import Derived.Deep.QuietTactic
import Derived.BigQuiet
import Derived.Deep.Draws
import Derived.Laws.AppendOwnNone
import Derived.Deep.AppendLies
import Derived.SizedLaws
namespace Go.Proofs.YtpcmlkpnjimbiaaDoor
set_option linter.unusedVariables false
set_option linter.unusedSimpArgs false
open Go.RowKit
/-- Block g is just these cells, none of them frozen. -/
def At (w : World) (g : Nat) (t : TypeId) (cs : Array Value) : Prop := w.heap[g]? = some (.cells cs t (0, 0))
theorem At.cell {w : World} {g : Nat} {t : TypeId} {cs : Array Value} (h : At w g t cs) (i : Nat) : w.cell? ⟨g, i, none⟩ = cs[i]? := cell_of_row w g i cs t (0, 0) h
theorem At.frozen {w : World} {g : Nat} {t : TypeId} {cs : Array Value} (h : At w g t cs) (i : Nat) : w.frozen? ⟨g, i, none⟩ = false := by
 unfold At at h; simp [World.frozen?, h]
theorem At.lt {w : World} {g : Nat} {t : TypeId} {cs : Array Value} (h : At w g t cs) : g < w.heap.size := by
 unfold At at h; exact (Array.getElem?_eq_some_iff.1 h).1
theorem At.new (w : World) (t : TypeId) (cs : Array Value) : At (w.alloc (.cells cs t)) w.heap.size t cs := heap_alloc_new w _
theorem At.alloc {w : World} {g : Nat} {t : TypeId} {cs : Array Value} (h : At w g t cs) (o : Obj) : At (w.alloc o) g t cs := (Below.heap_alloc w o g h.lt).trans h
theorem At.below {w w' : World} {g B : Nat} {t : TypeId} {cs : Array Value} (h : At w g t cs) (hb : Below B w w') (hg : g < B) : At w' g t cs := (hb.block g hg).trans h
theorem At.drew {w : World} {g : Nat} {t : TypeId} {cs : Array Value} (h : At w g t cs) : At w.drew g t cs := h
theorem At.put {w : World} {g : Nat} {t : TypeId} {cs : Array Value} (h : At w g t cs) (i : Nat) (u : Value) : At (w.setCell ⟨g, i, none⟩ u) g t (cs.setIfInBounds i u) := by
 unfold At at h ⊢; simp [World.setCell, Array.getElem?_modify, h]
theorem At.far {w : World} {g : Nat} {t : TypeId} {cs : Array Value} (h : At w g t cs) {p : Addr} (hp : g ≠ p.block) (u : Value) : At (w.setCell p u) g t cs := (Below.heap_setCell w p u g hp).trans h
theorem At.grown {w w' : World} {g : Nat} {t : TypeId} {cs : Array Value} {row : Option Nat} (h : At w g t cs) (hb : w.grownBy w' row) (hg : some g ≠ row) : At w' g t cs := (hb.block g h.lt hg).trans h
theorem At.ne {w : World} {g g' : Nat} {t t' : TypeId} {cs cs' : Array Value} (h : At w g t cs) (h' : At w g' t' cs') (hne : t ≠ t') : g ≠ g' := by
 rintro rfl
 unfold At at h h'
 rw [h] at h'
 simp at h'
 exact hne h'.2
theorem str_empty {t : ByteArray} (h : t.data.toList = []) : t = ⟨#[]⟩ := by
 apply ByteArray.ext; apply Array.toList_inj.1; rw [h]
theorem str_mk (t : ByteArray) : (⟨t.data.toList.toArray⟩ : ByteArray) = t := Lib.mk_data t
theorem byte_get (s : ByteArray) (k : Nat) (h : k < s.size) : s.data.toList[k]? = some s[k] := by
 rw [List.getElem?_eq_getElem (by simpa using h)]; rfl
theorem drop_cons (s : ByteArray) (k : Nat) (h : k < s.size) : s.data.toList.drop k = s[k] :: s.data.toList.drop (k + 1) := by
 rw [List.drop_eq_getElem_cons (by simpa using h)]; rfl
theorem size_len (s : ByteArray) : s.data.toList.length = s.size := by rw [Array.length_toList]; rfl
theorem u8_eq (c d : UInt8) : (c == d) = (((c.toNat : Nat) : Int) == ((d.toNat : Nat) : Int)) := by
 rw [Bool.eq_iff_iff, beq_iff_eq, beq_iff_eq, ← UInt8.toNat_inj]; omega
theorem ext_drop (s : ByteArray) (k : Nat) : (s.extract k s.size).data.toList = s.data.toList.drop k := by
 rw [Lib.extract_data, List.take_of_length_le (by rw [List.length_drop, size_len]; omega)]
theorem ext_take (s : ByteArray) (n : Nat) : (s.extract 0 n).data.toList = s.data.toList.take n := by rw [Lib.extract_data]; simp
theorem At.newAt {w : World} {g : Nat} (hg : w.heap.size = g) (t : TypeId) (cs : Array Value) : At (w.alloc (.cells cs t)) g t cs := by subst hg; exact At.new w t cs
theorem add_off (g j : Nat) : ((⟨g, 0, none⟩ : Addr).add j) = ⟨g, j, none⟩ := by
 unfold Addr.add; split
 ·rename_i h; subst h; rfl
 ·simp
theorem At.news {w : World} {g : Nat} {t : TypeId} {xs : List Value} (h : At w g t xs.toArray) : ∀ (j : Nat) (u : Value), xs[j]? = some u → w.cell? ((⟨g, 0, none⟩ : Addr).add j) = some u := by
 intro j u hu
 rw [add_off, h.cell, List.getElem?_toArray, hu]
theorem one3 {a b c : Value} (ha : a.oneCell' = true) (hb : b.oneCell' = true) (hc : c.oneCell' = true) : ∀ u ∈ [a, b, c], u.oneCell' = true := by
 intro u hu; simp at hu; rcases hu with rfl | rfl | rfl <;> assumption
theorem own_below {w w' : World} {B : Nat} {e : TypeId} {size n : Nat} {v : Value} {xs : List Value} (h : w.ownsRow B e size v n xs) (hb : Below w.heap.size w w') : w'.ownsRow B e size v n xs := by
 obtain ⟨h1, h2⟩ := h
 refine ⟨h1, ?_⟩
 rcases h2 with h2 | ⟨g, cap, cur, hv, hg, hh, r⟩
 ·exact Or.inl h2
 ·exact Or.inr ⟨g, cap, cur, hv, hg, (hb.block g (Array.getElem?_eq_some_iff.1 hh).1).trans hh, r⟩
theorem own_lt {w : World} {B : Nat} {e : TypeId} {size n : Nat} {v : Value} {xs : List Value} (h : w.ownsRow B e size v n xs) {g : Nat} (hg : v.ownBlock = some g) : B ≤ g ∧ g < w.heap.size := by
 rcases h.2 with ⟨rfl, _⟩ | ⟨g', cap, cur, rfl, hB, hh, _⟩
 ·simp [Value.ownBlock] at hg
 ·have : g' = g := by simpa [Value.ownBlock] using hg
  subst this
  exact ⟨hB, (Array.getElem?_eq_some_iff.1 hh).1⟩
theorem own_len {w : World} {B : Nat} {e : TypeId} {size n : Nat} {v : Value} {xs : List Value} (h : w.ownsRow B e size v n xs) : ∃ a c, v = .slice a n c := by
 rcases h.2 with ⟨rfl, rfl⟩ | ⟨g', cap, cur, rfl, _⟩
 ·exact ⟨_, _, rfl⟩
 ·exact ⟨_, _, rfl⟩
theorem own_mono {w : World} {B B' : Nat} {e : TypeId} {size n : Nat} {v : Value} {xs : List Value} (h : w.ownsRow B e size v n xs) (hB : B' ≤ B) : w.ownsRow B' e size v n xs := by
 obtain ⟨h1, h2⟩ := h
 refine ⟨h1, ?_⟩
 rcases h2 with h2 | ⟨g, cap, cur, hv, hg, r⟩
 ·exact Or.inl h2
 ·exact Or.inr ⟨g, cap, cur, hv, by omega, r⟩
end Go.Proofs.YtpcmlkpnjimbiaaDoor
namespace Go.Proofs.YtpcmlkpnjimbiaaDoor
set_option linter.unusedVariables false
set_option linter.unusedSimpArgs false
open Go.RowKit
/-- A world that is as W below block B. -/
structure Held (B : Nat) (W : World) where
 w : World
 ok : Below B W w
instance heldNonempty (B : Nat) (W : World) : Nonempty (Held B W) := ⟨⟨W, Below.refl B W⟩⟩
theorem wp_region_held {P : Program} {id : Nat} {Q : Exit → Act → World → Prop} {a : Act} {w : World} {l : List Oper} (B : Nat) (W : World) (hb : Below B W w) (hm : P.follows .mixedOrders = true) (hB : Region.lexB .any l.toArray = true)
  (h : wpQuiet P l.toArray (fun w' => ∃ x : Held B W, w' = x.w) (fun a' => ∀ w', (∃ x : Held B W, w' = x.w) → Q .normal a' w') l a) : (Code.region id l.toArray true).wp P Q a w :=
 wp_region_quiet (C := fun w' => ∃ x : Held B W, w' = x.w) hm hB ⟨⟨_, hb.drew⟩, rfl⟩ (by simpa using h)
theorem held_call {P : Program} {f : FuncId} {args : Array Value} {v : Value} {B : Nat} {W : World} (x : Held B W) (hB : B ≤ W.heap.size) (h : Calls P f args x.w fun e w' => e = .returned v ∧ Below x.w.heap.size x.w w') :
  Calls P f args x.w fun e w'' => e = .returned v ∧ ∃ y : Held B W, w'' = y.w :=
 h.mono fun _ w' ⟨he, hb⟩ => ⟨he, ⟨w', x.ok.trans (hb.mono (Nat.le_trans hB x.ok.size))⟩, rfl⟩
theorem held_same {P : Program} {f : FuncId} {args : Array Value} {v : Value} {B : Nat} {W : World} (x : Held B W) (h : Calls P f args x.w fun e w' => e = .returned v ∧ x.w = w') :
  Calls P f args x.w fun e w'' => e = .returned v ∧ ∃ y : Held B W, w'' = y.w :=
 h.mono fun _ w' ⟨he, hb⟩ => ⟨he, x, hb.symm⟩
theorem Held.cell {B : Nat} {W : World} {p : Addr} {v : Value} (x : Held B W) (hp : p.block < B) (h : W.cell? p = some v) : x.w.cell? p = some v := (x.ok.cell hp).trans h
theorem below_drewN {B : Nat} {a w : World} (h : Below B a w) (n : Nat) : Below B a (w.drewN n) := ⟨h.os, h.tape, h.output, h.size, h.block⟩
end Go.Proofs.YtpcmlkpnjimbiaaDoor
namespace Go.Proofs.YtpcmlkpnjimbiaaDoor
set_option linter.unusedVariables false
set_option linter.unusedSimpArgs false
open Go.RowKit
theorem below1 (w : World) (o : Obj) : Below w.heap.size w (w.alloc o) := (Below.refl _ w).alloc (Nat.le_refl _) _
theorem own_empty (w : World) (t : TypeId) (size : Nat) (B : Nat) (hB : B ≤ w.heap.size) : (w.alloc (.cells #[] t)).ownsRow B t size (.slice (some ⟨w.heap.size, 0, none⟩) 0 0) 0 [] :=
 ⟨by simp, Or.inr ⟨w.heap.size, 0, #[], rfl, hB, heap_alloc_new w _, Nat.le_refl _, by unfold maxLen; omega, by simp, by simp⟩⟩
theorem own_cells {w : World} {B : Nat} {e : TypeId} {size n : Nat} {v : Value} {xs : List Value} (h : w.ownsRow B e size v n xs) :
  ∃ A c, v = .slice A n c ∧ n ≤ c ∧ c ≤ maxLen ∧ (n = 0 ∨ ∃ g, A = some ⟨g, 0, none⟩ ∧ B ≤ g ∧ g < w.heap.size ∧ ∀ (j : Nat) (u : Value), xs[j]? = some u → w.cell? ⟨g, j, none⟩ = some u) := by
 rcases h.2 with ⟨rfl, rfl⟩ | ⟨g, cap, cur, rfl, hg, hh, h1, h2, h3, h4⟩
 ·exact ⟨none, 0, rfl, Nat.le_refl _, by unfold maxLen; omega, Or.inl rfl⟩
 ·refine ⟨_, cap, rfl, h1, h2, Or.inr ⟨g, rfl, hg, (Array.getElem?_eq_some_iff.1 hh).1, fun j u hu => ?_⟩⟩
  rw [cell_of_row w g j cur _ (0, 0) hh]
  rw [← h4, List.getElem?_take] at hu
  split at hu
  ·simpa using hu
  ·cases hu
theorem own_far {w : World} {B g : Nat} {e t : TypeId} {size n : Nat} {v : Value} {xs : List Value} {cs : Array Value} (h : w.ownsRow B e size v n xs) (ha : At w g t cs) (hne : t ≠ e) : some g ≠ v.ownBlock := by
 rcases h.2 with ⟨rfl, _⟩ | ⟨g', cap, cur, rfl, _, hh, _⟩
 ·simp [Value.ownBlock]
 ·intro he
  have : g = g' := by simpa [Value.ownBlock] using he
  subst this
  unfold At at ha
  rw [ha] at hh
  simp at hh
  exact hne hh.2
theorem own_putne {w : World} {B : Nat} {e : TypeId} {size n : Nat} {v : Value} {xs : List Value} (h : w.ownsRow B e size v n xs) {p : Addr} (hp : some p.block ≠ v.ownBlock) (u : Value) : (w.setCell p u).ownsRow B e size v n xs := by
 obtain ⟨h1, h2⟩ := h
 refine ⟨h1, ?_⟩
 rcases h2 with h2 | ⟨g, cap, cur, rfl, hg, hh, r⟩
 ·exact Or.inl h2
 ·exact Or.inr ⟨g, cap, cur, rfl, hg, (Below.heap_setCell w p u g (fun e => hp (by rw [← e]; rfl))).trans hh, r⟩
theorem one1 {a : Value} (ha : a.oneCell' = true) : ∀ u ∈ [a], u.oneCell' = true := by
 intro u hu; simp at hu; subst hu; exact ha
theorem take_more {α : Type} {l : List α} {k : Nat} {x : α} (h : l[k]? = some x) : l.take (k + 1) = l.take k ++ [x] := by rw [List.take_add_one, h]; rfl
theorem At.next {w w' : World} {g : Nat} {t : TypeId} {cs : Array Value} (h : At w g t cs) (hb : Below w.heap.size w w') : At w' g t cs := h.below hb h.lt
theorem spot_none {w : World} {a : Addr} {v : Value} (h : w.cell? a = some v) : a.spot = none := by simpa using World.cell?_spot h
theorem cell_lt {w : World} {a : Addr} {v : Value} (h : w.cell? a = some v) : a.block < w.heap.size := by
 rcases Nat.lt_or_ge a.block w.heap.size with hh | hh
 ·exact hh
 ·simp [World.cell?, Array.getElem?_eq_none hh] at h
theorem add_at (g o j : Nat) : ((⟨g, o, none⟩ : Addr).add j) = ⟨g, o + j, none⟩ := by
 unfold Addr.add; split
 ·rename_i h; subst h; rfl
 ·simp
end Go.Proofs.YtpcmlkpnjimbiaaDoor
