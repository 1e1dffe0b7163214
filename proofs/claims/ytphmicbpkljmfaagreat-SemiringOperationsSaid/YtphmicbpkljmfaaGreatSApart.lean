/- Worlds that differ in some blocks alone; no program in sight. -/
import Derived.Test.YtphmicbpkljmfaaGreatSMem
import Derived.Test.YtphmicbpkljmfaaGreatTwo
import Derived.Test.YtphmicbpkljmfaaGreatCEval
namespace Go.Proofs.YtphmicbpkljmfaaGreat
set_option linter.unusedVariables false
set_option linter.unusedSimpArgs false
open Go.RowKit
/-- Below block B nothing differs but the blocks of S. -/
structure Apart (B : Nat) (S : List Nat) (w w' : World) : Prop where
  os : w'.os = w.os
  tape : w'.tape = w.tape
  output : w'.output = w.output
  size : w.heap.size ≤ w'.heap.size
  block : ∀ i, i < B → i ∉ S → w'.heap[i]? = w.heap[i]?
theorem Apart.refl (B : Nat) (S : List Nat) (w : World) : Apart B S w w := ⟨rfl, rfl, rfl, Nat.le_refl _, fun _ _ _ => rfl⟩
theorem Apart.trans {B : Nat} {S : List Nat} {a b c : World} (h : Apart B S a b) (k : Apart B S b c) : Apart B S a c :=
  ⟨k.os.trans h.os, k.tape.trans h.tape, k.output.trans h.output, Nat.le_trans h.size k.size, fun i hi hs => (k.block i hi hs).trans (h.block i hi hs)⟩
theorem Apart.mono {B B' : Nat} {S : List Nat} {a b : World} (h : Apart B S a b) (hB : B' ≤ B) : Apart B' S a b := ⟨h.os, h.tape, h.output, h.size, fun i hi hs => h.block i (by omega) hs⟩
theorem Apart.more {B : Nat} {S T : List Nat} {a b : World} (h : Apart B S a b) (hT : ∀ i ∈ S, i ∈ T) : Apart B T a b := ⟨h.os, h.tape, h.output, h.size, fun i hi hs => h.block i hi fun h => hs (hT i h)⟩
theorem apart_of_below {B : Nat} {a b : World} (h : Below B a b) (S : List Nat) : Apart B S a b := ⟨h.os, h.tape, h.output, h.size, fun i hi _ => h.block i hi⟩
theorem Apart.below {B : Nat} {a b : World} (h : Apart B [] a b) : Below B a b := ⟨h.os, h.tape, h.output, h.size, fun i hi => h.block i hi (by simp)⟩
theorem apart_of_grown {B : Nat} {S : List Nat} {a b : World} {r : Option Nat} (h : a.grownBy b r) (hr : ∀ k, r = some k → k ∈ S ∨ B ≤ k) (hB : B ≤ a.heap.size) : Apart B S a b :=
  ⟨h.os, h.tape, h.output, h.size, fun i hi hs => h.block i (by omega) fun e => by
    rcases hr i e.symm with h | h
    · exact hs h
    · omega⟩
theorem apart_setCell (B : Nat) (w : World) (p : Addr) (u : Value) : Apart B [p.block] w (w.setCell p u) :=
  ⟨rfl, rfl, rfl, by simp, fun i hi hs => Below.heap_setCell w p u i (fun e => hs (by simp [e]))⟩
theorem Apart.cell {B : Nat} {S : List Nat} {a b : World} (h : Apart B S a b) {p : Addr} (hp : p.block < B) (hs : p.block ∉ S) : b.cell? p = a.cell? p := by
  unfold World.cell?
  rw [h.block p.block hp hs]
/-- A block that holds no numbers and no slices: a map, or truth values. -/
def Odd (w : World) (g : Nat) : Prop := ∀ o v, w.cell? ⟨g, o, none⟩ = some v → ∃ b, v = .bool b
theorem odd_map {w : World} {g k : Nat} {es : Array MapEntry} (h : w.heap[g]? = some (.map es k)) : Odd w g := fun o v hv => by rw [cell_not_map h] at hv; cases hv
theorem odd_flag {w : World} {g : Nat} {t : TypeId} {b : Bool} (h : At w g t #[.bool b]) : Odd w g := fun o v hv => by
  unfold At at h
  simp only [World.cell?, h] at hv
  simp at hv
  cases o with
  | zero => simp at hv; exact ⟨b, hv.symm⟩
  | succ o => simp at hv
def OddAll (w : World) (S : List Nat) : Prop := ∀ g ∈ S, Odd w g
theorem At.apart {B : Nat} {S : List Nat} {a b : World} {g : Nat} {t : TypeId} {cs : Array Value} (h : At a g t cs) (hA : Apart B S a b) (hg : g < B) (hs : g ∉ S) : At b g t cs := by
  unfold At at *
  rw [hA.block g hg hs]; exact h
theorem Nums.apart {S : List Nat} {w w' : World} {A : Option Addr} {xs : List Int} (h : Nums w A xs) (ha : Apart w.heap.size S w w') (hS : OddAll w S) : Nums w' A xs := fun hn => by
  obtain ⟨g, o, e, hg, hc⟩ := h hn
  refine ⟨g, o, e, Nat.lt_of_lt_of_le hg ha.size, fun k x hx => ?_⟩
  have := hc k x hx
  rw [ha.cell hg (fun hs => by obtain ⟨b, hb⟩ := hS g hs _ _ this; cases hb)]
  exact this
theorem SetV.apart {S : List Nat} {w w' : World} {v : Value} {s : List Int} (h : SetV w v s) (ha : Apart w.heap.size S w w') (hS : OddAll w S) : SetV w' v s := by
  obtain ⟨B, c, h1, h2, h3, h4, h5⟩ := h
  exact ⟨B, c, h1, h2, h3, h4, h5.apart ha hS⟩
theorem Hdrs.apart {S : List Nat} {w w' : World} {vs : List Value} {F : List (List Int)} (h : Hdrs w vs F) (ha : Apart w.heap.size S w w') (hS : OddAll w S) : Hdrs w' vs F := ⟨h.1, fun k v s h1 h2 => (h.2 k v s h1 h2).apart ha hS⟩
theorem Sets.apart {S : List Nat} {w w' : World} {A : Option Addr} {F : List (List Int)} (h : Sets w A F) (ha : Apart w.heap.size S w w') (hS : OddAll w S) : Sets w' A F := fun hn => by
  obtain ⟨g, o, vs, e, hg, hd, hc⟩ := h hn
  refine ⟨g, o, vs, e, Nat.lt_of_lt_of_le hg ha.size, hd.apart ha hS, fun k x hx => ?_⟩
  have := hc k x hx
  have h1 : k < F.length := by rw [← hd.1]; exact (List.getElem?_eq_some_iff.1 hx).1
  obtain ⟨B, c, e1, _⟩ := hd.2 k x _ hx (List.getElem?_eq_getElem h1)
  rw [ha.cell hg (fun hs => by obtain ⟨b, hb⟩ := hS g hs _ _ this; rw [hb] at e1; cases e1)]
  exact this
theorem FamV.apart {S : List Nat} {w w' : World} {v : Value} {F : List (List Int)} (h : FamV w v F) (ha : Apart w.heap.size S w w') (hS : OddAll w S) : FamV w' v F := by
  obtain ⟨B, c, h1, h2, h3, h4, h5⟩ := h
  exact ⟨B, c, h1, h2, h3, h4, h5.apart ha hS⟩
theorem Circ.apart {S : List Nat} {w w' : World} {A : Option Addr} {l : List Cx.N} (h : Circ w A l) (ha : Apart w.heap.size S w w') (hS : OddAll w S) : Circ w' A l := fun hn => by
  obtain ⟨g, o, e, hg, hc⟩ := h hn
  have h0 : 0 < l.length := by cases l with | nil => exact absurd rfl hn | cons _ _ => simp
  have hs : g ∉ S := fun hs => by
    have := (hc 0 _ (List.getElem?_eq_getElem h0)).1
    obtain ⟨b, hb⟩ := hS g hs _ _ this; cases hb
  refine ⟨g, o, e, Nat.lt_of_lt_of_le hg ha.size, fun k v hv => ?_⟩
  obtain ⟨a, b, c⟩ := hc k v hv
  exact ⟨(ha.cell hg hs).trans a, (ha.cell hg hs).trans b, (ha.cell hg hs).trans c⟩
theorem OddAll.apart_map {w : World} {S : List Nat} (h : OddAll w S) {g : Nat} (hg : Odd w g) : OddAll w (g :: S) := fun i hi => by
  rcases List.mem_cons.1 hi with rfl | hi
  · exact hg
  · exact h i hi
theorem oddAll_nil (w : World) : OddAll w [] := fun g hg => by cases hg
theorem FMap.apart {κ α : Type} {w w' : World} {P : Program} {k : TypeId} {R : Value → Option (DataW Unit × List MemPlace)} {val : κ → Value} {dat : α → DataW Unit} {b n : Nat} {f : κ → Option α} {B : Nat} {S : List Nat}
    (h : FMap w P k R val dat b n f) (ha : Apart B S w w') (hb : b < B) (hs : b ∉ S) : FMap w' P k R val dat b n f := by
  obtain ⟨D, ⟨es, clock, h1, h2⟩, r⟩ := h
  exact ⟨D, ⟨es, clock, (ha.block b hb hs).trans h1, h2⟩, r⟩
end Go.Proofs.YtphmicbpkljmfaaGreat
