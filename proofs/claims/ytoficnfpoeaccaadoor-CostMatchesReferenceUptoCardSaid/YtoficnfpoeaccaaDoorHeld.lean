/- A region that draws its order, whose operations read and whose calls make new memory alone: one walk in the text's order, over the worlds that differ from one world by new blocks. No program in sight. -/
import Derived.Test.YtoficnfpoeaccaaDoorBase
import Derived.Deep.QuietTactic
import Derived.BigQuiet
import Derived.Deep.Draws
namespace Go.Proofs.YtoficnfpoeaccaaDoor
set_option linter.unusedVariables false
set_option linter.unusedSimpArgs false
open Go.RowKit
/-- A world that is as W below block B. -/
structure Held (B : Nat) (W : World) where
  w : World
  ok : Below B W w
instance heldNonempty (B : Nat) (W : World) : Nonempty (Held B W) := ⟨⟨W, Below.refl B W⟩⟩
theorem wp_region_held {P : Program} {id : Nat} {Q : Exit → Act → World → Prop} {a : Act} {w : World} {l : List Oper} (B : Nat) (W : World) (hb : Below B W w) (hm : P.follows .mixedOrders = true) (hB : Region.lexB .any l.toArray = true)
    (h : wpQuiet P l.toArray (fun w' => ∃ x : Held B W, w' = x.w) (fun a' => ∀ w', (∃ x : Held B W, w' = x.w) → Q .normal a' w') l a) : (Code.region id l.toArray true).wp P Q a w :=
  wp_region_quiet (C := fun w' => ∃ x : Held B W, w' = x.w) hm hB ⟨⟨_, hb.drew⟩, rfl⟩ (by simpa using h)
theorem held_call {P : Program} {f : FuncId} {args : Array Value} {v : Value} {B : Nat} {W : World} (x : Held B W) (hB : B ≤ W.heap.size) (h : Calls P f args x.w fun e w' => e = .returned v ∧ Below x.w.heap.size x.w w') :
    Calls P f args x.w fun e w'' => e = .returned v ∧ ∃ y : Held B W, w'' = y.w :=
  h.mono fun _ w' ⟨he, hb⟩ => ⟨he, ⟨w', x.ok.trans (hb.mono (Nat.le_trans hB x.ok.size))⟩, rfl⟩
theorem held_same {P : Program} {f : FuncId} {args : Array Value} {v : Value} {B : Nat} {W : World} (x : Held B W) (h : Calls P f args x.w fun e w' => e = .returned v ∧ x.w = w') :
    Calls P f args x.w fun e w'' => e = .returned v ∧ ∃ y : Held B W, w'' = y.w :=
  h.mono fun _ w' ⟨he, hb⟩ => ⟨he, x, hb.symm⟩
theorem Held.cell {B : Nat} {W : World} {p : Addr} {v : Value} (x : Held B W) (hp : p.block < B) (h : W.cell? p = some v) : x.w.cell? p = some v := (x.ok.cell hp).trans h
theorem below_drewN {B : Nat} {a w : World} (h : Below B a w) (n : Nat) : Below B a (w.drewN n) := ⟨h.os, h.tape, h.output, h.size, h.block⟩
end Go.Proofs.YtoficnfpoeaccaaDoor
