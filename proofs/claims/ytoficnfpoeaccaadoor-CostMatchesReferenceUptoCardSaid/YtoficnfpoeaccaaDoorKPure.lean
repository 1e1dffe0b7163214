/- Rules and statistics as they stand in memory, and the estimate as a plain function; no program in sight. -/
import Derived.Test.YtoficnfpoeaccaaDoorBase
namespace Go.Proofs.YtoficnfpoeaccaaDoor
set_option linter.unusedVariables false
set_option linter.unusedSimpArgs false
open Go.RowKit
structure Sl where
  a : Option Addr
  n : Nat
  c : Nat
def Sl.v (s : Sl) : Value := .slice s.a s.n s.c
/-- A term. -/
structure Tm where
  v : ByteArray
  t : Int
  n : Int
  s : ByteArray
def Tm.fs (x : Tm) : List Value := [.string x.v, .int .i64 x.t, .int .i64 x.n, .string x.s]
/-- A literal. -/
structure Lt where
  kind : Int
  name : ByteArray
  pred : Int
  aa : Option Addr
  ac : Nat
  args : List Tm
  bind : ByteArray
  elem : ByteArray
  least : Int
  op : Int
  pos : Int
def Lt.fs (l : Lt) : List Value := [.int .i64 l.kind, .string l.name, .int .i64 l.pred, .slice l.aa l.args.length l.ac, .string l.bind, .string l.elem, .int .i64 l.least, .int .i64 l.op, .int .i64 l.pos]
def Lt.v (l : Lt) : Value := .agg #[.int .i64 l.kind, .string l.name, .int .i64 l.pred, .slice l.aa l.args.length l.ac, .string l.bind, .string l.elem, .int .i64 l.least, .int .i64 l.op, .int .i64 l.pos]
/-- A rule. -/
structure Rl where
  name : ByteArray
  pred : Int
  args : Sl
  ek : Int
  en : ByteArray
  ev : ByteArray
  ei : Int
  ba : Option Addr
  bc : Nat
  body : List Lt
  pos : Int
def Rl.fs (r : Rl) : List Value := [.string r.name, .int .i64 r.pred, .slice r.args.a r.args.n r.args.c, .int .i64 r.ek, .string r.en, .string r.ev, .int .i64 r.ei, .slice r.ba r.body.length r.bc, .int .i64 r.pos]
def Rl.v (r : Rl) : Value := .agg #[.string r.name, .int .i64 r.pred, .slice r.args.a r.args.n r.args.c, .int .i64 r.ek, .string r.en, .string r.ev, .int .i64 r.ei, .slice r.ba r.body.length r.bc, .int .i64 r.pos]
/-- Statistics of a relation. -/
structure Sta where
  rows : Int
  da : Option Addr
  dc : Nat
  dist : List Int
def Sta.fs (s : Sta) : List Value := [.int .i64 s.rows, .slice s.da s.dist.length s.dc]
def Sta.v (s : Sta) : Value := .agg #[.int .i64 s.rows, .slice s.da s.dist.length s.dc]
def I64 (x : Int) : Prop := -9223372036854775808 ≤ x ∧ x ≤ 9223372036854775807
/-- A slice's cells hold these structs of k cells. -/
def Str (w : World) (A : Option Addr) (k : Nat) (xs : List (List Value)) : Prop :=
  xs ≠ [] → ∃ g o, A = some ⟨g, o, none⟩ ∧ g < w.heap.size ∧ ∀ (i : Nat) (fs : List Value), xs[i]? = some fs → ∀ (j : Nat) (v : Value), fs[j]? = some v → w.cell? ⟨g, o + i * k + j, none⟩ = some v
theorem Str.below {w w' : World} {A : Option Addr} {k : Nat} {xs : List (List Value)} (h : Str w A k xs) (hb : Below w.heap.size w w') : Str w' A k xs := fun hn => by
  obtain ⟨g, o, e, hg, hc⟩ := h hn
  exact ⟨g, o, e, Nat.lt_of_lt_of_le hg hb.size, fun i fs hi j v hv => (hb.cell hg).trans (hc i fs hi j v hv)⟩
theorem Str.at {w : World} {A : Option Addr} {k : Nat} {xs : List (List Value)} (h : Str w A k xs) {i : Nat} {fs : List Value} (hi : xs[i]? = some fs) : ∃ g o, A = some ⟨g, o, none⟩ ∧ g < w.heap.size ∧ ∀ (j : Nat) (v : Value), fs[j]? = some v → w.cell? ⟨g, o + i * k + j, none⟩ = some v := by
  obtain ⟨g, o, e, hg, hc⟩ := h (by intro h; rw [h] at hi; simp at hi)
  exact ⟨g, o, e, hg, hc i fs hi⟩
structure LtOk (w : World) (l : Lt) : Prop where
  args : Str w l.aa 4 (l.args.map Tm.fs)
  cap : l.args.length ≤ l.ac ∧ l.ac ≤ maxLen
  i64 : I64 l.kind ∧ I64 l.pred ∧ I64 l.op
structure RlOk (w : World) (r : Rl) : Prop where
  body : Str w r.ba 9 (r.body.map Lt.fs)
  cap : r.body.length ≤ r.bc ∧ r.bc ≤ maxLen
  each : ∀ l ∈ r.body, LtOk w l
structure StaOk (w : World) (s : Sta) : Prop where
  dist : Str w s.da 1 (s.dist.map fun x => [.int .i64 x])
  cap : s.dist.length ≤ s.dc ∧ s.dc ≤ maxLen
  i64 : I64 s.rows ∧ ∀ x ∈ s.dist, I64 x
theorem LtOk.below {w w' : World} {l : Lt} (h : LtOk w l) (hb : Below w.heap.size w w') : LtOk w' l := ⟨h.args.below hb, h.cap, h.i64⟩
theorem RlOk.below {w w' : World} {r : Rl} (h : RlOk w r) (hb : Below w.heap.size w w') : RlOk w' r := ⟨h.body.below hb, h.cap, fun l hl => (h.each l hl).below hb⟩
theorem StaOk.below {w w' : World} {s : Sta} (h : StaOk w s) (hb : Below w.heap.size w w') : StaOk w' s := ⟨h.dist.below hb, h.cap, h.i64⟩
/-! ### The estimate -/
namespace Ko
/-- Which variables are bound. -/
abbrev Bd := ByteArray → Bool
def isVar (t : Tm) : Bool := decide (t.v.data.toList ≠ [])
def known (B : Bd) (t : Tm) : Bool := !isVar t || B t.v
def bindT (B : Bd) (t : Tm) : Bd := fun x => B x || (isVar t && decide (t.v = x))
def bindL (B : Bd) (ts : List Tm) : Bd := ts.foldl bindT B
def ready (B : Bd) (l : Lt) : Bool :=
  if l.kind = 1 ∨ l.kind = 3 then true
  else if l.kind = 5 ∧ l.op = 1 ∧ l.args.length = 2 then l.args.any (known B)
  else l.args.all (known B)
/-- Whether the rest of an order can be evaluated; done: the literals before. -/
def runs (body : List Lt) : List Int → List Nat → Bd → Bool
  | [], _, _ => true
  | i :: o, done, B => match body[i.toNat]? with
    | none => false
    | some l => decide (0 ≤ i) && !done.contains i.toNat && ready B l && runs body o (done ++ [i.toNat]) (bindL B l.args)
def evaluable (body : List Lt) (bound : List ByteArray) (order : List Int) : Bool := decide (order.length = body.length) && runs body order [] (fun x => bound.contains x)
def most : Nat := 1000000000
def prod (a b : Nat) : Nat := min (a * b) most
def up (a b : Nat) : Nat := (a + max b 1 - 1) / max b 1
def formed (s : Sta) : Bool := decide (0 ≤ s.rows ∧ s.rows ≤ 1000000) && s.dist.all fun x => decide (0 ≤ x ∧ x ≤ 1000000)
def fitsL (ss : List Sta) (l : Lt) : Bool := decide (l.kind = 5) || match ss[l.pred.toNat]? with
  | none => false
  | some s => decide (0 ≤ l.pred) && formed s && decide (s.dist.length = l.args.length)
def fits (ss : List Sta) (body : List Lt) : Bool := body.all (fitsL ss)
/-- The matches of a literal: one argument after the other. -/
def scan (s : Sta) : List Tm → Nat → Bd → Nat → Nat
  | [], _, _, m => m
  | t :: ts, i, B, m => scan s ts (i + 1) (bindT B t) (if known B t then up m (s.dist.getD i 0).toNat else m)
structure E where
  n : Nat
  cost : Nat
def stepE (ss : List Sta) (l : Lt) (B : Bd) (e : E) : E :=
  if l.kind = 1 ∨ l.kind = 3 then
    let s := ss.getD l.pred.toNat ⟨0, none, 0, []⟩
    let m := scan s l.args 0 B s.rows.toNat
    ⟨prod e.n m, min (e.cost + prod e.n (max m 1)) most⟩
  else if l.args.all (known B) then ⟨up e.n 2, min (e.cost + e.n) most⟩
  else ⟨e.n, min (e.cost + e.n) most⟩
def est (ss : List Sta) (body : List Lt) : List Int → Bd → E → Nat
  | [], _, e => e.cost
  | i :: o, B, e => match body[i.toNat]? with
    | none => e.cost
    | some l => est ss body o (bindL B l.args) (stepE ss l B e)
def estimate (ss : List Sta) (r : Rl) (bound : List ByteArray) (order : List Int) : Int :=
  if evaluable r.body bound order && fits ss r.body then (est ss r.body order (fun x => bound.contains x) ⟨1, 0⟩ : Nat) else -1
end Ko
end Go.Proofs.YtoficnfpoeaccaaDoor
