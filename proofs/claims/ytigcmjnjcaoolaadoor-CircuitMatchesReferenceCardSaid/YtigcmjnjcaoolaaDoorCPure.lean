/- The plain model of circuits; no program in sight. -/
import Derived.Lib.ItoaNum
namespace Go.Proofs.YtigcmjnjcaoolaaDoor
set_option linter.unusedVariables false
set_option linter.unusedSimpArgs false
namespace Cx
/-- A node: its kind and its operands. -/
structure N where
  o : Int
  a : Int
  b : Int
  deriving DecidableEq
def zero : N := ⟨0, 0, 0⟩
def one : N := ⟨1, 0, 0⟩
def new : List N := [zero, one]
def binary (n : N) : Bool := decide (n.o = 3) || decide (n.o = 4)
/-- The index of the first equal element. -/
def idx (l : List N) (n : N) : Option Nat := l.findIdx? (· == n)
/-- The circuit with a node, and its index. -/
def put (l : List N) (n : N) : List N × Int :=
  match idx l n with
  | some i => (l, i)
  | none => if l.length < 20000 then (l ++ [n], l.length) else (l, -1)
def var (l : List N) (n : Int) : List N × Int := if n < 0 then (l, -1) else put l ⟨2, n, 0⟩
/-- Whether a number is the index of a node. -/
def isIn (l : List N) (n : Int) : Bool := decide (0 ≤ n) && decide (n < l.length)
def two (l : List N) (op a b none all : Int) : List N × Int :=
  if isIn l a = false ∨ isIn l b = false then (l, -1)
  else if a = all ∨ b = all then (l, all)
  else if a = b ∨ b = none then (l, a)
  else if a = none then (l, b)
  else put l ⟨op, min a b, max a b⟩
def plus (l : List N) (a b : Int) : List N × Int := two l 3 a b 0 1
def times (l : List N) (a b : Int) : List N × Int := two l 4 a b 1 0
structure M where
  o : Int
  a : Nat
  b : Nat
def step (l : List N) (m : M) : List N :=
  if m.o = 2 then (var l m.a).1
  else if m.o = 3 then (plus l (m.a % l.length : Nat) (m.b % l.length : Nat)).1
  else if m.o = 4 then (times l (m.a % l.length : Nat) (m.b % l.length : Nat)).1
  else l
def build (ms : List M) : List N := ms.foldl step new
def leafB (n : N) : Bool := decide (n.o = 2) && decide (0 ≤ n.a) && decide (n.b = 0)
def okB (n : N) (i : Int) : Bool := leafB n || (binary n && decide (2 ≤ n.a) && decide (n.a < n.b) && decide (n.b < i))
/-- Whether the nodes from the second on are well-formed and differ, those before being known. -/
def validFrom (seen : List N) : List N → Nat → Bool
  | [], _ => true
  | n :: r, i => okB n i && !seen.contains n && validFrom (seen ++ [n]) r (i + 1)
def valid (l : List N) : Bool := decide (2 ≤ l.length) && decide (l.length ≤ 20000) && decide (l[0]? = some zero) && decide (l[1]? = some one) && validFrom [] (l.drop 2) 2
/-- The values of the first nodes, one after the other. -/
def valStep (ts : List Int) (vs : List Bool) (n : N) : Bool :=
  if n.o = 1 then true
  else if n.o = 2 then ts.contains n.a
  else if n.o = 3 then vs.getD n.a.toNat false || vs.getD n.b.toNat false
  else if n.o = 4 then vs.getD n.a.toNat false && vs.getD n.b.toNat false
  else false
def values (ts : List Int) (l : List N) : List Bool := l.foldl (fun vs n => vs ++ [valStep ts vs n]) []
def eval (l : List N) (n : Int) (ts : List Int) : Bool := isIn l n && (values ts l).getD n.toNat false
end Cx
end Go.Proofs.YtigcmjnjcaoolaaDoor
