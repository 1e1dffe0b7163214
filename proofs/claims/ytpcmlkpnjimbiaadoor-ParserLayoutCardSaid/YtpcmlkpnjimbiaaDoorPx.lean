/- The plain law of the parser: what tokens are read as, over kinds and texts; a result tells token numbers, not offsets. No program in sight. -/
import Derived.Test.YtpcmlkpnjimbiaaDoorWord
namespace Go.Proofs.YtpcmlkpnjimbiaaDoor
set_option linter.unusedVariables false
set_option linter.unusedSimpArgs false
namespace Px
structure Kt where
 k : Nat
 s : List UInt8
 deriving DecidableEq
/-- What is read, and the next token; or the wrong token. -/
inductive R (α : Type) where
 | ok (a : α) (j : Nat)
 | fail (j : Nat)
abbrev P (α : Type) := List Kt → Nat → R α
def tx (ts : List Kt) (i : Nat) : List UInt8 := ((ts[i]?).map Kt.s).getD []
def kd (ts : List Kt) (i : Nat) : Nat := ((ts[i]?).map Kt.k).getD 0
section
variable {α β : Type}
def ret (a : α) : P α := fun _ i => .ok a i
def bind (p : P α) (f : α → P β) : P β := fun ts i => match p ts i with | .ok a j => f a ts j | .fail j => .fail j
def stop : P α := fun _ i => .fail i
end
def sLattice : List UInt8 := [108, 97, 116, 116, 105, 99, 101]
def sFunction : List UInt8 := [102, 117, 110, 99, 116, 105, 111, 110]
def sOn : List UInt8 := [111, 110]
def sBase : List UInt8 := [98, 97, 115, 101]
def sView : List UInt8 := [118, 105, 101, 119]
def sKey : List UInt8 := [107, 101, 121]
def sDeny : List UInt8 := [100, 101, 110, 121]
def sNot : List UInt8 := [110, 111, 116]
def sInt : List UInt8 := [105, 110, 116]
def sSym : List UInt8 := [115, 121, 109]
def keys : List (List UInt8) := [sLattice, sFunction, sOn, sBase, sView, sKey, sDeny, sNot, sInt, sSym]
def starts : List (List UInt8) := [sLattice, sFunction, sBase, sView, sDeny]
def take (t : List UInt8) : P Bool := fun ts i => if tx ts i = t then .ok true (i + 1) else .ok false i
def need (t : List UInt8) : P Unit := fun ts i => if tx ts i = t then .ok () (i + 1) else .fail i
def isK (k : Nat) (ts : List Kt) (i : Nat) : Bool := decide (kd ts i = k) && !(decide (k = 1) && keys.contains (tx ts i))
def word (k : Nat) : P (List UInt8) := fun ts i => if isK k ts i then .ok (tx ts i) (i + 1) else .fail i
def num (l : List UInt8) : Int := l.foldl (fun n c => 10 * n + ((c.toNat : Int) - 48)) 0
def number : P Int := bind (word 3) fun w => ret (num w)
/-- One or more, with commas between. -/
def many {α : Type} (p : P α) : Nat → P (List α)
 | 0 => stop
 | f + 1 => fun ts i => match p ts i with
  | .fail j => .fail j
  | .ok a j => if tx ts j = [44] then (match many p f ts (j + 1) with | .ok l k => .ok (a :: l) k | .fail k => .fail k) else .ok [a] j
/-- More rounds than a text has tokens. -/
def fuel : Nat := 4000
def list {α : Type} (p : P α) : P (List α) := many p fuel
/-- A term. -/
structure T where
 v : List UInt8
 t : Int
 n : Int
 s : List UInt8
 deriving DecidableEq
def constant : P T := fun ts i => if isK 3 ts i then bind number (fun n => ret ⟨[], 1, n, []⟩) ts i else bind (word 1) (fun w => ret ⟨[], 2, 0, w⟩) ts i
def term : P T := fun ts i => if isK 2 ts i then bind (word 2) (fun w => ret ⟨w, 0, 0, []⟩) ts i else constant ts i
def terms (p : P T) : P (List T) := fun ts i => if tx ts i = [41] ∨ tx ts i = [59] then .ok [] i else list p ts i
/-- A literal. -/
structure L where
 kind : Int
 name : List UInt8
 args : List T
 bnd : List UInt8
 elem : List UInt8
 op : Int
 pos : Nat
 deriving DecidableEq
def opOf (s : List UInt8) : Int := if s = [61] then 1 else if s = [33, 61] then 2 else if s = [60] then 3 else if s = [60, 61] then 4 else 0
def operator : P Int := fun ts i => if opOf (tx ts i) = 0 then .fail i else .ok (opOf (tx ts i)) (i + 1)
def compare (p : Nat) : P L := bind term fun a => bind operator fun o => bind term fun b => ret ⟨5, [], [a, b], [], [], o, p⟩
def optBind : P (List UInt8) := bind (take [59]) fun b => if b then word 2 else ret []
def atomKind (neg least : Bool) : Int := if neg then (if least then 4 else 2) else if least then 3 else 1
def atom (neg : Bool) (p : Nat) : P L :=
 bind (word 1) fun name => bind (need [40]) fun _ => bind (terms term) fun args => bind (if neg then ret [] else optBind) fun b => bind (need [41]) fun _ =>
 bind (if b = [] then take [62, 61] else ret false) fun least => bind (if least then word 1 else ret []) fun e => ret ⟨atomKind neg least, name, args, b, e, 0, p⟩
def litPos (p : Nat) : P L := fun ts i => if isK 1 ts i then (if tx ts (i + 1) = [40] then atom false p ts i else compare p ts i) else compare p ts i
def literal : P L := fun ts i => bind (take sNot) (fun neg => if neg then atom true i else litPos i) ts i
/-- An element expression. -/
structure E where
 kind : Int
 name : List UInt8
 var : List UInt8
 deriving DecidableEq
def element : P E := fun ts i => if isK 2 ts i then bind (word 2) (fun v => ret ⟨2, [], v⟩) ts i else
 bind (word 1) (fun name => bind (take [40]) fun f => if f then bind (word 2) fun v => bind (need [41]) fun _ => ret ⟨3, name, v⟩ else ret ⟨1, name, []⟩) ts i
structure Ru where
 name : List UInt8
 args : List T
 elem : E
 body : List L
 pos : Nat
 deriving DecidableEq
def optElem : P E := bind (take [59]) fun b => if b then element else ret ⟨0, [], []⟩
def ruleHead : P (List UInt8 × List T × E) := bind (word 1) fun name => bind (need [40]) fun _ => bind (terms term) fun args => bind optElem fun e => bind (need [41]) fun _ => ret (name, args, e)
def optBody : P (List L) := bind (take [58, 45]) fun b => if b then list literal else ret []
def rule : P Ru := fun ts i => bind (take sDeny) (fun d => bind (if d then ret ([], [], ⟨0, [], []⟩) else ruleHead) fun h => bind optBody fun body => bind (need [46]) fun _ => ret ⟨h.1, h.2.1, h.2.2, body, i⟩) ts i
structure La where
 name : List UInt8
 elems : List (List UInt8)
 covers : List (Nat × Nat)
 pos : Nat
 deriving DecidableEq
/-- A list of names with one that is in it; and its place. -/
def addE (l : List (List UInt8)) (s : List UInt8) : List (List UInt8) × Nat := match l.findIdx? (· == s) with | some k => (l, k) | none => (l ++ [s], l.length)
def latB : Nat → List (List UInt8) → List (Nat × Nat) → P (List (List UInt8) × List (Nat × Nat))
 | 0, _, _ => stop
 | f + 1, es, cs => fun ts i => if tx ts i = [125] then .ok (es, cs) (i + 1) else
  bind (word 1) (fun a => bind (take [60]) fun c => if c then bind (word 1) fun b => bind (need [59]) fun _ => latB f (addE (addE es a).1 b).1 (cs ++ [((addE es a).2, (addE (addE es a).1 b).2)])
   else bind (need [59]) fun _ => latB f (addE es a).1 cs) ts i
def lattice : P La := fun ts i => bind (word 1) (fun name => bind (need [123]) fun _ => bind (latB fuel [] []) fun b => ret ⟨name, b.1, b.2, i⟩) ts (i + 1)
structure Fu where
 name : List UInt8
 lat : List UInt8
 froms : List (List UInt8)
 tos : List (List UInt8)
 pos : Nat
 deriving DecidableEq
def funB : Nat → List (List UInt8) → List (List UInt8) → P (List (List UInt8) × List (List UInt8))
 | 0, _, _ => stop
 | f + 1, xs, ys => fun ts i => if tx ts i = [125] then .ok (xs, ys) (i + 1) else
  bind (word 1) (fun a => bind (need [45, 62]) fun _ => bind (word 1) fun b => bind (need [59]) fun _ => funB f (xs ++ [a]) (ys ++ [b])) ts i
def function : P Fu := fun ts i => bind (word 1) (fun name => bind (need sOn) fun _ => bind (word 1) fun lat => bind (need [123]) fun _ => bind (funB fuel [] []) fun b => ret ⟨name, lat, b.1, b.2, i⟩) ts (i + 1)
structure Pr where
 name : List UInt8
 types : List Int
 lat : List UInt8
 base : Bool
 key : Int
 pos : Nat
 deriving DecidableEq
def column : P Int := bind (take sInt) fun b => if b then ret 1 else bind (need sSym) fun _ => ret 2
def types : P (List Int) := fun ts i => if tx ts i = [41] then .ok [] i else list column ts i
def predEnd (base : Bool) (n : Int) : P (List UInt8 × Int) := bind (take [58]) fun c => if c then bind (word 1) fun lat => ret (lat, n) else if base then bind (take sKey) fun k => if k then bind number fun m => ret ([], m) else ret ([], n) else ret ([], n)
def pred : P Pr := fun ts i => bind (word 1) (fun name => bind (need [40]) fun _ => bind types fun tys => bind (need [41]) fun _ => bind (predEnd (decide (tx ts i = sBase)) tys.length) fun e => bind (need [59]) fun _ => ret ⟨name, tys, e.1, decide (tx ts i = sBase), e.2, i⟩) ts (i + 1)
inductive It where
 | lat (x : La)
 | fn (x : Fu)
 | pr (x : Pr)
 | ru (x : Ru)
 deriving DecidableEq
def itemOf (s : List UInt8) : P It := if s = sLattice then bind lattice fun x => ret (.lat x) else if s = sFunction then bind function fun x => ret (.fn x) else if s = sBase ∨ s = sView then bind pred fun x => ret (.pr x) else bind rule fun x => ret (.ru x)
def item : P It := fun ts i => itemOf (tx ts i) ts i
def skip : Nat → List Kt → Nat → Nat
 | 0, _, i => i
 | f + 1, ts, i => if i < ts.length ∧ starts.contains (tx ts i) = false then (if tx ts i = [46] ∨ tx ts i = [125] then i + 1 else skip f ts (i + 1)) else i
/-- Items, and the wrong tokens; nd: how many were wrong before. -/
def run : Nat → Nat → List Kt → Nat → List It × List Nat
 | 0, _, _, _ => ([], [])
 | f + 1, nd, ts, i => if i < ts.length ∧ nd < 20 then (match item ts i with
   | .ok x j => (x :: (run f nd ts j).1, (run f nd ts j).2)
   | .fail j => ((run f (nd + 1) ts (skip fuel ts j)).1, j :: (run f (nd + 1) ts (skip fuel ts j)).2)) else ([], [])
def parse (ts : List Kt) : List It × List Nat := run fuel 0 ts 0
/-- A whole text that is one literal. -/
def atEnd : P Unit := fun ts i => if i < ts.length then .fail i else .ok () i
def query : P L := bind (word 1) fun name => bind (need [40]) fun _ => bind (terms term) fun args => bind optBind fun b => bind (need [41]) fun _ => bind atEnd fun _ => ret ⟨1, name, args, b, [], 0, 0⟩
def optName : P (List UInt8) := bind (take [59]) fun b => if b then word 1 else ret []
def fact : P L := bind (word 1) fun name => bind (need [40]) fun _ => bind (terms constant) fun args => bind optName fun e => bind (need [41]) fun _ => bind atEnd fun _ => ret ⟨1, name, args, [], e, 0, 0⟩
def kt (t : Lx.Tok) : Kt := ⟨t.kind, t.text⟩
def kts (ts : List Lx.Tok) : List Kt := ts.map kt
end Px
end Go.Proofs.YtpcmlkpnjimbiaaDoor
