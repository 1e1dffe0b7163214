/- The plain law of values: order, texts and bytes, over integers and lists of bytes; no program in sight. -/
import Derived.Lib.ItoaNum
import Derived.Lib.AtoiAll
namespace Go.Proofs.YtagibdofpcbgiaaDoor
set_option linter.unusedVariables false
set_option linter.unusedSimpArgs false
namespace Vx
structure V where
  t : Int
  n : Int
  s : List UInt8
  deriving DecidableEq
def lowerB (c : UInt8) : Bool := decide (97 ≤ c.toNat) && decide (c.toNat ≤ 122)
def letterB (c : UInt8) : Bool := lowerB c || (decide (65 ≤ c.toNat) && decide (c.toNat ≤ 90)) || (decide (48 ≤ c.toNat) && decide (c.toNat ≤ 57)) || c == 95
def digitB (c : UInt8) : Bool := decide (48 ≤ c.toNat) && decide (c.toNat ≤ 57)
def words : List (List UInt8) := [[108, 97, 116, 116, 105, 99, 101], [102, 117, 110, 99, 116, 105, 111, 110], [111, 110], [98, 97, 115, 101], [118, 105, 101, 119], [107, 101, 121], [100, 101, 110, 121], [110, 111, 116], [105, 110, 116], [115, 121, 109]]
def headLow : List UInt8 → Bool
  | [] => false
  | c :: _ => lowerB c
def symbol (s : List UInt8) : Bool := decide (s.length ≤ 16) && headLow s && s.all letterB && !words.contains s
def valid (v : V) : Bool := if v.t = 1 then decide (0 ≤ v.n) && decide (v.n ≤ 9999) && v.s.isEmpty else decide (v.t = 2) && decide (v.n = 0) && symbol v.s
def cmpI (a b : Int) : Int := if a < b then -1 else if b < a then 1 else 0
def cmpL {α : Type} (f : α → α → Int) : List α → List α → Int
  | [], [] => 0
  | [], _ :: _ => -1
  | _ :: _, [] => 1
  | a :: x, b :: y => if f a b = 0 then cmpL f x y else f a b
def cmpC (a b : UInt8) : Int := cmpI a.toNat b.toNat
def cmpB (a b : List UInt8) : Int := cmpL cmpC a b
def cmpV (a b : V) : Int := if cmpI a.t b.t = 0 then (if cmpI a.n b.n = 0 then cmpB a.s b.s else cmpI a.n b.n) else cmpI a.t b.t
def cmpT (a b : List V) : Int := cmpL cmpV a b
def text (v : V) : List UInt8 := if valid v then (if v.t = 1 then Lib.itoa v.n else v.s) else []
/-- The number that one to four digits spell, without a leading zero. -/
def num (s : List UInt8) : Option Nat :=
  if 1 ≤ s.length ∧ s.length ≤ 4 ∧ (s.head? ≠ some 48 ∨ s.length = 1) ∧ s.all digitB = true then some (s.foldl (fun n c => 10 * n + (c.toNat - 48)) 0) else none
def errFormat : Int := 270
def parse (s : List UInt8) : V × Int := if symbol s then (⟨2, 0, s⟩, 0) else match num s with | some n => (⟨1, n, []⟩, 0) | none => (⟨0, 0, []⟩, errFormat)
def encV (v : V) : List UInt8 := if v.t = 1 then [1, UInt8.ofNat (v.n.toNat / 256), UInt8.ofNat (v.n.toNat % 256)] else 2 :: (v.s ++ [0])
def encode (l : List V) : List UInt8 := if l.all valid then l.flatMap encV else []
/-- The value at the beginning of a list of bytes, and what follows it. -/
def take1 : List UInt8 → V × List UInt8
  | [] => (⟨0, 0, []⟩, [])
  | c :: r =>
    if c = 1 ∧ 2 ≤ r.length then (⟨1, ((256 * (r.getD 0 0).toNat + (r.getD 1 0).toNat : Nat) : Int), []⟩, r.drop 2)
    else if c = 2 ∧ 0 ∈ r then (⟨2, 0, r.takeWhile (fun x => x != 0)⟩, (r.dropWhile (fun x => x != 0)).drop 1)
    else (⟨0, 0, []⟩, r)
def decF : Nat → List UInt8 → Option (List V)
  | 0, _ => some []
  | f + 1, [] => some []
  | f + 1, c :: r => if valid (take1 (c :: r)).1 then (decF f (take1 (c :: r)).2).map (fun l => (take1 (c :: r)).1 :: l) else none
def decode (b : List UInt8) : Option (List V) := decF b.length b
theorem take1_len (c : UInt8) (r : List UInt8) : (take1 (c :: r)).2.length ≤ r.length := by
  simp only [take1]
  split
  · simp
  · split
    · have h := (List.dropWhile_suffix (l := r) (fun x => x != 0)).length_le
      simp only [List.length_drop]; omega
    · simp
theorem decF_more : ∀ (f g : Nat) (b : List UInt8), b.length ≤ f → b.length ≤ g → decF f b = decF g b
  | 0, 0, _, _, _ => rfl
  | 0, g + 1, b, h, _ => by
    have : b = [] := List.length_eq_zero_iff.1 (by omega)
    subst this; rfl
  | f + 1, 0, b, _, h => by
    have : b = [] := List.length_eq_zero_iff.1 (by omega)
    subst this; rfl
  | f + 1, g + 1, [], _, _ => rfl
  | f + 1, g + 1, c :: r, h1, h2 => by
    have hl := take1_len c r
    simp only [List.length_cons] at h1 h2
    simp only [decF]
    rw [decF_more f g _ (by omega) (by omega)]
theorem decode_cons (c : UInt8) (r : List UInt8) : decode (c :: r) = if valid (take1 (c :: r)).1 then (decode (take1 (c :: r)).2).map (fun l => (take1 (c :: r)).1 :: l) else none := by
  have hl := take1_len c r
  unfold decode
  simp only [List.length_cons, decF]
  rw [decF_more r.length _ _ (by omega) (Nat.le_refl _)]
theorem decode_nil : decode [] = some [] := rfl
end Vx
end Go.Proofs.YtagibdofpcbgiaaDoor
