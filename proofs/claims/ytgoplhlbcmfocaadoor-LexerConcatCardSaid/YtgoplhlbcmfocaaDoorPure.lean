/- The plain law of the lexer: what a text is split into, over lists of bytes; no program in sight. -/
import Derived.Below
namespace Go.Proofs.YtgoplhlbcmfocaaDoor
set_option linter.unusedVariables false
set_option linter.unusedSimpArgs false
namespace Lx
def whiteB (c : UInt8) : Bool := c == 32 || c == 9 || c == 10 || c == 13
def lowerB (c : UInt8) : Bool := 97 ≤ c.toNat && c.toNat ≤ 122
def upperB (c : UInt8) : Bool := 65 ≤ c.toNat && c.toNat ≤ 90
def digitB (c : UInt8) : Bool := 48 ≤ c.toNat && c.toNat ≤ 57
def wordB (c : UInt8) : Bool := lowerB c || upperB c || digitB c || c == 95
/-- The length of the gap at the beginning of a text; the flag: inside a comment. -/
def gapG : Bool → List UInt8 → Nat
  | _, [] => 0
  | true, c :: r => if c = 10 then 1 + gapG false r else 1 + gapG true r
  | false, c :: r => if whiteB c then 1 + gapG false r else if c = 37 then 1 + gapG true r else 0
def wordLen (l : List UInt8) : Nat := (l.takeWhile wordB).length
def symbols : List (List UInt8) := [[58, 45], [45, 62], [60, 61], [62, 61], [33, 61], [40], [41], [123], [125], [44], [59], [46], [58], [60], [61]]
/-- The kind of a word. -/
def wkind : List UInt8 → Nat
  | [] => 0
  | c :: r => if 16 < (c :: r).length then 0 else if lowerB c then 1 else if upperB c then 2 else if (c :: r).all digitB && decide ((c :: r).length ≤ 4) && (!(c == 48) || r.isEmpty) then 3 else 0
/-- The length of the symbol at the beginning of a text, or 0. -/
def symLen (l : List UInt8) : Nat := ((symbols.find? (fun p => p.isPrefixOf l)).getD []).length
/-- Kind and length of the token at the beginning of a text, or (0, 0). -/
def next (l : List UInt8) : Nat × Nat :=
  if wordLen l = 0 then (if symLen l = 0 then (0, 0) else (4, symLen l))
  else if wkind (l.take (wordLen l)) = 0 then (0, 0) else (wkind (l.take (wordLen l)), wordLen l)
/-- The kind of a token with a text, whatever follows it (the reference's Kind). -/
def rkind (t : List UInt8) : Nat := if symbols.contains t then 4 else if t.length = 0 ∨ 16 < t.length then 0 else if t.all wordB then wkind t else 0
structure Tok where
  kind : Nat
  text : List UInt8
  pos : Nat
/-- The tokens from a place behind a gap on; where no token begins, its place. -/
def run : Nat → List UInt8 → Nat → List Tok × Option Nat
  | 0, _, _ => ([], none)
  | f + 1, l, p =>
    if l = [] then ([], none)
    else if (next l).1 = 0 then ([], some p)
    else
      let n := (next l).2
      let g := gapG false (l.drop n)
      let r := run f (l.drop (n + g)) (p + n + g)
      (⟨(next l).1, l.take n, p⟩ :: r.1, r.2)
def scan (s : List UInt8) : List Tok × Option Nat := run (s.length + 1) (s.drop (gapG false s)) (gapG false s)
/-- Tokens, error, offset. -/
def lex (s : List UInt8) : List Tok × Int × Int :=
  if 8000 < s.length then ([], 2, 8000)
  else if h : 3000 < (scan s).1.length then ([], 2, ((scan s).1[3000]).pos)
  else match (scan s).2 with
    | some p => if (scan s).1.length = 3000 then ([], 2, p) else ([], 40, p)
    | none => ((scan s).1, 0, -1)
theorem gapG_le : ∀ (b : Bool) (l : List UInt8), gapG b l ≤ l.length
  | _, [] => by simp [gapG]
  | true, c :: r => by
    have h1 := gapG_le false r; have h2 := gapG_le true r
    simp only [gapG, List.length_cons]; split <;> omega
  | false, c :: r => by
    have h1 := gapG_le false r; have h2 := gapG_le true r
    simp only [gapG, List.length_cons]; repeat' split
    all_goals omega
theorem wordLen_le (l : List UInt8) : wordLen l ≤ l.length := List.Sublist.length_le (List.takeWhile_sublist _)
theorem take_wordLen (l : List UInt8) : l.take (wordLen l) = l.takeWhile wordB := by
  unfold wordLen
  induction l with
  | nil => rfl
  | cons c r ih => simp only [List.takeWhile_cons]; split <;> simp [ih]
/-- Behind a comment's beginning: up to the next line feed, or to the end. -/
theorem gapG_comment : ∀ (l : List UInt8) (n : Nat), (∀ k, k < n → l[k]? ≠ some 10) → l[n]? = some 10 → gapG true l = n + gapG false (l.drop n)
  | [], n, _, h => by simp at h
  | c :: r, 0, _, h => by
    simp at h; subst h; simp [gapG, whiteB]
  | c :: r, n + 1, hk, h => by
    have hc : c ≠ 10 := by have := hk 0 (by omega); simpa using this
    have := gapG_comment r n (fun k hk' => by have := hk (k + 1) (by omega); simpa using this) (by simpa using h)
    simp only [gapG, if_neg hc, this, List.drop_succ_cons]; omega
theorem gapG_comment_end : ∀ (l : List UInt8), (∀ k : Nat, l[k]? ≠ some 10) → gapG true l = l.length
  | [], _ => rfl
  | c :: r, hk => by
    have hc : c ≠ 10 := by have := hk 0; simpa using this
    have := gapG_comment_end r (fun k => by have := hk (k + 1); simpa using this)
    simp only [gapG, if_neg hc, this, List.length_cons]; omega
end Lx
end Go.Proofs.YtgoplhlbcmfocaaDoor
