/- The plain law of the lexer: what a text is split into, over lists of bytes; no program in sight. -/
import Derived.Below
import Derived.Test.YtpcmlkpnjimbiaaDoorRows
import Derived.WalkKit
import Derived.WalkSpells
import Derived.WalkLawsBesides
import Derived.BigQuiet
import Derived.Lib.Hide
import Derived.Test.YtpcmlkpnjimbiaaDoorShelf
import Derived.Test.YtpcmlkpnjimbiaaDoorOwn
import Derived.Lib.IndexLaws
import Derived.Lib.OthersKept
import Derived.Laws.RangeAny
namespace Go.Proofs.YtpcmlkpnjimbiaaDoor
set_option linter.unusedVariables false
set_option linter.unusedSimpArgs false
namespace Lx
def whiteB (c : UInt8) : Bool := c == 32 || c == 9 || c == 10 || c == 13
def lowerB (c : UInt8) : Bool := 97 ≤ c.toNat && c.toNat ≤ 122
def upperB (c : UInt8) : Bool := 65 ≤ c.toNat && c.toNat ≤ 90
def digitB (c : UInt8) : Bool := 48 ≤ c.toNat && c.toNat ≤ 57
def wordB (c : UInt8) : Bool := lowerB c || upperB c || digitB c || c == 95
/-- The length of the gap at the beginning of a text; the flag: inside a comment. -/
def gapG : Bool → List UInt8 → Nat
 | _, [] => 0
 | true, c :: r => if c = 10 then 1 + gapG false r else 1 + gapG true r
 | false, c :: r => if whiteB c then 1 + gapG false r else if c = 37 then 1 + gapG true r else 0
def wordLen (l : List UInt8) : Nat := (l.takeWhile wordB).length
def symbols : List (List UInt8) := [[58, 45], [45, 62], [60, 61], [62, 61], [33, 61], [40], [41], [123], [125], [44], [59], [46], [58], [60], [61]]
/-- The kind of a word. -/
def wkind : List UInt8 → Nat
 | [] => 0
 | c :: r => if 16 < (c :: r).length then 0 else if lowerB c then 1 else if upperB c then 2 else if (c :: r).all digitB && decide ((c :: r).length ≤ 4) && (!(c == 48) || r.isEmpty) then 3 else 0
/-- The length of the symbol at the beginning of a text, or 0. -/
def symLen (l : List UInt8) : Nat := ((symbols.find? (fun p => p.isPrefixOf l)).getD []).length
/-- Kind and length of the token at the beginning of a text, or (0, 0). -/
def next (l : List UInt8) : Nat × Nat :=
 if wordLen l = 0 then (if symLen l = 0 then (0, 0) else (4, symLen l))
 else if wkind (l.take (wordLen l)) = 0 then (0, 0) else (wkind (l.take (wordLen l)), wordLen l)
/-- The kind of a token with a text, whatever follows it (the reference's Kind). -/
def rkind (t : List UInt8) : Nat := if symbols.contains t then 4 else if t.length = 0 ∨ 16 < t.length then 0 else if t.all wordB then wkind t else 0
structure Tok where
 kind : Nat
 text : List UInt8
 pos : Nat
/-- The tokens from a place behind a gap on; where no token begins, its place. -/
def run : Nat → List UInt8 → Nat → List Tok × Option Nat
 | 0, _, _ => ([], none)
 | f + 1, l, p =>
  if l = [] then ([], none)
  else if (next l).1 = 0 then ([], some p)
  else
   let n := (next l).2
   let g := gapG false (l.drop n)
   let r := run f (l.drop (n + g)) (p + n + g)
   (⟨(next l).1, l.take n, p⟩ :: r.1, r.2)
def scan (s : List UInt8) : List Tok × Option Nat := run (s.length + 1) (s.drop (gapG false s)) (gapG false s)
/-- Tokens, error, offset. -/
def lex (s : List UInt8) : List Tok × Int × Int :=
 if 8000 < s.length then ([], 2, 8000)
 else if h : 3000 < (scan s).1.length then ([], 2, ((scan s).1[3000]).pos)
 else match (scan s).2 with
  | some p => if (scan s).1.length = 3000 then ([], 2, p) else ([], 40, p)
  | none => ((scan s).1, 0, -1)
theorem gapG_le : ∀ (b : Bool) (l : List UInt8), gapG b l ≤ l.length
 | _, [] => by simp [gapG]
 | true, c :: r => by
  have h1 := gapG_le false r; have h2 := gapG_le true r
  simp only [gapG, List.length_cons]; split <;> omega
 | false, c :: r => by
  have h1 := gapG_le false r; have h2 := gapG_le true r
  simp only [gapG, List.length_cons]; repeat' split
  all_goals omega
theorem wordLen_le (l : List UInt8) : wordLen l ≤ l.length := List.Sublist.length_le (List.takeWhile_sublist _)
theorem take_wordLen (l : List UInt8) : l.take (wordLen l) = l.takeWhile wordB := by
 unfold wordLen
 induction l with
 | nil => rfl
 | cons c r ih => simp only [List.takeWhile_cons]; split <;> simp [ih]
/-- Behind a comment's beginning: up to the next line feed, or to the end. -/
theorem gapG_comment : ∀ (l : List UInt8) (n : Nat), (∀ k, k < n → l[k]? ≠ some 10) → l[n]? = some 10 → gapG true l = n + gapG false (l.drop n)
 | [], n, _, h => by simp at h
 | c :: r, 0, _, h => by
  simp at h; subst h; simp [gapG, whiteB]
 | c :: r, n + 1, hk, h => by
  have hc : c ≠ 10 := by have := hk 0 (by omega); simpa using this
  have := gapG_comment r n (fun k hk' => by have := hk (k + 1) (by omega); simpa using this) (by simpa using h)
  simp only [gapG, if_neg hc, this, List.drop_succ_cons]; omega
theorem gapG_comment_end : ∀ (l : List UInt8), (∀ k : Nat, l[k]? ≠ some 10) → gapG true l = l.length
 | [], _ => rfl
 | c :: r, hk => by
  have hc : c ≠ 10 := by have := hk 0; simpa using this
  have := gapG_comment_end r (fun k => by have := hk (k + 1); simpa using this)
  simp only [gapG, if_neg hc, this, List.length_cons]; omega
end Lx
end Go.Proofs.YtpcmlkpnjimbiaaDoor
namespace Go.Proofs.YtpcmlkpnjimbiaaDoor
set_option linter.unusedVariables false
set_option linter.unusedSimpArgs false
open Go.RowKit
def lowB (c : Int) : Bool := decide (97 ≤ c) && decide (c ≤ 122)
def uppB (c : Int) : Bool := decide (65 ≤ c) && decide (c ≤ 90)
def digB (c : Int) : Bool := decide (48 ≤ c) && decide (c ≤ 57)
def wrdB (c : Int) : Bool := lowB c || uppB c || digB c || (c == 95)
theorem lower_any (c : Int) (w : World) : Calls Tryd.prog 70 #[.int .u8 c] w fun e w' => e = .returned (.bool (lowB c)) ∧ w = w' := by
 unfold lowB
 by_cases h1 : 97 ≤ c
 ·by_cases h2 : c ≤ 122
  all_goals
   go_enter Tryd.func70, Tryd.ntmps70
   go_wp2
   go_ret
   exact ⟨by simp [*], rfl⟩
 ·go_enter Tryd.func70, Tryd.ntmps70
  go_wp2
  go_ret
  exact ⟨by simp [*]; omega, rfl⟩
theorem upper_any (c : Int) (w : World) : Calls Tryd.prog 71 #[.int .u8 c] w fun e w' => e = .returned (.bool (uppB c)) ∧ w = w' := by
 unfold uppB
 by_cases h1 : 65 ≤ c
 ·by_cases h2 : c ≤ 90
  all_goals
   go_enter Tryd.func71, Tryd.ntmps71
   go_wp2
   go_ret
   exact ⟨by simp [*], rfl⟩
 ·go_enter Tryd.func71, Tryd.ntmps71
  go_wp2
  go_ret
  exact ⟨by simp [*]; omega, rfl⟩
theorem digit_any (c : Int) (w : World) : Calls Tryd.prog 84 #[.int .u8 c] w fun e w' => e = .returned (.bool (digB c)) ∧ w = w' := by
 unfold digB
 by_cases h1 : 48 ≤ c
 ·by_cases h2 : c ≤ 57
  all_goals
   go_enter Tryd.func84, Tryd.ntmps84
   go_wp2
   go_ret
   exact ⟨by simp [*], rfl⟩
 ·go_enter Tryd.func84, Tryd.ntmps84
  go_wp2
  go_ret
  exact ⟨by simp [*]; omega, rfl⟩
theorem rlower_any (c : Int) (w : World) : Calls Tryd.prog 77 #[.int .u8 c] w fun e w' => e = .returned (.bool (lowB c)) ∧ w = w' := by
 unfold lowB
 by_cases h1 : 97 ≤ c
 ·by_cases h2 : c ≤ 122
  all_goals
   go_enter Tryd.func77, Tryd.ntmps77
   go_wp2
   go_ret
   exact ⟨by simp [*], rfl⟩
 ·go_enter Tryd.func77, Tryd.ntmps77
  go_wp2
  go_ret
  exact ⟨by simp [*]; omega, rfl⟩
theorem rupper_any (c : Int) (w : World) : Calls Tryd.prog 78 #[.int .u8 c] w fun e w' => e = .returned (.bool (uppB c)) ∧ w = w' := by
 unfold uppB
 by_cases h1 : 65 ≤ c
 ·by_cases h2 : c ≤ 90
  all_goals
   go_enter Tryd.func78, Tryd.ntmps78
   go_wp2
   go_ret
   exact ⟨by simp [*], rfl⟩
 ·go_enter Tryd.func78, Tryd.ntmps78
  go_wp2
  go_ret
  exact ⟨by simp [*]; omega, rfl⟩
theorem rdigit_any (c : Int) (w : World) : Calls Tryd.prog 76 #[.int .u8 c] w fun e w' => e = .returned (.bool (digB c)) ∧ w = w' := by
 unfold digB
 by_cases h1 : 48 ≤ c
 ·by_cases h2 : c ≤ 57
  all_goals
   go_enter Tryd.func76, Tryd.ntmps76
   go_wp2
   go_ret
   exact ⟨by simp [*], rfl⟩
 ·go_enter Tryd.func76, Tryd.ntmps76
  go_wp2
  go_ret
  exact ⟨by simp [*]; omega, rfl⟩
theorem rword_any (c : Int) (w : World) : Calls Tryd.prog 74 #[.int .u8 c] w fun e w' => e = .returned (.bool (wrdB c)) ∧ w = w' := by
 unfold wrdB
 cases h1 : lowB c <;> cases h2 : uppB c <;> cases h3 : digB c <;> cases h4 : (c == 95)
 all_goals
  have H1 := Lib.hid h1; have H2 := Lib.hid h2; have H3 := Lib.hid h3; clear h1 h2 h3
  go_enter Tryd.func74, Tryd.ntmps74
  go_wp2_with (first
   | (go_at_call 77; refine (rlower_any _ _).mono ?_; rintro e w' ⟨rfl, rfl⟩; rw [H1.out])
   | (go_at_call 78; refine (rupper_any _ _).mono ?_; rintro e w' ⟨rfl, rfl⟩; rw [H2.out])
   | (go_at_call 76; refine (rdigit_any _ _).mono ?_; rintro e w' ⟨rfl, rfl⟩; rw [H3.out]))
  go_ret
  exact ⟨by simp [*], rfl⟩
end Go.Proofs.YtpcmlkpnjimbiaaDoor
namespace Go.Proofs.YtpcmlkpnjimbiaaDoor
set_option linter.unusedVariables false
set_option linter.unusedSimpArgs false
open Go.RowKit
theorem gap_white {s : ByteArray} {k G : Nat} (h : k < s.size) (hw : Lx.whiteB s[k] = true) (H : G = k + Lx.gapG false (s.data.toList.drop k)) : G = (k + 1) + Lx.gapG false (s.data.toList.drop (k + 1)) := by
 rw [H, drop_cons s k h]; simp only [Lx.gapG, hw, if_true]; omega
theorem gap_stop {s : ByteArray} {k G : Nat} (h : k < s.size) (hw : Lx.whiteB s[k] = false) (h37 : (s[k] == 37) = false) (H : G = k + Lx.gapG false (s.data.toList.drop k)) : G = k := by
 rw [H, drop_cons s k h]; simp only [Lx.gapG, hw]; simp at h37; simp [h37]
theorem gap_com {s : ByteArray} {k G n : Nat} (h : k < s.size) (hc : (s[k] == 37) = true) (hn : Lib.indexByte (s.extract k s.size).data.toList 10 = n) (H : G = k + Lx.gapG false (s.data.toList.drop k)) :
  0 < n ∧ k + n ≤ s.size ∧ G = (k + n) + Lx.gapG false (s.data.toList.drop (k + n)) := by
 have e : (s.extract k s.size).data.toList = s.data.toList.drop k := by
  rw [Lib.extract_data, List.take_of_length_le (by rw [List.length_drop, size_len]; omega)]
 rw [e] at hn
 obtain ⟨h1, h2⟩ := Lib.indexByte_some hn
 have hcc : s[k] = 37 := by simpa using hc
 have h0 : 0 < n := by
  rcases Nat.eq_zero_or_pos n with h | h'
  ·subst h; rw [drop_cons s k h, hcc] at h1; simp at h1
  ·exact h'
 have hlt : k + n < s.data.toList.length := by
  have := (List.getElem?_eq_some_iff.1 h1).1; rw [List.length_drop] at this; omega
 refine ⟨h0, by rw [size_len] at hlt; omega, ?_⟩
 obtain ⟨m, rfl⟩ : ∃ m, n = m + 1 := ⟨n - 1, by omega⟩
 rw [H, drop_cons s k h]
 simp only [Lx.gapG, hcc, Lx.whiteB]
 have hg := Lx.gapG_comment (s.data.toList.drop (k + 1)) m (fun j hj => by have := h2 (j + 1) (by omega); rw [drop_cons s k h] at this; simpa using this) (by rw [drop_cons s k h] at h1; simpa using h1)
 rw [if_neg (by decide), if_pos trivial, hg, List.drop_drop, show k + 1 + m = k + (m + 1) from by omega]; omega
theorem gap_com_none {s : ByteArray} {k G : Nat} (h : k < s.size) (hc : (s[k] == 37) = true) (hn : Lib.indexByte (s.extract k s.size).data.toList 10 = -1) (H : G = k + Lx.gapG false (s.data.toList.drop k)) :
  G = s.size + Lx.gapG false (s.data.toList.drop s.size) := by
 have e : (s.extract k s.size).data.toList = s.data.toList.drop k := by
  rw [Lib.extract_data, List.take_of_length_le (by rw [List.length_drop, size_len]; omega)]
 rw [e] at hn
 have h1 := Lib.indexByte_none hn
 have hcc : s[k] = 37 := by simpa using hc
 rw [H, drop_cons s k h]
 have hg := Lx.gapG_comment_end (s.data.toList.drop (k + 1)) (fun j => by have := h1 (j + 1); rw [drop_cons s k h] at this; simpa using this)
 simp only [Lx.gapG, hcc, Lx.whiteB]
 rw [if_neg (by decide), if_pos trivial, hg, List.length_drop, size_len, List.drop_of_length_le (by rw [size_len]; exact Nat.le_refl _)]; simp only [Lx.gapG]; omega
theorem gap_end {s : ByteArray} {k G : Nat} (hk : k ≤ s.size) (h : ¬ k < s.size) (H : G = k + Lx.gapG false (s.data.toList.drop k)) : G = k := by
 rw [H, List.drop_of_length_le (by rw [size_len]; omega)]; rfl
theorem index_nl (s : ByteArray) (w : World) : Calls Tryd.prog 68 #[.string s, .int .u8 10] w fun e w' => e = .returned (.int .i64 (Lib.indexByte s.data.toList 10)) ∧ w = w' :=
 (Tryd.strings_IndexByte s 10 w).mono fun _ _ ⟨h, h'⟩ => ⟨h, h'.symm⟩
set_option maxHeartbeats 1000000 in
theorem gap_any (s : ByteArray) (p : Nat) (w : World) (hp : p ≤ s.size) (hs : s.size ≤ 9223372036854775807) :
  Calls Tryd.prog 47 #[.string s, .int .i64 p] w fun e w' => e = .returned (.int .i64 ((p + Lx.gapG false (s.data.toList.drop p) : Nat) : Int)) ∧ w = w' := by
 obtain ⟨G, hG⟩ : ∃ G, G = p + Lx.gapG false (s.data.toList.drop p) := ⟨_, rfl⟩
 have HG := Lib.hid hG
 rw [← hG]; clear hG
 go_enter Tryd.func47, Tryd.ntmps47
 go_wp2
 go_loop [1] (fun i => ∃ k : Nat, k ≤ s.size ∧ Hid (G = k + Lx.gapG false (s.data.toList.drop k)) ∧ i = .int .i64 k) (fun i => s.size - (intOf i).toNat)
 case atStart => exact ⟨p, hp, HG, rfl⟩
 case round =>
  obtain ⟨k, hk, HK, rfl⟩ := hrel
  by_cases hlt : k < s.size
  ·have hw : Lx.whiteB s[k] = ((((s[k].toNat : Nat) : Int) == 32) || (((s[k].toNat : Nat) : Int) == 9) || (((s[k].toNat : Nat) : Int) == 10) || (((s[k].toNat : Nat) : Int) == 13)) := by
    unfold Lx.whiteB; simp only [u8_eq]; rfl
   cases h1 : (((s[k].toNat : Nat) : Int) == 32)
   ·cases h2 : (((s[k].toNat : Nat) : Int) == 9)
    ·cases h3 : (((s[k].toNat : Nat) : Int) == 10)
     ·cases h4 : (((s[k].toNat : Nat) : Int) == 13)
      ·have HW : Hid (Lx.whiteB s[k] = false) := Lib.hid (by rw [hw, h1, h2, h3, h4]; rfl)
       clear hw
       cases h5 : (((s[k].toNat : Nat) : Int) == 37)
       ·have hend := gap_stop hlt HW.out (by rw [u8_eq]; exact h5) HK.out
        have HE := Lib.hid hend; clear hend
        go_wp2
        go_ret
        exact ⟨by rw [HE.out]; rfl, rfl⟩
       ·obtain ⟨n, hn⟩ : ∃ n, Lib.indexByte (s.extract k s.size).data.toList 10 = n := ⟨_, rfl⟩
        have hge := Lib.indexByte_ge (s.extract k s.size).data.toList 10
        rw [hn] at hge
        by_cases hneg : 0 ≤ n
        ·obtain ⟨m, rfl⟩ := Int.eq_ofNat_of_zero_le hneg
         obtain ⟨g1, g2, g3⟩ := gap_com hlt (by rw [u8_eq]; exact h5) hn HK.out
         have G3 := Lib.hid g3; have HN := Lib.hid hn; clear g3 hn
         go_wp2_with (go_at_call 68; refine (index_nl _ _).mono ?_; rintro e w' ⟨rfl, rfl⟩; rw [HN.out])
         go_round
         case rel => exact ⟨k + m, by omega, G3, by go_num⟩
         case measure => simp [intOf]; omega
        ·obtain rfl : n = -1 := by omega
         have g3 := gap_com_none hlt (by rw [u8_eq]; exact h5) hn HK.out
         have G3 := Lib.hid g3; have HN := Lib.hid hn; clear g3 hn
         go_wp2_with (go_at_call 68; refine (index_nl _ _).mono ?_; rintro e w' ⟨rfl, rfl⟩; rw [HN.out])
         go_round
         case rel => exact ⟨s.size, by omega, G3, by go_num⟩
         case measure => simp [intOf]; omega
      all_goals
       have H1 := Lib.hid (gap_white hlt (by rw [hw]; simp [*]) HK.out)
       clear hw
       go_wp2
       go_round
       case rel => exact ⟨k + 1, by omega, H1, by go_num⟩
       case measure => simp [intOf]; omega
     all_goals
      have H1 := Lib.hid (gap_white hlt (by rw [hw]; simp [*]) HK.out)
      clear hw
      go_wp2
      go_round
      case rel => exact ⟨k + 1, by omega, H1, by go_num⟩
      case measure => simp [intOf]; omega
    all_goals
     have H1 := Lib.hid (gap_white hlt (by rw [hw]; simp [*]) HK.out)
     clear hw
     go_wp2
     go_round
     case rel => exact ⟨k + 1, by omega, H1, by go_num⟩
     case measure => simp [intOf]; omega
   all_goals
    have H1 := Lib.hid (gap_white hlt (by rw [hw]; simp [*]) HK.out)
    clear hw
    go_wp2
    go_round
    case rel => exact ⟨k + 1, by omega, H1, by go_num⟩
    case measure => simp [intOf]; omega
  ·have hend := gap_end hk hlt HK.out
   have HE := Lib.hid hend; clear hend
   go_wp2
   go_ret
   exact ⟨by rw [HE.out]; rfl, rfl⟩
end Go.Proofs.YtpcmlkpnjimbiaaDoor
namespace Go.Proofs.YtpcmlkpnjimbiaaDoor
set_option linter.unusedVariables false
set_option linter.unusedSimpArgs false
open Go.RowKit
theorem wordB_eq (c : UInt8) : Lx.wordB c = wrdB (c.toNat : Int) := by
 have e : ∀ a b : Nat, (decide ((a : Int) ≤ (b : Int))) = decide (a ≤ b) := fun a b => by simp
 unfold Lx.wordB wrdB Lx.lowerB Lx.upperB Lx.digitB lowB uppB digB
 rw [u8_eq]
 congr 1
 congr 1
 ·congr 1 <;> (congr 1 <;> simp <;> omega)
 ·congr 1 <;> simp <;> omega
theorem lowerB_eq (c : UInt8) : Lx.lowerB c = lowB (c.toNat : Int) := by
 unfold Lx.lowerB lowB; congr 1 <;> simp <;> omega
theorem upperB_eq (c : UInt8) : Lx.upperB c = uppB (c.toNat : Int) := by
 unfold Lx.upperB uppB; congr 1 <;> simp <;> omega
theorem digitB_eq (c : UInt8) : Lx.digitB c = digB (c.toNat : Int) := by
 unfold Lx.digitB digB; congr 1 <;> simp <;> omega
theorem word_more {s : ByteArray} {k N : Nat} (h : k < s.size) (hw : Lx.wordB s[k] = true) (H : N = k + Lx.wordLen (s.data.toList.drop k)) : N = (k + 1) + Lx.wordLen (s.data.toList.drop (k + 1)) := by
 rw [H, drop_cons s k h]; simp only [Lx.wordLen, List.takeWhile_cons, hw, if_true, List.length_cons]; omega
theorem word_stop {s : ByteArray} {k N : Nat} (h : k < s.size) (hw : Lx.wordB s[k] = false) (H : N = k + Lx.wordLen (s.data.toList.drop k)) : N = k := by
 rw [H, drop_cons s k h]; simp [Lx.wordLen, hw]
theorem word_end {s : ByteArray} {k N : Nat} (hk : k ≤ s.size) (h : ¬ k < s.size) (H : N = k + Lx.wordLen (s.data.toList.drop k)) : N = s.size := by
 rw [H, List.drop_of_length_le (by rw [size_len]; omega)]; simp [Lx.wordLen]; omega

set_option maxHeartbeats 1000000 in
set_option maxRecDepth 100000 in
theorem word_any (s : ByteArray) (w : World) (hs : s.size ≤ 9223372036854775807) :
  Calls Tryd.prog 69 #[.string s] w fun e w' => (∃ t : ByteArray, e = .returned (.string t) ∧ t.data.toList = s.data.toList.takeWhile Lx.wordB) ∧ Below w.heap.size w w' := by
 obtain ⟨N, hN⟩ : ∃ N, N = 0 + Lx.wordLen (s.data.toList.drop 0) := ⟨_, rfl⟩
 have hfin : s.data.toList.takeWhile Lx.wordB = s.data.toList.take N := by rw [hN]; simp [Lx.take_wordLen]
 have HF := Lib.hid hfin
 have HN := Lib.hid hN
 clear hN hfin
 go_enter Tryd.func69, Tryd.ntmps69
 go_wp2
 go_loopw [] (fun wr => ∃ k : Nat, wr = w.iter s k ∧ k ≤ s.size ∧ Hid (N = k + Lx.wordLen (s.data.toList.drop k))) (fun wr => s.size - wr.iterPos w.heap.size)
 case atStart => exact ⟨0, rfl, by omega, HN⟩
 case round =>
  obtain ⟨k, rfl, hk, HK⟩ := hrel
  by_cases hlt : k < s.size
  ·by_cases ha : s[k].toNat < 128
   ·have hnx : ∀ ty, (Instr.next (.pointer (some ⟨w.heap.size, 0, none⟩)) true ty).run Tryd.prog (w.iter s k) = _ := fun ty => run_next_ascii w s k ty hlt ha
    have hw := wordB_eq s[k]
    unfold wrdB at hw
    have h5 : decide ((128 : Int) ≤ ((s[k].toNat : Nat) : Int)) = false := by simp; omega
    cases h4 : (((s[k].toNat : Nat) : Int) == 95)
    ·have h6 : (((s[k].toNat : Nat) : Int) != 95) = true := by simp only [bne, h4]; rfl
     cases h1 : lowB (s[k].toNat : Int)
     ·cases h2 : uppB (s[k].toNat : Int)
      ·cases h3 : digB (s[k].toNat : Int)
       ·have hE := Lib.hid (word_stop hlt (by rw [hw, h1, h2, h3, h4]; rfl) HK.out)
        have H1 := Lib.hid h1; have H2 := Lib.hid h2; have H3 := Lib.hid h3; clear h1 h2 h3 hw
        go_wp2_with (first
         | (go_at_call 70; refine (lower_any _ _).mono ?_; rintro e w' ⟨rfl, rfl⟩; rw [H1.out])
         | (go_at_call 71; refine (upper_any _ _).mono ?_; rintro e w' ⟨rfl, rfl⟩; rw [H2.out])
         | (go_at_call 84; refine (digit_any _ _).mono ?_; rintro e w' ⟨rfl, rfl⟩; rw [H3.out]))
        go_ret
        exact ⟨⟨_, rfl, by rw [ext_take, HF.out, hE.out]⟩, (Below.refl _ _).alloc (Nat.le_refl _) _⟩
       ·have hE := Lib.hid (word_more hlt (by rw [hw, h1, h2, h3, h4]; rfl) HK.out)
        have H1 := Lib.hid h1; have H2 := Lib.hid h2; have H3 := Lib.hid h3; clear h1 h2 h3 hw
        go_wp2_with (first
         | (go_at_call 70; refine (lower_any _ _).mono ?_; rintro e w' ⟨rfl, rfl⟩; rw [H1.out])
         | (go_at_call 71; refine (upper_any _ _).mono ?_; rintro e w' ⟨rfl, rfl⟩; rw [H2.out])
         | (go_at_call 84; refine (digit_any _ _).mono ?_; rintro e w' ⟨rfl, rfl⟩; rw [H3.out]))
        go_roundw
        case rel => exact ⟨k + 1, rfl, by omega, hE⟩
        case measure => simp; omega
      ·have hE := Lib.hid (word_more hlt (by rw [hw, h1, h2, h4]; rfl) HK.out)
       have H1 := Lib.hid h1; have H2 := Lib.hid h2; clear h1 h2 hw
       go_wp2_with (first
        | (go_at_call 70; refine (lower_any _ _).mono ?_; rintro e w' ⟨rfl, rfl⟩; rw [H1.out])
        | (go_at_call 71; refine (upper_any _ _).mono ?_; rintro e w' ⟨rfl, rfl⟩; rw [H2.out]))
       go_roundw
       case rel => exact ⟨k + 1, rfl, by omega, hE⟩
       case measure => simp; omega
     ·have hE := Lib.hid (word_more hlt (by rw [hw, h1, h4]; rfl) HK.out)
      have H1 := Lib.hid h1; clear h1 hw
      go_wp2_with (first
       | (go_at_call 70; refine (lower_any _ _).mono ?_; rintro e w' ⟨rfl, rfl⟩; rw [H1.out]))
      go_roundw
      case rel => exact ⟨k + 1, rfl, by omega, hE⟩
      case measure => simp; omega
    ·have hE := Lib.hid (word_more hlt (by rw [hw, h4]; simp) HK.out)
     have h6 : (((s[k].toNat : Nat) : Int) != 95) = false := by simp only [bne, h4]; rfl
     clear hw
     go_wp2
     go_roundw
     case rel => exact ⟨k + 1, rfl, by omega, hE⟩
     case measure => simp; omega
   ·have hnx : ∀ ty, (Instr.next (.pointer (some ⟨w.heap.size, 0, none⟩)) true ty).run Tryd.prog (w.iter s k) = _ := fun ty => run_next_any w s k ty hlt
    obtain ⟨d1, d2⟩ := decode_high s k hlt (by omega)
    have hw : Lx.wordB s[k] = false := by
     rw [wordB_eq]; unfold wrdB lowB uppB digB; simp; omega
    have hE := Lib.hid (word_stop hlt hw HK.out)
    clear hw
    have d3 : (((Utf8.decode s k).1 : Int) != 95) = true := by simp; omega
    have d4 : decide ((128 : Int) ≤ (((Utf8.decode s k).1 : Nat) : Int)) = true := by simp; omega
    go_wp2
    go_ret
    exact ⟨⟨_, rfl, by rw [ext_take, HF.out, hE.out]⟩, (Below.refl _ _).alloc (Nat.le_refl _) _⟩
  ·have hnx : ∀ ty, (Instr.next (.pointer (some ⟨w.heap.size, 0, none⟩)) true ty).run Tryd.prog (w.iter s k) = _ := fun ty => run_next_end w s k ty hlt
   have hE := Lib.hid (word_end hk hlt HK.out)
   go_wp2
   go_ret
   exact ⟨⟨_, rfl, by rw [HF.out, hE.out, List.take_of_length_le (by rw [size_len]; omega)]⟩, (Below.refl _ _).alloc (Nat.le_refl _) _⟩
end Go.Proofs.YtpcmlkpnjimbiaaDoor
