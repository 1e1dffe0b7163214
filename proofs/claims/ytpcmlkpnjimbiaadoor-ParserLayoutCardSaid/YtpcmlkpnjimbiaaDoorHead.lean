/- The walks of the reference's Same and Alike at slices of equal (alike) tokens. -/
import Derived.Test.YtpcmlkpnjimbiaaDoorRefLex
import Derived.Test.YtpcmlkpnjimbiaaDoorOwn
import Derived.Deep.QuietTactic
import Derived.BigQuiet
import Derived.Deep.Draws
namespace Go.Proofs.YtpcmlkpnjimbiaaDoor
set_option linter.unusedVariables false
set_option linter.unusedSimpArgs false
open Go.RowKit
/-- The slice value v reads as the cells xs, n elements of three cells each. -/
def Reads3 (w : World) (A : Option Addr) (n : Nat) (xs : List Value) : Prop :=
 0 < n → ∃ g o, A = some ⟨g, o, none⟩ ∧ g < w.heap.size ∧ ∀ (j : Nat) (u : Value), xs[j]? = some u → w.cell? ⟨g, o + j, none⟩ = some u
theorem Reads3.below {w w' : World} {A : Option Addr} {n : Nat} {xs : List Value} (h : Reads3 w A n xs) (hb : Below w.heap.size w w') : Reads3 w' A n xs := fun hn => by
 obtain ⟨g, o, e, hg, hc⟩ := h hn
 exact ⟨g, o, e, Nat.lt_of_lt_of_le hg hb.size, fun j u hu => (hb.cell (p := ⟨g, o + j, none⟩) hg).trans (hc j u hu)⟩
theorem Reads3.own {w : World} {B : Nat} {e : TypeId} {n c : Nat} {A : Option Addr} {xs : List Value} (h : w.ownsRow B e 3 (.slice A n c) n xs) : Reads3 w A n xs := fun hn => by
 rcases h.2 with ⟨_, h0⟩ | ⟨g, cap, cur, hv, hg, hh, h1, h2, h3, h4⟩
 ·omega
 ·simp only [Value.slice.injEq, true_and] at hv
  obtain ⟨rfl, rfl⟩ := hv
  refine ⟨g, 0, rfl, (Array.getElem?_eq_some_iff.1 hh).1, fun j u hu => ?_⟩
  rw [cell_of_row w g (0 + j) cur e (0, 0) hh, Nat.zero_add]
  rw [← h4] at hu
  rw [List.getElem?_take] at hu
  split at hu
  ·simpa using hu
  ·cases hu
theorem tokCells_at {ts : List Lx.Tok} {k : Nat} {t : Lx.Tok} (h : ts[k]? = some t) :
  (tokCells ts)[k * 3]? = some (.int .i64 t.kind) ∧ (tokCells ts)[k * 3 + 1]? = some (.string ⟨t.text.toArray⟩) ∧ (tokCells ts)[k * 3 + 2]? = some (.int .i64 t.pos) := by
 induction ts generalizing k with
 | nil => simp at h
 | cons a r ih =>
  have e : tokCells (a :: r) = .int .i64 a.kind :: .string ⟨a.text.toArray⟩ :: .int .i64 a.pos :: tokCells r := rfl
  rw [e]
  cases k with
  | zero => simp at h; subst h; exact ⟨rfl, rfl, rfl⟩
  | succ k =>
   have := ih (k := k) (by simpa using h)
   have e3 : (k + 1) * 3 = k * 3 + 3 := by omega
   rw [e3]
   exact this
theorem Reads3.tok {w : World} {A : Option Addr} {ts : List Lx.Tok} {k : Nat} (h : Reads3 w A ts.length (tokCells ts)) (hk : k < ts.length) :
  ∃ g o, A = some ⟨g, o, none⟩ ∧ g < w.heap.size ∧ w.cell? ⟨g, o + k * 3, none⟩ = some (.int .i64 ts[k].kind) ∧ w.cell? ⟨g, o + k * 3 + 1, none⟩ = some (.string ⟨ts[k].text.toArray⟩) ∧ w.cell? ⟨g, o + k * 3 + 2, none⟩ = some (.int .i64 ts[k].pos) := by
 obtain ⟨g, o, e, hg, hc⟩ := h (by omega)
 obtain ⟨a0, a1, a2⟩ := tokCells_at (List.getElem?_eq_getElem hk)
 exact ⟨g, o, e, hg, hc _ _ a0, hc _ _ a1, hc _ _ a2⟩
end Go.Proofs.YtpcmlkpnjimbiaaDoor
namespace Go.Proofs.YtpcmlkpnjimbiaaDoor
set_option linter.unusedVariables false
set_option linter.unusedSimpArgs false
open Go.RowKit
theorem lex_long_walk (s : ByteArray) (w : World) (hs : 8000 < s.size) (hm : s.size ≤ 9223372036854775807) :
  Calls Tryd.prog 24 #[.string s] w fun e w' => e = .returned (.tuple #[.slice none 0 0, .int .i64 2, .int .i64 8000]) ∧ w = w' := by
 have h8 : decide ((8000 : Int) < (s.size : Int)) = true := by simp; omega
 go_enter Tryd.func24, Tryd.ntmps24
 go_wp2
 go_step3
 go_wp2
 rw [Exit.noGoto_ret]
 go_ret3
 exact ⟨rfl, rfl⟩
theorem rlex_long_walk (s : ByteArray) (w : World) (hs : 8000 < s.size) (hm : s.size ≤ 9223372036854775807) :
  Calls Tryd.prog 9 #[.string s] w fun e w' => e = .returned (.tuple #[.slice none 0 0, .int .i64 2, .int .i64 8000]) ∧ w = w' := by
 have h8 : decide ((8000 : Int) < (s.size : Int)) = true := by simp; omega
 go_enter Tryd.func9, Tryd.ntmps9
 go_wp2
 go_ret3
 exact ⟨rfl, rfl⟩
/-- What a call of Lex leaves: the tokens in new memory, the error and the offset. -/
def Lexed (l : List UInt8) (w : World) (e : Ending) (w' : World) : Prop :=
 ∃ (A : Option Addr) (c : Nat), e = .returned (.tuple #[.slice A (Lx.lex l).1.length c, .int .i64 (Lx.lex l).2.1, .int .i64 (Lx.lex l).2.2]) ∧ w'.ownsRow w.heap.size 41 3 (.slice A (Lx.lex l).1.length c) (Lx.lex l).1.length (tokCells (Lx.lex l).1) ∧ Below w.heap.size w w'
theorem lex_any (s : ByteArray) (w : World) (hy : Syms w) (hm : s.size ≤ 9223372036854775807) : Calls Tryd.prog 24 #[.string s] w (Lexed s.data.toList w) := by
 by_cases hs : s.size ≤ 8000
 ·refine (lex_walk s w hs hy).mono fun e w' h => ?_
  obtain ⟨⟨v, he, ho⟩, hb⟩ := h
  obtain ⟨A, c, rfl⟩ := own_len ho
  exact ⟨A, c, he, ho, hb⟩
 ·have hl := lex_long (l := s.data.toList) (by rw [size_len]; omega)
  refine (lex_long_walk s w (by omega) hm).mono fun e w' h => ?_
  obtain ⟨he, rfl⟩ := h
  unfold Lexed
  rw [hl]
  exact ⟨none, 0, he, World.ownsRow_nil _ _ _ _, Below.refl _ _⟩
theorem rlex_any (s : ByteArray) (w : World) (hm : s.size ≤ 9223372036854775807) : Calls Tryd.prog 9 #[.string s] w (Lexed s.data.toList w) := by
 by_cases hs : s.size ≤ 8000
 ·refine (rlex_walk s w hs).mono fun e w' h => ?_
  obtain ⟨⟨v, he, ho⟩, hb⟩ := h
  obtain ⟨A, c, rfl⟩ := own_len ho
  exact ⟨A, c, he, ho, hb⟩
 ·have hl := lex_long (l := s.data.toList) (by rw [size_len]; omega)
  refine (rlex_long_walk s w (by omega) hm).mono fun e w' h => ?_
  obtain ⟨he, rfl⟩ := h
  unfold Lexed
  rw [hl]
  exact ⟨none, 0, he, World.ownsRow_nil _ _ _ _, Below.refl _ _⟩
theorem lex_val {s : ByteArray} {ts : List Lx.Tok} {er n : Int} (w : World) (hy : Syms w) (hm : s.size ≤ 9223372036854775807) (h : Lx.lex s.data.toList = (ts, er, n)) :
  Calls Tryd.prog 24 #[.string s] w fun e w' => ∃ (A : Option Addr) (c : Nat), e = .returned (.tuple #[.slice A ts.length c, .int .i64 er, .int .i64 n]) ∧ w'.ownsRow w.heap.size 41 3 (.slice A ts.length c) ts.length (tokCells ts) ∧ Below w.heap.size w w' := by
 have := lex_any s w hy hm
 unfold Lexed at this
 rw [h] at this
 exact this
theorem lexB : Lx.lex (⟨#[120, 60, 61, 51, 32, 121, 45, 62, 122]⟩ : ByteArray).data.toList = ([⟨1, [120], 0⟩, ⟨4, [60, 61], 1⟩, ⟨3, [51], 3⟩, ⟨1, [121], 5⟩, ⟨4, [45, 62], 6⟩, ⟨1, [122], 8⟩], 0, -1) := by rfl
end Go.Proofs.YtpcmlkpnjimbiaaDoor
