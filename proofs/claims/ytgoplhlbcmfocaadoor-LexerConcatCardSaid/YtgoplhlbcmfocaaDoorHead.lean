/- The contracts of Lex (both) at any text, and the walk of the laws' fixed examples (head) and of small. -/
import Derived.Test.YtgoplhlbcmfocaaDoorSame
namespace Go.Proofs.YtgoplhlbcmfocaaDoor
set_option linter.unusedVariables false
set_option linter.unusedSimpArgs false
open Go.RowKit
theorem lex_long_walk (s : ByteArray) (w : World) (hs : 8000 < s.size) (hm : s.size ≤ 9223372036854775807) :
    Calls Tryd.prog 12 #[.string s] w fun e w' => e = .returned (.tuple #[.slice none 0 0, .int .i64 2, .int .i64 8000]) ∧ w = w' := by
  have h8 : decide ((8000 : Int) < (s.size : Int)) = true := by simp; omega
  go_enter Tryd.func12, Tryd.ntmps12
  go_wp2
  go_step3
  go_wp2
  rw [Exit.noGoto_ret]
  go_ret3
  exact ⟨rfl, rfl⟩
theorem rlex_long_walk (s : ByteArray) (w : World) (hs : 8000 < s.size) (hm : s.size ≤ 9223372036854775807) :
    Calls Tryd.prog 13 #[.string s] w fun e w' => e = .returned (.tuple #[.slice none 0 0, .int .i64 2, .int .i64 8000]) ∧ w = w' := by
  have h8 : decide ((8000 : Int) < (s.size : Int)) = true := by simp; omega
  go_enter Tryd.func13, Tryd.ntmps13
  go_wp2
  go_ret3
  exact ⟨rfl, rfl⟩
/-- What a call of Lex leaves: the tokens in new memory, the error and the offset. -/
def Lexed (l : List UInt8) (w : World) (e : Ending) (w' : World) : Prop :=
  ∃ (A : Option Addr) (c : Nat), e = .returned (.tuple #[.slice A (Lx.lex l).1.length c, .int .i64 (Lx.lex l).2.1, .int .i64 (Lx.lex l).2.2]) ∧ w'.ownsRow w.heap.size 30 3 (.slice A (Lx.lex l).1.length c) (Lx.lex l).1.length (tokCells (Lx.lex l).1) ∧ Below w.heap.size w w'
theorem lex_any (s : ByteArray) (w : World) (hy : Syms w) (hm : s.size ≤ 9223372036854775807) : Calls Tryd.prog 12 #[.string s] w (Lexed s.data.toList w) := by
  by_cases hs : s.size ≤ 8000
  · refine (lex_walk s w hs hy).mono fun e w' h => ?_
    obtain ⟨⟨v, he, ho⟩, hb⟩ := h
    obtain ⟨A, c, rfl⟩ := own_len ho
    exact ⟨A, c, he, ho, hb⟩
  · have hl := lex_long (l := s.data.toList) (by rw [size_len]; omega)
    refine (lex_long_walk s w (by omega) hm).mono fun e w' h => ?_
    obtain ⟨he, rfl⟩ := h
    unfold Lexed
    rw [hl]
    exact ⟨none, 0, he, World.ownsRow_nil _ _ _ _, Below.refl _ _⟩
theorem rlex_any (s : ByteArray) (w : World) (hm : s.size ≤ 9223372036854775807) : Calls Tryd.prog 13 #[.string s] w (Lexed s.data.toList w) := by
  by_cases hs : s.size ≤ 8000
  · refine (rlex_walk s w hs).mono fun e w' h => ?_
    obtain ⟨⟨v, he, ho⟩, hb⟩ := h
    obtain ⟨A, c, rfl⟩ := own_len ho
    exact ⟨A, c, he, ho, hb⟩
  · have hl := lex_long (l := s.data.toList) (by rw [size_len]; omega)
    refine (rlex_long_walk s w (by omega) hm).mono fun e w' h => ?_
    obtain ⟨he, rfl⟩ := h
    unfold Lexed
    rw [hl]
    exact ⟨none, 0, he, World.ownsRow_nil _ _ _ _, Below.refl _ _⟩
theorem lex_val {s : ByteArray} {ts : List Lx.Tok} {er n : Int} (w : World) (hy : Syms w) (hm : s.size ≤ 9223372036854775807) (h : Lx.lex s.data.toList = (ts, er, n)) :
    Calls Tryd.prog 12 #[.string s] w fun e w' => ∃ (A : Option Addr) (c : Nat), e = .returned (.tuple #[.slice A ts.length c, .int .i64 er, .int .i64 n]) ∧ w'.ownsRow w.heap.size 30 3 (.slice A ts.length c) ts.length (tokCells ts) ∧ Below w.heap.size w w' := by
  have := lex_any s w hy hm
  unfold Lexed at this
  rw [h] at this
  exact this
theorem small_any (s : ByteArray) (b : Bool) (w : World) (hm : s.size ≤ 9223372036854775807) (hb : decide ((s.size : Int) ≤ 8100) = b) :
    Calls Tryd.prog 11 #[.string s] w fun e w' => e = .returned (.bool b) ∧ w = w' := by
  subst hb
  go_enter Tryd.func11, Tryd.ntmps11
  go_wp2
  go_ret
  exact ⟨rfl, rfl⟩
theorem lexA : Lx.lex (⟨#[112, 40, 88, 44, 97, 41, 58, 45, 113, 46, 37, 101, 110, 100]⟩ : ByteArray).data.toList = ([⟨1, [112], 0⟩, ⟨4, [40], 1⟩, ⟨2, [88], 2⟩, ⟨4, [44], 3⟩, ⟨1, [97], 4⟩, ⟨4, [41], 5⟩, ⟨4, [58, 45], 6⟩, ⟨1, [113], 8⟩, ⟨4, [46], 9⟩], 0, -1) := by rfl
theorem lexB : Lx.lex (⟨#[120, 60, 61, 51, 32, 121, 45, 62, 122]⟩ : ByteArray).data.toList = ([⟨1, [120], 0⟩, ⟨4, [60, 61], 1⟩, ⟨3, [51], 3⟩, ⟨1, [121], 5⟩, ⟨4, [45, 62], 6⟩, ⟨1, [122], 8⟩], 0, -1) := by rfl
theorem lexC : Lx.lex (⟨#[97, 32, 45, 32, 98]⟩ : ByteArray).data.toList = ([], 40, 2) := by rfl
theorem lexD : Lx.lex (⟨#[112, 40, 48, 48, 55, 41]⟩ : ByteArray).data.toList = ([], 40, 2) := by rfl
theorem lexE : Lx.lex (⟨#[51, 120]⟩ : ByteArray).data.toList = ([], 40, 0) := by rfl
theorem toks_cells {w : World} {B c : Nat} {A : Option Addr} {ts : List Lx.Tok} (h : w.ownsRow B 30 3 (.slice A ts.length c) ts.length (tokCells ts)) (h0 : ts ≠ []) :
    ∃ g, A = some ⟨g, 0, none⟩ ∧ B ≤ g ∧ g < w.heap.size ∧ ∀ (j : Nat) (u : Value), (tokCells ts)[j]? = some u → w.cell? ⟨g, j, none⟩ = some u := by
  rcases h.2 with ⟨_, hz⟩ | ⟨g, cap, cur, hv, hg, hh, h1, h2, h3, h4⟩
  · exact absurd (List.length_eq_zero_iff.1 hz) h0
  · simp only [Value.slice.injEq, true_and] at hv
    obtain ⟨rfl, rfl⟩ := hv
    refine ⟨g, rfl, hg, (Array.getElem?_eq_some_iff.1 hh).1, fun j u hu => ?_⟩
    rw [cell_of_row w g j cur _ (0, 0) hh]
    rw [← h4, List.getElem?_take] at hu
    split at hu
    · simpa using hu
    · cases hu
set_option maxHeartbeats 2000000 in
set_option maxRecDepth 100000 in
theorem head_any (w : World) (hy : Syms w) : Calls Tryd.prog 10 #[] w fun e w' => e = .returned (.bool true) ∧ Below w.heap.size w w' := by
  have hl := hy.lt
  go_enter Tryd.func10, Tryd.ntmps10
  go_wp2_with fail
  refine (lex_val _ hy (by decide) lexA).mono ?_
  rintro e w1 ⟨A1, k1, rfl, o1, b1⟩
  obtain ⟨g1, rfl, hB1, hg1, hc1⟩ := toks_cells o1 (by simp)
  have y1 := hy.below b1 hl
  go_wp2_with fail
  refine (lex_val _ y1 (by decide) lexB).mono ?_
  rintro e w2 ⟨A2, k2, rfl, o2, b2⟩
  obtain ⟨g2, rfl, hB2, hg2, hc2⟩ := toks_cells o2 (by simp)
  have y2 := y1.below b2 y1.lt
  go_wp2_with fail
  refine (lex_val _ y2 (by decide) lexC).mono ?_
  rintro e w3 ⟨A3, k3, rfl, o3, b3⟩
  have y3 := y2.below b3 y2.lt
  go_wp2_with fail
  refine (lex_val _ y3 (by decide) lexD).mono ?_
  rintro e w4 ⟨A4, k4, rfl, o4, b4⟩
  have y4 := y3.below b4 y3.lt
  go_wp2_with fail
  refine (lex_val _ y4 (by decide) lexE).mono ?_
  rintro e w5 ⟨A5, k5, rfl, o5, b5⟩
  have b15 : Below w1.heap.size w1 w5 := ((b2.trans (b3.mono b2.size)).trans (b4.mono (Nat.le_trans b2.size b3.size))).trans (b5.mono (Nat.le_trans b2.size (Nat.le_trans b3.size b4.size)))
  have b25 : Below w2.heap.size w2 w5 := (b3.trans (b4.mono b3.size)).trans (b5.mono (Nat.le_trans b3.size b4.size))
  have r1 : ∀ (j : Nat) (u : Value), (tokCells [⟨1, [112], 0⟩, ⟨4, [40], 1⟩, ⟨2, [88], 2⟩, ⟨4, [44], 3⟩, ⟨1, [97], 4⟩, ⟨4, [41], 5⟩, ⟨4, [58, 45], 6⟩, ⟨1, [113], 8⟩, ⟨4, [46], 9⟩])[j]? = some u → w5.cell? ⟨g1, j, none⟩ = some u := fun j u hu => (b15.cell (p := ⟨g1, j, none⟩) hg1).trans (hc1 j u hu)
  have r2 : ∀ (j : Nat) (u : Value), (tokCells [⟨1, [120], 0⟩, ⟨4, [60, 61], 1⟩, ⟨3, [51], 3⟩, ⟨1, [121], 5⟩, ⟨4, [45, 62], 6⟩, ⟨1, [122], 8⟩])[j]? = some u → w5.cell? ⟨g2, j, none⟩ = some u := fun j u hu => (b25.cell (p := ⟨g2, j, none⟩) hg2).trans (hc2 j u hu)
  have q1 := r1 6 _ rfl; have q2 := r1 7 _ rfl; have q3 := r1 8 _ rfl
  have q4 := r1 18 _ rfl; have q5 := r1 19 _ rfl; have q6 := r1 20 _ rfl
  have q7 := r1 25 _ rfl
  have p1 := r2 4 _ rfl
  have p2 := r2 6 _ rfl; have p3 := r2 7 _ rfl; have p4 := r2 8 _ rfl
  have p5 := r2 13 _ rfl
  have bf : Below w.heap.size w w5 := b1.trans (b15.mono b1.size)
  clear hc1 hc2 r1 r2 o1 o2 o3 o4 o5 b2 b3 b4 b15 b25 y1 y2 y3 y4 hB1 hB2 hg1 hg2
  go_wp2
  go_ret
  exact ⟨rfl, bf⟩
end Go.Proofs.YtgoplhlbcmfocaaDoor
