/- The walk of the lexer's next: the token at the beginning of a text. -/
import Derived.Test.YtgoplhlbcmfocaaDoorWord
import Derived.Laws.Rows
import Derived.Shelf.Strings.SlTrimAscii
namespace Go.Proofs.YtgoplhlbcmfocaaDoor
set_option linter.unusedVariables false
set_option linter.unusedSimpArgs false
open Go.RowKit
def symA : Array Value := (Lx.symbols.map fun l => Value.string ⟨l.toArray⟩).toArray
def Syms (w : World) : Prop := ∃ t fr, w.heap[0]? = some (.cells symA t fr)
theorem Syms.below {w w' : World} {B : Nat} (h : Syms w) (hb : Below B w w') (hB : 0 < B) : Syms w' := by
  obtain ⟨t, fr, h⟩ := h; exact ⟨t, fr, (hb.block _ hB).trans h⟩
theorem Syms.lt {w : World} (h : Syms w) : 0 < w.heap.size := by
  obtain ⟨t, fr, h⟩ := h; exact (Array.getElem?_eq_some_iff.1 h).1
theorem sym_index (w : World) (i : Nat) (h : i < 15) : (Instr.index 48 (.agg symA) (.int .i64 i)).run Tryd.prog w = .ok (.string ⟨(Lx.symbols.getD i []).toArray⟩) w := by
  rcases (by omega : i = 0 ∨ i = 1 ∨ i = 2 ∨ i = 3 ∨ i = 4 ∨ i = 5 ∨ i = 6 ∨ i = 7 ∨ i = 8 ∨ i = 9 ∨ i = 10 ∨ i = 11 ∨ i = 12 ∨ i = 13 ∨ i = 14) with rfl | rfl | rfl | rfl | rfl | rfl | rfl | rfl | rfl | rfl | rfl | rfl | rfl | rfl | rfl
  all_goals kernel_rfl
theorem trim_any (s : ByteArray) (w : World) (hs : s.size ≤ 9223372036854775807) :
    Calls Tryd.prog 32 #[.string s, .string ⟨#[48, 49, 50, 51, 52, 53, 54, 55, 56, 57]⟩] w fun e w' => e = .returned (.string ⟨(Lib.trimS s.data.toList [48, 49, 50, 51, 52, 53, 54, 55, 56, 57]).toArray⟩) ∧ Below w.heap.size w w' :=
  Any.strings_Trim_laid Tryd.lays160 (by kernel_rfl) s ⟨#[48, 49, 50, 51, 52, 53, 54, 55, 56, 57]⟩ w hs (by decide) (by intro j b hj; match j, hj with
    | 0, hj | 1, hj | 2, hj | 3, hj | 4, hj | 5, hj | 6, hj | 7, hj | 8, hj | 9, hj => simp at hj; subst hj; decide
    | n + 10, hj => simp at hj)
theorem has_prefix (l p : List UInt8) : Lib.hasPrefix l p = p.isPrefixOf l := by
  rw [← Lib.hasPrefix_of_take, Bool.eq_iff_iff, List.isPrefixOf_iff_prefix]
  simp only [Bool.and_eq_true, decide_eq_true_eq, beq_iff_eq]
  constructor
  · rintro ⟨_, h⟩; exact ⟨l.drop p.length, (congrArg (· ++ _) h.symm).trans (List.take_append_drop _ _)⟩
  · rintro ⟨r, rfl⟩; simp
theorem hasp_any (s : ByteArray) (p : List UInt8) (b : Bool) (w : World) (h : p.isPrefixOf s.data.toList = b) :
    Calls Tryd.prog 33 #[.string s, .string ⟨p.toArray⟩] w fun e w' => e = .returned (.bool b) ∧ w = w' :=
  (Tryd.strings_HasPrefix s ⟨p.toArray⟩ w).mono fun _ _ ⟨h1, h2⟩ => ⟨by rw [h1, has_prefix, ← h], h2.symm⟩
theorem sym_hit {l : List UInt8} {k : Nat} (hk : k < 15) (hno : ∀ j, j < k → (Lx.symbols.getD j []).isPrefixOf l = false) (hy : (Lx.symbols.getD k []).isPrefixOf l = true) :
    Lx.symbols.find? (fun p => p.isPrefixOf l) = some (Lx.symbols.getD k []) := by
  rw [List.find?_eq_some_iff_getElem]
  refine ⟨hy, k, by simp [Lx.symbols]; omega, ?_, fun j hj => ?_⟩
  · rw [List.getD_eq_getElem?_getD, List.getElem?_eq_getElem (by simp [Lx.symbols]; omega)]; rfl
  · have := hno j hj
    rw [List.getD_eq_getElem?_getD, List.getElem?_eq_getElem (by simp [Lx.symbols]; omega)] at this
    simpa using this
theorem sym_none {l : List UInt8} (hno : ∀ j, j < 15 → (Lx.symbols.getD j []).isPrefixOf l = false) : Lx.symbols.find? (fun p => p.isPrefixOf l) = none := by
  rw [List.find?_eq_none]
  intro p hp
  obtain ⟨j, hj, rfl⟩ := List.getElem_of_mem hp
  have := hno j (by simpa [Lx.symbols] using hj)
  rw [List.getD_eq_getElem?_getD, List.getElem?_eq_getElem hj] at this
  simp only [Option.getD_some] at this
  rw [this]; simp
theorem next_hit {l : List UInt8} (hw : Lx.wordLen l = 0) {p : List UInt8} (hp : Lx.symbols.find? (fun p => p.isPrefixOf l) = some p) : Lx.next l = (4, p.length) ∧ l.take p.length = p := by
  have h1 := List.find?_some hp
  have h2 : p.length ≠ 0 := by
    have := List.mem_of_find?_eq_some hp
    intro h0; rw [List.length_eq_zero_iff.1 h0] at this; simp [Lx.symbols] at this
  have h3 : Lx.symLen l = p.length := by simp [Lx.symLen, hp]
  refine ⟨by simp [Lx.next, hw, h3, h2], ?_⟩
  obtain ⟨r, rfl⟩ := List.isPrefixOf_iff_prefix.1 h1
  simp
theorem next_none {l : List UInt8} (hw : Lx.wordLen l = 0) (hp : Lx.symbols.find? (fun p => p.isPrefixOf l) = none) : Lx.next l = (0, 0) := by
  simp [Lx.next, hw, Lx.symLen, hp]
set_option maxHeartbeats 1000000 in
set_option maxRecDepth 100000 in
theorem next_sym (s : ByteArray) (w : World) (hs : s.size ≤ 9223372036854775807) (hy : Syms w) (hw : Lx.wordLen s.data.toList = 0) :
    Calls Tryd.prog 21 #[.string s] w fun e w' => (∃ t : ByteArray, e = .returned (.agg #[.int .i64 (Lx.next s.data.toList).1, .string t, .int .i64 0]) ∧ t.data.toList = s.data.toList.take (Lx.next s.data.toList).2) ∧ Below w.heap.size w w' := by
  go_enter Tryd.func21, Tryd.ntmps21
  have HW := Lib.hid hw; clear hw
  have HB : ∀ w1, Below (w.heap.size + 1) (w.alloc (.cells #[.int .i64 0, .string ⟨#[]⟩, .int .i64 0] 30)) w1 → Syms w1 := fun w1 hb => hy.below (((Below.refl w.heap.size w).alloc (Nat.le_refl _) _).trans (hb.mono (by omega))) hy.lt
  have hlt0 := hy.lt
  clear hy
  go_wp2_with (first
    | (go_at_call 29; refine (word_any _ _ hs).mono ?_; rintro e w1 ⟨⟨t, rfl, ht⟩, hb⟩; obtain rfl := str_empty (t := t) (by rw [ht, ← Lx.take_wordLen, HW.out]; rfl); clear ht; obtain ⟨tt, fr, hg1⟩ := HB w1 (by simpa using hb))
    | (refine wpList_load_row rfl 48 _ rfl 0 rfl tt _ fr _ hg1 Tryd.underlying48 rfl (by kernel_rfl) ?_))
  have hbelow : Below w.heap.size w w1 := ((Below.refl w.heap.size w).alloc (Nat.le_refl _) _).trans (hb.mono (by simp))
  have hA : At w1 w.heap.size 30 #[.int .i64 0, .string ⟨#[]⟩, .int .i64 0] := (At.new w _ _).below hb (by simp)
  have c0 : w1.cell? ⟨w.heap.size, 0, none⟩ = some (.int .i64 0) := hA.cell 0
  have c1 : w1.cell? ⟨w.heap.size, 1, none⟩ = some (.string ⟨#[]⟩) := hA.cell 1
  have c2 : w1.cell? ⟨w.heap.size, 2, none⟩ = some (.int .i64 0) := hA.cell 2
  have f0 := hA.frozen 0
  have f1 := hA.frozen 1
  have f2 := hA.frozen 2
  clear hb
  go_loop [53] (fun i => ∃ k : Nat, k ≤ 15 ∧ Hid (∀ j, j < k → (Lx.symbols.getD j []).isPrefixOf s.data.toList = false) ∧ i = .int .i64 k) (fun i => 15 - (intOf i).toNat)
  case atStart => exact ⟨0, by omega, Lib.hid (fun j hj => absurd hj (by omega)), rfl⟩
  case round =>
    obtain ⟨k, hk, HN, rfl⟩ := hrel
    by_cases hlt : k < 15
    · obtain ⟨p, hpk⟩ : ∃ p, p = Lx.symbols.getD k [] := ⟨_, rfl⟩
      have hix := fun w => sym_index w k hlt
      rw [← hpk] at hix
      cases hp : p.isPrefixOf s.data.toList
      · have HP := Lib.hid hp; have HK := Lib.hid hpk; clear hp hpk
        go_wp2_with (go_at_call 33; refine (hasp_any _ _ _ _ HP.out).mono ?_; rintro e w' ⟨rfl, rfl⟩)
        go_round
        case rel => exact ⟨k + 1, by omega, Lib.hid (fun j hj => by
          by_cases e : j = k
          · rw [e, ← HK.out]; exact HP.out
          · exact HN.out j (by omega)), by go_num⟩
        case measure => simp [intOf]; omega
      · have HP := Lib.hid hp; have HK := Lib.hid hpk; clear hp hpk
        have HR := Lib.hid (next_hit HW.out (sym_hit hlt HN.out (HK.out ▸ HP.out)))
        go_wp2_with (go_at_call 33; refine (hasp_any _ _ _ _ HP.out).mono ?_; rintro e w' ⟨rfl, rfl⟩)
        refine bodyPost_ret (results_cell_row rfl _ _ w.heap.size 30 _ (0, 0) _ rfl (((hA.put 0 _).put 1 _).put 2 _) Tryd.underlying30 rfl (by kernel_rfl)) rfl ?_
        refine ⟨⟨⟨p.toArray⟩, by rw [HR.out.1]; rfl, by rw [HR.out.1, ← HK.out] ; simpa [HK.out] using HR.out.2.symm⟩, ?_⟩
        exact ((hbelow.setCell (by simp) _).setCell (by simp) _).setCell (by simp) _
    · obtain rfl : k = 15 := by omega
      have HR := Lib.hid (next_none HW.out (sym_none HN.out))
      go_wp2
      refine bodyPost_ret (results_cell_row rfl _ _ w.heap.size 30 _ (0, 0) _ rfl (((hA.put 0 _).put 1 _).put 2 _) Tryd.underlying30 rfl (by kernel_rfl)) rfl ?_
      refine ⟨⟨⟨#[]⟩, by rw [HR.out]; rfl, by rw [HR.out]; rfl⟩, ?_⟩
      exact ((hbelow.setCell (by simp) _).setCell (by simp) _).setCell (by simp) _
end Go.Proofs.YtgoplhlbcmfocaaDoor
