/- The walk of the lexer's next: the token at the beginning of a text. -/
import Derived.Test.YtpcmlkpnjimbiaaDoorWord
import Derived.Laws.Rows
import Derived.Shelf.Strings.SlTrimAscii
namespace Go.Proofs.YtpcmlkpnjimbiaaDoor
set_option linter.unusedVariables false
set_option linter.unusedSimpArgs false
open Go.RowKit
def symA : Array Value := (Lx.symbols.map fun l => Value.string ⟨l.toArray⟩).toArray
def Syms (w : World) : Prop := ∃ t fr, w.heap[1]? = some (.cells symA t fr)
theorem Syms.below {w w' : World} {B : Nat} (h : Syms w) (hb : Below B w w') (hB : 1 < B) : Syms w' := by
 obtain ⟨t, fr, h⟩ := h; exact ⟨t, fr, (hb.block _ hB).trans h⟩
theorem Syms.lt {w : World} (h : Syms w) : 1 < w.heap.size := by
 obtain ⟨t, fr, h⟩ := h; exact (Array.getElem?_eq_some_iff.1 h).1
theorem sym_index (w : World) (i : Nat) (h : i < 15) : (Instr.index 124 (.agg symA) (.int .i64 i)).run Tryd.prog w = .ok (.string ⟨(Lx.symbols.getD i []).toArray⟩) w := by
 rcases (by omega : i = 0 ∨ i = 1 ∨ i = 2 ∨ i = 3 ∨ i = 4 ∨ i = 5 ∨ i = 6 ∨ i = 7 ∨ i = 8 ∨ i = 9 ∨ i = 10 ∨ i = 11 ∨ i = 12 ∨ i = 13 ∨ i = 14) with rfl | rfl | rfl | rfl | rfl | rfl | rfl | rfl | rfl | rfl | rfl | rfl | rfl | rfl | rfl
 all_goals kernel_rfl
theorem trim_any (s : ByteArray) (w : World) (hs : s.size ≤ 9223372036854775807) :
  Calls Tryd.prog 72 #[.string s, .string ⟨#[48, 49, 50, 51, 52, 53, 54, 55, 56, 57]⟩] w fun e w' => e = .returned (.string ⟨(Lib.trimS s.data.toList [48, 49, 50, 51, 52, 53, 54, 55, 56, 57]).toArray⟩) ∧ Below w.heap.size w w' :=
 Any.strings_Trim_laid Tryd.lays160 (by kernel_rfl) s ⟨#[48, 49, 50, 51, 52, 53, 54, 55, 56, 57]⟩ w hs (by decide) (by intro j b hj; match j, hj with
  | 0, hj | 1, hj | 2, hj | 3, hj | 4, hj | 5, hj | 6, hj | 7, hj | 8, hj | 9, hj => simp at hj; subst hj; decide
  | n + 10, hj => simp at hj)
theorem has_prefix (l p : List UInt8) : Lib.hasPrefix l p = p.isPrefixOf l := by
 rw [← Lib.hasPrefix_of_take, Bool.eq_iff_iff, List.isPrefixOf_iff_prefix]
 simp only [Bool.and_eq_true, decide_eq_true_eq, beq_iff_eq]
 constructor
 ·rintro ⟨_, h⟩; exact ⟨l.drop p.length, (congrArg (· ++ _) h.symm).trans (List.take_append_drop _ _)⟩
 ·rintro ⟨r, rfl⟩; simp
theorem hasp_any (s : ByteArray) (p : List UInt8) (b : Bool) (w : World) (h : p.isPrefixOf s.data.toList = b) :
  Calls Tryd.prog 73 #[.string s, .string ⟨p.toArray⟩] w fun e w' => e = .returned (.bool b) ∧ w = w' :=
 (Tryd.strings_HasPrefix s ⟨p.toArray⟩ w).mono fun _ _ ⟨h1, h2⟩ => ⟨by rw [h1, has_prefix, ← h], h2.symm⟩
theorem sym_hit {l : List UInt8} {k : Nat} (hk : k < 15) (hno : ∀ j, j < k → (Lx.symbols.getD j []).isPrefixOf l = false) (hy : (Lx.symbols.getD k []).isPrefixOf l = true) :
  Lx.symbols.find? (fun p => p.isPrefixOf l) = some (Lx.symbols.getD k []) := by
 rw [List.find?_eq_some_iff_getElem]
 refine ⟨hy, k, by simp [Lx.symbols]; omega, ?_, fun j hj => ?_⟩
 ·rw [List.getD_eq_getElem?_getD, List.getElem?_eq_getElem (by simp [Lx.symbols]; omega)]; rfl
 ·have := hno j hj
  rw [List.getD_eq_getElem?_getD, List.getElem?_eq_getElem (by simp [Lx.symbols]; omega)] at this
  simpa using this
theorem sym_none {l : List UInt8} (hno : ∀ j, j < 15 → (Lx.symbols.getD j []).isPrefixOf l = false) : Lx.symbols.find? (fun p => p.isPrefixOf l) = none := by
 rw [List.find?_eq_none]
 intro p hp
 obtain ⟨j, hj, rfl⟩ := List.getElem_of_mem hp
 have := hno j (by simpa [Lx.symbols] using hj)
 rw [List.getD_eq_getElem?_getD, List.getElem?_eq_getElem hj] at this
 simp only [Option.getD_some] at this
 rw [this]; simp
theorem next_hit {l : List UInt8} (hw : Lx.wordLen l = 0) {p : List UInt8} (hp : Lx.symbols.find? (fun p => p.isPrefixOf l) = some p) : Lx.next l = (4, p.length) ∧ l.take p.length = p := by
 have h1 := List.find?_some hp
 have h2 : p.length ≠ 0 := by
  have := List.mem_of_find?_eq_some hp
  intro h0; rw [List.length_eq_zero_iff.1 h0] at this; simp [Lx.symbols] at this
 have h3 : Lx.symLen l = p.length := by simp [Lx.symLen, hp]
 refine ⟨by simp [Lx.next, hw, h3, h2], ?_⟩
 obtain ⟨r, rfl⟩ := List.isPrefixOf_iff_prefix.1 h1
 simp
theorem next_none {l : List UInt8} (hw : Lx.wordLen l = 0) (hp : Lx.symbols.find? (fun p => p.isPrefixOf l) = none) : Lx.next l = (0, 0) := by
 simp [Lx.next, hw, Lx.symLen, hp]
set_option maxHeartbeats 1000000 in
set_option maxRecDepth 100000 in
theorem next_sym (s : ByteArray) (w : World) (hs : s.size ≤ 9223372036854775807) (hy : Syms w) (hw : Lx.wordLen s.data.toList = 0) :
  Calls Tryd.prog 48 #[.string s] w fun e w' => (∃ t : ByteArray, e = .returned (.agg #[.int .i64 (Lx.next s.data.toList).1, .string t, .int .i64 0]) ∧ t.data.toList = s.data.toList.take (Lx.next s.data.toList).2) ∧ Below w.heap.size w w' := by
 go_enter Tryd.func48, Tryd.ntmps48
 have HW := Lib.hid hw; clear hw
 have HB : ∀ w1, Below (w.heap.size + 1) (w.alloc (.cells #[.int .i64 0, .string ⟨#[]⟩, .int .i64 0] 41)) w1 → Syms w1 := fun w1 hb => hy.below (((Below.refl w.heap.size w).alloc (Nat.le_refl _) _).trans (hb.mono (by omega))) hy.lt
 have hlt0 := hy.lt
 clear hy
 go_wp2_with (first
  | (go_at_call 69; refine (word_any _ _ hs).mono ?_; rintro e w1 ⟨⟨t, rfl, ht⟩, hb⟩; obtain rfl := str_empty (t := t) (by rw [ht, ← Lx.take_wordLen, HW.out]; rfl); clear ht; obtain ⟨tt, fr, hg1⟩ := HB w1 (by simpa using hb))
  | (refine wpList_load_row rfl 124 _ rfl 1 rfl tt _ fr _ hg1 Tryd.underlying124 rfl (by kernel_rfl) ?_))
 have hbelow : Below w.heap.size w w1 := ((Below.refl w.heap.size w).alloc (Nat.le_refl _) _).trans (hb.mono (by simp))
 have hA : At w1 w.heap.size 41 #[.int .i64 0, .string ⟨#[]⟩, .int .i64 0] := (At.new w _ _).below hb (by simp)
 have c0 : w1.cell? ⟨w.heap.size, 0, none⟩ = some (.int .i64 0) := hA.cell 0
 have c1 : w1.cell? ⟨w.heap.size, 1, none⟩ = some (.string ⟨#[]⟩) := hA.cell 1
 have c2 : w1.cell? ⟨w.heap.size, 2, none⟩ = some (.int .i64 0) := hA.cell 2
 have f0 := hA.frozen 0
 have f1 := hA.frozen 1
 have f2 := hA.frozen 2
 clear hb
 go_loop [53] (fun i => ∃ k : Nat, k ≤ 15 ∧ Hid (∀ j, j < k → (Lx.symbols.getD j []).isPrefixOf s.data.toList = false) ∧ i = .int .i64 k) (fun i => 15 - (intOf i).toNat)
 case atStart => exact ⟨0, by omega, Lib.hid (fun j hj => absurd hj (by omega)), rfl⟩
 case round =>
  obtain ⟨k, hk, HN, rfl⟩ := hrel
  by_cases hlt : k < 15
  ·obtain ⟨p, hpk⟩ : ∃ p, p = Lx.symbols.getD k [] := ⟨_, rfl⟩
   have hix := fun w => sym_index w k hlt
   rw [← hpk] at hix
   cases hp : p.isPrefixOf s.data.toList
   ·have HP := Lib.hid hp; have HK := Lib.hid hpk; clear hp hpk
    go_wp2_with (go_at_call 73; refine (hasp_any _ _ _ _ HP.out).mono ?_; rintro e w' ⟨rfl, rfl⟩)
    go_round
    case rel => exact ⟨k + 1, by omega, Lib.hid (fun j hj => by
     by_cases e : j = k
     ·rw [e, ← HK.out]; exact HP.out
     ·exact HN.out j (by omega)), by go_num⟩
    case measure => simp [intOf]; omega
   ·have HP := Lib.hid hp; have HK := Lib.hid hpk; clear hp hpk
    have HR := Lib.hid (next_hit HW.out (sym_hit hlt HN.out (HK.out ▸ HP.out)))
    go_wp2_with (go_at_call 73; refine (hasp_any _ _ _ _ HP.out).mono ?_; rintro e w' ⟨rfl, rfl⟩)
    refine bodyPost_ret (results_cell_row rfl _ _ w.heap.size 41 _ (0, 0) _ rfl (((hA.put 0 _).put 1 _).put 2 _) Tryd.underlying41 rfl (by kernel_rfl)) rfl ?_
    refine ⟨⟨⟨p.toArray⟩, by rw [HR.out.1]; rfl, by rw [HR.out.1, ← HK.out] ; simpa [HK.out] using HR.out.2.symm⟩, ?_⟩
    exact ((hbelow.setCell (by simp) _).setCell (by simp) _).setCell (by simp) _
  ·obtain rfl : k = 15 := by omega
   have HR := Lib.hid (next_none HW.out (sym_none HN.out))
   go_wp2
   refine bodyPost_ret (results_cell_row rfl _ _ w.heap.size 41 _ (0, 0) _ rfl (((hA.put 0 _).put 1 _).put 2 _) Tryd.underlying41 rfl (by kernel_rfl)) rfl ?_
   refine ⟨⟨⟨#[]⟩, by rw [HR.out]; rfl, by rw [HR.out]; rfl⟩, ?_⟩
   exact ((hbelow.setCell (by simp) _).setCell (by simp) _).setCell (by simp) _
end Go.Proofs.YtpcmlkpnjimbiaaDoor
namespace Go.Proofs.YtpcmlkpnjimbiaaDoor
set_option linter.unusedVariables false
set_option linter.unusedSimpArgs false
open Go.RowKit
theorem trim_digits (l : List UInt8) : (Lib.trimS l [48, 49, 50, 51, 52, 53, 54, 55, 56, 57]).isEmpty = l.all Lx.digitB := by
 have e : ∀ c : UInt8, [48, 49, 50, 51, 52, 53, 54, 55, 56, 57].contains c = Lx.digitB c := by
  intro c
  rw [Bool.eq_iff_iff]
  simp only [List.contains_eq_mem, List.mem_cons, List.not_mem_nil, or_false, decide_eq_true_eq, Lx.digitB, Bool.and_eq_true, ← UInt8.toNat_inj]
  simp
  omega
 have e3 : ∀ m : List UInt8, (m.dropWhile Lx.digitB).all Lx.digitB = m.all Lx.digitB := by
  intro m; induction m with
  | nil => rfl
  | cons c m ih =>
   rw [List.dropWhile_cons]
   cases h : Lx.digitB c
   ·rw [if_neg (by simp)]
   ·rw [if_pos rfl, ih, List.all_cons, h, Bool.true_and]
 have e1 : ∀ m : List UInt8, (m.dropWhile Lx.digitB).isEmpty = m.all Lx.digitB := by
  intro m; induction m with
  | nil => rfl
  | cons c m ih =>
   rw [List.dropWhile_cons]
   cases h : Lx.digitB c
   ·rw [if_neg (by simp), List.all_cons, h]; rfl
   ·rw [if_pos rfl, ih, List.all_cons, h, Bool.true_and]
 have e2 : (fun c => [48, 49, 50, 51, 52, 53, 54, 55, 56, 57].contains c) = Lx.digitB := funext e
 unfold Lib.trimS Lib.trimLeftS Lib.trimRightS
 rw [e2, e1, List.all_reverse, e3, List.all_reverse]
theorem trim_dig (s : ByteArray) (b : Bool) (w : World) (hs : s.size ≤ 9223372036854775807) (h : s.data.toList.all Lx.digitB = b) :
  Calls Tryd.prog 72 #[.string s, .string ⟨#[48, 49, 50, 51, 52, 53, 54, 55, 56, 57]⟩] w fun e w' => (∃ u : ByteArray, e = .returned (.string u) ∧ u.toList.isEmpty = b) ∧ Below w.heap.size w w' :=
 (trim_any s w hs).mono fun _ _ ⟨h1, h2⟩ => ⟨⟨_, h1, by rw [Lib.toList_data, ← h]; exact trim_digits _⟩, h2⟩
theorem next_zero {l : List UInt8} {t : ByteArray} (hw : Lx.wordLen l ≠ 0) (ht : t.data.toList = l.takeWhile Lx.wordB) (h : Lx.wkind t.data.toList = 0) : Lx.next l = (0, 0) := by
 simp only [Lx.next, if_neg hw, Lx.take_wordLen, ← ht, h, if_true]
theorem next_kind {l : List UInt8} {t : ByteArray} {k : Nat} (hw : Lx.wordLen l ≠ 0) (ht : t.data.toList = l.takeWhile Lx.wordB) (h : Lx.wkind t.data.toList = k) (hk : k ≠ 0) : Lx.next l = (k, Lx.wordLen l) ∧ t.data.toList = l.take (Lx.wordLen l) := by
 refine ⟨?_, by rw [ht, Lx.take_wordLen]⟩
 simp only [Lx.next, if_neg hw, Lx.take_wordLen, ← ht, h, if_neg hk]
theorem cons0 {t : ByteArray} (h : 0 < t.size) : t.data.toList = t[0] :: t.data.toList.drop 1 := by simpa using drop_cons t 0 h
theorem wk_eq {t : ByteArray} (h : 0 < t.size) : Lx.wkind t.data.toList = if 16 < t.size then 0 else if lowB (t[0].toNat : Int) then 1 else if uppB (t[0].toNat : Int) then 2 else if t.data.toList.all Lx.digitB && decide (t.size ≤ 4) && (((t[0].toNat : Int) != 48) || ((t.size : Int) == 1)) then 3 else 0 := by
 have e1 : (t.data.toList.drop 1).isEmpty = ((t.size : Int) == 1) := by
  rw [Bool.eq_iff_iff, List.isEmpty_iff, ← List.length_eq_zero_iff, List.length_drop, size_len, beq_iff_eq]; omega
 have e2 : (!(t[0] == 48)) = ((t[0].toNat : Int) != 48) := by rw [u8_eq]; rfl
 have hlen : (t.data.toList.drop 1).length + 1 = t.size := by rw [List.length_drop, size_len]; omega
 have e4 := cons0 h
 rw [← e1, ← e2, ← lowerB_eq, ← upperB_eq]
 generalize t[0] = c at *
 generalize t.data.toList.drop 1 = r at *
 rw [e4]
 simp only [Lx.wkind, List.length_cons, hlen]
set_option maxHeartbeats 1000000 in
set_option maxRecDepth 100000 in
theorem next_word (s : ByteArray) (w : World) (hs : s.size ≤ 9223372036854775807) (hw : Lx.wordLen s.data.toList ≠ 0) :
  Calls Tryd.prog 48 #[.string s] w fun e w' => (∃ t : ByteArray, e = .returned (.agg #[.int .i64 (Lx.next s.data.toList).1, .string t, .int .i64 0]) ∧ t.data.toList = s.data.toList.take (Lx.next s.data.toList).2) ∧ Below w.heap.size w w' := by
 have HW := Lib.hid hw; clear hw
 have hw0 := Lib.hid (Lx.wordLen_le s.data.toList)
 go_enter Tryd.func48, Tryd.ntmps48
 go_wp2_with fail
 refine (word_any _ _ hs).mono ?_
 rintro e w1 ⟨⟨t, rfl, ht⟩, hb⟩
 have hbelow : Below w.heap.size w w1 := ((Below.refl w.heap.size w).alloc (Nat.le_refl _) _).trans (hb.mono (by simp))
 have hA : At w1 w.heap.size 41 #[.int .i64 0, .string ⟨#[]⟩, .int .i64 0] := (At.new w _ _).below hb (by simp)
 have c0 : w1.cell? ⟨w.heap.size, 0, none⟩ = some (.int .i64 0) := hA.cell 0
 have c1 : w1.cell? ⟨w.heap.size, 1, none⟩ = some (.string ⟨#[]⟩) := hA.cell 1
 have c2 : w1.cell? ⟨w.heap.size, 2, none⟩ = some (.int .i64 0) := hA.cell 2
 have f0 := hA.frozen 0
 have f1 := hA.frozen 1
 have f2 := hA.frozen 2
 clear hb
 have HT := Lib.hid ht; clear ht
 have hsz : 0 < t.size := by
  rw [← size_len, HT.out, ← Lx.take_wordLen, List.length_take]; have := HW.out; have := hw0.out; omega
 have htl : t.size ≤ s.size := by
  rw [← size_len, ← size_len s, HT.out, ← Lx.take_wordLen, List.length_take]; omega
 have HK := Lib.hid (wk_eq hsz)
 have hne : t.toList.isEmpty = false := by rw [Lib.toList_data, List.isEmpty_eq_false_iff, ← List.length_pos_iff, size_len]; exact hsz
 by_cases hl : (16 : Int) < t.size
 ·have HZ := Lib.hid (next_zero HW.out HT.out (by rw [HK.out, if_pos (by omega)]))
  go_wp2_with fail
  refine bodyPost_ret (results_cell_row rfl _ _ w.heap.size 41 _ (0, 0) _ rfl (((hA.put 0 _).put 1 _).put 2 _) Tryd.underlying41 rfl (by kernel_rfl)) rfl ?_; refine ⟨⟨⟨#[]⟩, by rw [HZ.out]; rfl, by rw [HZ.out]; rfl⟩, ?_⟩; exact ((hbelow.setCell (by simp) _).setCell (by simp) _).setCell (by simp) _
 ·cases h1 : lowB (t[0].toNat : Int)
  ·cases h2 : uppB (t[0].toNat : Int)
   ·cases h3 : t.data.toList.all Lx.digitB
    ·have HZ := Lib.hid (next_zero HW.out HT.out (by rw [HK.out, if_neg (by omega), h1, h2, h3]; simp))
     have H1 := Lib.hid h1; have H2 := Lib.hid h2; have H3 := Lib.hid h3; clear h1 h2 h3
     go_wp2_with (first | (go_at_call 70; refine (lower_any _ _).mono ?_; rintro e w' ⟨rfl, rfl⟩; rw [H1.out]) | (go_at_call 71; refine (upper_any _ _).mono ?_; rintro e w' ⟨rfl, rfl⟩; rw [H2.out]) | (go_at_call 72; refine (trim_dig _ _ _ (by omega) H3.out).mono ?_; rintro e w2 ⟨⟨u, rfl, hu⟩, hb2⟩; have hA2 := hA.below hb2 hA.lt; have c0 : w2.cell? ⟨w.heap.size, 0, none⟩ = some (.int .i64 0) := hA2.cell 0; have c1 : w2.cell? ⟨w.heap.size, 1, none⟩ = some (.string ⟨#[]⟩) := hA2.cell 1; have c2 : w2.cell? ⟨w.heap.size, 2, none⟩ = some (.int .i64 0) := hA2.cell 2; have f0 := hA2.frozen 0; have f1 := hA2.frozen 1; have f2 := hA2.frozen 2))
     refine bodyPost_ret (results_cell_row rfl _ _ w.heap.size 41 _ (0, 0) _ rfl (((hA2.put 0 _).put 1 _).put 2 _) Tryd.underlying41 rfl (by kernel_rfl)) rfl ?_; refine ⟨⟨⟨#[]⟩, by rw [HZ.out]; rfl, by rw [HZ.out]; rfl⟩, ?_⟩; exact (((hbelow.trans (hb2.mono hbelow.size)).setCell (by simp) _).setCell (by simp) _).setCell (by simp) _
    ·by_cases h4 : (t.size : Int) ≤ 4
     ·cases h5 : ((t[0].toNat : Int) != 48)
      ·by_cases h6 : (t.size : Int) = 1
       ·have HN := Lib.hid (next_kind HW.out HT.out (k := 3) (by rw [HK.out, if_neg (by omega), h1, h2, h3, h5, h6]; simp; omega) (by omega))
        have H1 := Lib.hid h1; have H2 := Lib.hid h2; have H3 := Lib.hid h3; clear h1 h2 h3
        have h7 : ((t.size : Int) == 1) = true := by simpa using h6
        have H6 := Lib.hid h6; clear h6
        go_wp2_with (first | (go_at_call 70; refine (lower_any _ _).mono ?_; rintro e w' ⟨rfl, rfl⟩; rw [H1.out]) | (go_at_call 71; refine (upper_any _ _).mono ?_; rintro e w' ⟨rfl, rfl⟩; rw [H2.out]) | (go_at_call 72; refine (trim_dig _ _ _ (by omega) H3.out).mono ?_; rintro e w2 ⟨⟨u, rfl, hu⟩, hb2⟩; have hA2 := hA.below hb2 hA.lt; have c0 : w2.cell? ⟨w.heap.size, 0, none⟩ = some (.int .i64 0) := hA2.cell 0; have c1 : w2.cell? ⟨w.heap.size, 1, none⟩ = some (.string ⟨#[]⟩) := hA2.cell 1; have c2 : w2.cell? ⟨w.heap.size, 2, none⟩ = some (.int .i64 0) := hA2.cell 2; have f0 := hA2.frozen 0; have f1 := hA2.frozen 1; have f2 := hA2.frozen 2))
        refine bodyPost_ret (results_cell_row rfl _ _ w.heap.size 41 _ (0, 0) _ rfl (((hA2.put 0 _).put 1 _).put 2 _) Tryd.underlying41 rfl (by kernel_rfl)) rfl ?_; refine ⟨⟨t, by rw [HN.out.1]; rfl, by rw [HN.out.1]; exact HN.out.2⟩, ?_⟩; exact (((hbelow.trans (hb2.mono hbelow.size)).setCell (by simp) _).setCell (by simp) _).setCell (by simp) _
       ·have h7 : ((t.size : Int) == 1) = false := by simpa using h6
        have HZ := Lib.hid (next_zero HW.out HT.out (by rw [HK.out, if_neg (by omega), h1, h2, h3, h5, h7]; simp))
        have H1 := Lib.hid h1; have H2 := Lib.hid h2; have H3 := Lib.hid h3; clear h1 h2 h3
        go_wp2_with (first | (go_at_call 70; refine (lower_any _ _).mono ?_; rintro e w' ⟨rfl, rfl⟩; rw [H1.out]) | (go_at_call 71; refine (upper_any _ _).mono ?_; rintro e w' ⟨rfl, rfl⟩; rw [H2.out]) | (go_at_call 72; refine (trim_dig _ _ _ (by omega) H3.out).mono ?_; rintro e w2 ⟨⟨u, rfl, hu⟩, hb2⟩; have hA2 := hA.below hb2 hA.lt; have c0 : w2.cell? ⟨w.heap.size, 0, none⟩ = some (.int .i64 0) := hA2.cell 0; have c1 : w2.cell? ⟨w.heap.size, 1, none⟩ = some (.string ⟨#[]⟩) := hA2.cell 1; have c2 : w2.cell? ⟨w.heap.size, 2, none⟩ = some (.int .i64 0) := hA2.cell 2; have f0 := hA2.frozen 0; have f1 := hA2.frozen 1; have f2 := hA2.frozen 2))
        refine bodyPost_ret (results_cell_row rfl _ _ w.heap.size 41 _ (0, 0) _ rfl (((hA2.put 0 _).put 1 _).put 2 _) Tryd.underlying41 rfl (by kernel_rfl)) rfl ?_; refine ⟨⟨⟨#[]⟩, by rw [HZ.out]; rfl, by rw [HZ.out]; rfl⟩, ?_⟩; exact (((hbelow.trans (hb2.mono hbelow.size)).setCell (by simp) _).setCell (by simp) _).setCell (by simp) _
      ·have HN := Lib.hid (next_kind HW.out HT.out (k := 3) (by rw [HK.out, if_neg (by omega), h1, h2, h3, h5]; simp; omega) (by omega))
       have H1 := Lib.hid h1; have H2 := Lib.hid h2; have H3 := Lib.hid h3; clear h1 h2 h3
       go_wp2_with (first | (go_at_call 70; refine (lower_any _ _).mono ?_; rintro e w' ⟨rfl, rfl⟩; rw [H1.out]) | (go_at_call 71; refine (upper_any _ _).mono ?_; rintro e w' ⟨rfl, rfl⟩; rw [H2.out]) | (go_at_call 72; refine (trim_dig _ _ _ (by omega) H3.out).mono ?_; rintro e w2 ⟨⟨u, rfl, hu⟩, hb2⟩; have hA2 := hA.below hb2 hA.lt; have c0 : w2.cell? ⟨w.heap.size, 0, none⟩ = some (.int .i64 0) := hA2.cell 0; have c1 : w2.cell? ⟨w.heap.size, 1, none⟩ = some (.string ⟨#[]⟩) := hA2.cell 1; have c2 : w2.cell? ⟨w.heap.size, 2, none⟩ = some (.int .i64 0) := hA2.cell 2; have f0 := hA2.frozen 0; have f1 := hA2.frozen 1; have f2 := hA2.frozen 2))
       refine bodyPost_ret (results_cell_row rfl _ _ w.heap.size 41 _ (0, 0) _ rfl (((hA2.put 0 _).put 1 _).put 2 _) Tryd.underlying41 rfl (by kernel_rfl)) rfl ?_; refine ⟨⟨t, by rw [HN.out.1]; rfl, by rw [HN.out.1]; exact HN.out.2⟩, ?_⟩; exact (((hbelow.trans (hb2.mono hbelow.size)).setCell (by simp) _).setCell (by simp) _).setCell (by simp) _
     ·have HZ := Lib.hid (next_zero HW.out HT.out (by rw [HK.out, if_neg (by omega), h1, h2, h3]; simp; omega))
      have H1 := Lib.hid h1; have H2 := Lib.hid h2; have H3 := Lib.hid h3; clear h1 h2 h3
      go_wp2_with (first | (go_at_call 70; refine (lower_any _ _).mono ?_; rintro e w' ⟨rfl, rfl⟩; rw [H1.out]) | (go_at_call 71; refine (upper_any _ _).mono ?_; rintro e w' ⟨rfl, rfl⟩; rw [H2.out]) | (go_at_call 72; refine (trim_dig _ _ _ (by omega) H3.out).mono ?_; rintro e w2 ⟨⟨u, rfl, hu⟩, hb2⟩; have hA2 := hA.below hb2 hA.lt; have c0 : w2.cell? ⟨w.heap.size, 0, none⟩ = some (.int .i64 0) := hA2.cell 0; have c1 : w2.cell? ⟨w.heap.size, 1, none⟩ = some (.string ⟨#[]⟩) := hA2.cell 1; have c2 : w2.cell? ⟨w.heap.size, 2, none⟩ = some (.int .i64 0) := hA2.cell 2; have f0 := hA2.frozen 0; have f1 := hA2.frozen 1; have f2 := hA2.frozen 2))
      refine bodyPost_ret (results_cell_row rfl _ _ w.heap.size 41 _ (0, 0) _ rfl (((hA2.put 0 _).put 1 _).put 2 _) Tryd.underlying41 rfl (by kernel_rfl)) rfl ?_; refine ⟨⟨⟨#[]⟩, by rw [HZ.out]; rfl, by rw [HZ.out]; rfl⟩, ?_⟩; exact (((hbelow.trans (hb2.mono hbelow.size)).setCell (by simp) _).setCell (by simp) _).setCell (by simp) _
   ·have HN := Lib.hid (next_kind HW.out HT.out (k := 2) (by rw [HK.out, if_neg (by omega), h1, h2]; rfl) (by omega))
    have H1 := Lib.hid h1; have H2 := Lib.hid h2; clear h1 h2
    go_wp2_with (first | (go_at_call 70; refine (lower_any _ _).mono ?_; rintro e w' ⟨rfl, rfl⟩; rw [H1.out]) | (go_at_call 71; refine (upper_any _ _).mono ?_; rintro e w' ⟨rfl, rfl⟩; rw [H2.out]))
    refine bodyPost_ret (results_cell_row rfl _ _ w.heap.size 41 _ (0, 0) _ rfl (((hA.put 0 _).put 1 _).put 2 _) Tryd.underlying41 rfl (by kernel_rfl)) rfl ?_; refine ⟨⟨t, by rw [HN.out.1]; rfl, by rw [HN.out.1]; exact HN.out.2⟩, ?_⟩; exact ((hbelow.setCell (by simp) _).setCell (by simp) _).setCell (by simp) _
  ·have HN := Lib.hid (next_kind HW.out HT.out (k := 1) (by rw [HK.out, if_neg (by omega), h1]; rfl) (by omega))
   have H1 := Lib.hid h1; clear h1
   go_wp2_with (go_at_call 70; refine (lower_any _ _).mono ?_; rintro e w' ⟨rfl, rfl⟩; rw [H1.out])
   refine bodyPost_ret (results_cell_row rfl _ _ w.heap.size 41 _ (0, 0) _ rfl (((hA.put 0 _).put 1 _).put 2 _) Tryd.underlying41 rfl (by kernel_rfl)) rfl ?_; refine ⟨⟨t, by rw [HN.out.1]; rfl, by rw [HN.out.1]; exact HN.out.2⟩, ?_⟩; exact ((hbelow.setCell (by simp) _).setCell (by simp) _).setCell (by simp) _
theorem next_any (s : ByteArray) (w : World) (hs : s.size ≤ 9223372036854775807) (hy : Syms w) :
  Calls Tryd.prog 48 #[.string s] w fun e w' => (∃ t : ByteArray, e = .returned (.agg #[.int .i64 (Lx.next s.data.toList).1, .string t, .int .i64 0]) ∧ t.data.toList = s.data.toList.take (Lx.next s.data.toList).2) ∧ Below w.heap.size w w' := by
 by_cases h : Lx.wordLen s.data.toList = 0
 ·exact next_sym s w hs hy h
 ·exact next_word s w hs h
end Go.Proofs.YtpcmlkpnjimbiaaDoor
