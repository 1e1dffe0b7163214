/- The walks of the reference's Symbols, Kind and Run. -/
import Derived.Test.YtpcmlkpnjimbiaaDoorLex
namespace Go.Proofs.YtpcmlkpnjimbiaaDoor
set_option linter.unusedVariables false
set_option linter.unusedSimpArgs false
open Go.RowKit
theorem symA_get (k : Nat) (h : k < 15) : symA[k]? = some (.string ⟨(Lx.symbols.getD k []).toArray⟩) := by
 rcases (by omega : k = 0 ∨ k = 1 ∨ k = 2 ∨ k = 3 ∨ k = 4 ∨ k = 5 ∨ k = 6 ∨ k = 7 ∨ k = 8 ∨ k = 9 ∨ k = 10 ∨ k = 11 ∨ k = 12 ∨ k = 13 ∨ k = 14) with rfl | rfl | rfl | rfl | rfl | rfl | rfl | rfl | rfl | rfl | rfl | rfl | rfl | rfl | rfl <;> rfl
theorem symbols_any (w : World) : Calls Tryd.prog 75 #[] w fun e w' => e = .returned (.slice (some ⟨w.heap.size, 0, none⟩) 15 15) ∧ w.alloc (.cells symA 9) = w' := by
 go_enter Tryd.func75, Tryd.ntmps75
 go_wp2
 go_ret
 exact ⟨rfl, rfl⟩
theorem word_b (c : UInt8) (b : Bool) (w : World) (h : Lx.wordB c = b) : Calls Tryd.prog 74 #[.int .u8 (c.toNat : Int)] w fun e w' => e = .returned (.bool b) ∧ w = w' := by
 rw [← h, wordB_eq]; exact rword_any _ w
theorem rdigit_b (c : UInt8) (b : Bool) (w : World) (h : Lx.digitB c = b) : Calls Tryd.prog 76 #[.int .u8 (c.toNat : Int)] w fun e w' => e = .returned (.bool b) ∧ w = w' := by
 rw [← h, digitB_eq]; exact rdigit_any _ w
/-- The reference's Run: at most 'most' bytes of a word. -/
theorem run_any (s : ByteArray) (m : Nat) (w : World) (hs : s.size ≤ 9223372036854775807) (hm : m ≤ 9223372036854775807) :
  Calls Tryd.prog 49 #[.string s, .int .i64 m] w fun e w' => e = .returned (.int .i64 ((min (Lx.wordLen s.data.toList) m : Nat) : Int)) ∧ w = w' := by
 obtain ⟨N, hN⟩ : ∃ N, N = 0 + Lx.wordLen (s.data.toList.drop 0) := ⟨_, rfl⟩
 have hf : Lx.wordLen s.data.toList = N := by rw [hN]; simp
 rw [hf]; clear hf
 have HN := Lib.hid hN
 clear hN
 go_enter Tryd.func49, Tryd.ntmps49
 go_wp2
 go_loop [5] (fun i => ∃ k : Nat, k ≤ s.size ∧ k ≤ m ∧ Hid (N = k + Lx.wordLen (s.data.toList.drop k)) ∧ i = .int .i64 k) (fun i => s.size - (intOf i).toNat)
 case atStart => exact ⟨0, by omega, by omega, HN, rfl⟩
 case round =>
  obtain ⟨k, hk, hkm, HK, rfl⟩ := hrel
  by_cases hlt : k < s.size
  ·have d1 : decide ((k : Int) < (s.size : Int)) = true := by simp; omega
   by_cases hlm : k < m
   ·have d2 : decide ((k : Int) < (m : Int)) = true := by simp; omega
    cases hb : Lx.wordB s[k]
    ·have hE := Lib.hid (word_stop hlt hb HK.out)
     have HB := Lib.hid hb; clear hb
     go_wp2_with (go_at_call 74; refine (word_b _ _ _ HB.out).mono ?_; rintro e w' ⟨rfl, rfl⟩)
     go_ret
     exact ⟨by rw [hE.out, Nat.min_eq_left (by omega)]; rfl, rfl⟩
    ·have hE := Lib.hid (word_more hlt hb HK.out)
     have HB := Lib.hid hb; clear hb
     go_wp2_with (go_at_call 74; refine (word_b _ _ _ HB.out).mono ?_; rintro e w' ⟨rfl, rfl⟩)
     go_round
     case rel => exact ⟨k + 1, by omega, by omega, hE, by go_num⟩
     case measure => simp [intOf]; omega
   ·have d2 : decide ((k : Int) < (m : Int)) = false := by simp; omega
    have hE := HK
    obtain rfl : k = m := by omega
    go_wp2
    go_ret
    exact ⟨by rw [Nat.min_eq_right (by rw [hE.out]; omega)]; rfl, rfl⟩
  ·have d1 : decide ((k : Int) < (s.size : Int)) = false := by simp; omega
   have hE := Lib.hid (word_end hk hlt HK.out)
   go_wp2
   go_ret
   exact ⟨by rw [hE.out, Nat.min_eq_left (by omega)]; have : k = s.size := by omega
             rw [this]; rfl, rfl⟩
end Go.Proofs.YtpcmlkpnjimbiaaDoor
namespace Go.Proofs.YtpcmlkpnjimbiaaDoor
set_option linter.unusedVariables false
set_option linter.unusedSimpArgs false
open Go.RowKit
theorem sym_mem {l : List UInt8} {k : Nat} (hk : k < 15) (h : Lx.symbols.getD k [] = l) : Lx.symbols.contains l = true := by
 subst h
 rw [List.contains_iff_mem, List.getD_eq_getElem?_getD, List.getElem?_eq_getElem (by simpa [Lx.symbols] using hk)]
 exact List.getElem_mem _
theorem sym_not {l : List UInt8} (h : ∀ k, k < 15 → Lx.symbols.getD k [] ≠ l) : Lx.symbols.contains l = false := by
 rw [← Bool.not_eq_true, List.contains_iff_mem]
 intro hm
 obtain ⟨j, hj, rfl⟩ := List.getElem_of_mem hm
 have := h j (by simpa [Lx.symbols] using hj)
 rw [List.getD_eq_getElem?_getD, List.getElem?_eq_getElem hj] at this
 exact this rfl
theorem rk_sym {l : List UInt8} (h : Lx.symbols.contains l = true) : Lx.rkind l = 4 := by simp only [Lx.rkind, h, if_true]
theorem rk_short {l : List UInt8} (h : Lx.symbols.contains l = false) (h0 : l.length = 0 ∨ 16 < l.length) : Lx.rkind l = 0 := by
 simp only [Lx.rkind, h, if_pos h0]; rfl
theorem rk_bad {l : List UInt8} {k : Nat} {c : UInt8} (h : Lx.symbols.contains l = false) (hc : l[k]? = some c) (hw : Lx.wordB c = false) : Lx.rkind l = 0 := by
 have : l.all Lx.wordB = false := by
  rw [List.all_eq_false]; exact ⟨c, List.mem_of_getElem? hc, by simp [hw]⟩
 simp only [Lx.rkind, h, this]; simp
theorem rk_word {l : List UInt8} (h : Lx.symbols.contains l = false) (h0 : ¬ (l.length = 0 ∨ 16 < l.length)) (hw : l.all Lx.wordB = true) : Lx.rkind l = Lx.wkind l := by
 simp only [Lx.rkind, h, if_neg h0, hw, if_true]; rfl
theorem take_succ (s : ByteArray) (k : Nat) (h : k < s.size) : s.data.toList.take (k + 1) = s.data.toList.take k ++ [s[k]] := by
 rw [List.take_add_one, byte_get s k h]; rfl
theorem all_snoc (s : ByteArray) (k : Nat) (h : k < s.size) (f : UInt8 → Bool) : (s.data.toList.take (k + 1)).all f = ((s.data.toList.take k).all f && f s[k]) := by
 rw [take_succ s k h, List.all_append]; simp
set_option maxHeartbeats 1000000 in
set_option maxRecDepth 100000 in
theorem rkind_any (s : ByteArray) (w : World) (hs : s.size ≤ 9223372036854775807) :
  Calls Tryd.prog 50 #[.string s] w fun e w' => e = .returned (.int .i64 (Lx.rkind s.data.toList)) ∧ Below w.heap.size w w' := by
 go_enter Tryd.func50, Tryd.ntmps50
 go_wp2_with (go_at_call 75; refine (symbols_any _).mono ?_; rintro e w1 ⟨rfl, rfl⟩)
 have hA : At (w.alloc (.cells symA 9)) w.heap.size 9 symA := At.new _ _ _
 have hbel : Below w.heap.size w (w.alloc (.cells symA 9)) := (Below.refl _ _).alloc (Nat.le_refl _) _
 generalize w.alloc (.cells symA 9) = w1 at hA hbel ⊢
 go_loop [4] (fun i => ∃ k : Nat, k ≤ 15 ∧ Hid (∀ j, j < k → Lx.symbols.getD j [] ≠ s.data.toList) ∧ i = .int .i64 k) (fun i => 15 - (intOf i).toNat)
 case atStart => exact ⟨0, by omega, Lib.hid (fun j hj => absurd hj (by omega)), rfl⟩
 case round =>
  obtain ⟨k, hk, HN, rfl⟩ := hrel
  by_cases hlt : k < 15
  ·obtain ⟨y, hy⟩ : ∃ y : ByteArray, y = ⟨(Lx.symbols.getD k []).toArray⟩ := ⟨_, rfl⟩
   have hc : w1.cell? ⟨w.heap.size, k, none⟩ = some (.string y) := by rw [hA.cell, symA_get k hlt, hy]
   have hyl : Lx.symbols.getD k [] = y.data.toList := by rw [hy]
   have HY := Lib.hid hyl; clear hy hyl
   cases hq : (y.toList == s.toList)
   ·have hne : Lx.symbols.getD k [] ≠ s.data.toList := by
     rw [HY.out]; intro e; rw [Lib.toList_data, Lib.toList_data, e] at hq; simp at hq
    have HNE := Lib.hid hne; clear hne
    go_wp2
    go_round
    case rel => exact ⟨k + 1, by omega, Lib.hid (fun j hj => by
     by_cases e : j = k
     ·rw [e]; exact HNE.out
     ·exact HN.out j (by omega)), by go_num⟩
    case measure => simp [intOf]; omega
   ·have heq : Lx.symbols.getD k [] = s.data.toList := by rw [HY.out]; rw [Lib.toList_data, Lib.toList_data] at hq; simpa using hq
    have HR := Lib.hid (rk_sym (sym_mem hlt heq))
    clear heq
    go_wp2
    go_ret
    exact ⟨by rw [HR.out]; rfl, hbel⟩
  ·obtain rfl : k = 15 := by omega
   have HNS := Lib.hid (sym_not HN.out)
   clear HN
   by_cases h0 : s.size = 0
   ·have HR := Lib.hid (rk_short HNS.out (Or.inl ((size_len s).trans h0)))
    have h0' : ((s.size : Int) == 0) = true := by rw [h0]; rfl
    have H0 := Lib.hid h0; clear h0
    go_wp2
    go_ret
    exact ⟨by rw [HR.out]; rfl, hbel⟩
   ·have h0' : ((s.size : Int) == 0) = false := beq_eq_false_iff_ne.2 (by omega)
    by_cases h16 : 16 < s.size
    ·have HR := Lib.hid (rk_short HNS.out (Or.inr (by rw [size_len]; exact h16)))
     have h1' : decide ((16 : Int) < (s.size : Int)) = true := by simp; omega
     go_wp2
     go_ret
     exact ⟨by rw [HR.out]; rfl, hbel⟩
    ·have h1' : decide ((16 : Int) < (s.size : Int)) = false := by simp; omega
     have hsz : 0 < s.size := by omega
     go_wp2
     go_loop [5, 6] (fun d i => ∃ (k : Nat) (b : Bool), k ≤ s.size ∧ Hid ((s.data.toList.take k).all Lx.wordB = true) ∧ Hid ((s.data.toList.take k).all Lx.digitB = b) ∧ d = .bool b ∧ i = .int .i64 k) (fun _ i => s.size - (intOf i).toNat)
     case atStart => exact ⟨0, true, by omega, Lib.hid rfl, Lib.hid rfl, rfl, rfl⟩
     case round =>
      obtain ⟨k, b, hk, HW, HD, rfl, rfl⟩ := hrel
      by_cases hlt : k < s.size
      ·cases hb : Lx.wordB s[k]
       ·have HR := Lib.hid (rk_bad HNS.out (byte_get s k hlt) hb)
        have HB := Lib.hid hb; clear hb
        go_wp2_with (go_at_call 74; refine (word_b _ _ _ HB.out).mono ?_; rintro e w' ⟨rfl, rfl⟩)
        go_ret
        exact ⟨by rw [HR.out]; rfl, hbel⟩
       ·have HB := Lib.hid hb
        have HW2 := Lib.hid ((all_snoc s k hlt Lx.wordB).trans (by rw [HW.out, hb]))
        clear hb
        cases b
        ·have HD3 := Lib.hid ((all_snoc s k hlt Lx.digitB).trans (by rw [HD.out, Bool.false_and]))
         go_wp2_with (go_at_call 74; refine (word_b _ _ _ HB.out).mono ?_; rintro e w' ⟨rfl, rfl⟩)
         go_round
         case rel => exact ⟨k + 1, false, by omega, HW2, HD3, rfl, by go_num⟩
         case measure => simp [intOf]; omega
        ·obtain ⟨b2, hb2⟩ : ∃ b2, Lx.digitB s[k] = b2 := ⟨_, rfl⟩
         have HD2 := Lib.hid hb2
         have HD3 := Lib.hid ((all_snoc s k hlt Lx.digitB).trans (by rw [HD.out, hb2, Bool.true_and]))
         clear hb2
         go_wp2_with (first | (go_at_call 74; refine (word_b _ _ _ HB.out).mono ?_; rintro e w' ⟨rfl, rfl⟩) | (go_at_call 76; refine (rdigit_b _ _ _ HD2.out).mono ?_; rintro e w' ⟨rfl, rfl⟩))
         go_round
         case rel => exact ⟨k + 1, b2, by omega, HW2, HD3, by simp, by go_num⟩
         case measure => simp [intOf]; omega
      ·obtain rfl : k = s.size := by omega
       have hall : s.data.toList.take s.size = s.data.toList := List.take_of_length_le (by rw [size_len]; exact Nat.le_refl _)
       have hw := HW.out; have hd := HD.out
       rw [hall] at hw hd
       have HR := Lib.hid (rk_word HNS.out (by rw [size_len]; omega) hw)
       have HK := Lib.hid (wk_eq hsz)
       have HDD := Lib.hid hd
       clear hw hall
       have hloop : decide ((s.size : Int) < (s.size : Int)) = false := by simp
       cases h1 : lowB (s[0].toNat : Int)
       ·cases h2 : uppB (s[0].toNat : Int)
        ·cases b
         ·clear hd
          have HV := Lib.hid (show Lx.rkind s.data.toList = 0 by rw [HR.out, HK.out, if_neg (by omega), h1, h2, HDD.out]; first | rfl | (simp; omega) | simp)
          have H1 := Lib.hid h1; have H2 := Lib.hid h2; clear h1 h2
          go_wp2_with (first | (go_at_call 77; refine (rlower_any _ _).mono ?_; rintro e w' ⟨rfl, rfl⟩; rw [H1.out]) | (go_at_call 78; refine (rupper_any _ _).mono ?_; rintro e w' ⟨rfl, rfl⟩; rw [H2.out]))
          go_ret
          exact ⟨by rw [HV.out]; rfl, hbel⟩
         ·clear hd
          by_cases h4 : (s.size : Int) ≤ 4
          ·cases h5 : ((s[0].toNat : Int) != 48)
           ·by_cases h6 : (s.size : Int) = 1
            ·have h7 : ((s.size : Int) == 1) = true := by simpa using h6
             have HV := Lib.hid (show Lx.rkind s.data.toList = 3 by rw [HR.out, HK.out, if_neg (by omega), h1, h2, HDD.out, h5, h7]; first | rfl | (simp; omega) | simp)
             have H1 := Lib.hid h1; have H2 := Lib.hid h2; have H6 := Lib.hid h6; clear h1 h2 h6
             go_wp2_with (first | (go_at_call 77; refine (rlower_any _ _).mono ?_; rintro e w' ⟨rfl, rfl⟩; rw [H1.out]) | (go_at_call 78; refine (rupper_any _ _).mono ?_; rintro e w' ⟨rfl, rfl⟩; rw [H2.out]))
             go_ret
             exact ⟨by rw [HV.out]; rfl, hbel⟩
            ·have h7 : ((s.size : Int) == 1) = false := by simpa using h6
             have HV := Lib.hid (show Lx.rkind s.data.toList = 0 by rw [HR.out, HK.out, if_neg (by omega), h1, h2, HDD.out, h5, h7]; first | rfl | (simp; omega) | simp)
             have H1 := Lib.hid h1; have H2 := Lib.hid h2; clear h1 h2
             go_wp2_with (first | (go_at_call 77; refine (rlower_any _ _).mono ?_; rintro e w' ⟨rfl, rfl⟩; rw [H1.out]) | (go_at_call 78; refine (rupper_any _ _).mono ?_; rintro e w' ⟨rfl, rfl⟩; rw [H2.out]))
             go_ret
             exact ⟨by rw [HV.out]; rfl, hbel⟩
           ·skip
            have HV := Lib.hid (show Lx.rkind s.data.toList = 3 by rw [HR.out, HK.out, if_neg (by omega), h1, h2, HDD.out, h5]; first | rfl | (simp; omega) | simp)
            have H1 := Lib.hid h1; have H2 := Lib.hid h2; clear h1 h2
            go_wp2_with (first | (go_at_call 77; refine (rlower_any _ _).mono ?_; rintro e w' ⟨rfl, rfl⟩; rw [H1.out]) | (go_at_call 78; refine (rupper_any _ _).mono ?_; rintro e w' ⟨rfl, rfl⟩; rw [H2.out]))
            go_ret
            exact ⟨by rw [HV.out]; rfl, hbel⟩
          ·skip
           have HV := Lib.hid (show Lx.rkind s.data.toList = 0 by rw [HR.out, HK.out, if_neg (by omega), h1, h2, HDD.out]; first | rfl | (simp; omega) | simp)
           have H1 := Lib.hid h1; have H2 := Lib.hid h2; clear h1 h2
           go_wp2_with (first | (go_at_call 77; refine (rlower_any _ _).mono ?_; rintro e w' ⟨rfl, rfl⟩; rw [H1.out]) | (go_at_call 78; refine (rupper_any _ _).mono ?_; rintro e w' ⟨rfl, rfl⟩; rw [H2.out]))
           go_ret
           exact ⟨by rw [HV.out]; rfl, hbel⟩
        ·skip
         have HV := Lib.hid (show Lx.rkind s.data.toList = 2 by rw [HR.out, HK.out, if_neg (by omega), h1, h2]; first | rfl | (simp; omega) | simp)
         have H1 := Lib.hid h1; have H2 := Lib.hid h2; clear h1 h2
         go_wp2_with (first | (go_at_call 77; refine (rlower_any _ _).mono ?_; rintro e w' ⟨rfl, rfl⟩; rw [H1.out]) | (go_at_call 78; refine (rupper_any _ _).mono ?_; rintro e w' ⟨rfl, rfl⟩; rw [H2.out]))
         go_ret
         exact ⟨by rw [HV.out]; rfl, hbel⟩
       ·skip
        have HV := Lib.hid (show Lx.rkind s.data.toList = 1 by rw [HR.out, HK.out, if_neg (by omega), h1]; first | rfl | (simp; omega) | simp)
        have H1 := Lib.hid h1; clear h1
        go_wp2_with (go_at_call 77; refine (rlower_any _ _).mono ?_; rintro e w' ⟨rfl, rfl⟩; rw [H1.out])
        go_ret
        exact ⟨by rw [HV.out]; rfl, hbel⟩
end Go.Proofs.YtpcmlkpnjimbiaaDoor
namespace Go.Proofs.YtpcmlkpnjimbiaaDoor
set_option linter.unusedVariables false
set_option linter.unusedSimpArgs false
open Go.RowKit
/-- Inside a comment. -/
theorem com_more {s : ByteArray} {k G : Nat} (h : k < s.size) (hc : (s[k] == 10) = false) (H : G = k + Lx.gapG true (s.data.toList.drop k)) : G = (k + 1) + Lx.gapG true (s.data.toList.drop (k + 1)) := by
 rw [H, drop_cons s k h]; simp at hc; simp only [Lx.gapG, if_neg hc]; omega
theorem com_nl {s : ByteArray} {k G : Nat} (h : k < s.size) (hc : (s[k] == 10) = true) (H : G = k + Lx.gapG true (s.data.toList.drop k)) : G = k + Lx.gapG false (s.data.toList.drop k) := by
 rw [H, drop_cons s k h]; simp at hc; simp [Lx.gapG, hc, Lx.whiteB]
theorem com_end {s : ByteArray} {k G : Nat} (hk : k ≤ s.size) (h : ¬ k < s.size) (H : G = k + Lx.gapG true (s.data.toList.drop k)) : G = k + Lx.gapG false (s.data.toList.drop k) := by
 rw [H, List.drop_of_length_le (by rw [size_len]; omega)]; rfl
theorem com_start {s : ByteArray} {k G : Nat} (h : k < s.size) (hc : (s[k] == 37) = true) (H : G = k + Lx.gapG false (s.data.toList.drop k)) : G = k + Lx.gapG true (s.data.toList.drop k) := by
 rw [H, drop_cons s k h]; simp at hc; simp [Lx.gapG, hc, Lx.whiteB]
set_option maxHeartbeats 2000000 in
set_option maxRecDepth 100000 in
theorem rgap_any (s : ByteArray) (p : Nat) (w : World) (hp : p ≤ s.size) (hs : s.size ≤ 9223372036854775807) :
  Calls Tryd.prog 25 #[.string s, .int .i64 p] w fun e w' => e = .returned (.int .i64 ((Lx.gapG false (s.data.toList.drop p) : Nat) : Int)) ∧ w = w' := by
 obtain ⟨G, hG⟩ : ∃ G, G = p + Lx.gapG false (s.data.toList.drop p) := ⟨_, rfl⟩
 have hg1 : Lx.gapG false (s.data.toList.drop p) = G - p := by omega
 rw [hg1]
 have hpG : p ≤ G := by omega
 have HG := Lib.hid hG
 clear hG hg1
 go_enter Tryd.func25, Tryd.ntmps25
 go_wp2
 go_loop [5] (fun i => ∃ k : Nat, p ≤ k ∧ k ≤ s.size ∧ Hid (G = k + Lx.gapG false (s.data.toList.drop k)) ∧ i = .int .i64 k) (fun i => s.size - (intOf i).toNat)
 case atStart => exact ⟨p, Nat.le_refl _, hp, HG, rfl⟩
 case round =>
  obtain ⟨k, hpk, hk, HK, rfl⟩ := hrel
  by_cases hlt : k < s.size
  ·have hw : Lx.whiteB s[k] = ((((s[k].toNat : Nat) : Int) == 32) || (((s[k].toNat : Nat) : Int) == 9) || (((s[k].toNat : Nat) : Int) == 10) || (((s[k].toNat : Nat) : Int) == 13)) := by
    unfold Lx.whiteB; simp only [u8_eq]; rfl
   cases h1 : (((s[k].toNat : Nat) : Int) == 32)
   ·cases h2 : (((s[k].toNat : Nat) : Int) == 9)
    ·cases h3 : (((s[k].toNat : Nat) : Int) == 10)
     ·cases h4 : (((s[k].toNat : Nat) : Int) == 13)
      ·have HW : Hid (Lx.whiteB s[k] = false) := Lib.hid (by rw [hw, h1, h2, h3, h4]; rfl)
       clear hw
       cases h5 : (((s[k].toNat : Nat) : Int) == 37)
       ·have HE := Lib.hid (gap_stop hlt HW.out (by rw [u8_eq]; exact h5) HK.out)
        have h6 : (((s[k].toNat : Nat) : Int) != 37) = true := by simp only [bne, h5]; rfl
        go_wp2
        go_ret
        exact ⟨congrArg Ending.returned (by have := HE.out; show Value.int _ _ = _; simp only [Value.int.injEq, true_and]; omega), rfl⟩
       ·have HC := Lib.hid (com_start hlt (by rw [u8_eq]; exact h5) HK.out)
        have h6 : (((s[k].toNat : Nat) : Int) != 37) = false := by simp only [bne, h5]; rfl
        go_wp2
        go_loop [5] (fun i => ∃ j : Nat, k ≤ j ∧ j ≤ s.size ∧ Hid (G = j + Lx.gapG true (s.data.toList.drop j)) ∧ i = .int .i64 j) (fun i => s.size - (intOf i).toNat)
        case atStart => exact ⟨k, Nat.le_refl _, hk, HC, rfl⟩
        case round =>
         obtain ⟨j, hkj, hj, HJ, rfl⟩ := hrel
         by_cases hjs : j < s.size
         ·have d1 : decide ((j : Int) < (s.size : Int)) = true := by simp; omega
          cases h7 : (((s[j].toNat : Nat) : Int) == 10)
          ·have h8 : (((s[j].toNat : Nat) : Int) != 10) = true := by simp only [bne, h7]; rfl
           have HM := Lib.hid (com_more hjs (by rw [u8_eq]; exact h7) HJ.out)
           go_wp2
           go_round
           case rel => exact ⟨j + 1, by omega, by omega, HM, by go_num⟩
           case measure => simp [intOf]; omega
          ·have h8 : (((s[j].toNat : Nat) : Int) != 10) = false := by simp only [bne, h7]; rfl
           have HM := Lib.hid (com_nl hjs (by rw [u8_eq]; exact h7) HJ.out)
           have hjk : k < j := by
            rcases Nat.eq_or_lt_of_le hkj with e | e
            ·subst e; rw [h3] at h7; cases h7
            ·exact e
           go_wp2
           go_round
           case rel => exact ⟨j, by omega, by omega, HM, by go_num⟩
           case measure => simp [intOf]; omega
         ·have d1 : decide ((j : Int) < (s.size : Int)) = false := by simp; omega
          have HM := Lib.hid (com_end hj hjs HJ.out)
          go_wp2
          go_round
          case rel => exact ⟨j, by omega, by omega, HM, by go_num⟩
          case measure => simp [intOf]; omega
      all_goals
       have H1 := Lib.hid (gap_white hlt (by rw [hw]; simp [*]) HK.out)
       clear hw
       go_wp2
       go_round
       case rel => exact ⟨k + 1, by omega, by omega, H1, by go_num⟩
       case measure => simp [intOf]; omega
     all_goals
      have H1 := Lib.hid (gap_white hlt (by rw [hw]; simp [*]) HK.out)
      clear hw
      go_wp2
      go_round
      case rel => exact ⟨k + 1, by omega, by omega, H1, by go_num⟩
      case measure => simp [intOf]; omega
    all_goals
     have H1 := Lib.hid (gap_white hlt (by rw [hw]; simp [*]) HK.out)
     clear hw
     go_wp2
     go_round
     case rel => exact ⟨k + 1, by omega, by omega, H1, by go_num⟩
     case measure => simp [intOf]; omega
   all_goals
    have H1 := Lib.hid (gap_white hlt (by rw [hw]; simp [*]) HK.out)
    clear hw
    go_wp2
    go_round
    case rel => exact ⟨k + 1, by omega, by omega, H1, by go_num⟩
    case measure => simp [intOf]; omega
  ·have HE := Lib.hid (gap_end hk hlt HK.out)
   go_wp2
   go_ret
   exact ⟨congrArg Ending.returned (by have := HE.out; show Value.int _ _ = _; simp only [Value.int.injEq, true_and]; omega), rfl⟩
end Go.Proofs.YtpcmlkpnjimbiaaDoor
namespace Go.Proofs.YtpcmlkpnjimbiaaDoor
set_option linter.unusedVariables false
set_option linter.unusedSimpArgs false
open Go.RowKit
theorem sym_lens : ∀ p ∈ Lx.symbols, (p.length = 1 ∨ p.length = 2) ∧ p.all Lx.wordB = false := by decide
theorem wkind_le (l : List UInt8) : Lx.wkind l ≤ 3 := by
 cases l with
 | nil => simp [Lx.wkind]
 | cons c r => simp only [Lx.wkind]; repeat' split
               all_goals omega
theorem rkind_four (l : List UInt8) : (Lx.rkind l = 4) ↔ Lx.symbols.contains l = true := by
 constructor
 ·intro h
  cases hc : Lx.symbols.contains l
  ·have hw := wkind_le l
   simp only [Lx.rkind, hc] at h
   simp at h
   split at h
   ·omega
   ·split at h <;> omega
  ·rfl
 ·exact rk_sym
theorem symLen_two {l : List UInt8} (h : 2 ≤ l.length) (hc : Lx.symbols.contains (l.take 2) = true) : Lx.symLen l = 2 := by
 match l, h with
 | a :: b :: r, _ =>
  simp only [List.take_succ_cons, List.take_zero, List.contains_iff_mem, Lx.symbols, List.mem_cons, List.cons.injEq, List.not_mem_nil, or_false, and_true, and_false, reduceCtorEq] at hc
  rcases hc with ⟨rfl, rfl⟩ | ⟨rfl, rfl⟩ | ⟨rfl, rfl⟩ | ⟨rfl, rfl⟩ | ⟨rfl, rfl⟩ <;> rfl
theorem symLen_one {l : List UInt8} (h : 1 ≤ l.length) (h2 : 2 ≤ l.length → Lx.symbols.contains (l.take 2) = false) (hc : Lx.symbols.contains (l.take 1) = true) : Lx.symLen l = 1 := by
 match l, h with
 | a :: r, _ =>
  simp only [List.take_succ_cons, List.take_zero, List.contains_iff_mem, Lx.symbols, List.mem_cons, List.cons.injEq, List.not_mem_nil, or_false, and_true, and_false, reduceCtorEq, false_or] at hc
  match r with
  | [] => rcases hc with rfl | rfl | rfl | rfl | rfl | rfl | rfl | rfl | rfl | rfl <;> rfl
  | b :: r =>
   have h2 := h2 (by simp)
   rw [← Bool.not_eq_true, List.contains_iff_mem] at h2
   simp only [List.take_succ_cons, List.take_zero, Lx.symbols, List.mem_cons, List.cons.injEq, List.not_mem_nil, or_false, and_true, and_false, reduceCtorEq] at h2
   rcases hc with rfl | rfl | rfl | rfl | rfl | rfl | rfl | rfl | rfl | rfl <;> simp_all [Lx.symLen, Lx.symbols, List.find?, List.isPrefixOf]
   ·rw [show ((45 : UInt8) == b) = false from beq_eq_false_iff_ne.2 (fun e => h2 e.symm)]; rfl
   ·rw [show ((61 : UInt8) == b) = false from beq_eq_false_iff_ne.2 (fun e => h2 e.symm)]; rfl
theorem symLen_zero {l : List UInt8} (h2 : 2 ≤ l.length → Lx.symbols.contains (l.take 2) = false) (h1 : 1 ≤ l.length → Lx.symbols.contains (l.take 1) = false) : Lx.symLen l = 0 := by
 have : Lx.symbols.find? (fun p => p.isPrefixOf l) = none := by
  rw [List.find?_eq_none]
  intro p hp hpre
  have hpre := List.isPrefixOf_iff_prefix.1 hpre
  have ht : l.take p.length = p := by obtain ⟨r, rfl⟩ := hpre; simp
  have hle := hpre.length_le
  rcases (sym_lens p hp).1 with e | e
  ·have := h1 (by omega); rw [← e, ht, ← Bool.not_eq_true, List.contains_iff_mem] at this; exact this hp
  ·have := h2 (by omega); rw [← e, ht, ← Bool.not_eq_true, List.contains_iff_mem] at this; exact this hp
 simp [Lx.symLen, this]
theorem wk_long {l : List UInt8} (h : 16 < l.length) : Lx.wkind l = 0 := by
 cases l with
 | nil => rfl
 | cons c r => simp only [Lx.wkind, if_pos h]
theorem takeWhile_all (l : List UInt8) (f : UInt8 → Bool) : (l.takeWhile f).all f = true := by
 induction l with
 | nil => rfl
 | cons c r ih => rw [List.takeWhile_cons]; cases h : f c <;> simp [h, ih]
theorem sym_noword {l : List UInt8} (h : l.all Lx.wordB = true) : Lx.symbols.contains l = false := by
 rw [← Bool.not_eq_true, List.contains_iff_mem]
 intro hm; rw [(sym_lens l hm).2] at h; cases h
/-- A text that begins with a word: what the reference's Next sees of it. -/
theorem next_run {l : List UInt8} {n : Nat} (hn : n = min (Lx.wordLen l) 17) (h0 : 0 < n) : (Lx.rkind (l.take n) = 0 ∧ Lx.next l = (0, 0)) ∨ (Lx.rkind (l.take n) ≠ 0 ∧ Lx.next l = (Lx.rkind (l.take n), n)) := by
 have hw := Lx.wordLen_le l
 have hall : (l.take n).all Lx.wordB = true := by
  have : l.take n = (l.takeWhile Lx.wordB).take n := by rw [← Lx.take_wordLen, List.take_take, Nat.min_eq_left (by omega)]
  rw [this, List.all_eq_true]
  intro x hx
  exact List.all_eq_true.1 (takeWhile_all l Lx.wordB) x (List.mem_of_mem_take hx)
 have hs := sym_noword hall
 have hlen : (l.take n).length = n := by rw [List.length_take]; omega
 by_cases h : Lx.wordLen l ≤ 16
 ·obtain rfl : n = Lx.wordLen l := by omega
  rw [rk_word hs (by omega) hall]
  by_cases hz : Lx.wkind (l.take (Lx.wordLen l)) = 0
  ·exact Or.inl ⟨hz, by simp only [Lx.next, if_neg (show ¬ Lx.wordLen l = 0 by omega), hz, if_true]⟩
  ·exact Or.inr ⟨hz, by simp only [Lx.next, if_neg (show ¬ Lx.wordLen l = 0 by omega), if_neg hz]⟩
 ·obtain rfl : n = 17 := by omega
  refine Or.inl ⟨rk_short hs (Or.inr (by omega)), ?_⟩
  simp only [Lx.next, if_neg (show ¬ Lx.wordLen l = 0 by omega), wk_long (show 16 < (l.take (Lx.wordLen l)).length by rw [List.length_take]; omega), if_true]
theorem rkind_at (s : ByteArray) (n k : Nat) (w : World) (hs : s.size ≤ 9223372036854775807) (hk : Lx.rkind (s.data.toList.take n) = k) :
  Calls Tryd.prog 50 #[.string (s.extract 0 n)] w fun e w' => e = .returned (.int .i64 (k : Int)) ∧ Below w.heap.size w w' := by
 have h := rkind_any (s.extract 0 n) w (by rw [← size_len, ext_take, List.length_take, size_len]; omega)
 rw [ext_take, hk] at h; exact h
theorem run_at (s : ByteArray) (N : Nat) (w : World) (hs : s.size ≤ 9223372036854775807) (hN : N = min (Lx.wordLen s.data.toList) 17) :
  Calls Tryd.prog 49 #[.string s, .int .i64 17] w fun e w' => e = .returned (.int .i64 (N : Int)) ∧ w = w' := by
 subst hN; exact run_any s 17 w hs (by omega)
set_option maxHeartbeats 1000000 in
set_option maxRecDepth 100000 in
theorem rnext_any (s : ByteArray) (w : World) (hs : s.size ≤ 9223372036854775807) :
  Calls Tryd.prog 26 #[.string s] w fun e w' => e = .returned (.tuple #[.int .i64 (Lx.next s.data.toList).1, .int .i64 (Lx.next s.data.toList).2]) ∧ Below w.heap.size w w' := by
 obtain ⟨N, hN⟩ : ∃ N, N = min (Lx.wordLen s.data.toList) 17 := ⟨_, rfl⟩
 have hNs : N ≤ s.size := by have := Lx.wordLen_le s.data.toList; rw [size_len] at this; omega
 have hN17 : N ≤ 17 := by omega
 by_cases h0 : 0 < N
 ·obtain ⟨k, hk⟩ : ∃ k, Lx.rkind (s.data.toList.take N) = k := ⟨_, rfl⟩
  have hr := next_run hN h0
  rw [hk] at hr
  have HN := Lib.hid hN; have HK := Lib.hid hk; clear hN hk
  rcases hr with ⟨rfl, hr⟩ | ⟨hk0, hr⟩
  ·have HR := Lib.hid hr; clear hr
   go_enter Tryd.func26, Tryd.ntmps26
   go_wp2_with (first
    | (go_at_call 49; refine (run_at _ _ _ hs HN.out).mono ?_; rintro e w' ⟨rfl, rfl⟩)
    | (go_at_call 50; refine (rkind_at _ _ _ _ hs HK.out).mono ?_; rintro e w1 ⟨rfl, hb⟩))
   go_ret2
   exact ⟨by rw [HR.out]; rfl, hb⟩
  ·have HR := Lib.hid hr; clear hr
   have hk0' : (((k : Nat) : Int) == 0) = false := beq_eq_false_iff_ne.2 (by omega)
   go_enter Tryd.func26, Tryd.ntmps26
   go_wp2_with (first
    | (go_at_call 49; refine (run_at _ _ _ hs HN.out).mono ?_; rintro e w' ⟨rfl, rfl⟩)
    | (go_at_call 50; refine (rkind_at _ _ _ _ hs HK.out).mono ?_; rintro e w1 ⟨rfl, hb⟩))
   go_ret2
   exact ⟨by rw [HR.out]; rfl, hb⟩
 ·obtain rfl : N = 0 := by omega
  have hw0 : Lx.wordLen s.data.toList = 0 := by omega
  have HN := Lib.hid hN; have HW := Lib.hid hw0; clear hN hw0
  have hnx : Lx.next s.data.toList = if Lx.symLen s.data.toList = 0 then (0, 0) else (4, Lx.symLen s.data.toList) := by simp only [Lx.next, if_pos HW.out]
  obtain ⟨k2, hk2⟩ : ∃ k, Lx.rkind (s.data.toList.take 2) = k := ⟨_, rfl⟩
  obtain ⟨k1, hk1⟩ : ∃ k, Lx.rkind (s.data.toList.take 1) = k := ⟨_, rfl⟩
  obtain ⟨L, hL⟩ : ∃ L, Lx.symLen s.data.toList = L := ⟨_, rfl⟩
  have c2 : Lx.symbols.contains (s.data.toList.take 2) = decide (k2 = 4) := by rw [Bool.eq_iff_iff, decide_eq_true_eq, ← hk2, rkind_four]
  have c1 : Lx.symbols.contains (s.data.toList.take 1) = decide (k1 = 4) := by rw [Bool.eq_iff_iff, decide_eq_true_eq, ← hk1, rkind_four]
  have hsz := size_len s
  have hLv : L = if 2 ≤ s.size ∧ k2 = 4 then 2 else if 1 ≤ s.size ∧ k1 = 4 then 1 else 0 := by
   rw [← hL]
   by_cases a2 : 2 ≤ s.size ∧ k2 = 4
   ·rw [if_pos a2]; exact symLen_two (by omega) (by rw [c2]; simp [a2.2])
   ·rw [if_neg a2]
    have n2 : 2 ≤ s.data.toList.length → Lx.symbols.contains (s.data.toList.take 2) = false := fun h => by rw [c2]; simp; intro e; exact a2 ⟨by omega, e⟩
    by_cases a1 : 1 ≤ s.size ∧ k1 = 4
    ·rw [if_pos a1]; exact symLen_one (by omega) n2 (by rw [c1]; simp [a1.2])
    ·rw [if_neg a1]; exact symLen_zero n2 (fun h => by rw [c1]; simp; intro e; exact a1 ⟨by omega, e⟩)
  rw [hL] at hnx
  have HK2 := Lib.hid hk2; have HK1 := Lib.hid hk1; have HNX := Lib.hid hnx; have HLV := Lib.hid hLv
  clear hk2 hk1 hnx hLv hL c1 c2 hsz
  go_enter Tryd.func26, Tryd.ntmps26
  go_wp2_with (go_at_call 49; refine (run_at _ _ _ hs HN.out).mono ?_; rintro e w' ⟨rfl, rfl⟩)
  go_loopw [4] (fun i wr => ∃ n : Nat, n ≤ 2 ∧ Hid (L = if 2 ≤ n ∧ 2 ≤ s.size ∧ k2 = 4 then 2 else if 1 ≤ n ∧ 1 ≤ s.size ∧ k1 = 4 then 1 else 0) ∧ i = .int .i64 n ∧ Below w.heap.size w wr) (fun i _ => (intOf i).toNat)
  case atStart => exact ⟨2, by omega, Lib.hid (by rw [HLV.out]; simp), rfl, Below.refl _ _⟩
  case round =>
   obtain ⟨n, hn, HI, rfl, hbw⟩ := hrel
   rcases (by omega : n = 2 ∨ n = 1 ∨ n = 0) with rfl | rfl | rfl
   ·by_cases hs2 : 2 ≤ s.size
    ·have d1 : decide ((2 : Int) ≤ (s.size : Int)) = true := by simp; omega
     by_cases h4 : k2 = 4
     ·have HR := Lib.hid (show Lx.next s.data.toList = (4, 2) by rw [HNX.out, show L = 2 by rw [HI.out]; simp [hs2, h4]]; rfl)
      have h4' : (((k2 : Nat) : Int) == 4) = true := by rw [h4]; rfl
      have H4 := Lib.hid h4; clear h4
      go_wp2_with (go_at_call 50; refine (rkind_at _ _ _ _ hs HK2.out).mono ?_; rintro e w1 ⟨rfl, hb⟩)
      go_ret2
      exact ⟨by rw [HR.out]; rfl, hbw.trans (hb.mono hbw.size)⟩
     ·have h4' : (((k2 : Nat) : Int) == 4) = false := beq_eq_false_iff_ne.2 (by omega)
      have HI2 := Lib.hid (show L = if 1 ≤ s.size ∧ k1 = 4 then 1 else 0 by rw [HI.out]; simp [h4])
      go_wp2_with (go_at_call 50; refine (rkind_at _ _ _ _ hs HK2.out).mono ?_; rintro e w1 ⟨rfl, hb⟩)
      go_roundw
      case rel => exact ⟨1, by omega, Lib.hid (by rw [HI2.out]; simp), rfl, hbw.trans (hb.mono hbw.size)⟩
      case measure => simp [intOf]
    ·have d1 : decide ((2 : Int) ≤ (s.size : Int)) = false := by simp; omega
     have HI2 := Lib.hid (show L = if 1 ≤ s.size ∧ k1 = 4 then 1 else 0 by rw [HI.out]; simp [hs2])
     go_wp2
     go_roundw
     case rel => exact ⟨1, by omega, Lib.hid (by rw [HI2.out]; simp), rfl, hbw⟩
     case measure => simp [intOf]
   ·by_cases hs2 : 1 ≤ s.size
    ·have d1 : decide ((1 : Int) ≤ (s.size : Int)) = true := by simp; omega
     by_cases h4 : k1 = 4
     ·have HR := Lib.hid (show Lx.next s.data.toList = (4, 1) by rw [HNX.out, show L = 1 by rw [HI.out]; simp [hs2, h4]]; rfl)
      have h4' : (((k1 : Nat) : Int) == 4) = true := by rw [h4]; rfl
      have H4 := Lib.hid h4; clear h4
      go_wp2_with (go_at_call 50; refine (rkind_at _ _ _ _ hs HK1.out).mono ?_; rintro e w1 ⟨rfl, hb⟩)
      go_ret2
      exact ⟨by rw [HR.out]; rfl, hbw.trans (hb.mono hbw.size)⟩
     ·have h4' : (((k1 : Nat) : Int) == 4) = false := beq_eq_false_iff_ne.2 (by omega)
      have HI2 := Lib.hid (show L = 0 by rw [HI.out]; simp [h4])
      go_wp2_with (go_at_call 50; refine (rkind_at _ _ _ _ hs HK1.out).mono ?_; rintro e w1 ⟨rfl, hb⟩)
      go_roundw
      case rel => exact ⟨0, by omega, Lib.hid (by rw [HI2.out]; simp), rfl, hbw.trans (hb.mono hbw.size)⟩
      case measure => simp [intOf]
    ·have d1 : decide ((1 : Int) ≤ (s.size : Int)) = false := by simp; omega
     have HI2 := Lib.hid (show L = 0 by rw [HI.out]; simp [hs2])
     go_wp2
     go_roundw
     case rel => exact ⟨0, by omega, Lib.hid (by rw [HI2.out]; simp), rfl, hbw⟩
     case measure => simp [intOf]
   ·have HR := Lib.hid (show Lx.next s.data.toList = (0, 0) by rw [HNX.out, HI.out]; simp)
    go_wp2
    go_ret2
    exact ⟨by rw [HR.out]; rfl, hbw⟩
end Go.Proofs.YtpcmlkpnjimbiaaDoor
namespace Go.Proofs.YtpcmlkpnjimbiaaDoor
set_option linter.unusedVariables false
set_option linter.unusedSimpArgs false
open Go.RowKit
theorem rnext_at (s : ByteArray) (p k n : Nat) (w : World) (hs : s.size ≤ 9223372036854775807) (hk : (Lx.next (s.data.toList.drop p)).1 = k) (hn : (Lx.next (s.data.toList.drop p)).2 = n) :
  Calls Tryd.prog 26 #[.string (s.extract p s.size)] w fun e w' => e = .returned (.tuple #[.int .i64 k, .int .i64 n]) ∧ Below w.heap.size w w' := by
 have h := rnext_any (s.extract p s.size) w (by rw [← size_len, ext_drop, List.length_drop, size_len]; omega)
 rw [ext_drop, hk, hn] at h
 exact h
theorem rgap_at (s : ByteArray) (p : Int) (q g : Nat) (w : World) (hpq : p = q) (hp : q ≤ s.size) (hs : s.size ≤ 9223372036854775807) (hG : g = Lx.gapG false (s.data.toList.drop q)) :
  Calls Tryd.prog 25 #[.string s, .int .i64 p] w fun e w' => e = .returned (.int .i64 (g : Int)) ∧ w = w' := by
 subst hpq; subst hG; exact rgap_any s q w hp hs
theorem ext_mid (s : ByteArray) (p n : Nat) : (s.extract p (p + n)).data.toList = (s.data.toList.drop p).take n := by rw [Lib.extract_data]; congr 1; omega
set_option maxHeartbeats 1000000 in
set_option maxRecDepth 100000 in
theorem rlex_walk (s : ByteArray) (w : World) (hs : s.size ≤ 8000) :
  Calls Tryd.prog 9 #[.string s] w fun e w' => (∃ v, e = .returned (.tuple #[v, .int .i64 (Lx.lex s.data.toList).2.1, .int .i64 (Lx.lex s.data.toList).2.2]) ∧ w'.ownsRow w.heap.size 41 3 v (Lx.lex s.data.toList).1.length (tokCells (Lx.lex s.data.toList).1)) ∧ Below w.heap.size w w' := by
 obtain ⟨i0, hi, hz0, hz1, hz2⟩ := info_parts tok_info
 have HL := Lib.hid (show s.data.toList.length ≤ 8000 by rw [size_len]; exact hs)
 have HS := Lib.hid (size_len s)
 obtain ⟨g0, hg0'⟩ : ∃ g0, g0 = Lx.gapG false (s.data.toList.drop 0) := ⟨_, rfl⟩
 have hg0 := Lx.gapG_le false s.data.toList
 have hst := ScanAt.start s.data.toList
 rw [HS.out] at hg0
 rw [show Lx.gapG false s.data.toList = g0 by rw [hg0']; simp] at hg0 hst
 have HG0 := Lib.hid hg0'
 have HST := Lib.hid hst
 clear hg0' hst
 have h8 : decide ((8000 : Int) < (s.size : Int)) = false := by simp; omega
 go_enter Tryd.func9, Tryd.ntmps9
 go_wp2_with fail
 refine (rgap_at s 0 0 g0 w rfl (by omega) (by omega) HG0.out).mono ?_
 rintro e w' ⟨rfl, rfl⟩
 go_wp2_with fail
 go_loopw [5, 6] (fun v i wr => ∃ (p : Nat) (ds : List Lx.Tok), p ≤ s.size ∧ i = .int .i64 p ∧ ds.length ≤ 3000 ∧ wr.ownsRow w.heap.size 41 3 v ds.length (tokCells ds) ∧ Hid (ScanAt s.data.toList ds p) ∧ Below w.heap.size w wr) (fun _ i _ => s.size - (intOf i).toNat)
 case atStart => exact ⟨g0, [], hg0, by simp, by simp, World.ownsRow_nil _ _ _ _, HST, Below.refl _ _⟩
 case round =>
  obtain ⟨p, ds, hp, rfl, hd, hown, HSc, hbw⟩ := hrel
  obtain ⟨a, c, rfl⟩ := own_len hown
  by_cases hlt : p < s.size
  ·by_cases h3 : ds.length = 3000
   ·have HR := Lib.hid (lex_limit HSc.out HL.out (by rw [HS.out]; exact hlt) h3)
    have h3' : ((ds.length : Int) == 3000) = true := by rw [h3]; rfl
    have H3 := Lib.hid h3; clear h3
    go_wp2
    go_ret3
    exact ⟨⟨.slice none 0 0, by rw [HR.out]; rfl, by rw [HR.out]; exact World.ownsRow_nil _ _ _ _⟩, hbw⟩
   ·have h3' : ((ds.length : Int) == 3000) = false := beq_eq_false_iff_ne.2 (by omega)
    obtain ⟨k, hk⟩ : ∃ k : Nat, (Lx.next (s.data.toList.drop p)).1 = k := ⟨_, rfl⟩
    obtain ⟨n, hn⟩ : ∃ n : Nat, (Lx.next (s.data.toList.drop p)).2 = n := ⟨_, rfl⟩
    have HK := Lib.hid hk
    have HN := Lib.hid hn
    clear hk hn
    by_cases hk0 : k = 0
    ·have HR := Lib.hid (lex_bad HSc.out HL.out (by rw [HS.out]; exact hlt) (by omega) (HK.out.trans hk0))
     have hk0' : (((k : Nat) : Int) == 0) = true := by rw [hk0]; rfl
     have HK0 := Lib.hid hk0; clear hk0
     go_wp2_with (go_at_call 26; refine (rnext_at s p k n _ (by omega) HK.out HN.out).mono ?_; rintro e w1 ⟨rfl, hb1⟩)
     go_ret3
     exact ⟨⟨.slice none 0 0, by rw [HR.out]; rfl, by rw [HR.out]; exact World.ownsRow_nil _ _ _ _⟩, hbw.trans (hb1.mono hbw.size)⟩
    ·have hk0' : (((k : Nat) : Int) == 0) = false := beq_eq_false_iff_ne.2 (by omega)
     have hk1 : (Lx.next (s.data.toList.drop p)).1 ≠ 0 := by rw [HK.out]; exact hk0
     have hnl := next_len _ hk1
     rw [HN.out, List.length_drop, HS.out] at hnl
     obtain ⟨hn1, hn2⟩ := hnl
     obtain ⟨g, hg⟩ : ∃ g, g = Lx.gapG false (s.data.toList.drop (p + n)) := ⟨_, rfl⟩
     have hG1 : p + n + g ≤ s.size := by have := Lx.gapG_le false (s.data.toList.drop (p + n)); rw [List.length_drop, HS.out] at this; omega
     have HG := Lib.hid hg
     have HM := Lib.hid (ScanAt.more (G := p + n + g) HSc.out (by rw [HS.out]; exact hlt) hk1 HN.out (by rw [hg]))
     clear hk1 hg
     obtain ⟨t, ht⟩ : ∃ t : ByteArray, t = s.extract p (p + n) := ⟨_, rfl⟩
     have HT := Lib.hid ht
     have HTL := Lib.hid (show t.data.toList = (s.data.toList.drop p).take n by rw [ht, ext_mid])
     clear ht
     go_wp2_with (first
      | (go_at_call 26; refine (rnext_at s p k n _ (by omega) HK.out HN.out).mono ?_; rintro e w1 ⟨rfl, hb1⟩; have hown1 := own_below hown hb1)
      | (at_builtin; refine wpList_append_lies _ rfl (.tmp 32) (.tmp 42) 24 rfl w.heap.size 41 i0 _ 3 32 Tryd.underlying24 hi hz0 hz1 hz2 rfl (by omega) (.slice a ds.length c) ds.length (tokCells ds) rfl (hown1.alloc _) ⟨w1.heap.size, 0, none⟩ 1 1 [.int .i64 k, .string (s.extract p (p + n)), .int .i64 p] rfl rfl (At.news (At.new _ _ _)) (one3 rfl rfl rfl) (by omega) (by unfold maxLen; omega) (by omega) (by have := hbw.size; have := hb1.size; simp; omega) (w1.heap.size + 1) (by simp) ?_; intro g' cap w2 hown2 hgrow hat hlt2)
      | (go_at_call 25; refine (rgap_at s _ (p + n) g _ (by omega) (by omega) (by omega) HG.out).mono ?_; rintro e w' ⟨rfl, rfl⟩))
     have hbw2 : Below w.heap.size w w2 := ((hbw.trans (hb1.mono hbw.size)).alloc (by have := hbw.size; have := hb1.size; omega) _).grown hgrow (by have := hbw.size; have := hb1.size; simp; omega) (fun g hg => (own_lt hown1 hg).1)
     go_roundw
     case rel => exact ⟨p + n + g, ds ++ [⟨k, t.data.toList, p⟩], hG1, by go_num, by simp; omega, own_app hown2 (by simp) (by rw [str_mk, HT.out]), Lib.hid (by rw [HTL.out]; have := HM.out; rw [HK.out] at this; exact this), hbw2⟩
     case measure => simp [intOf]; omega
  ·obtain rfl : p = s.size := by omega
   have HR := Lib.hid (lex_ok (by rw [HS.out]; exact HSc.out) HL.out hd)
   go_wp2
   go_ret3
   exact ⟨⟨_, by rw [HR.out]; rfl, by rw [HR.out]; exact hown⟩, hbw⟩
end Go.Proofs.YtpcmlkpnjimbiaaDoor
