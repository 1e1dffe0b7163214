/- The walk of the reference's Next. -/
import Derived.Test.YtgoplhlbcmfocaaDoorRefGap
namespace Go.Proofs.YtgoplhlbcmfocaaDoor
set_option linter.unusedVariables false
set_option linter.unusedSimpArgs false
open Go.RowKit
theorem sym_lens : ∀ p ∈ Lx.symbols, (p.length = 1 ∨ p.length = 2) ∧ p.all Lx.wordB = false := by decide
theorem wkind_le (l : List UInt8) : Lx.wkind l ≤ 3 := by
  cases l with
  | nil => simp [Lx.wkind]
  | cons c r => simp only [Lx.wkind]; repeat' split
                all_goals omega
theorem rkind_four (l : List UInt8) : (Lx.rkind l = 4) ↔ Lx.symbols.contains l = true := by
  constructor
  · intro h
    cases hc : Lx.symbols.contains l
    · have hw := wkind_le l
      simp only [Lx.rkind, hc] at h
      simp at h
      split at h
      · omega
      · split at h <;> omega
    · rfl
  · exact rk_sym
theorem symLen_two {l : List UInt8} (h : 2 ≤ l.length) (hc : Lx.symbols.contains (l.take 2) = true) : Lx.symLen l = 2 := by
  match l, h with
  | a :: b :: r, _ =>
    simp only [List.take_succ_cons, List.take_zero, List.contains_iff_mem, Lx.symbols, List.mem_cons, List.cons.injEq, List.not_mem_nil, or_false, and_true, and_false, reduceCtorEq] at hc
    rcases hc with ⟨rfl, rfl⟩ | ⟨rfl, rfl⟩ | ⟨rfl, rfl⟩ | ⟨rfl, rfl⟩ | ⟨rfl, rfl⟩ <;> rfl
theorem symLen_one {l : List UInt8} (h : 1 ≤ l.length) (h2 : 2 ≤ l.length → Lx.symbols.contains (l.take 2) = false) (hc : Lx.symbols.contains (l.take 1) = true) : Lx.symLen l = 1 := by
  match l, h with
  | a :: r, _ =>
    simp only [List.take_succ_cons, List.take_zero, List.contains_iff_mem, Lx.symbols, List.mem_cons, List.cons.injEq, List.not_mem_nil, or_false, and_true, and_false, reduceCtorEq, false_or] at hc
    match r with
    | [] => rcases hc with rfl | rfl | rfl | rfl | rfl | rfl | rfl | rfl | rfl | rfl <;> rfl
    | b :: r =>
      have h2 := h2 (by simp)
      rw [← Bool.not_eq_true, List.contains_iff_mem] at h2
      simp only [List.take_succ_cons, List.take_zero, Lx.symbols, List.mem_cons, List.cons.injEq, List.not_mem_nil, or_false, and_true, and_false, reduceCtorEq] at h2
      rcases hc with rfl | rfl | rfl | rfl | rfl | rfl | rfl | rfl | rfl | rfl <;> simp_all [Lx.symLen, Lx.symbols, List.find?, List.isPrefixOf]
      · rw [show ((45 : UInt8) == b) = false from beq_eq_false_iff_ne.2 (fun e => h2 e.symm)]; rfl
      · rw [show ((61 : UInt8) == b) = false from beq_eq_false_iff_ne.2 (fun e => h2 e.symm)]; rfl
theorem symLen_zero {l : List UInt8} (h2 : 2 ≤ l.length → Lx.symbols.contains (l.take 2) = false) (h1 : 1 ≤ l.length → Lx.symbols.contains (l.take 1) = false) : Lx.symLen l = 0 := by
  have : Lx.symbols.find? (fun p => p.isPrefixOf l) = none := by
    rw [List.find?_eq_none]
    intro p hp hpre
    have hpre := List.isPrefixOf_iff_prefix.1 hpre
    have ht : l.take p.length = p := by obtain ⟨r, rfl⟩ := hpre; simp
    have hle := hpre.length_le
    rcases (sym_lens p hp).1 with e | e
    · have := h1 (by omega); rw [← e, ht, ← Bool.not_eq_true, List.contains_iff_mem] at this; exact this hp
    · have := h2 (by omega); rw [← e, ht, ← Bool.not_eq_true, List.contains_iff_mem] at this; exact this hp
  simp [Lx.symLen, this]
theorem wk_long {l : List UInt8} (h : 16 < l.length) : Lx.wkind l = 0 := by
  cases l with
  | nil => rfl
  | cons c r => simp only [Lx.wkind, if_pos h]
theorem takeWhile_all (l : List UInt8) (f : UInt8 → Bool) : (l.takeWhile f).all f = true := by
  induction l with
  | nil => rfl
  | cons c r ih => rw [List.takeWhile_cons]; cases h : f c <;> simp [h, ih]
theorem sym_noword {l : List UInt8} (h : l.all Lx.wordB = true) : Lx.symbols.contains l = false := by
  rw [← Bool.not_eq_true, List.contains_iff_mem]
  intro hm; rw [(sym_lens l hm).2] at h; cases h
/-- A text that begins with a word: what the reference's Next sees of it. -/
theorem next_run {l : List UInt8} {n : Nat} (hn : n = min (Lx.wordLen l) 17) (h0 : 0 < n) : (Lx.rkind (l.take n) = 0 ∧ Lx.next l = (0, 0)) ∨ (Lx.rkind (l.take n) ≠ 0 ∧ Lx.next l = (Lx.rkind (l.take n), n)) := by
  have hw := Lx.wordLen_le l
  have hall : (l.take n).all Lx.wordB = true := by
    have : l.take n = (l.takeWhile Lx.wordB).take n := by rw [← Lx.take_wordLen, List.take_take, Nat.min_eq_left (by omega)]
    rw [this, List.all_eq_true]
    intro x hx
    exact List.all_eq_true.1 (takeWhile_all l Lx.wordB) x (List.mem_of_mem_take hx)
  have hs := sym_noword hall
  have hlen : (l.take n).length = n := by rw [List.length_take]; omega
  by_cases h : Lx.wordLen l ≤ 16
  · obtain rfl : n = Lx.wordLen l := by omega
    rw [rk_word hs (by omega) hall]
    by_cases hz : Lx.wkind (l.take (Lx.wordLen l)) = 0
    · exact Or.inl ⟨hz, by simp only [Lx.next, if_neg (show ¬ Lx.wordLen l = 0 by omega), hz, if_true]⟩
    · exact Or.inr ⟨hz, by simp only [Lx.next, if_neg (show ¬ Lx.wordLen l = 0 by omega), if_neg hz]⟩
  · obtain rfl : n = 17 := by omega
    refine Or.inl ⟨rk_short hs (Or.inr (by omega)), ?_⟩
    simp only [Lx.next, if_neg (show ¬ Lx.wordLen l = 0 by omega), wk_long (show 16 < (l.take (Lx.wordLen l)).length by rw [List.length_take]; omega), if_true]
theorem rkind_at (s : ByteArray) (n k : Nat) (w : World) (hs : s.size ≤ 9223372036854775807) (hk : Lx.rkind (s.data.toList.take n) = k) :
    Calls Tryd.prog 16 #[.string (s.extract 0 n)] w fun e w' => e = .returned (.int .i64 (k : Int)) ∧ Below w.heap.size w w' := by
  have h := rkind_any (s.extract 0 n) w (by rw [← size_len, ext_take, List.length_take, size_len]; omega)
  rw [ext_take, hk] at h; exact h
theorem run_at (s : ByteArray) (N : Nat) (w : World) (hs : s.size ≤ 9223372036854775807) (hN : N = min (Lx.wordLen s.data.toList) 17) :
    Calls Tryd.prog 34 #[.string s, .int .i64 17] w fun e w' => e = .returned (.int .i64 (N : Int)) ∧ w = w' := by
  subst hN; exact run_any s 17 w hs (by omega)
set_option maxHeartbeats 1000000 in
set_option maxRecDepth 100000 in
theorem rnext_any (s : ByteArray) (w : World) (hs : s.size ≤ 9223372036854775807) :
    Calls Tryd.prog 23 #[.string s] w fun e w' => e = .returned (.tuple #[.int .i64 (Lx.next s.data.toList).1, .int .i64 (Lx.next s.data.toList).2]) ∧ Below w.heap.size w w' := by
  obtain ⟨N, hN⟩ : ∃ N, N = min (Lx.wordLen s.data.toList) 17 := ⟨_, rfl⟩
  have hNs : N ≤ s.size := by have := Lx.wordLen_le s.data.toList; rw [size_len] at this; omega
  have hN17 : N ≤ 17 := by omega
  by_cases h0 : 0 < N
  · obtain ⟨k, hk⟩ : ∃ k, Lx.rkind (s.data.toList.take N) = k := ⟨_, rfl⟩
    have hr := next_run hN h0
    rw [hk] at hr
    have HN := Lib.hid hN; have HK := Lib.hid hk; clear hN hk
    rcases hr with ⟨rfl, hr⟩ | ⟨hk0, hr⟩
    · have HR := Lib.hid hr; clear hr
      go_enter Tryd.func23, Tryd.ntmps23
      go_wp2_with (first
        | (go_at_call 34; refine (run_at _ _ _ hs HN.out).mono ?_; rintro e w' ⟨rfl, rfl⟩)
        | (go_at_call 16; refine (rkind_at _ _ _ _ hs HK.out).mono ?_; rintro e w1 ⟨rfl, hb⟩))
      go_ret2
      exact ⟨by rw [HR.out]; rfl, hb⟩
    · have HR := Lib.hid hr; clear hr
      have hk0' : (((k : Nat) : Int) == 0) = false := beq_eq_false_iff_ne.2 (by omega)
      go_enter Tryd.func23, Tryd.ntmps23
      go_wp2_with (first
        | (go_at_call 34; refine (run_at _ _ _ hs HN.out).mono ?_; rintro e w' ⟨rfl, rfl⟩)
        | (go_at_call 16; refine (rkind_at _ _ _ _ hs HK.out).mono ?_; rintro e w1 ⟨rfl, hb⟩))
      go_ret2
      exact ⟨by rw [HR.out]; rfl, hb⟩
  · obtain rfl : N = 0 := by omega
    have hw0 : Lx.wordLen s.data.toList = 0 := by omega
    have HN := Lib.hid hN; have HW := Lib.hid hw0; clear hN hw0
    have hnx : Lx.next s.data.toList = if Lx.symLen s.data.toList = 0 then (0, 0) else (4, Lx.symLen s.data.toList) := by simp only [Lx.next, if_pos HW.out]
    obtain ⟨k2, hk2⟩ : ∃ k, Lx.rkind (s.data.toList.take 2) = k := ⟨_, rfl⟩
    obtain ⟨k1, hk1⟩ : ∃ k, Lx.rkind (s.data.toList.take 1) = k := ⟨_, rfl⟩
    obtain ⟨L, hL⟩ : ∃ L, Lx.symLen s.data.toList = L := ⟨_, rfl⟩
    have c2 : Lx.symbols.contains (s.data.toList.take 2) = decide (k2 = 4) := by rw [Bool.eq_iff_iff, decide_eq_true_eq, ← hk2, rkind_four]
    have c1 : Lx.symbols.contains (s.data.toList.take 1) = decide (k1 = 4) := by rw [Bool.eq_iff_iff, decide_eq_true_eq, ← hk1, rkind_four]
    have hsz := size_len s
    have hLv : L = if 2 ≤ s.size ∧ k2 = 4 then 2 else if 1 ≤ s.size ∧ k1 = 4 then 1 else 0 := by
      rw [← hL]
      by_cases a2 : 2 ≤ s.size ∧ k2 = 4
      · rw [if_pos a2]; exact symLen_two (by omega) (by rw [c2]; simp [a2.2])
      · rw [if_neg a2]
        have n2 : 2 ≤ s.data.toList.length → Lx.symbols.contains (s.data.toList.take 2) = false := fun h => by rw [c2]; simp; intro e; exact a2 ⟨by omega, e⟩
        by_cases a1 : 1 ≤ s.size ∧ k1 = 4
        · rw [if_pos a1]; exact symLen_one (by omega) n2 (by rw [c1]; simp [a1.2])
        · rw [if_neg a1]; exact symLen_zero n2 (fun h => by rw [c1]; simp; intro e; exact a1 ⟨by omega, e⟩)
    rw [hL] at hnx
    have HK2 := Lib.hid hk2; have HK1 := Lib.hid hk1; have HNX := Lib.hid hnx; have HLV := Lib.hid hLv
    clear hk2 hk1 hnx hLv hL c1 c2 hsz
    go_enter Tryd.func23, Tryd.ntmps23
    go_wp2_with (go_at_call 34; refine (run_at _ _ _ hs HN.out).mono ?_; rintro e w' ⟨rfl, rfl⟩)
    go_loopw [4] (fun i wr => ∃ n : Nat, n ≤ 2 ∧ Hid (L = if 2 ≤ n ∧ 2 ≤ s.size ∧ k2 = 4 then 2 else if 1 ≤ n ∧ 1 ≤ s.size ∧ k1 = 4 then 1 else 0) ∧ i = .int .i64 n ∧ Below w.heap.size w wr) (fun i _ => (intOf i).toNat)
    case atStart => exact ⟨2, by omega, Lib.hid (by rw [HLV.out]; simp), rfl, Below.refl _ _⟩
    case round =>
      obtain ⟨n, hn, HI, rfl, hbw⟩ := hrel
      rcases (by omega : n = 2 ∨ n = 1 ∨ n = 0) with rfl | rfl | rfl
      · by_cases hs2 : 2 ≤ s.size
        · have d1 : decide ((2 : Int) ≤ (s.size : Int)) = true := by simp; omega
          by_cases h4 : k2 = 4
          · have HR := Lib.hid (show Lx.next s.data.toList = (4, 2) by rw [HNX.out, show L = 2 by rw [HI.out]; simp [hs2, h4]]; rfl)
            have h4' : (((k2 : Nat) : Int) == 4) = true := by rw [h4]; rfl
            have H4 := Lib.hid h4; clear h4
            go_wp2_with (go_at_call 16; refine (rkind_at _ _ _ _ hs HK2.out).mono ?_; rintro e w1 ⟨rfl, hb⟩)
            go_ret2
            exact ⟨by rw [HR.out]; rfl, hbw.trans (hb.mono hbw.size)⟩
          · have h4' : (((k2 : Nat) : Int) == 4) = false := beq_eq_false_iff_ne.2 (by omega)
            have HI2 := Lib.hid (show L = if 1 ≤ s.size ∧ k1 = 4 then 1 else 0 by rw [HI.out]; simp [h4])
            go_wp2_with (go_at_call 16; refine (rkind_at _ _ _ _ hs HK2.out).mono ?_; rintro e w1 ⟨rfl, hb⟩)
            go_roundw
            case rel => exact ⟨1, by omega, Lib.hid (by rw [HI2.out]; simp), rfl, hbw.trans (hb.mono hbw.size)⟩
            case measure => simp [intOf]
        · have d1 : decide ((2 : Int) ≤ (s.size : Int)) = false := by simp; omega
          have HI2 := Lib.hid (show L = if 1 ≤ s.size ∧ k1 = 4 then 1 else 0 by rw [HI.out]; simp [hs2])
          go_wp2
          go_roundw
          case rel => exact ⟨1, by omega, Lib.hid (by rw [HI2.out]; simp), rfl, hbw⟩
          case measure => simp [intOf]
      · by_cases hs2 : 1 ≤ s.size
        · have d1 : decide ((1 : Int) ≤ (s.size : Int)) = true := by simp; omega
          by_cases h4 : k1 = 4
          · have HR := Lib.hid (show Lx.next s.data.toList = (4, 1) by rw [HNX.out, show L = 1 by rw [HI.out]; simp [hs2, h4]]; rfl)
            have h4' : (((k1 : Nat) : Int) == 4) = true := by rw [h4]; rfl
            have H4 := Lib.hid h4; clear h4
            go_wp2_with (go_at_call 16; refine (rkind_at _ _ _ _ hs HK1.out).mono ?_; rintro e w1 ⟨rfl, hb⟩)
            go_ret2
            exact ⟨by rw [HR.out]; rfl, hbw.trans (hb.mono hbw.size)⟩
          · have h4' : (((k1 : Nat) : Int) == 4) = false := beq_eq_false_iff_ne.2 (by omega)
            have HI2 := Lib.hid (show L = 0 by rw [HI.out]; simp [h4])
            go_wp2_with (go_at_call 16; refine (rkind_at _ _ _ _ hs HK1.out).mono ?_; rintro e w1 ⟨rfl, hb⟩)
            go_roundw
            case rel => exact ⟨0, by omega, Lib.hid (by rw [HI2.out]; simp), rfl, hbw.trans (hb.mono hbw.size)⟩
            case measure => simp [intOf]
        · have d1 : decide ((1 : Int) ≤ (s.size : Int)) = false := by simp; omega
          have HI2 := Lib.hid (show L = 0 by rw [HI.out]; simp [hs2])
          go_wp2
          go_roundw
          case rel => exact ⟨0, by omega, Lib.hid (by rw [HI2.out]; simp), rfl, hbw⟩
          case measure => simp [intOf]
      · have HR := Lib.hid (show Lx.next s.data.toList = (0, 0) by rw [HNX.out, HI.out]; simp)
        go_wp2
        go_ret2
        exact ⟨by rw [HR.out]; rfl, hbw⟩
end Go.Proofs.YtgoplhlbcmfocaaDoor
