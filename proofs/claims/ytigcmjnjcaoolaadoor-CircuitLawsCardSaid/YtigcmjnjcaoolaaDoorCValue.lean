/- The walk of the law's value: it reads a node's text, and returns the node's value. -/
import Derived.Test.YtigcmjnjcaoolaaDoorCLaw
import Derived.Test.YtigcmjnjcaoolaaDoorCLeaf
import Derived.Test.YtigcmjnjcaoolaaDoorCKey
import Derived.Lib.IndexLaws
namespace Go.Proofs.YtigcmjnjcaoolaaDoor
set_option linter.unusedVariables false
set_option linter.unusedSimpArgs false
open Go.RowKit
open Cx (N)
theorem at_drop {s : ByteArray} {p : Nat} {c : UInt8} {r : List UInt8} (h : s.data.toList.drop p = c :: r) : ∃ hp : p < s.size, s[p] = c ∧ s.data.toList.drop (p + 1) = r := by
  have h1 : p < s.data.toList.length := by
    have := congrArg List.length h
    have h2 : s.data.toList.length = s.data.size := Array.length_toList
    rw [List.length_drop, List.length_cons] at this
    omega
  have h0 : p < s.size := by have h2 : s.data.toList.length = s.data.size := Array.length_toList; have : s.size = s.data.size := rfl; omega
  rw [List.drop_eq_getElem_cons h1] at h
  injection h with h2 h3
  exact ⟨h0, h2, h3⟩
theorem drop_app {s : ByteArray} {p : Nat} {a r : List UInt8} (h : s.data.toList.drop p = a ++ r) : s.data.toList.drop (p + a.length) = r := by
  rw [← List.drop_drop, h, List.drop_left]
theorem digVal_le (l : List UInt8) (j : Nat) : digVal (l.take j) ≤ digVal l := by
  have key : ∀ (l : List UInt8) (n : Nat), n ≤ l.foldl (fun n c => 10 * n + (c.toNat - 48)) n := by
    intro l
    induction l with
    | nil => intro n; exact Nat.le_refl _
    | cons c l ih => intro n; exact Nat.le_trans (show n ≤ 10 * n + (c.toNat - 48) by omega) (ih _)
  have e : digVal l = (l.drop j).foldl (fun n c => 10 * n + (c.toNat - 48)) (digVal (l.take j)) := by
    unfold digVal
    rw [← List.foldl_append, List.take_append_drop]
  rw [e]; exact key _ _
theorem digVal_more {l : List UInt8} {j : Nat} {c : UInt8} (h : l[j]? = some c) : digVal (l.take (j + 1)) = 10 * digVal (l.take j) + (c.toNat - 48) := by
  rw [Cx.take_get h, digVal_snoc]
def LValOut (b : Bool) (n : Nat) (w : World) (e : Ending) (w' : World) : Prop := ∃ q : Nat, q = n ∧ e = .returned (.tuple #[.bool b, .int .i64 (q : Int)]) ∧ w = w'
theorem noDig_op (o : Int) (r : List UInt8) : NoDig (Cx.opB o ++ r) := by unfold Cx.opB; split <;> exact noDig_cons rfl _
set_option maxHeartbeats 2000000 in
theorem lvalue_any (l : List N) (hg : Cx.Good l) (hF : ∀ n ∈ l, NGood n) (T : Option Addr) (d : Nat) (ts : List Int) (ht : ts.length ≤ 1000000) (s : ByteArray) (hs : s.size ≤ 1000000) : ∀ (k : Nat), k < l.length → ∀ (p : Nat) (i : Int) (r : List UInt8) (w : World), i = (p : Int) → s.data.toList.drop p = Cx.textAt l k ++ r → NoDig r → Nums w T ts →
    Calls Tryd.prog 31 #[.string s, .int .i64 i, .slice T ts.length d] w (LValOut ((Cx.values ts l).getD k false) (p + (Cx.textAt l k).length) w) := by
  intro k
  induction k using Nat.strongRecOn with
  | _ k ih =>
  intro hk p i r w hi hd hr hT
  subst hi
  cases hg.kind hk with
  | zero =>
    rw [Cx.text_zero hg.z, Cx.val_zero hg.z] at *
    obtain ⟨hp, hc, _⟩ := at_drop hd
    have h1 : (((s[p].toNat : Nat) : Int) == 48) = true := by rw [hc]; rfl
    clear hd ih hc
    go_enter Tryd.func31, Tryd.ntmps31
    go_wp2
    go_ret2
    exact ⟨p + 1, rfl, rfl, rfl⟩
  | one =>
    rw [Cx.text_one hg.o, Cx.val_one hg.o] at *
    obtain ⟨hp, hc, _⟩ := at_drop hd
    have h1 : (((s[p].toNat : Nat) : Int) == 48) = false := by rw [hc]; rfl
    have h2 : (((s[p].toNat : Nat) : Int) == 49) = true := by rw [hc]; rfl
    clear hd ih hc
    go_enter Tryd.func31, Tryd.ntmps31
    go_wp2
    go_ret2
    exact ⟨p + 1, rfl, rfl, rfl⟩
  | var hv h2k h3 h4 h5 =>
    rename_i v
    obtain ⟨D, hD⟩ : ∃ D, D = Lib.decDigits v.a.toNat := ⟨_, rfl⟩
    rw [Cx.text_var hv h3, itoa_nat h4, ← hD] at hd ⊢
    rw [Cx.val_var hv h3]
    simp only [List.cons_append] at hd
    obtain ⟨hp, hc, hd1⟩ := at_drop hd
    have h1 : (((s[p].toNat : Nat) : Int) == 48) = false := by rw [hc]; rfl
    have h2 : (((s[p].toNat : Nat) : Int) == 49) = false := by rw [hc]; rfl
    have h2x : (((s[p].toNat : Nat) : Int) == 120) = true := by rw [hc]; rfl
    have hvD : digVal D = v.a.toNat := by rw [hD]; exact dec_val _
    have hdig : ∀ c ∈ D, isDig c = true := by rw [hD]; exact dec_digs _
    have hmax : v.a ≤ 9223372036854775807 := by have := (hF v (List.mem_of_getElem? hv)).2.1; unfold I64 at this; omega
    have HV := Lib.hid hvD
    have HD1 := Lib.hid hd1
    have HG := Lib.hid hdig
    obtain ⟨x, hx⟩ : ∃ x, v.a = (x : Nat) := ⟨v.a.toNat, by omega⟩
    rw [hx] at hmax ⊢
    have HX := Lib.hid (show digVal D = x by rw [hvD, hx]; simp)
    obtain ⟨R, hR⟩ : ∃ R, R = ts.contains (x : Int) := ⟨_, rfl⟩
    rw [← hR]
    rw [contains_any] at hR
    have HR := Lib.hid hR
    clear hD hd hd1 ih hc hvD hdig HV hR hx h3 h4 h5 hv
    go_enter Tryd.func31, Tryd.ntmps31
    go_wp2
    go_loop [1, 8] (fun pos n => ∃ j : Nat, j ≤ D.length ∧ pos = .int .i64 ((p + 1 + j : Nat) : Int) ∧ n = .int .i64 ((digVal (D.take j) : Nat) : Int)) (fun pos n => s.size - (intOf pos).toNat)
    case atStart => exact ⟨0, by omega, by go_num, rfl⟩
    case round =>
      obtain ⟨j, hj, rfl, rfl⟩ := hrel
      have hdq : s.data.toList.drop (p + 1 + j) = D.drop j ++ r := by
        rw [← List.drop_drop, HD1.out, List.drop_append_of_le_length hj]
      obtain ⟨q, hq⟩ : ∃ q, q = p + 1 + j := ⟨_, rfl⟩
      rw [← hq] at hdq ⊢
      have HQ := Lib.hid hq
      by_cases hlt : j < D.length
      · have hDj := List.getElem?_eq_getElem hlt
        rw [List.drop_eq_getElem_cons hlt, List.cons_append] at hdq
        obtain ⟨hq0, hcq, _⟩ := at_drop hdq
        have hdc := HG.out D[j] (List.getElem_mem hlt)
        have hmore := digVal_more hDj
        have hle := digVal_le D (j + 1)
        rw [HX.out] at hle
        obtain ⟨m, hm⟩ : ∃ m, digVal (D.take j) = m := ⟨_, rfl⟩
        rw [hm] at hmore ⊢
        rw [hmore] at hle
        generalize D[j] = c at *
        unfold isDig at hdc
        simp only [Bool.and_eq_true, decide_eq_true_eq] at hdc
        obtain ⟨g1, g2⟩ := hdc
        have e1 : (48 : Int) ≤ ((c.toNat : Nat) : Int) := by omega
        have e2 : ((c.toNat : Nat) : Int) ≤ 57 := by omega
        have HM := Lib.hid hmore
        clear hdq hDj hmore hm hq HG
        go_wp2
        go_round
        case rel => exact ⟨j + 1, by omega, by rw [HQ.out]; go_num, by rw [HM.out]; go_num⟩
        case measure => simp [intOf]; omega
      · have hjD : j = D.length := by omega
        rw [show D.drop j = [] from List.drop_eq_nil_of_le (by omega), List.nil_append] at hdq
        rw [show D.take j = D from List.take_of_length_le (by omega), HX.out]
        have h3w : s.size ≤ q ∨ (∃ hq0 : q < s.size, ¬ ((48 : Int) ≤ ((s[q].toNat : Nat) : Int))) ∨ (∃ hq0 : q < s.size, ((48 : Int) ≤ ((s[q].toNat : Nat) : Int)) ∧ ¬ (((s[q].toNat : Nat) : Int) ≤ 57)) := by
          by_cases hq0 : q < s.size
          · have h2 : s.data.toList.length = s.data.size := Array.length_toList
            have h3 : s.size = s.data.size := rfl
            have hcons := List.drop_eq_getElem_cons (show q < s.data.toList.length by omega)
            have hno := hr s[q] _ (hdq.symm.trans hcons)
            unfold isDig at hno
            by_cases e1 : (48 : Int) ≤ ((s[q].toNat : Nat) : Int)
            · refine Or.inr (Or.inr ⟨hq0, e1, fun e2 => ?_⟩)
              rw [decide_eq_true (by omega), decide_eq_true (by omega)] at hno
              cases hno
            · exact Or.inr (Or.inl ⟨hq0, e1⟩)
          · exact Or.inl (by omega)
        have HN := Lib.hid (show q = p + (120 :: D).length by rw [List.length_cons]; omega)
        clear hdq hq HG HX hj hlt
        rcases h3w with e | ⟨e, e1⟩ | ⟨e, e1, e2⟩
        all_goals
          go_wp2
          go_loop [9, 10] (fun b i => ∃ (k : Nat) (y : Bool), k ≤ ts.length ∧ Hid (R = (y || (ts.drop k).any (· == (x : Int)))) ∧ b = .bool y ∧ i = .int .i64 k) (fun b i => ts.length - (intOf i).toNat)
          case atStart => exact ⟨0, false, by omega, Lib.hid (by rw [HR.out]; rfl), rfl, rfl⟩
          case round =>
            obtain ⟨k, y, hk, HK, rfl, rfl⟩ := hrel
            by_cases h1 : k < ts.length
            · have d1 : decide ((k : Int) < (ts.length : Int)) = true := by simp; omega
              obtain ⟨g, o, rfl, hg, c1⟩ := hT.at h1
              have hE : R = ((y || (ts[k] == (x : Int))) || (ts.drop (k + 1)).any (· == (x : Int))) := by
                rw [HK.out, List.drop_eq_getElem_cons h1, List.any_cons, Bool.or_assoc]
              generalize ts[k] = z at *
              have HE := Lib.hid hE
              clear hE
              have i0 : (0 : Int) ≤ (k : Int) := by omega
              have i1 : (k : Int) < (ts.length : Int) := by omega
              cases y
              · go_wp2
                go_round
                case rel => exact ⟨k + 1, (z == (x : Int)), by omega, Lib.hid (by rw [HE.out]; rfl), rfl, by go_num⟩
                case measure => simp [intOf]; omega
              · go_wp2
                go_round
                case rel => exact ⟨k + 1, true, by omega, Lib.hid (by rw [HE.out]; rfl), rfl, by go_num⟩
                case measure => simp [intOf]; omega
            · have d1 : decide ((k : Int) < (ts.length : Int)) = false := by simp; omega
              have HE := Lib.hid (show R = y by rw [HK.out, List.drop_eq_nil_of_le (by omega)]; simp)
              go_wp2
              go_ret2
              exact ⟨q, HN.out, by rw [HE.out]; rfl, rfl⟩
  | two a b hv h2 h3 ha hb h4 h5 h6 =>
    rename_i v
    rw [Cx.text_two hv h3 ha hb (by omega) h6] at hd ⊢
    rw [Cx.val_two hv h3 ha hb (by omega) h6]
    simp only [List.cons_append, List.append_assoc] at hd
    obtain ⟨hp, hc, hd1⟩ := at_drop hd
    have h1 : (((s[p].toNat : Nat) : Int) == 48) = false := by rw [hc]; rfl
    have h2 : (((s[p].toNat : Nat) : Int) == 49) = false := by rw [hc]; rfl
    have h2x : (((s[p].toNat : Nat) : Int) == 120) = false := by rw [hc]; rfl
    obtain ⟨x, hx⟩ : ∃ x, (Cx.values ts l).getD a false = x := ⟨_, rfl⟩
    obtain ⟨y, hy⟩ : ∃ y, (Cx.values ts l).getD b false = y := ⟨_, rfl⟩
    have iha := ih a (by omega) (by omega)
    have ihb := ih b (by omega) (by omega)
    rw [hx] at iha ⊢
    rw [hy] at ihb ⊢
    obtain ⟨na, hna⟩ : ∃ na, (Cx.textAt l a).length = na := ⟨_, rfl⟩
    obtain ⟨nb, hnb⟩ : ∃ nb, (Cx.textAt l b).length = nb := ⟨_, rfl⟩
    rw [hna] at iha
    rw [hnb] at ihb
    have hlen : (40 :: Cx.textAt l a ++ Cx.opB v.o ++ Cx.textAt l b ++ [41]).length = na + nb + 5 := by
      simp only [List.length_append, List.length_cons, List.length_nil, Cx.opB_len, hna, hnb]; omega
    rw [hlen]
    have HNA := Lib.hid hna
    have HNB := Lib.hid hnb
    clear ih hx hy hlen hna hnb hc hd
    have hv3 : (v.o = 3 ∧ Cx.opB v.o = [32, 43, 32] ∧ Cx.opV v.o x y = (x || y)) ∨ (v.o = 4 ∧ Cx.opB v.o = [32, 42, 32] ∧ Cx.opV v.o x y = (x && y)) := by
      rcases h3 with h3 | h3 <;> simp [h3, Cx.opB, Cx.opV, Cx.plusB, Cx.timesB]
    rcases hv3 with ⟨_, ho, hV⟩ | ⟨_, ho, hV⟩
    all_goals
      rw [hV]
      go_enter Tryd.func31, Tryd.ntmps31
      go_wp2_with fail
      refine (iha (p + 1) _ _ _ (by simp) hd1 (noDig_op _ _) hT).mono ?_
      rintro e w1 ⟨q, hq, rfl, rfl⟩
      have hd2 := drop_app hd1
      rw [HNA.out, ← hq] at hd2
      rw [ho] at hd2
      simp only [List.cons_append, List.nil_append] at hd2
      obtain ⟨hq0, hc0, hd3⟩ := at_drop hd2
      obtain ⟨hq1, hc1, hd4⟩ := at_drop hd3
      obtain ⟨hq2, hc2, hd5⟩ := at_drop hd4
      have HD5 := Lib.hid hd5
      have HQ := Lib.hid hq
      clear hd2 hd3 hd4 hd5 hd1 hq hc0 hc2
      go_wp2_with fail
      refine (ihb (q + 1 + 1 + 1) _ _ _ (by simp; omega) HD5.out (noDig_cons rfl _) hT).mono ?_
      rintro e w2 ⟨q2, hq2', rfl, rfl⟩
      have HQ2 := Lib.hid hq2'
      have hlq : q2 ≤ 1000000 := by
        have h6 := congrArg List.length HD5.out
        have h7 : s.data.toList.length = s.size := Array.length_toList
        have h8 := HNB.out
        rw [List.length_drop, List.length_append, List.length_cons] at h6
        omega
      clear hq2' HD5
      cases x
      all_goals
        go_wp2_with fail
        go_ret2
        exact ⟨q2 + 1, by have := HQ2.out; have := HQ.out; omega, by first | rfl | (simp; done) | (cases y <;> rfl), rfl⟩
end Go.Proofs.YtigcmjnjcaoolaaDoor
