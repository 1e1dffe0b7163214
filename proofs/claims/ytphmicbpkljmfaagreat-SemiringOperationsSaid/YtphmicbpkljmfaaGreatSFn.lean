/- The walks of contains, slices.Compare, before. -/
import Derived.Test.YtphmicbpkljmfaaGreatSRef1
namespace Go.Proofs.YtphmicbpkljmfaaGreat
set_option linter.unusedVariables false
set_option linter.unusedSimpArgs false
open Go.RowKit
/-- What slices.Compare says. -/
def cmpS : List Int → List Int → Int
  | [], [] => 0
  | [], _ :: _ => -1
  | _ :: _, [] => 1
  | a :: r, b :: s => if a < b then -1 else if b < a then 1 else cmpS r s
def cmpI (a b : Int) : Int := if a < b then -1 else if b < a then 1 else 0
theorem compare_is (a b : Int) : Lib.compareInt a b = cmpI a b := rfl
theorem cmpS_step {N : Int} {a b : List Int} {k : Nat} {x y : Int} (h : N = cmpS (a.drop k) (b.drop k)) (hx : a[k]? = some x) (hy : b[k]? = some y) : N = if x < y then -1 else if y < x then 1 else cmpS (a.drop (k + 1)) (b.drop (k + 1)) := by
  obtain ⟨hk, e⟩ := List.getElem?_eq_some_iff.1 hx
  obtain ⟨hk', e'⟩ := List.getElem?_eq_some_iff.1 hy
  rw [h, List.drop_eq_getElem_cons hk, e, List.drop_eq_getElem_cons hk', e']; rfl
theorem scompare_any (A : Option Addr) (c : Nat) (a : List Int) (B : Option Addr) (d : Nat) (b : List Int) (w : World) (hx : a.length ≤ 9223372036854775807) (hy : b.length ≤ 9223372036854775807) (hA : Nums w A a) (hB : Nums w B b) :
    Calls Tryz.prog 123 #[.slice A a.length c, .slice B b.length d] w fun e w' => e = .returned (.int .i64 (cmpS a b)) ∧ w = w' := by
  obtain ⟨N, hN⟩ : ∃ N, N = cmpS a b := ⟨_, rfl⟩
  rw [← hN]
  have HN := Lib.hid (show N = cmpS (a.drop 0) (b.drop 0) from hN)
  clear hN
  go_enter Tryz.func123, Tryz.ntmps123
  go_wp2_with fail
  go_loop [11] (fun i => ∃ k : Nat, k ≤ a.length ∧ k ≤ b.length ∧ Hid (N = cmpS (a.drop k) (b.drop k)) ∧ i = .int .i64 k) (fun i => a.length - (intOf i).toNat)
  case atStart => exact ⟨0, by omega, by omega, HN, rfl⟩
  case round =>
    obtain ⟨k, hk, hk', HK, rfl⟩ := hrel
    by_cases h1 : k < a.length
    · have d1 : decide ((k : Int) < (a.length : Int)) = true := by simp; omega
      obtain ⟨g, o, rfl, hg, c1⟩ := hA.at h1
      by_cases h2 : k < b.length
      · have d2 : decide ((b.length : Int) ≤ (k : Int)) = false := by simp; omega
        obtain ⟨g', o', rfl, hg', c1'⟩ := hB.at h2
        have hE := cmpS_step HK.out (getElem_of h1) (getElem_of h2)
        have i0 : (0 : Int) ≤ (k : Int) := by omega
        have i1 : (k : Int) < (a.length : Int) := by omega
        have i2 : (k : Int) < (b.length : Int) := by omega
        generalize a[k] = x at *
        generalize b[k] = y at *
        have HC := Lib.hid (compare_is x y)
        obtain ⟨z, hz⟩ : ∃ z, cmpI x y = z := ⟨_, rfl⟩
        cases hne : (z != 0)
        · have hz0 : z = 0 := by simpa using hne
          have HE := Lib.hid (show N = cmpS (a.drop (k + 1)) (b.drop (k + 1)) by
            rw [hE]; unfold cmpI at hz; split at hz
            · omega
            · split at hz
              · omega
              · rw [if_neg (by omega), if_neg (by omega)])
          have HZ := Lib.hid hz
          clear hE hz hz0
          go_wp2_with fail
          refine (Tryz.cmp_Compare_int x y _).mono ?_
          rintro e w1 ⟨rfl, rfl⟩
          rw [HC.out, HZ.out]
          go_wp2_with fail
          go_round
          case rel => exact ⟨k + 1, by omega, by omega, HE, by go_num⟩
          case measure => simp [intOf]; omega
        · have hz0 : z ≠ 0 := by simpa using hne
          have HE := Lib.hid (show N = z by
            rw [hE]; unfold cmpI at hz; split at hz
            · rw [if_pos (by omega)]; omega
            · split at hz
              · rw [if_neg (by omega), if_pos (by omega)]; omega
              · omega)
          have HZ := Lib.hid hz
          clear hE hz hz0
          go_wp2_with fail
          refine (Tryz.cmp_Compare_int x y _).mono ?_
          rintro e w1 ⟨rfl, rfl⟩
          rw [HC.out, HZ.out]
          go_wp2_with fail
          go_ret
          exact ⟨by rw [HE.out]; rfl, rfl⟩
      · have d2 : decide ((b.length : Int) ≤ (k : Int)) = true := by simp; omega
        have d2' : decide (b.length ≤ k) = true := by simp; omega
        have HE := Lib.hid (show N = 1 by rw [HK.out, List.drop_eq_getElem_cons h1, List.drop_eq_nil_of_le (show b.length ≤ k by omega)]; rfl)
        have i0 : (0 : Int) ≤ (k : Int) := by omega
        have i1 : (k : Int) < (a.length : Int) := by omega
        go_wp2_with fail
        go_ret
        exact ⟨by rw [HE.out]; rfl, rfl⟩
    · have d1 : decide ((k : Int) < (a.length : Int)) = false := by simp; omega
      by_cases h2 : a.length < b.length
      · have d2 : decide ((a.length : Int) < (b.length : Int)) = true := by simp; omega
        have d2' : decide (a.length < b.length) = true := by simp; omega
        have HE := Lib.hid (show N = -1 by rw [HK.out, List.drop_eq_nil_of_le (show a.length ≤ k by omega), List.drop_eq_getElem_cons (show k < b.length by omega)]; rfl)
        go_wp2_with fail
        go_ret
        exact ⟨by rw [HE.out]; rfl, rfl⟩
      · have d2 : decide ((a.length : Int) < (b.length : Int)) = false := by simp; omega
        have d2' : decide (a.length < b.length) = false := by simp; omega
        have HE := Lib.hid (show N = 0 by rw [HK.out, List.drop_eq_nil_of_le (show a.length ≤ k by omega), List.drop_eq_nil_of_le (show b.length ≤ k by omega)]; rfl)
        go_wp2_with fail
        go_ret
        exact ⟨by rw [HE.out]; rfl, rfl⟩
/-- What before says. -/
def bef (a b : List Int) : Int := if cmpI a.length b.length ≠ 0 then cmpI a.length b.length else cmpS a b
theorem cmpS_lex : ∀ a b : List Int, decide (cmpS a b < 0) = Fm.lex a b
  | [], [] => rfl
  | [], _ :: _ => rfl
  | _ :: _, [] => rfl
  | a :: r, b :: s => by
    unfold cmpS Fm.lex
    split
    · rfl
    · split
      · rfl
      · exact cmpS_lex r s
theorem bef_lt (a b : List Int) : decide (bef a b < 0) = Fm.lt a b := by
  unfold bef Fm.lt cmpI
  by_cases h1 : a.length < b.length
  · rw [if_pos h1, if_pos (show (a.length : Int) < b.length by omega)]; rfl
  · rw [if_neg h1, if_neg (show ¬ (a.length : Int) < b.length by omega)]
    by_cases h2 : b.length < a.length
    · rw [if_pos h2, if_pos (show (b.length : Int) < a.length by omega)]; rfl
    · rw [if_neg h2, if_neg (show ¬ (b.length : Int) < a.length by omega)]
      exact cmpS_lex a b
theorem before_any (A : Option Addr) (c : Nat) (a : List Int) (B : Option Addr) (d : Nat) (b : List Int) (w : World) (hx : a.length ≤ 9223372036854775807) (hy : b.length ≤ 9223372036854775807) (hA : Nums w A a) (hB : Nums w B b) :
    Calls Tryz.prog 118 #[.slice A a.length c, .slice B b.length d] w fun e w' => e = .returned (.int .i64 (bef a b)) ∧ w = w' := by
  obtain ⟨N, hN⟩ : ∃ N, N = bef a b := ⟨_, rfl⟩
  rw [← hN]
  unfold bef at hN
  have HC := Lib.hid (compare_is a.length b.length)
  obtain ⟨z, hz⟩ : ∃ z, cmpI a.length b.length = z := ⟨_, rfl⟩
  rw [hz] at hN
  have HZ := Lib.hid hz
  clear hz
  cases hne : (z != 0)
  · have hz0 : z = 0 := by simpa using hne
    rw [if_neg (by omega)] at hN
    have HN := Lib.hid hN
    clear hN hz0
    go_enter Tryz.func118, Tryz.ntmps118
    go_wp2_with fail
    refine (Tryz.cmp_Compare_int _ _ _).mono ?_
    rintro e w1 ⟨rfl, rfl⟩
    rw [HC.out, HZ.out]
    go_wp2_with fail
    refine (scompare_any A c a B d b _ hx hy hA hB).mono ?_
    rintro e w1 ⟨rfl, rfl⟩
    rw [← HN.out]
    go_wp2_with fail
    go_ret
    exact ⟨rfl, rfl⟩
  · have hz0 : z ≠ 0 := by simpa using hne
    rw [if_pos hz0] at hN
    have HN := Lib.hid hN
    clear hN hz0
    go_enter Tryz.func118, Tryz.ntmps118
    go_wp2_with fail
    refine (Tryz.cmp_Compare_int _ _ _).mono ?_
    rintro e w1 ⟨rfl, rfl⟩
    rw [HC.out, HZ.out]
    go_wp2_with fail
    go_ret
    exact ⟨by rw [HN.out]; rfl, rfl⟩
end Go.Proofs.YtphmicbpkljmfaaGreat
