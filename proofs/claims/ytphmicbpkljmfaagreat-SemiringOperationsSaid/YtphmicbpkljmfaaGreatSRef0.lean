/- The walks of the small functions on sets: In, Ints, Subset, Less, rest, meets. -/
import Derived.Test.YtphmicbpkljmfaaGreatSMem
import Derived.Test.YtphmicbpkljmfaaGreatCMisc
import Derived.Test.YtphmicbpkljmfaaGreatCOwn
namespace Go.Proofs.YtphmicbpkljmfaaGreat
set_option linter.unusedVariables false
set_option linter.unusedSimpArgs false
open Go.RowKit
theorem in29_any (A : Option Addr) (c : Nat) (xs : List Int) (n : Int) (w : World) (hx : xs.length ≤ 9223372036854775807) (hA : Nums w A xs) :
    Calls Tryz.prog 30 #[.slice A xs.length c, .int .i64 n] w fun e w' => e = .returned (.bool (xs.contains n)) ∧ w = w' := by
  obtain ⟨R, hR⟩ : ∃ R, R = xs.contains n := ⟨_, rfl⟩
  rw [← hR]
  rw [contains_any] at hR
  have HR := Lib.hid hR
  clear hR
  go_enter Tryz.func30, Tryz.ntmps30
  go_wp2
  go_loop [5] (fun i => ∃ k : Nat, k ≤ xs.length ∧ Hid (R = (xs.drop k).any (· == n)) ∧ i = .int .i64 k) (fun i => xs.length - (intOf i).toNat)
  case atStart => exact ⟨0, by omega, HR, rfl⟩
  case round =>
    obtain ⟨k, hk, HK, rfl⟩ := hrel
    by_cases h1 : k < xs.length
    · have d1 : decide ((k : Int) < (xs.length : Int)) = true := by simp; omega
      obtain ⟨g, o, rfl, hg, c1⟩ := hA.at h1
      have hE := has_more HK.out (getElem_of h1)
      generalize xs[k] = x at *
      cases hz : (x == n)
      · have HE := Lib.hid (show R = (xs.drop (k + 1)).any (· == n) by rw [hE, hz]; rfl)
        clear hE
        go_wp2
        go_round
        case rel => exact ⟨k + 1, by omega, HE, by go_num⟩
        case measure => simp [intOf]; omega
      · have HE := Lib.hid (show R = true by rw [hE, hz]; rfl)
        clear hE
        go_wp2
        go_ret
        exact ⟨by rw [HE.out]; rfl, rfl⟩
    · have d1 : decide ((k : Int) < (xs.length : Int)) = false := by simp; omega
      have HE := Lib.hid (show R = false by rw [HK.out, List.drop_eq_nil_of_le (by omega)]; rfl)
      go_wp2
      go_ret
      exact ⟨by rw [HE.out]; rfl, rfl⟩
theorem ints29_any (A : Option Addr) (c : Nat) (l : List Int) (B : Option Addr) (d : Nat) (m : List Int) (w : World) (hl : l.length ≤ 9223372036854775807) (hm : m.length ≤ 9223372036854775807) (hA : Nums w A l) (hB : Nums w B m) :
    Calls Tryz.prog 9 #[.slice A l.length c, .slice B m.length d] w fun e w' => e = .returned (.bool (decide (l = m))) ∧ Below w.heap.size w w' := by
  by_cases hlen : l.length = m.length
  · have t1 : ((l.length : Int) == (m.length : Int)) = true := by rw [beq_iff_eq]; omega
    have t2 : ((l.length : Int) != (m.length : Int)) = false := by rw [bne, t1]; rfl
    go_enter Tryz.func9, Tryz.ntmps9
    go_wp2_with fail
    go_loopw [5] (fun i wr => ∃ k q : Nat, k ≤ l.length ∧ Hid (∀ j, j < k → l[j]? = m[j]?) ∧ i = .int .i64 k ∧ wr = w.drewN q) (fun i _ => l.length - (intOf i).toNat)
    case atStart => exact ⟨0, 0, by omega, Lib.hid (fun j hj => by omega), rfl, rfl⟩
    case round =>
      obtain ⟨k, q, hk, HN, rfl, rfl⟩ := hrel
      by_cases h1 : k < l.length
      · have d1 : decide ((k : Int) < (l.length : Int)) = true := by simp; omega
        have h2 : k < m.length := by omega
        obtain ⟨g, o, rfl, hg, c0⟩ := hA.at h1
        obtain ⟨g', o', rfl, hg', c0'⟩ := hB.at h2
        have e1 := getElem_of h1
        have e2 := getElem_of h2
        generalize l[k] = x at *
        generalize m[k] = y at *
        have i0 : (0 : Int) ≤ (k : Int) := by omega
        have i1 : (k : Int) < (l.length : Int) := by omega
        have i2 : (k : Int) < (m.length : Int) := by omega
        clear t1 t2
        cases hz : (x == y)
        · have HR := Lib.hid (show decide (l = m) = false from decide_eq_false (ne_of_one e1 e2 (by intro h; rw [h] at hz; simp at hz)))
          have hz2 : (x != y) = true := by rw [bne, hz]; rfl
          clear e1 e2
          go_wp2_with fail
          go_quiet (fail)
          go_wp2_with fail
          go_ret
          exact ⟨by rw [HR.out]; rfl, below_drewN (below_drewN (Below.refl _ _) _) _⟩
        · have HR := Lib.hid (show ∀ j, j < k + 1 → l[j]? = m[j]? from fun j hj => by
            by_cases e : j = k
            · rw [e, e1, e2, beq_iff_eq.1 hz]
            · exact HN.out j (by omega))
          have hz2 : (x != y) = false := by rw [bne, hz]; rfl
          clear e1 e2
          go_wp2_with fail
          go_quiet (fail)
          go_wp2_with fail
          go_roundw
          case rel => exact ⟨k + 1, _, by omega, HR, by go_num, rfl⟩
          case measure => simp [intOf]; omega
      · have d1 : decide ((k : Int) < (l.length : Int)) = false := by simp; omega
        have HR := Lib.hid (show decide (l = m) = true from decide_eq_true (eq_of_all hlen (fun j hj => HN.out j (by omega))))
        go_wp2_with fail
        go_ret
        exact ⟨by rw [HR.out]; rfl, below_drewN (Below.refl _ _) _⟩
  · have t1 : ((l.length : Int) == (m.length : Int)) = false := by rw [beq_eq_false_iff_ne]; omega
    have t2 : ((l.length : Int) != (m.length : Int)) = true := by rw [bne, t1]; rfl
    have HR := Lib.hid (show decide (l = m) = false from decide_eq_false (fun e => hlen (by rw [e])))
    go_enter Tryz.func9, Tryz.ntmps9
    go_wp2_with fail
    go_ret
    exact ⟨by rw [HR.out]; rfl, Below.refl _ _⟩
theorem sub_more {R : Bool} {a b : List Int} {k : Nat} {x : Int} (h : R = Fm.sub (a.drop k) b) (hx : a[k]? = some x) : R = (b.contains x && Fm.sub (a.drop (k + 1)) b) := by
  obtain ⟨hk, e⟩ := List.getElem?_eq_some_iff.1 hx
  rw [h, List.drop_eq_getElem_cons hk, e]; rfl
theorem subset_any (A : Option Addr) (c : Nat) (a : List Int) (B : Option Addr) (d : Nat) (b : List Int) (w : World) (hx : a.length ≤ 9223372036854775807) (hy : b.length ≤ 9223372036854775807) (hA : Nums w A a) (hB : Nums w B b) :
    Calls Tryz.prog 61 #[.slice A a.length c, .slice B b.length d] w fun e w' => e = .returned (.bool (Fm.sub a b)) ∧ w = w' := by
  obtain ⟨R, hR⟩ : ∃ R, R = Fm.sub a b := ⟨_, rfl⟩
  rw [← hR]
  have HR := Lib.hid (show R = Fm.sub (a.drop 0) b from hR)
  clear hR
  go_enter Tryz.func61, Tryz.ntmps61
  go_wp2_with fail
  go_loop [5] (fun i => ∃ k : Nat, k ≤ a.length ∧ Hid (R = Fm.sub (a.drop k) b) ∧ i = .int .i64 k) (fun i => a.length - (intOf i).toNat)
  case atStart => exact ⟨0, by omega, HR, rfl⟩
  case round =>
    obtain ⟨k, hk, HK, rfl⟩ := hrel
    by_cases h1 : k < a.length
    · have d1 : decide ((k : Int) < (a.length : Int)) = true := by simp; omega
      obtain ⟨g, o, rfl, hg, c1⟩ := hA.at h1
      have hE := sub_more HK.out (getElem_of h1)
      generalize a[k] = x at *
      cases hz : b.contains x
      · have HE := Lib.hid (show R = false by rw [hE, hz]; rfl)
        have HZ := Lib.hid hz
        clear hE hz
        go_wp2_with fail
        refine (in29_any B d b x _ hy hB).mono ?_
        rintro e w1 ⟨rfl, rfl⟩
        rw [HZ.out]
        go_wp2_with fail
        go_ret
        exact ⟨by rw [HE.out]; rfl, rfl⟩
      · have HE := Lib.hid (show R = Fm.sub (a.drop (k + 1)) b by rw [hE, hz]; rfl)
        have HZ := Lib.hid hz
        clear hE hz
        go_wp2_with fail
        refine (in29_any B d b x _ hy hB).mono ?_
        rintro e w1 ⟨rfl, rfl⟩
        rw [HZ.out]
        go_wp2_with fail
        go_round
        case rel => exact ⟨k + 1, by omega, HE, by go_num⟩
        case measure => simp [intOf]; omega
    · have d1 : decide ((k : Int) < (a.length : Int)) = false := by simp; omega
      have HE := Lib.hid (show R = true by rw [HK.out, List.drop_eq_nil_of_le (by omega)]; rfl)
      go_wp2_with fail
      go_ret
      exact ⟨by rw [HE.out]; rfl, rfl⟩
theorem lex_drop {R : Bool} {a b : List Int} {k : Nat} {x y : Int} (h : R = Fm.lex (a.drop k) (b.drop k)) (hx : a[k]? = some x) (hy : b[k]? = some y) : R = if x < y then true else if y < x then false else Fm.lex (a.drop (k + 1)) (b.drop (k + 1)) := by
  obtain ⟨hk, e⟩ := List.getElem?_eq_some_iff.1 hx
  obtain ⟨hk', e'⟩ := List.getElem?_eq_some_iff.1 hy
  rw [h, List.drop_eq_getElem_cons hk, e, List.drop_eq_getElem_cons hk', e']; rfl
theorem less_any (A : Option Addr) (c : Nat) (l : List Int) (B : Option Addr) (d : Nat) (m : List Int) (w : World) (hl : l.length ≤ 9223372036854775807) (hm : m.length ≤ 9223372036854775807) (hA : Nums w A l) (hB : Nums w B m) :
    Calls Tryz.prog 55 #[.slice A l.length c, .slice B m.length d] w fun e w' => e = .returned (.bool (Fm.lt l m)) ∧ ∃ q, w' = w.drewN q := by
  obtain ⟨R, hR⟩ : ∃ R, R = Fm.lt l m := ⟨_, rfl⟩
  rw [← hR]
  unfold Fm.lt at hR
  by_cases hlen : l.length = m.length
  · have t1 : ((l.length : Int) == (m.length : Int)) = true := by rw [beq_iff_eq]; omega
    have t2 : ((l.length : Int) != (m.length : Int)) = false := by rw [bne, t1]; rfl
    rw [if_neg (by omega), if_neg (by omega)] at hR
    have HR0 := Lib.hid (show R = Fm.lex (l.drop 0) (m.drop 0) from hR)
    clear hR
    go_enter Tryz.func55, Tryz.ntmps55
    go_wp2_with fail
    go_loopw [5] (fun i wr => ∃ k q : Nat, k ≤ l.length ∧ Hid (R = Fm.lex (l.drop k) (m.drop k)) ∧ i = .int .i64 k ∧ wr = w.drewN q) (fun i _ => l.length - (intOf i).toNat)
    case atStart => exact ⟨0, 0, by omega, HR0, rfl, rfl⟩
    case round =>
      obtain ⟨k, q, hk, HN, rfl, rfl⟩ := hrel
      by_cases h1 : k < l.length
      · have d1 : decide ((k : Int) < (l.length : Int)) = true := by simp; omega
        have h2 : k < m.length := by omega
        obtain ⟨g, o, rfl, hg, c0⟩ := hA.at h1
        obtain ⟨g', o', rfl, hg', c0'⟩ := hB.at h2
        have hE := lex_drop HN.out (getElem_of h1) (getElem_of h2)
        generalize l[k] = x at *
        generalize m[k] = y at *
        have i0 : (0 : Int) ≤ (k : Int) := by omega
        have i1 : (k : Int) < (l.length : Int) := by omega
        have i2 : (k : Int) < (m.length : Int) := by omega
        clear t1 t2
        cases hz : (x == y)
        · have hne : x ≠ y := by intro h; rw [h] at hz; simp at hz
          have hz2 : (x != y) = true := by rw [bne, hz]; rfl
          by_cases hlt : x < y
          · have d2 : decide (x < y) = true := by simpa using hlt
            have HR := Lib.hid (show R = true by rw [hE, if_pos hlt])
            clear hE hlt hne
            go_wp2_with fail
            go_quiet (fail)
            go_wp2_with fail
            go_quiet (fail)
            go_wp2_with fail
            go_ret
            exact ⟨by rw [HR.out]; rfl, _, by rw [World.drewN_drewN, World.drewN_drewN]⟩
          · have d2 : decide (x < y) = false := by simpa using hlt
            have HR := Lib.hid (show R = false by rw [hE, if_neg hlt, if_pos (by omega)])
            clear hE hlt hne
            go_wp2_with fail
            go_quiet (fail)
            go_wp2_with fail
            go_quiet (fail)
            go_wp2_with fail
            go_ret
            exact ⟨by rw [HR.out]; rfl, _, by rw [World.drewN_drewN, World.drewN_drewN]⟩
        · have he : x = y := by simpa using hz
          have hz2 : (x != y) = false := by rw [bne, hz]; rfl
          have HR := Lib.hid (show R = Fm.lex (l.drop (k + 1)) (m.drop (k + 1)) by rw [hE, if_neg (by omega), if_neg (by omega)])
          clear hE he
          go_wp2_with fail
          go_quiet (fail)
          go_wp2_with fail
          go_roundw
          case rel => exact ⟨k + 1, _, by omega, HR, by go_num, rfl⟩
          case measure => simp [intOf]; omega
      · have d1 : decide ((k : Int) < (l.length : Int)) = false := by simp; omega
        have HR := Lib.hid (show R = false by rw [HN.out, List.drop_eq_nil_of_le (by omega), List.drop_eq_nil_of_le (by omega)]; rfl)
        go_wp2_with fail
        go_ret
        exact ⟨by rw [HR.out]; rfl, _, rfl⟩
  · have t1 : ((l.length : Int) == (m.length : Int)) = false := by rw [beq_eq_false_iff_ne]; omega
    have t2 : ((l.length : Int) != (m.length : Int)) = true := by rw [bne, t1]; rfl
    by_cases hlt : l.length < m.length
    · have d2 : decide ((l.length : Int) < (m.length : Int)) = true := by simp; omega
      have d2' : decide (l.length < m.length) = true := by simp; omega
      have HR := Lib.hid (show R = true by rw [hR, if_pos hlt])
      clear hR
      go_enter Tryz.func55, Tryz.ntmps55
      go_wp2_with fail
      go_ret
      exact ⟨by rw [HR.out]; rfl, 0, rfl⟩
    · have d2 : decide ((l.length : Int) < (m.length : Int)) = false := by simp; omega
      have d2' : decide (l.length < m.length) = false := by simp; omega
      have HR := Lib.hid (show R = false by rw [hR, if_neg hlt, if_pos (by omega)])
      clear hR
      go_enter Tryz.func55, Tryz.ntmps55
      go_wp2_with fail
      go_ret
      exact ⟨by rw [HR.out]; rfl, 0, rfl⟩
end Go.Proofs.YtphmicbpkljmfaaGreat
