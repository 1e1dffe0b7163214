/- The walks of small, fine, meets, last. -/
import Derived.Test.YtphmicbpkljmfaaSPl
import Derived.Test.YtphmicbpkljmfaaSHead
namespace Go.Proofs.Ytphmicbpkljmfaa
set_option linter.unusedVariables false
set_option linter.unusedSimpArgs false
open Go.RowKit
open Cx (N fam Few)
theorem small_any (A : Option Addr) (c : Nat) (l : List N) (w : World) (hl : l.length ≤ 9223372036854775807) :
    Calls Try.prog 26 #[.slice A l.length c] w fun e w' => e = .returned (.bool (decide (l.length ≤ 40))) ∧ w = w' := by
  have d1 : decide ((l.length : Int) ≤ 40) = decide (l.length ≤ 40) := by rw [Bool.eq_iff_iff]; simp; omega
  go_enter Try.func26, Try.ntmps26
  go_wp2_with fail
  go_ret
  exact ⟨rfl, rfl⟩
/-- Whether a circuit is small and valid, and has a node. -/
def fineP (l : List N) (n : Int) : Bool := decide (l.length ≤ 40) && Cx.isIn l n && Cx.valid l
theorem fineP_true {l : List N} {n : Int} (h : fineP l n = true) : ∃ i : Nat, n = i ∧ i < l.length ∧ l.length ≤ 40 ∧ Cx.valid l = true := by
  unfold fineP at h
  rw [Bool.and_eq_true, Bool.and_eq_true, decide_eq_true_eq] at h
  obtain ⟨i, rfl, hi⟩ := Cx.isIn_get h.1.2
  exact ⟨i, rfl, hi, h.1.1, h.2⟩
set_option maxRecDepth 100000 in
theorem fine_any (A : Option Addr) (c : Nat) (l : List N) (n : Int) (w : World) (hl : l.length ≤ 9223372036854775807) (hF : ∀ n ∈ l, NGood n) (hA : Circ w A l) :
    Calls Try.prog 8 #[.slice A l.length c, .int .i64 n] w fun e w' => e = .returned (.bool (fineP l n)) ∧ Below w.heap.size w w' := by
  cases h1 : decide (l.length ≤ 40) with
  | false =>
    have HR := Lib.hid (show fineP l n = false by unfold fineP; rw [h1]; rfl)
    go_enter Try.func8, Try.ntmps8
    go_wp2_with fail
    refine (small_any A c l _ hl).mono ?_
    rintro e w1 ⟨rfl, rfl⟩
    rw [h1]
    go_wp2_with fail
    go_ret
    exact ⟨by rw [HR.out]; rfl, Below.refl _ _⟩
  | true =>
    have hl2 : l.length ≤ 20000 := by have := of_decide_eq_true h1; omega
    cases h2 : Cx.isIn l n with
    | false =>
      have HR := Lib.hid (show fineP l n = false by unfold fineP; rw [h1, h2]; rfl)
      go_enter Try.func8, Try.ntmps8
      go_wp2_with fail
      refine (small_any A c l _ hl).mono ?_
      rintro e w1 ⟨rfl, rfl⟩
      rw [h1]
      go_wp2_with fail
      refine (in_any A c l n _ hl).mono ?_
      rintro e w1 ⟨rfl, rfl⟩
      rw [h2]
      go_wp2_with fail
      go_ret
      exact ⟨by rw [HR.out]; rfl, Below.refl _ _⟩
    | true =>
      have HR := Lib.hid (show fineP l n = Cx.valid l by unfold fineP; rw [h1, h2]; rfl)
      go_enter Try.func8, Try.ntmps8
      go_wp2_with fail
      refine (small_any A c l _ hl).mono ?_
      rintro e w1 ⟨rfl, rfl⟩
      rw [h1]
      go_wp2_with fail
      refine (in_any A c l n _ hl).mono ?_
      rintro e w1 ⟨rfl, rfl⟩
      rw [h2]
      go_wp2_with fail
      refine (rvalid_any A c l _ hl2 hF hA).mono ?_
      rintro e w2 ⟨rfl, b2⟩
      go_wp2_with fail
      go_ret
      exact ⟨by rw [HR.out]; rfl, b2⟩
theorem meets_any (A : Option Addr) (c : Nat) (a : List Int) (B : Option Addr) (d : Nat) (b : List Int) (w : World) (hx : a.length ≤ 1000000) (hy : b.length ≤ 9223372036854775807) (hA : Nums w A a) (hB : Nums w B b) :
    Calls Try.prog 14 #[.slice A a.length c, .slice B b.length d] w fun e w' => e = .returned (.bool (meetsP a b)) ∧ Below w.heap.size w w' := by
  have d1 : decide (((restL a b).length : Int) < (a.length : Int)) = meetsP a b := by unfold meetsP; rw [Bool.eq_iff_iff]; simp
  have hr := restL_len a b
  have HC := Lib.hid (rest_any A c a B d b w hx hy hA hB)
  go_enter Try.func14, Try.ntmps14
  go_wp2_with fail
  refine HC.out.mono ?_
  rintro e w1 ⟨v, rfl, ho, hb⟩
  obtain ⟨va, vc, rfl⟩ := own_len ho
  generalize restL a b = r at *
  clear ho
  go_wp2_with fail
  go_ret
  exact ⟨by rw [← d1]; first | rfl | simp, hb⟩
/-- The greatest variable. -/
def lastP (l : List N) : Int := l.foldl (fun m v => if v.o = 2 ∧ m < v.a then v.a else m) 0
theorem last_more {l : List N} {k : Nat} {v : N} (h : l[k]? = some v) : lastP (l.take (k + 1)) = if v.o = 2 ∧ lastP (l.take k) < v.a then v.a else lastP (l.take k) := by
  unfold lastP
  rw [take_more h, List.foldl_append]; rfl
theorem last_up : ∀ (l : List N) (m : Int), m ≤ l.foldl (fun m v => if v.o = 2 ∧ m < v.a then v.a else m) m ∧ ∀ v ∈ l, v.o = 2 → v.a ≤ l.foldl (fun m v => if v.o = 2 ∧ m < v.a then v.a else m) m
  | [], m => ⟨Int.le_refl _, fun v h => by cases h⟩
  | u :: r, m => by
    have h := last_up r (if u.o = 2 ∧ m < u.a then u.a else m)
    rw [List.foldl_cons]
    refine ⟨?_, fun v hv h2 => ?_⟩
    · refine Int.le_trans ?_ h.1
      split <;> omega
    · rcases List.mem_cons.1 hv with rfl | hv
      · refine Int.le_trans ?_ h.1
        split <;> omega
      · exact h.2 v hv h2
theorem last_ge (l : List N) : 0 ≤ lastP l ∧ ∀ x ∈ allVars l, x ≤ lastP l := by
  refine ⟨(last_up l 0).1, fun x hx => ?_⟩
  obtain ⟨v, hv, rfl⟩ := List.mem_map.1 hx
  rw [List.mem_filter] at hv
  exact (last_up l 0).2 v hv.1 (by simpa using hv.2)
theorem last_i64 {l : List N} (hF : ∀ n ∈ l, NGood n) : lastP l ≤ 9223372036854775807 := by
  have : ∀ (l : List N) (m : Int), m ≤ 9223372036854775807 → (∀ n ∈ l, NGood n) → l.foldl (fun m v => if v.o = 2 ∧ m < v.a then v.a else m) m ≤ 9223372036854775807 := by
    intro l
    induction l with
    | nil => intro m h _; exact h
    | cons u r ih =>
      intro m h hF
      rw [List.foldl_cons]
      refine ih _ ?_ fun n hn => hF n (by simp [hn])
      have := (hF u (by simp)).2.1
      unfold I64 at this
      split <;> omega
  exact this l 0 (by omega) hF
set_option maxRecDepth 100000 in
theorem last_any (A : Option Addr) (c : Nat) (l : List N) (w : World) (hl : l.length ≤ 1000000) (hA : Circ w A l) :
    Calls Try.prog 20 #[.slice A l.length c] w fun e w' => e = .returned (.int .i64 (lastP l)) ∧ Below w.heap.size w w' := by
  go_enter Try.func20, Try.ntmps20
  go_wp2_with fail
  go_loopw [3, 4] (fun m i wr => ∃ (k : Nat) (x : Int), k ≤ l.length ∧ Hid (x = lastP (l.take k)) ∧ m = .int .i64 x ∧ i = .int .i64 k ∧ Below w.heap.size w wr) (fun _ i _ => l.length - (intOf i).toNat)
  case atStart => exact ⟨0, 0, by omega, Lib.hid (by simp [lastP]), rfl, rfl, Below.refl _ _⟩
  case round =>
    obtain ⟨k, x, hk, HX, rfl, rfl, hbw⟩ := hrel
    by_cases h1 : k < l.length
    · have d1 : decide ((k : Int) < (l.length : Int)) = true := by simp; omega
      obtain ⟨g, o, rfl, hg, c0, c1, c2⟩ := (hA.below hbw).at h1
      have hE := last_more (getElem_of h1)
      rw [← HX.out] at hE
      have i0 : (0 : Int) ≤ (k : Int) := by omega
      have i1 : (k : Int) < (l.length : Int) := by omega
      generalize l[k] = v at *
      obtain ⟨vo, va, vb⟩ := v
      dsimp only at c0 c1 c2 hE
      cases hz : (vo == 2)
      · have HE := Lib.hid (show x = lastP (l.take (k + 1)) by rw [hE, if_neg (by simp at hz; omega)])
        clear hE
        go_wp2_with fail
        go_roundw
        case rel => exact ⟨k + 1, x, by omega, HE, rfl, by go_num, hbw⟩
        case measure => simp [intOf]; omega
      · have hz' : vo = 2 := by simpa using hz
        by_cases h2 : x < va
        · have d2 : decide (x < va) = true := by simpa using h2
          have HE := Lib.hid (show va = lastP (l.take (k + 1)) by rw [hE, if_pos ⟨hz', h2⟩])
          clear hE hz' h2
          go_wp2_with fail
          go_roundw
          case rel => exact ⟨k + 1, va, by omega, HE, rfl, by go_num, hbw⟩
          case measure => simp [intOf]; omega
        · have d2 : decide (x < va) = false := by simpa using h2
          have HE := Lib.hid (show x = lastP (l.take (k + 1)) by rw [hE, if_neg (by omega)])
          clear hE hz' h2
          go_wp2_with fail
          go_roundw
          case rel => exact ⟨k + 1, x, by omega, HE, rfl, by go_num, hbw⟩
          case measure => simp [intOf]; omega
    · have d1 : decide ((k : Int) < (l.length : Int)) = false := by simp; omega
      have HE := Lib.hid (show x = lastP l by rw [HX.out, List.take_of_length_le (by omega)])
      go_wp2_with fail
      go_ret
      exact ⟨by rw [← HE.out]; rfl, hbw⟩
end Go.Proofs.Ytphmicbpkljmfaa
