/- The walks of the reference's known, Ints, Formed. -/
import Derived.Test.YtoficnfpoeaccaaDoorKRef1
namespace Go.Proofs.YtoficnfpoeaccaaDoor
set_option linter.unusedVariables false
set_option linter.unusedSimpArgs false
open Go.RowKit
/-- Which names a list binds. -/
abbrev bdN (l : List ByteArray) : Ko.Bd := hasN l
theorem ba_beq (x y : ByteArray) : (x == y) = decide (x = y) := by
  cases x with | mk a => cases y with | mk b =>
  rw [Bool.eq_iff_iff, decide_eq_true_iff]
  show (a == b) = true ↔ _
  rw [beq_iff_eq]
  exact ⟨fun h => by rw [h], fun h => by injection h⟩
theorem hasN_contains (l : List ByteArray) (s : ByteArray) : hasN l s = l.contains s := by
  unfold hasN
  rw [List.contains_eq_any_beq]
  congr 1
  funext x
  rw [ba_beq, Bool.eq_iff_iff, decide_eq_true_iff, decide_eq_true_iff]
  exact ⟨fun h => h.symm, fun h => h.symm⟩
set_option maxRecDepth 100000 in
theorem known_any (A : Option Addr) (c : Nat) (l : List ByteArray) (t : Tm) (w : World) (hA : NmAt w A l) (hl : l.length ≤ 1000000) :
    Calls Tryd.prog 60 #[.slice A l.length c, .agg #[.string t.v, .int .i64 t.t, .int .i64 t.n, .string t.s]] w fun e w' => e = .returned (.bool (Ko.known (bdN l) t)) ∧ Below w.heap.size w w' := by
  have HI := Lib.hid (fun W (h : Below w.heap.size w W) => in_any A c l t.v W (hA.below h) hl)
  clear hA
  by_cases hv : t.v.toList = []
  · have HR := Lib.hid (show Ko.known (bdN l) t = true by unfold Ko.known Ko.isVar; rw [Lib.toList_data] at hv; simp [hv])
    have t1 : (t.v.toList == []) = true := by rw [hv]; rfl
    go_enter Tryd.func60, Tryd.ntmps60
    go_wp2_with fail
    go_ret
    exact ⟨by rw [HR.out]; rfl, below1 _ _⟩
  · have HR := Lib.hid (show Ko.known (bdN l) t = hasN l t.v by unfold Ko.known Ko.isVar; rw [Lib.toList_data] at hv; simp [hv])
    have t1 : (t.v.toList == []) = false := by simpa using hv
    go_enter Tryd.func60, Tryd.ntmps60
    go_wp2_with (go_at_call 70; refine (HI.out _ (below1 _ _)).mono ?_; rintro e w2 ⟨rfl, rfl⟩)
    go_ret
    exact ⟨by rw [HR.out]; rfl, below1 _ _⟩
theorem int_cells {w : World} {A : Option Addr} {l : List Int} (h : Str w A 1 (l.map fun x => [.int .i64 x])) {i : Nat} {x : Int} (hi : l[i]? = some x) : ∃ g o, A = some ⟨g, o, none⟩ ∧ g < w.heap.size ∧ w.cell? ⟨g, o + i, none⟩ = some (.int .i64 x) := by
  obtain ⟨g, o, e, hg, hc⟩ := h.at (i := i) (fs := [.int .i64 x]) (by rw [List.getElem?_map, hi]; rfl)
  have := hc 0 (.int .i64 x) rfl
  rw [Nat.mul_one, Nat.add_zero] at this
  exact ⟨g, o, e, hg, this⟩
set_option maxRecDepth 100000 in
theorem ints_any (A B : Option Addr) (c d : Nat) (a b : List Int) (w : World) (hA : Str w A 1 (a.map fun x => [.int .i64 x])) (hB : Str w B 1 (b.map fun x => [.int .i64 x])) (hl : a.length ≤ 1000000) :
    Calls Tryd.prog 25 #[.slice A a.length c, .slice B b.length d] w fun e w' => e = .returned (.bool (decide (a = b))) ∧ Below w.heap.size w w' := by
  have HA := Lib.hid hA
  have HB := Lib.hid hB
  clear hA hB
  by_cases hn : a.length = b.length
  · have t1 : (((a.length : Int) == (b.length : Int)) = true) := by simp [hn]
    have t2 : (((a.length : Int) != (b.length : Int)) = false) := by simp [hn]
    have HN := Lib.hid hn
    clear hn
    go_enter Tryd.func25, Tryd.ntmps25
    go_wp2_with fail
    go_loopw [5] (fun i wr => ∃ k q : Nat, k ≤ a.length ∧ i = .int .i64 k ∧ Hid (a.take k = b.take k) ∧ wr = w.drewN q) (fun i _ => a.length - (intOf i).toNat)
    case atStart => exact ⟨0, 0, by omega, rfl, Lib.hid rfl, rfl⟩
    case round =>
      obtain ⟨k, q, hk, rfl, HK, rfl⟩ := hrel
      by_cases h1 : k < a.length
      · have d1 : decide ((k : Int) < (a.length : Int)) = true := by simp; omega
        obtain ⟨x, hx⟩ : ∃ x, a[k]? = some x := ⟨_, List.getElem?_eq_getElem h1⟩
        obtain ⟨y, hy⟩ : ∃ y, b[k]? = some y := ⟨_, List.getElem?_eq_getElem (by have := HN.out; omega)⟩
        obtain ⟨g, o, rfl, hg, c0⟩ := int_cells HA.out hx
        obtain ⟨g2, o2, rfl, hg2, c1⟩ := int_cells HB.out hy
        have i0 : (0 : Int) ≤ (k : Int) := by omega
        have i1 : (k : Int) < (a.length : Int) := by omega
        have i2 : (k : Int) < (b.length : Int) := by have := HN.out; omega
        by_cases h2 : x = y
        · have n1 : (x == y) = true := by simpa using h2
          have n2 : (x != y) = false := by simpa using h2
          have HM := Lib.hid (show a.take (k + 1) = b.take (k + 1) by rw [List.take_add_one, List.take_add_one, HK.out, hx, hy, h2])
          clear hx hy h2
          go_wp2_with fail
          go_quiet (fail)
          go_wp2_with fail
          go_roundw
          case rel => exact ⟨k + 1, _, by omega, by go_num, HM, rfl⟩
          case measure => simp [intOf]; omega
        · have n1 : (x == y) = false := by simpa using h2
          have n2 : (x != y) = true := by simpa using h2
          have HR := Lib.hid (show decide (a = b) = false from decide_eq_false fun h => by
            rw [h, hy] at hx
            exact h2 (Option.some.inj hx).symm)
          clear hx hy h2
          go_wp2_with fail
          go_quiet (fail)
          go_wp2_with fail
          go_ret
          exact ⟨by rw [HR.out]; rfl, below_drewN (below_drewN (Below.refl _ _) _) _⟩
      · have d1 : decide ((k : Int) < (a.length : Int)) = false := by simp; omega
        have HR := Lib.hid (show decide (a = b) = true from decide_eq_true (by
          have h := HK.out
          rw [List.take_of_length_le (by omega), List.take_of_length_le (by have := HN.out; omega)] at h
          exact h))
        go_wp2_with fail
        go_ret
        exact ⟨by rw [HR.out]; rfl, below_drewN (Below.refl _ _) _⟩
  · have HR := Lib.hid (show decide (a = b) = false from decide_eq_false fun h => hn (by rw [h]))
    have t1 : (((a.length : Int) == (b.length : Int)) = false) := by simpa using fun h => hn (by omega)
    have t2 : (((a.length : Int) != (b.length : Int)) = true) := by simpa using fun h => hn (by omega)
    clear hn
    go_enter Tryd.func25, Tryd.ntmps25
    go_wp2_with fail
    go_ret
    exact ⟨by rw [HR.out]; rfl, Below.refl _ _⟩
end Go.Proofs.YtoficnfpoeaccaaDoor
