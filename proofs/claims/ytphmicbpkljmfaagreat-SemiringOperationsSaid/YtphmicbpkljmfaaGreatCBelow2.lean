/- The walk of the reference's Below. -/
import Derived.Test.YtphmicbpkljmfaaGreatCVals
import Derived.Test.YtphmicbpkljmfaaGreatCLaw
import Derived.Test.YtphmicbpkljmfaaGreatTwo
import Derived.Outline
namespace Go.Proofs.YtphmicbpkljmfaaGreat
set_option linter.unusedVariables false
set_option linter.unusedSimpArgs false
open Go.RowKit
open Cx (N)
theorem bcells_set (l : List Bool) (i : Nat) (b : Bool) : (bcells l).toArray.setIfInBounds i (.bool b) = (bcells (l.set i b)).toArray := by
  simp [bcells, List.map_set]
theorem At.bools {w : World} {g : Nat} {t : TypeId} {l : List Bool} (h : At w g t (bcells l).toArray) {j : Nat} {b : Bool} (hj : l[j]? = some b) : w.cell? ⟨g, j, none⟩ = some (.bool b) := by
  rw [h.cell, List.getElem?_toArray]; simp [bcells, hj]
theorem At.set {w : World} {g : Nat} {t : TypeId} {l : List Bool} (h : At w g t (bcells l).toArray) (j : Nat) (b : Bool) : At (w.setCell ⟨g, j, none⟩ (.bool b)) g t (bcells (l.set j b)).toArray := by
  rw [← bcells_set]; exact h.put j _
/-- Truth values in memory, as a slice of the call's own. -/
def BoolsOut (l : List Bool) (w : World) (e : Ending) (w' : World) : Prop := ∃ g, e = .returned (.slice (some ⟨g, 0, none⟩) l.length l.length) ∧ w.heap.size ≤ g ∧ At w' g 4 (bcells l).toArray ∧ Below w.heap.size w w'
theorem belowStep_no {l : List N} {bs : List Bool} {k : Nat} {v : N} (hv : l[k]? = some v) (h : bs[k]? = some false ∨ ¬ (v.o = 3 ∨ v.o = 4)) : Cx.belowStep l bs k = bs := by
  unfold Cx.belowStep
  rw [hv]
  simp only
  rw [if_neg]
  rw [Bool.and_eq_true, Cx.getD_true, Cx.binary_iff]
  rintro ⟨h1, h2⟩
  rcases h with h | h
  · rw [h] at h1; cases h1
  · exact h h2
theorem belowStep_yes {l : List N} {bs : List Bool} {k : Nat} {v : N} {a b : Nat} (hv : l[k]? = some v) (h : bs[k]? = some true) (h2 : v.o = 3 ∨ v.o = 4) (ha : v.a = a) (hb : v.b = b) : Cx.belowStep l bs k = (bs.set a true).set b true := by
  unfold Cx.belowStep
  rw [hv]
  simp only
  rw [if_pos (by rw [Bool.and_eq_true, Cx.getD_true, Cx.binary_iff]; exact ⟨h, h2⟩), ha, hb]; rfl
theorem run_make_bools (w : World) (n : Nat) (hn : n ≤ 1000000) : (Instr.makeSlice 54 (.int .i64 (n : Int)) (.int .i64 (n : Int))).run Tryz.prog w = .ok (.slice (some ⟨w.heap.size, 0, none⟩) n n) (w.alloc (.cells (bcells (List.replicate n false)).toArray 4)) := by
  obtain ⟨i0, hi, hz0, hz1, hz2⟩ := info_parts bool_info
  rw [run_make_one w Tryz.underlying54 hi hz0 hz1 (by rw [hz2]; decide) rfl n hn]
  simp [bcells]
set_option maxHeartbeats 4000000 in
set_option maxRecDepth 100000 in
theorem below_any (A : Option Addr) (c : Nat) (l : List N) (n : Nat) (w : World) (hg : Cx.Good l) (hl : l.length ≤ 20000) (hn : n < l.length) (hA : Circ w A l) :
    Calls Tryz.prog 34 #[.slice A l.length c, .int .i64 (n : Int)] w (BoolsOut (Cx.below l n) w) := by
  obtain ⟨R, hR⟩ : ∃ R, Cx.below l n = R := ⟨_, rfl⟩
  have hRl : R.length = l.length := by rw [← hR]; exact Cx.below_len _ _
  have hst : R = Cx.belowFrom l l.length ((List.replicate l.length false).set n true) := by
    rw [← hR]; unfold Cx.below
    rw [if_pos (by unfold Cx.isIn; simp; omega)]; rfl
  rw [hR]
  have HRl := Lib.hid hRl
  have HST := Lib.hid hst
  have hin : Cx.isIn l (n : Int) = true := by unfold Cx.isIn; simp; omega
  have HIN := Lib.hid hin
  clear hR hRl hst hin
  have i0 : (0 : Int) ≤ (n : Int) := by omega
  have i1 : (n : Int) < (l.length : Int) := by omega
  have i2 : (l.length : Int) ≤ 20000 := by omega
  have q0 := run_make_bools w l.length (by omega)
  obtain ⟨W1, hW1⟩ : ∃ W1, W1 = w.alloc (.cells (bcells (List.replicate l.length false)).toArray 4) := ⟨_, rfl⟩
  have b1 : Below w.heap.size w W1 := by rw [hW1]; exact below1 _ _
  have a1 : At W1 w.heap.size 4 (bcells (List.replicate l.length false)).toArray := by rw [hW1]; exact At.new _ _ _
  rw [← hW1] at q0
  clear hW1
  have x1 : W1.cell? ⟨w.heap.size, n, none⟩ = some (.bool false) := a1.bools (by rw [List.getElem?_replicate, if_pos hn])
  have y1 := a1.frozen n
  go_enter Tryz.func34, Tryz.ntmps34
  go_wp2_with fail
  refine (in_any A c l (n : Int) _ (by omega)).mono ?_
  rintro e w2 ⟨rfl, hw2⟩
  subst hw2
  rw [HIN.out]
  go_wp2_with fail
  have a2 := a1.set n true
  have b2 : Below w.heap.size w (W1.setCell ⟨w.heap.size, n, none⟩ (.bool true)) := b1.setCell (Nat.le_refl _) _
  clear x1 y1 a1 b1 q0
  go_loopw [6] (fun v wr => ∃ (k : Nat) (z : Int) (bs : List Bool), z + 1 = (k : Int) ∧ v = .int .i64 z ∧ k ≤ l.length ∧ bs.length = l.length ∧ At wr w.heap.size 4 (bcells bs).toArray ∧ Hid (R = Cx.belowFrom l k bs) ∧ Below w.heap.size w wr) (fun v _ => (intOf v + 1).toNat)
  case atStart => exact ⟨l.length, _, _, by omega, rfl, by omega, by simp, a2, HST, b2⟩
  case round =>
    obtain ⟨k, z, bs, hz, rfl, hk, hbl, ha, HR, hbw⟩ := hrel
    clear a2 b2
    cases k with
    | zero =>
      obtain rfl : z = -1 := by omega
      go_wp2_with fail
      go_ret
      have HE := HR.out
      unfold Cx.belowFrom at HE
      exact ⟨_, by rw [HRl.out]; rfl, Nat.le_refl _, by rw [HE]; exact ha, hbw⟩
    | succ k =>
      obtain rfl : z = (k : Int) := by omega
      have h1 : k < l.length := by omega
      obtain ⟨g, o, rfl, hgl, c0, c1, c2⟩ := (hA.below hbw).at h1
      have KE := Lib.hid (fun W (h : Below w.heap.size w W) => by
        obtain ⟨g', o', e', _, r⟩ := (hA.below h).at h1
        simp at e'
        obtain ⟨rfl, rfl⟩ := e'
        exact r)
      have hgw : g < w.heap.size := by
        obtain ⟨g', o', e', hl', _⟩ := hA.at h1
        simp at e'
        obtain ⟨rfl, rfl⟩ := e'
        exact hl'
      have e1 := getElem_of h1
      have j0 : (0 : Int) ≤ (k : Int) := by omega
      have j1 : (k : Int) < (l.length : Int) := by omega
      have j2 : k < l.length := h1
      have eb : bs[k]? = some bs[k] := getElem_of (by omega)
      have x0 := ha.bools eb
      have hne : w.heap.size ≠ g := by omega
      generalize l[k] = v at *
      generalize bs[k] = b at *
      cases b
      · have HN := Lib.hid (show R = Cx.belowFrom l k bs by rw [HR.out]; show Cx.belowFrom l k (Cx.belowStep l bs k) = _; rw [belowStep_no e1 (Or.inl eb)])
        clear e1 eb
        go_wp2_with fail
        go_roundw
        case rel => exact ⟨k, (k : Int) - 1, bs, by omega, rfl, by omega, hbl, ha, HN, hbw⟩
        case measure => simp [intOf]
      · by_cases h2 : v.o = 3 ∨ v.o = 4
        · obtain ⟨ea, eb', h5, h6, h7⟩ := hg.kids e1 h2
          have HN := Lib.hid (show R = Cx.belowFrom l k ((bs.set v.a.toNat true).set v.b.toNat true) by rw [HR.out]; show Cx.belowFrom l k (Cx.belowStep l bs k) = _; rw [belowStep_yes e1 eb h2 ea eb'])
          generalize v.a.toNat = p at *
          generalize v.b.toNat = q at *
          rw [ea] at c1
          rw [eb'] at c2
          have p0 : (0 : Int) ≤ (p : Int) := by omega
          have p1 : (p : Int) < (l.length : Int) := by omega
          have p2 : p < l.length := by omega
          have q0 : (0 : Int) ≤ (q : Int) := by omega
          have q1 : (q : Int) < (l.length : Int) := by omega
          have q2 : q < l.length := by omega
          obtain ⟨bp, EP⟩ : ∃ b, bs[p]? = some b := ⟨_, getElem_of (show p < bs.length by omega)⟩
          obtain ⟨bq, EQ⟩ : ∃ b, (bs.set p true)[q]? = some b := ⟨_, getElem_of (show q < (bs.set p true).length by rw [List.length_set]; omega)⟩
          have xp := ha.bools EP
          have ha2 := ha.set p true
          have xq := ha2.bools EQ
          have fp := ha.frozen p
          have fq := ha2.frozen q
          have ha3 := ha2.set q true
          have hb3 : Below w.heap.size w ((wr.setCell ⟨w.heap.size, p, none⟩ (.bool true)).setCell ⟨w.heap.size, q, none⟩ (.bool true)) := (hbw.setCell (Nat.le_refl _) _).setCell (Nat.le_refl _) _
          clear e1 eb EP EQ ea eb'
          by_cases h3 : v.o = 3
          · have t3 : (v.o == 3) = true := by simpa using h3
            clear h3 h2
            go_wp2_with fail
            go_roundw
            case rel => exact ⟨k, (k : Int) - 1, _, by omega, rfl, by omega, by simp [hbl], ha3, HN, hb3⟩
            case measure => simp [intOf]
          · have t3 : (v.o == 3) = false := by simpa using h3
            have t4 : (v.o == 4) = true := by rcases h2 with h2 | h2 <;> simp [h2] at h3 ⊢
            clear h3 h2
            go_wp2_with fail
            go_roundw
            case rel => exact ⟨k, (k : Int) - 1, _, by omega, rfl, by omega, by simp [hbl], ha3, HN, hb3⟩
            case measure => simp [intOf]
        · have HN := Lib.hid (show R = Cx.belowFrom l k bs by rw [HR.out]; show Cx.belowFrom l k (Cx.belowStep l bs k) = _; rw [belowStep_no e1 (Or.inr h2)])
          have t3 : (v.o == 3) = false := by simp; omega
          have t4 : (v.o == 4) = false := by simp; omega
          clear e1 eb h2
          go_wp2_with fail
          go_roundw
          case rel => exact ⟨k, (k : Int) - 1, bs, by omega, rfl, by omega, hbl, ha, HN, hbw⟩
          case measure => simp [intOf]
end Go.Proofs.YtphmicbpkljmfaaGreat
namespace Go.Proofs.YtphmicbpkljmfaaGreat
set_option linter.unusedVariables false
set_option linter.unusedSimpArgs false
open Go.RowKit
open Cx (N)
set_option maxHeartbeats 1000000 in
set_option maxRecDepth 100000 in
theorem below_out (A : Option Addr) (c : Nat) (l : List N) (n : Int) (w : World) (hl : l.length ≤ 20000) (hn : Cx.isIn l n = false) :
    Calls Tryz.prog 34 #[.slice A l.length c, .int .i64 n] w (BoolsOut (Cx.below l n) w) := by
  have hR : Cx.below l n = List.replicate l.length false := by unfold Cx.below; rw [hn]; rfl
  rw [hR]
  have HIN := Lib.hid hn
  clear hR hn
  have q0 := run_make_bools w l.length (by omega)
  go_enter Tryz.func34, Tryz.ntmps34
  go_wp2_with fail
  refine (in_any A c l n _ (by omega)).mono ?_
  rintro e w2 ⟨rfl, hw2⟩
  subst hw2
  rw [HIN.out]
  go_wp2_with fail
  go_ret
  exact ⟨_, by rw [List.length_replicate]; rfl, Nat.le_refl _, At.new _ _ _, below1 _ _⟩
theorem below_all (A : Option Addr) (c : Nat) (l : List N) (n : Int) (w : World) (hg : Cx.Good l) (hl : l.length ≤ 20000) (hA : Circ w A l) :
    Calls Tryz.prog 34 #[.slice A l.length c, .int .i64 n] w (BoolsOut (Cx.below l n) w) := by
  cases hin : Cx.isIn l n with
  | false => exact below_out A c l n w hl hin
  | true =>
    have h01 : 0 ≤ n ∧ n < l.length := by unfold Cx.isIn at hin; simpa using hin
    obtain ⟨i, rfl⟩ : ∃ i : Nat, n = i := ⟨n.toNat, by omega⟩
    exact below_any A c l i w hg hl (by omega) hA
end Go.Proofs.YtphmicbpkljmfaaGreat
