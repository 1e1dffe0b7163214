/- The walks of the reference's size and Text. -/
import Derived.Test.YtigcmjnjcaoolaaDoorCVals
import Derived.Test.YtigcmjnjcaoolaaDoorCText
import Derived.Test.YtigcmjnjcaoolaaDoorCPlain
import Derived.Lib.LaidTab
import Derived.Lib.ItoaMem
import Derived.Deep.QuietTactic
import Derived.BigQuiet
import Derived.IntWalk
import Derived.Outline
namespace Go.Proofs.YtigcmjnjcaoolaaDoor
set_option linter.unusedVariables false
set_option linter.unusedSimpArgs false
open Go.RowKit
open Cx (N)
/-- What the table of powers holds. -/
def Tab (w : World) : Prop := Lib.TabIs Tryd.prog w "internal/strconv.uint64pow10" .u64 Lib.pow10Tab
theorem var_next {P : Program} {w w' : World} {n : String} {cs : Array Value} (h : w.var? P n = some cs) (hb : Below w.heap.size w w') : w'.var? P n = some cs := by
  unfold World.var? at h ⊢
  cases hg : P.globalNamed n with
  | none => simp [hg] at h
  | some g =>
    simp only [hg, Option.bind_some] at h ⊢
    have hlt : g < w.heap.size := by
      rcases Nat.lt_or_ge g w.heap.size with h' | h'
      · exact h'
      · simp [Array.getElem?_eq_none h'] at h
    rw [hb.block g hlt]
    exact h
theorem Tab.next {w w' : World} (h : Tab w) (hb : Below w.heap.size w w') : Tab w' := var_next h hb
theorem below_grows (w : World) (k : Nat) (os : Array Obj) : Below w.heap.size w (Sort.grow (w.drewN k) os) := by
  have h := below_drewN (Below.refl w.heap.size w) k
  refine h.trans ⟨rfl, rfl, rfl, by simp [Sort.grow], fun i hi => ?_⟩
  show ((w.drewN k).heap ++ os)[i]? = _
  rw [Array.getElem?_append, if_pos (Nat.lt_of_lt_of_le hi h.size)]
theorem itoa_any (n : Int) (w : World) (h0 : 0 ≤ n) (h1 : n ≤ 9223372036854775807) (hw : Tab w) :
    Calls Tryd.prog 43 #[.int .i64 n] w fun e w' => e = .returned (.string ⟨(Lib.itoa n).toArray⟩) ∧ Below w.heap.size w w' := by
  refine (Tryd.strconv_Itoa n (by omega) (by omega) w hw).mono ?_
  rintro e w' ⟨h, k, os, rfl⟩
  exact ⟨h, below_grows _ _ _⟩
/-- What is asked of a node whose size is reckoned. -/
structure SizeOk (n : N) (all : List Int) : Prop where
  var : n.o = 2 → 0 ≤ n.a ∧ n.a ≤ 9223372036854775807
  two : n.o = 3 ∨ n.o = 4 → ∃ a b x y, n.a = (a : Nat) ∧ n.b = (b : Nat) ∧ all[a]? = some x ∧ all[b]? = some y ∧ 0 ≤ x ∧ x ≤ 8001 ∧ 0 ≤ y ∧ y ≤ 8001
theorem size_str (l : List UInt8) : (⟨l.toArray⟩ : ByteArray).size = l.length := by simp [ByteArray.size]
theorem itoa_len {n : Int} (h0 : 0 ≤ n) (h1 : n ≤ 9223372036854775807) : (Lib.itoa n).length ≤ 19 := by
  rw [itoa_nat h0]; exact (Cx.dec_len _ (by omega)).2
set_option maxHeartbeats 2000000 in
set_option maxRecDepth 100000 in
theorem rsize_any (n : N) (A : Option Addr) (c : Nat) (all : List Int) (w : World) (hk : SizeOk n all) (hl : all.length ≤ 20000) (hA : Nums w A all) (ht : Tab w) :
    Calls Tryd.prog 48 #[.agg #[.int .i64 n.o, .int .i64 n.a, .int .i64 n.b], .slice A all.length c] w fun e w' => e = .returned (.int .i64 (Cx.sizeStep all n)) ∧ Below w.heap.size w w' := by
  obtain ⟨R, hR⟩ : ∃ R, R = Cx.sizeStep all n := ⟨_, rfl⟩
  rw [← hR]
  unfold Cx.sizeStep at hR
  by_cases h2 : n.o = 2
  · obtain ⟨v0, v1⟩ := hk.var h2
    have t2 : (n.o == 2) = true := by simpa using h2
    rw [if_pos h2] at hR
    have HR := Lib.hid hR
    have il := itoa_len v0 v1
    have TT := Lib.hid (ht.next (below1 w (.cells #[.int .i64 n.o, .int .i64 n.a, .int .i64 n.b] 50)))
    clear hR h2
    go_enter Tryd.func48, Tryd.ntmps48
    go_wp2_with fail
    refine (itoa_any _ _ v0 v1 TT.out).mono ?_
    rintro e w1 ⟨rfl, b1⟩
    obtain ⟨sz, hsz⟩ : ∃ sz : Nat, (⟨(Lib.itoa n.a).toArray⟩ : ByteArray).size = sz := ⟨_, rfl⟩
    have hle : sz ≤ 19 := by rw [← hsz, size_str]; exact il
    go_wp2_with fail
    go_ret
    refine ⟨?_, (below1 w _).trans (b1.mono (by simp))⟩
    rw [HR.out, ← size_str, hsz]; rfl
  · have t2 : (n.o == 2) = false := by simpa using h2
    rw [if_neg h2] at hR
    by_cases h34 : n.o = 3 ∨ n.o = 4
    · obtain ⟨a, b, x, y, ha, hb, hx, hy, x0, x1, y0, y1⟩ := hk.two h34
      rw [if_pos h34, ha, hb, Int.toNat_natCast, Int.toNat_natCast, List.getD_eq_getElem?_getD, List.getD_eq_getElem?_getD, hx, hy] at hR
      have la := (List.getElem?_eq_some_iff.1 hx).1
      have lb := (List.getElem?_eq_some_iff.1 hy).1
      obtain ⟨g, o, rfl, hgl, ca⟩ := hA.at la
      obtain ⟨g', o', e', _, cb⟩ := hA.at lb
      simp at e'
      obtain ⟨rfl, rfl⟩ := e'
      have ea : all[a] = x := by rw [List.getElem?_eq_getElem la] at hx; exact Option.some.inj hx
      have eb : all[b] = y := by rw [List.getElem?_eq_getElem lb] at hy; exact Option.some.inj hy
      rw [ea] at ca
      rw [eb] at cb
      have ia : (0 : Int) ≤ (a : Int) := by omega
      have ib : (0 : Int) ≤ (b : Int) := by omega
      have ja : (a : Int) < (all.length : Int) := by omega
      have jb : (b : Int) < (all.length : Int) := by omega
      have s1 : IntKind.i64.wrap (x + y) = x + y := IntWalk.i64_in _ (by omega)
      have s2 : IntKind.i64.wrap (x + y + 5) = x + y + 5 := IntWalk.i64_in _ (by omega)
      obtain ⟨m, hm⟩ : ∃ m, min (x + y + 5) 8001 = m := ⟨_, rfl⟩
      simp only [Option.getD_some] at hR
      rw [hm] at hR
      have HR := Lib.hid hR
      have HM := Lib.hid hm
      rw [ha, hb]
      obtain ⟨W, hW⟩ : ∃ W, W = w.alloc (.cells #[.int .i64 n.o, .int .i64 (a : Int), .int .i64 (b : Int)] 50) := ⟨_, rfl⟩
      have bW : Below w.heap.size w W := by rw [hW]; exact below1 _ _
      have aW : At W w.heap.size 50 #[.int .i64 n.o, .int .i64 (a : Int), .int .i64 (b : Int)] := by rw [hW]; exact At.new _ _ _
      have n0 := aW.cell 0; have n1 := aW.cell 1; have n2 := aW.cell 2
      simp at n0 n1 n2
      have ca' := (bW.cell (p := ⟨g, o + a, none⟩) hgl).trans ca
      have cb' := (bW.cell (p := ⟨g, o + b, none⟩) hgl).trans cb
      have HW := Lib.hid hW
      have H34 := Lib.hid h34
      clear hR hx hy ea eb ha hb hW ca cb h2 h34 hk hA ht
      by_cases h3 : n.o = 3
      · have t3 : (n.o == 3) = true := by simpa using h3
        clear h3
        go_enter Tryd.func48, Tryd.ntmps48
        go_wp2_with fail
        rw [← HW.out]
        go_quiet (fail)
        go_wp2_with fail
        go_ret
        exact ⟨by rw [HR.out, ← HM.out]; rfl, below_drewN bW _⟩
      · have t3 : (n.o == 3) = false := by simpa using h3
        have t4 : (n.o == 4) = true := by have := H34.out; simp; omega
        clear h3
        go_enter Tryd.func48, Tryd.ntmps48
        go_wp2_with fail
        rw [← HW.out]
        go_quiet (fail)
        go_wp2_with fail
        go_ret
        exact ⟨by rw [HR.out, ← HM.out]; rfl, below_drewN bW _⟩
    · have t3 : (n.o == 3) = false := by simp; omega
      have t4 : (n.o == 4) = false := by simp; omega
      rw [if_neg h34] at hR
      have HR := Lib.hid hR
      clear hR h2 h34
      go_enter Tryd.func48, Tryd.ntmps48
      go_wp2_with fail
      go_ret
      exact ⟨by rw [HR.out]; rfl, below1 _ _⟩
end Go.Proofs.YtigcmjnjcaoolaaDoor
