/- The walk of Text. -/
import Derived.Test.YtigcmjnjcaoolaaDoorCWrite
import Derived.Test.YtigcmjnjcaoolaaDoorCBelow
import Derived.StillTailTactics
import Derived.Outline
namespace Go.Proofs.YtigcmjnjcaoolaaDoor
set_option linter.unusedVariables false
set_option linter.unusedSimpArgs false
open Go.RowKit
open Cx (N)
theorem run_make_ints (w : World) (n : Nat) (hn : n ≤ 1000000) : (Instr.makeSlice 25 (.int .i64 (n : Int)) (.int .i64 (n : Int))).run Tryd.prog w = .ok (.slice (some ⟨w.heap.size, 0, none⟩) n n) (w.alloc (.cells (icells (List.replicate n 0)).toArray 3)) := by
  obtain ⟨i0, hi, hz0, hz1, hz2⟩ := info_parts int_info
  rw [run_make_one w Tryd.underlying25 hi hz0 hz1 (by rw [hz2]; decide) rfl n hn]
  simp [icells]
theorem icells_set (l : List Int) (i : Nat) (b : Int) : (icells l).toArray.setIfInBounds i (.int .i64 b) = (icells (l.set i b)).toArray := by
  simp [icells, List.map_set]
theorem At.ints {w : World} {g : Nat} {t : TypeId} {l : List Int} (h : At w g t (icells l).toArray) {j : Nat} {b : Int} (hj : l[j]? = some b) : w.cell? ⟨g, j, none⟩ = some (.int .i64 b) := by
  rw [h.cell, List.getElem?_toArray]; simp [icells, hj]
theorem At.seti {w : World} {g : Nat} {t : TypeId} {l : List Int} (h : At w g t (icells l).toArray) (j : Nat) (b : Int) : At (w.setCell ⟨g, j, none⟩ (.int .i64 b)) g t (icells (l.set j b)).toArray := by
  rw [← icells_set]; exact h.put j _
/-- The first k lengths. -/
structure LenAt (l : List N) (m k : Nat) (xs : List Int) : Prop where
  len : xs.length = m
  get : ∀ j, j < k → xs[j]? = some (Cx.sizeAt l j)
theorem LenAt.more {l : List N} {m k : Nat} {xs : List Int} (h : LenAt l m k xs) (hk : k < m) {s : Int} (hs : Cx.sizeAt l k = s) : LenAt l m (k + 1) (xs.set k s) := by
  refine ⟨by rw [List.length_set]; exact h.len, fun j hj => ?_⟩
  rw [List.getElem?_set]
  by_cases e : k = j
  · subst e; rw [if_pos rfl, if_pos (by rw [h.len]; exact hk), hs]
  · rw [if_neg e]; exact h.get j (by omega)
set_option maxHeartbeats 4000000 in
set_option maxRecDepth 100000 in
theorem Text_any (A : Option Addr) (c : Nat) (l : List N) (node lim : Int) (w : World) (hg : Cx.Good l) (hF : ∀ n ∈ l, NGood n) (hl : l.length ≤ 20000) (hA : Circ w A l) (hT : Tab w) :
    Calls Tryd.prog 27 #[.slice A l.length c, .int .i64 node, .int .i64 lim] w fun e w' => e = .returned (.string ⟨(Cx.text l node lim).toArray⟩) ∧ Below w.heap.size w w' := by
  obtain ⟨W, hW⟩ : ∃ W, W = w.alloc (.cells #[.slice A l.length c] 24) := ⟨_, rfl⟩
  have bW : Below w.heap.size w W := by rw [hW]; exact below1 _ _
  have aW : At W w.heap.size 24 #[.slice A l.length c] := by rw [hW]; exact At.new _ _ _
  have HW := Lib.hid hW
  have c0 := aW.cell 0
  simp at c0
  by_cases h1 : node < 0
  · have d1 : decide (node < 0) = true := by simpa using h1
    have HR := Lib.hid (show Cx.text l node lim = [] from text_out (by unfold Cx.isIn; simp; omega))
    clear hW
    go_enter Tryd.func27, Tryd.ntmps27
    go_wp2_with fail
    go_ret
    exact ⟨by rw [HR.out]; rfl, below1 _ _⟩
  · have d1 : decide (node < 0) = false := by simpa using h1
    by_cases h2 : (l.length : Int) ≤ node
    · have d2 : decide ((l.length : Int) ≤ node) = true := by simpa using h2
      have HR := Lib.hid (show Cx.text l node lim = [] from text_out (by unfold Cx.isIn; simp; omega))
      clear hW
      go_enter Tryd.func27, Tryd.ntmps27
      go_wp2_with fail
      go_ret
      exact ⟨by rw [HR.out]; rfl, below1 _ _⟩
    · have d2 : decide ((l.length : Int) ≤ node) = false := by simpa using h2
      obtain ⟨i, rfl⟩ : ∃ i : Nat, node = i := ⟨node.toNat, by omega⟩
      have hi : i < l.length := by omega
      have HR := Lib.hid (text_in (lim := lim) hi)
      have d2' : decide (l.length ≤ i) = false := by simp; omega
      have q0 := run_make_ints W (i + 1) (by omega)
      obtain ⟨W1, hW1⟩ : ∃ W1, W1 = W.alloc (.cells (icells (List.replicate (i + 1) 0)).toArray 3) := ⟨_, rfl⟩
      have b1 : Below w.heap.size w W1 := by rw [hW1]; exact bW.alloc bW.size _
      have a1 : At W1 W.heap.size 3 (icells (List.replicate (i + 1) 0)).toArray := by rw [hW1]; exact At.new _ _ _
      have aW1 : At W1 w.heap.size 24 #[.slice A l.length c] := by rw [hW1]; exact aW.alloc _
      rw [← hW1] at q0
      rw [hW] at q0
      have i0 : (0 : Int) ≤ (i : Int) := by omega
      have i1 : (i : Int) ≤ 20000 := by omega
      have q1 : ((i + 1 : Nat) : Int) = (i : Int) + 1 := by omega
      rw [q1] at q0
      clear hW hW1 h1 h2 q1
      go_enter Tryd.func27, Tryd.ntmps27
      go_wp2_with fail
      have G := Lib.hid (show W.heap.size = w.heap.size + 1 by have := aW.lt; have h := HW.out; rw [h]; simp)
      rw [G.out] at a1
      clear q0 c0
      go_loopw [25] (fun x wr => ∃ (k : Nat) (xs : List Int), k ≤ i + 1 ∧ x = .int .i64 k ∧ At wr (w.heap.size + 1) 3 (icells xs).toArray ∧ Hid (LenAt l (i + 1) k xs) ∧ At wr w.heap.size 24 #[.slice A l.length c] ∧ Below w.heap.size w wr) (fun x _ => i + 1 - (intOf x).toNat)
      case atStart => exact ⟨0, _, by omega, rfl, a1, Lib.hid ⟨by simp, fun j hj => by omega⟩, aW1, b1⟩
      case round =>
        obtain ⟨k, xs, hk, rfl, hx, HL, hc, hbw⟩ := hrel
        clear a1 aW1 b1
        have c0 := hc.cell 0
        simp at c0
        have z1 := hc.lt
        have z2 := hx.lt
        by_cases h1 : k < i + 1
        · have d3 : decide ((k : Int) < (i : Int) + 1) = true := by simp; omega
          have hk2 : k < l.length := by omega
          have e1 := getElem_of hk2
          have hgood := hF _ (List.getElem_mem hk2)
          obtain ⟨g, o, rfl, hgl, m0, m1, m2⟩ := (hA.below hbw).at hk2
          have hgw : g < w.heap.size := by
            obtain ⟨g', o', e', hl', _⟩ := hA.at hk2
            simp at e'
            obtain ⟨rfl, rfl⟩ := e'
            exact hl'
          have i2 : (0 : Int) ≤ (k : Int) := by omega
          have i3 : (k : Int) < (l.length : Int) := by omega
          have i4 : (k : Int) < (i : Int) + 1 := by omega
          have i5 : k < i + 1 := h1
          generalize l[k] = v at *
          have xk : ∃ y, xs[k]? = some y := ⟨_, getElem_of (show k < xs.length by rw [HL.out.len]; omega)⟩
          obtain ⟨y, xk⟩ := xk
          rcases kinds hg e1 with ⟨h0, hi0, hR⟩ | ⟨h0, hi0, hR⟩ | ⟨h2, h3, hR⟩ | ⟨a, b, h2, ha, hb, h5, h6, hR⟩
          · have t2 : (v.o == 2) = false := by simp; omega
            have HBI := Lib.hid (show Cx.binary ⟨v.o, v.a, v.b⟩ = false by unfold Cx.binary; simp; omega)
            have HN := Lib.hid (HL.out.more h1 (Cx.size_one e1 (by omega) (by omega)))
            obtain ⟨W2, hW2⟩ : ∃ W2, W2 = wr.alloc (.cells #[.int .i64 v.o, .int .i64 v.a, .int .i64 v.b] 50) := ⟨_, rfl⟩
            have bW2 : Below w.heap.size w W2 := by rw [hW2]; exact hbw.alloc hbw.size _
            have hx2 : At W2 (w.heap.size + 1) 3 (icells xs).toArray := by rw [hW2]; exact hx.alloc _
            have hc2 : At W2 w.heap.size 24 #[.slice (some ⟨g, o, none⟩) l.length c] := by rw [hW2]; exact hc.alloc _
            have HW2 := Lib.hid hW2
            clear hW2 e1 h0 hi0 hR
            go_wp2_with fail
            rw [← HW2.out]
            refine (binary_any v.o v.a v.b _).mono ?_
            rintro e w3 ⟨rfl, hw3⟩
            rw [HBI.out]
            have b3 : Below W2.heap.size W2 w3 := by rw [← hw3]; exact below1 _ _
            have hx3 := hx2.next b3
            have hc3 := hc2.next b3
            have bw3 := bW2.trans (b3.mono bW2.size)
            have xk' := hx3.ints xk
            have fk := hx3.frozen k
            have hx4 := hx3.seti k 1
            have hc4 := hc3.far (p := ⟨w.heap.size + 1, k, none⟩) (by simp) (.int .i64 1)
            clear hw3 xk
            go_wp2_with fail
            go_roundw
            case rel => exact ⟨k + 1, _, by omega, by go_num, hx4, HN, hc4, bw3.setCell (p := ⟨w.heap.size + 1, k, none⟩) (by simp) _⟩
            case measure => simp [intOf]; omega
          · have t2 : (v.o == 2) = false := by simp; omega
            have HBI := Lib.hid (show Cx.binary ⟨v.o, v.a, v.b⟩ = false by unfold Cx.binary; simp; omega)
            have HN := Lib.hid (HL.out.more h1 (Cx.size_one e1 (by omega) (by omega)))
            obtain ⟨W2, hW2⟩ : ∃ W2, W2 = wr.alloc (.cells #[.int .i64 v.o, .int .i64 v.a, .int .i64 v.b] 50) := ⟨_, rfl⟩
            have bW2 : Below w.heap.size w W2 := by rw [hW2]; exact hbw.alloc hbw.size _
            have hx2 : At W2 (w.heap.size + 1) 3 (icells xs).toArray := by rw [hW2]; exact hx.alloc _
            have hc2 : At W2 w.heap.size 24 #[.slice (some ⟨g, o, none⟩) l.length c] := by rw [hW2]; exact hc.alloc _
            have HW2 := Lib.hid hW2
            clear hW2 e1 h0 hi0 hR
            go_wp2_with fail
            rw [← HW2.out]
            refine (binary_any v.o v.a v.b _).mono ?_
            rintro e w3 ⟨rfl, hw3⟩
            rw [HBI.out]
            have b3 : Below W2.heap.size W2 w3 := by rw [← hw3]; exact below1 _ _
            have hx3 := hx2.next b3
            have hc3 := hc2.next b3
            have bw3 := bW2.trans (b3.mono bW2.size)
            have xk' := hx3.ints xk
            have fk := hx3.frozen k
            have hx4 := hx3.seti k 1
            have hc4 := hc3.far (p := ⟨w.heap.size + 1, k, none⟩) (by simp) (.int .i64 1)
            clear hw3 xk
            go_wp2_with fail
            go_roundw
            case rel => exact ⟨k + 1, _, by omega, by go_num, hx4, HN, hc4, bw3.setCell (p := ⟨w.heap.size + 1, k, none⟩) (by simp) _⟩
            case measure => simp [intOf]; omega
          · have t2 : (v.o == 2) = true := by simpa using h2
            have v1 := hgood.2.1.2
            have il := itoa_len h3 v1
            have HN := HL.out.more h1 (Cx.size_var e1 h2)
            have TT := (hT.next ((hbw.alloc hbw.size (.cells #[.int .i64 v.o, .int .i64 v.a, .int .i64 v.b] 50))))
            clear h2 hR e1
            go_wp2_with fail
            refine (itoa_any _ _ h3 v1 TT).mono ?_
            rintro e w2 ⟨rfl, b2⟩
            obtain ⟨sz, hsz⟩ : ∃ sz : Nat, (⟨(Lib.itoa v.a).toArray⟩ : ByteArray).size = sz := ⟨_, rfl⟩
            have hle : sz ≤ 19 := by rw [← hsz, size_str]; exact il
            have hx2 := (hx.alloc (.cells #[.int .i64 v.o, .int .i64 v.a, .int .i64 v.b] 50)).next b2
            have hc2 := (hc.alloc (.cells #[.int .i64 v.o, .int .i64 v.a, .int .i64 v.b] 50)).next b2
            have x1 := hx2.ints xk
            have f1 := hx2.frozen k
            have hb2 := ((hbw.alloc hbw.size (.cells #[.int .i64 v.o, .int .i64 v.a, .int .i64 v.b] 50))).trans (b2.mono (by have := hbw.size; simp; omega))
            have hx3 := hx2.seti k (1 + (sz : Int))
            have hc3 := hc2.far (p := ⟨w.heap.size + 1, k, none⟩) (by simp) (.int .i64 (1 + (sz : Int)))
            have HN' := Lib.hid (show LenAt l (i + 1) (k + 1) (xs.set k (1 + (sz : Int))) by rw [← hsz, size_str]; exact HN)
            clear HN
            go_wp2_with fail
            go_roundw
            case rel => exact ⟨k + 1, _, by omega, by go_num, hx3, HN', hc3, hb2.setCell (p := ⟨w.heap.size + 1, k, none⟩) (by simp) _⟩
            case measure => simp [intOf]; omega
          · have sa := HL.out.get a (by omega)
            have sb := HL.out.get b (by omega)
            obtain ⟨x0, x1⟩ := size_bd hg hF (show a < l.length by omega)
            obtain ⟨y0, y1⟩ := size_bd hg hF (show b < l.length by omega)
            have HN := HL.out.more h1 (Cx.size_two e1 h2 ha hb (by omega) (by omega))
            generalize Cx.sizeAt l a = x at *
            generalize Cx.sizeAt l b = y' at *
            have t2 : (v.o == 2) = false := by simp; omega
            have HBI := Lib.hid (show Cx.binary ⟨v.o, v.a, v.b⟩ = true by unfold Cx.binary; simpa using h2)
            obtain ⟨W2, hW2⟩ : ∃ W2, W2 = wr.alloc (.cells #[.int .i64 v.o, .int .i64 v.a, .int .i64 v.b] 50) := ⟨_, rfl⟩
            have bW2 : Below w.heap.size w W2 := by rw [hW2]; exact hbw.alloc hbw.size _
            have aW2 : At W2 wr.heap.size 50 #[.int .i64 v.o, .int .i64 v.a, .int .i64 v.b] := by rw [hW2]; exact At.new _ _ _
            have hx2 : At W2 (w.heap.size + 1) 3 (icells xs).toArray := by rw [hW2]; exact hx.alloc _
            have hc2 : At W2 w.heap.size 24 #[.slice (some ⟨g, o, none⟩) l.length c] := by rw [hW2]; exact hc.alloc _
            have HW2 := Lib.hid hW2
            have ja : (a : Int) < (i : Int) + 1 := by omega
            have jb : (b : Int) < (i : Int) + 1 := by omega
            have la : a < i + 1 := by omega
            have lb : b < i + 1 := by omega
            have ia : (0 : Int) ≤ (a : Int) := by omega
            have ib : (0 : Int) ≤ (b : Int) := by omega
            have s1 : IntKind.i64.wrap (x + y') = x + y' := IntWalk.i64_in _ (by omega)
            have s2 : IntKind.i64.wrap (x + y' + 5) = x + y' + 5 := IntWalk.i64_in _ (by omega)
            obtain ⟨m, hm⟩ : ∃ m, min (x + y' + 5) 8001 = m := ⟨_, rfl⟩
            rw [hm] at HN
            have n0 := aW2.cell 0; have n1 := aW2.cell 1; have n2 := aW2.cell 2
            simp at n0 n1 n2
            have HM := Lib.hid hm
            have HA := Lib.hid ha; have HB := Lib.hid hb
            clear hW2 e1 h2 hR ha hb
            go_wp2_with fail
            rw [← HW2.out]
            refine (binary_any v.o v.a v.b _).mono ?_
            rintro e w3 ⟨rfl, hw3⟩
            rw [HBI.out]
            have b3 : Below W2.heap.size W2 w3 := by rw [← hw3]; exact below1 _ _
            have a3 := aW2.next b3
            have hx3 := hx2.next b3
            have hc3 := hc2.next b3
            have bw3 := bW2.trans (b3.mono bW2.size)
            clear hw3 n0 n1 n2
            have n0 := a3.cell 0; have n1 := a3.cell 1; have n2 := a3.cell 2
            simp at n0 n1 n2
            rw [HA.out] at n1
            rw [HB.out] at n2
            have xa := hx3.ints sa
            have xb := hx3.ints sb
            have xk' := hx3.ints xk
            have fk := hx3.frozen k
            clear sa sb xk
            go_wp2_with fail
            have hx4 := hx3.seti k m
            have hc4 := hc3.far (p := ⟨w.heap.size + 1, k, none⟩) (by simp) (.int .i64 m)
            have HN' := Lib.hid HN
            have bw4 := bw3.setCell (p := ⟨w.heap.size + 1, k, none⟩) (by simp) (.int .i64 m)
            clear HN
            go_still_tail 16, (by kernel_rfl)
            change wpList _ _ _ _ _ w3.drew
            go_wp2_with fail
            go_roundw
            case rel => exact ⟨k + 1, _, by omega, by go_num, hx4.drew, HN', hc4.drew, bw4.drew⟩
            case measure => simp [intOf]; omega
        · have d3 : decide ((k : Int) < (i : Int) + 1) = false := by simp; omega
          have xi := hx.ints (HL.out.get i (by omega))
          obtain ⟨z0, z3⟩ := size_bd hg hF hi
          have HTX := Lib.hid (text_of hg hF hi)
          have HLN := Lib.hid (Cx.size_text hg (good_big hF) i hi)
          have i4 : (i : Int) < (i : Int) + 1 := by omega
          have i5 : i < i + 1 := by omega
          generalize Cx.sizeAt l i = sz at *
          obtain ⟨m, hm⟩ : ∃ m, min lim 8000 = m := ⟨_, rfl⟩
          by_cases s1 : m < sz
          · have t1 : decide (m < sz) = true := by simpa using s1
            have HE := Lib.hid (show Cx.text l (i : Int) lim = [] by rw [HR.out, if_pos (by omega)])
            go_wp2_with fail
            go_ret
            exact ⟨by rw [HE.out]; rfl, hbw⟩
          · have t1 : decide (m < sz) = false := by simpa using s1
            have HE := Lib.hid (show Cx.text l (i : Int) lim = Cx.textAt l i by rw [HR.out, if_neg (by omega)])
            have hlt : (Cx.textAt l i).length ≤ 9000 := HTX.out (by omega)
            obtain ⟨w4, hw4⟩ : ∃ w4, w4 = (wr.alloc (.cells #[.pointer none, .slice none 0 0] 72)).alloc (.cells #[.func (.func 44) #[] #[.pointer (some ⟨w.heap.size, 0, none⟩), .pointer (some ⟨wr.heap.size, 0, none⟩), .pointer (some ⟨wr.heap.size + 1, 0, none⟩)]] 73) := ⟨_, rfl⟩
            have b4 : Below wr.heap.size wr w4 := by rw [hw4]; exact ((Below.refl _ _).alloc (Nat.le_refl _) _).alloc (by simp) _
            have bw4 : Below w.heap.size w w4 := hbw.trans (b4.mono hbw.size)
            have hB4 : Bld w4 wr.heap.size wr.heap.size (Lib.byteCells []) := by
              rw [hw4]
              exact bld_below (Or.inl ⟨Nat.le_refl _, .slice none 0 0, heap_alloc_new wr _, World.ownsRow_nil _ _ _ _, by simp [Value.ownBlock]⟩) (below1 _ _)
            have M4 : TMem w4 wr.heap.size w.heap.size wr.heap.size (wr.heap.size + 1) A c l [] :=
              ⟨hc.next b4, by rw [hw4]; exact At.newAt (by simp) _ _, hB4, (hA.below hbw).below b4, (hT.next hbw).next b4, b4.size, by omega, by omega, by omega⟩
            have HC := Lib.hid (write_any wr.heap.size w.heap.size wr.heap.size (wr.heap.size + 1) A c l hg hF hl w hA hT hbw.size i w4 [] hi (by simp; omega) M4 bw4)
            have HW4 := Lib.hid hw4
            have hsz4 : wr.heap.size ≤ w4.heap.size := b4.size
            have hlw : w.heap.size ≤ wr.heap.size := hbw.size
            have HBW4 := Lib.hid bw4
            clear hw4 M4 hB4 b4 HL bw4
            go_wp2_with fail
            rw [← HW4.out]
            refine HC.out.mono ?_
            rintro e w5 ⟨rfl, h5, b5, k5⟩
            rw [List.nil_append] at h5
            go_wp2_with fail
            refine (Tryd.Builder_String_any wr.heap.size wr.heap.size (Cx.textAt l i) _ h5 (Nat.le_trans hsz4 b5.size)).mono ?_
            rintro e w6 ⟨rfl, b6⟩
            go_wp2_with fail
            go_ret
            exact ⟨by rw [HE.out]; rfl, (HBW4.out.trans (b5.mono hlw)).trans (b6.mono hlw)⟩
end Go.Proofs.YtigcmjnjcaoolaaDoor
