/- The walk of Eval. -/
import Derived.Test.YtphmicbpkljmfaaGreatCEval
import Derived.Test.YtphmicbpkljmfaaGreatCVals
import Derived.Laws.EntriesVeiled
namespace Go.Proofs.YtphmicbpkljmfaaGreat
set_option linter.unusedVariables false
set_option linter.unusedSimpArgs false
open Go.RowKit
open Cx (N)
/-- The set of the first k numbers. -/
def SetTo (ts : List Int) (k : Nat) (fs : Int → Option Bool) : Prop := ∀ x, (fs x).getD false = (ts.take k).contains x
theorem SetTo.more {ts : List Int} {k : Nat} {fs : Int → Option Bool} {x : Int} (h : SetTo ts k fs) (hx : ts[k]? = some x) : SetTo ts (k + 1) (fun y => if y = x then some true else fs y) := by
  intro y
  show (if y = x then some true else fs y).getD false = _
  rw [take_more hx, List.contains_eq_any_beq, List.any_append]
  by_cases e : y = x
  · subst e; simp
  · rw [if_neg e, h y, List.contains_eq_any_beq]; simp [e]
theorem FMap.madeAt {κ α : Type} {w : World} {g : Nat} (hg : w.heap.size = g) (P : Program) (k : TypeId) (R : Value → Option (DataW Unit × List MemPlace)) (val : κ → Value) (dat : α → DataW Unit) : FMap (w.alloc (.map #[] 0)) P k R val dat g 0 (fun _ => none) := by
  subst hg; exact FMap.made w P k R val dat
theorem eval_out {l : List N} {ts : List Int} {n : Int} (h : Cx.isIn l n = false) : Cx.eval l n ts = false := by unfold Cx.eval; rw [h]; rfl
theorem eval_in {l : List N} {ts : List Int} {n : Int} (h : Cx.isIn l n = true) : Cx.eval l n ts = (Cx.values ts l).getD n.toNat false := by unfold Cx.eval; rw [h]; rfl
set_option maxHeartbeats 4000000 in
set_option maxRecDepth 100000 in
theorem eval_any (A : Option Addr) (c : Nat) (l : List N) (node : Int) (B : Option Addr) (d : Nat) (ts : List Int) (w : World) (hg : Cx.Good l) (hF : ∀ n ∈ l, NGood n) (hl : l.length ≤ 20000) (hts : ts.length ≤ 1000000) (hI : ∀ t ∈ ts, I64 t) (hA : Cir w A c l) (hB : Nums w B ts) :
    Calls Tryz.prog 25 #[.slice A l.length c, .int .i64 node, .slice B ts.length d] w fun e w' => e = .returned (.bool (Cx.eval l node ts)) ∧ Below w.heap.size w w' := by
  obtain ⟨W, hW⟩ : ∃ W, W = w.alloc (.cells #[.slice A l.length c] 23) := ⟨_, rfl⟩
  have hb : Below w.heap.size w W := by rw [hW]; exact below1 _ _
  have hc : At W w.heap.size 23 #[.slice A l.length c] := by rw [hW]; exact At.new _ _ _
  have HW := Lib.hid hW
  clear hW
  have hAW := hA.circ.below hb
  by_cases h1 : node < 0
  · have d1 : decide (node < 0) = true := by simpa using h1
    have HR := Lib.hid (show Cx.eval l node ts = false from eval_out (by unfold Cx.isIn; simp; omega))
    go_enter Tryz.func25, Tryz.ntmps25
    go_wp2_with fail
    go_ret
    exact ⟨by rw [HR.out]; rfl, below1 _ _⟩
  · have d1 : decide (node < 0) = false := by simpa using h1
    by_cases h2 : (l.length : Int) ≤ node
    · have d2 : decide ((l.length : Int) ≤ node) = true := by simpa using h2
      have HR := Lib.hid (show Cx.eval l node ts = false from eval_out (by unfold Cx.isIn; simp; omega))
      go_enter Tryz.func25, Tryz.ntmps25
      go_wp2_with fail
      go_ret
      exact ⟨by rw [HR.out]; rfl, below1 _ _⟩
    · have d2 : decide ((l.length : Int) ≤ node) = false := by simpa using h2
      obtain ⟨i, rfl⟩ : ∃ i : Nat, node = i := ⟨node.toNat, by omega⟩
      have hi : i < l.length := by omega
      have HR := Lib.hid (show Cx.eval l (i : Int) ts = (Cx.values ts l).getD i false by rw [eval_in (by unfold Cx.isIn; simp; omega)]; rfl)
      clear h1 h2
      have d2' : decide (l.length ≤ i) = false := by simp; omega
      have c0 := hc.cell 0
      simp at c0
      have hmm := @run_makeMap Tryz.prog
      obtain ⟨W0, hW0⟩ : ∃ W0, W0 = ((w.alloc (.cells #[.slice A l.length c] 23)).alloc (.map #[] 0)).alloc (.cells #[.map (some (w.heap.size + 1))] 73) := ⟨_, rfl⟩
      have b0 : Below w.heap.size w W0 := by rw [hW0]; exact (((Below.refl _ _).alloc (Nat.le_refl _) _).alloc (by simp) _).alloc (by simp; omega) _
      have f0 : IMap W0 (w.heap.size + 1) 0 (fun _ => none) := by rw [hW0]; exact FMap.alloc (FMap.madeAt (by simp) _ _ _ _ _) _
      have ac : At W0 w.heap.size 23 #[.slice A l.length c] := by rw [hW0]; exact ((At.new _ _ _).alloc _).alloc _
      have as' : At W0 (w.heap.size + 1 + 1) 73 #[.map (some (w.heap.size + 1))] := by rw [hW0]; exact At.newAt (by simp) _ _
      have HW0 := Lib.hid hW0
      clear hW0
      go_enter Tryz.func25, Tryz.ntmps25
      go_wp2_with fail
      rw [← HW0.out]
      go_loopw [23] (fun v wr => ∃ (k ns : Nat) (fs : Int → Option Bool), k ≤ ts.length ∧ ns ≤ k ∧ v = .int .i64 k ∧ IMap wr (w.heap.size + 1) ns fs ∧ Hid (SetTo ts k fs) ∧ At wr w.heap.size 23 #[.slice A l.length c] ∧ At wr (w.heap.size + 1 + 1) 73 #[.map (some (w.heap.size + 1))] ∧ Below w.heap.size w wr) (fun v _ => ts.length - (intOf v).toNat)
      case atStart => exact ⟨0, 0, _, by omega, by omega, rfl, f0, Lib.hid (fun x => by simp), ac, as', b0⟩
      case round =>
        obtain ⟨k, ns, fs, hk, hns, rfl, hm, HS, hc', hs', hbw⟩ := hrel
        clear f0 ac as' b0 c0
        have s0 := hs'.cell 0
        have c0 := hc'.cell 0
        simp at s0 c0
        by_cases h1 : k < ts.length
        · have d3 : decide ((k : Int) < (ts.length : Int)) = true := by simp; omega
          have d3' : decide (k < ts.length) = true := by simp; omega
          obtain ⟨g, o, rfl, hgl, x0⟩ := (hB.below hbw).at h1
          have e1 := getElem_of h1
          have hIx := hI _ (List.getElem_mem h1)
          generalize ts[k] = x at *
          have HN := Lib.hid (HS.out.more e1)
          have i0 : (0 : Int) ≤ (k : Int) := by omega
          have i1 : (k : Int) < (ts.length : Int) := by omega
          clear e1
          obtain ⟨es, ec, hob⟩ := hm.obj
          have HOB := Lib.hid hob
          clear hob
          go_wp2_with (first | (at_mapUpdate; refine wpList_fmap_update _ rfl _ _ _ 73 rfl hm int_enc bool_enc Tryz.underlying73 (by unfold maxLen; omega) rfl x rfl hIx true rfl ?_; intro w9 hk9 g9))
          go_roundw
          case rel => exact ⟨k + 1, ns + 1, _, by omega, by omega, by go_num, hk9, HN, hc'.grown g9 (hc'.not_map HOB.out), hs'.grown g9 (hs'.not_map HOB.out), hbw.trans (below_of_grown g9 (by omega) hbw.size)⟩
          case measure => simp [intOf]; omega
        · have d3 : decide ((k : Int) < (ts.length : Int)) = false := by simp; omega
          have d3' : decide (k < ts.length) = false := by simp; omega
          have HS' := Lib.hid (show ∀ x, (fs x).getD false = ts.contains x from fun x => by rw [HS.out x, List.take_of_length_le (by omega)])
          have z1 := hc'.lt; have z2 := hs'.lt
          have f1 := FMap.made wr Tryz.prog 3 (plainElem Tryz.prog 4) ival bdat
          obtain ⟨w2, r1, f2, g2⟩ := f1.update int_enc bool_enc Tryz.underlying73 (by unfold maxLen; omega) (0 : Int) (i64_nat (k := 0) (by omega)) false
          obtain ⟨w3, r2, f3, g3⟩ := f2.update int_enc bool_enc Tryz.underlying73 (by unfold maxLen; omega) (1 : Int) (i64_nat (k := 1) (by omega)) true
          simp only [ival] at r1 r2
          have B1 : Below wr.heap.size wr w3 := (((Below.refl _ _).alloc (Nat.le_refl _) _).trans (below_of_grown g2 (Nat.le_refl _) (by simp))).trans (below_of_grown g3 (Nat.le_refl _) (by have := g2.size; simp at this; omega))
          obtain ⟨w4, hw4⟩ : ∃ w4, w4 = (w3.alloc (.cells #[.map (some wr.heap.size)] 73)).alloc (.cells #[.func (.func 50) #[] #[.pointer (some ⟨w3.heap.size, 0, none⟩), .pointer (some ⟨w.heap.size, 0, none⟩), .pointer (some ⟨w.heap.size + 1 + 1, 0, none⟩), .pointer (some ⟨w3.heap.size + 1, 0, none⟩)]] 61) := ⟨_, rfl⟩
          have B2 : Below w3.heap.size w3 w4 := by rw [hw4]; exact ((Below.refl _ _).alloc (Nat.le_refl _) _).alloc (by simp) _
          have B3 : Below wr.heap.size wr w4 := B1.trans (B2.mono B1.size)
          have HM : EMem w4 w3.heap.size w.heap.size (w.heap.size + 1 + 1) (w3.heap.size + 1) wr.heap.size (w.heap.size + 1) A c l ts 2 (fun y => if y = 1 then some true else if y = 0 then some false else none) ns fs :=
            ⟨by rw [hw4]; exact At.alloc (At.new _ _ _) _, hc'.next B3, hs'.next B3, by rw [hw4]; exact At.newAt (by simp) _ _, f3.next B2, hm.next B3, by have := hm.lt; omega, (hA.circ.below hbw).below B3, HS'.out, known_start hg ts⟩
          have B4 : Below w.heap.size w w4 := hbw.trans (B3.mono hbw.size)
          have C := value_any _ _ _ _ _ _ _ _ l ts ns fs hg hF hl i _ _ _ hi HM
          have HC := Lib.hid C
          have HW4 := Lib.hid hw4
          have hlt : w.heap.size ≤ wr.heap.size := hbw.size
          have HB4 := Lib.hid B4
          have y1 : w.heap.size < w3.heap.size := by have := B1.size; omega
          have y2 : w.heap.size + 1 + 1 < w3.heap.size := by have := B1.size; omega
          clear C hw4 HM B1 B2 B3 B4 f1 f2 f3 g2 g3 hm s0 c0
          go_wp2_with fail
          rw [← HW4.out]
          refine HC.out.mono ?_
          rintro e w5 ⟨n', f', rfl, _, g5, _⟩
          go_wp2_with fail
          go_ret
          exact ⟨by rw [HR.out]; rfl, HB4.out.trans (below_of_grown g5 hlt HB4.out.size)⟩
end Go.Proofs.YtphmicbpkljmfaaGreat
