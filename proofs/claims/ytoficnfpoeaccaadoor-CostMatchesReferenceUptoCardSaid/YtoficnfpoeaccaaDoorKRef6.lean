/- The walk of the reference's binds. -/
import Derived.Test.YtoficnfpoeaccaaDoorKRef4
namespace Go.Proofs.YtoficnfpoeaccaaDoor
set_option linter.unusedVariables false
set_option linter.unusedSimpArgs false
open Go.RowKit
/-- Whether a comparison binds a variable. -/
def bindsP (B : Ko.Bd) (t : Lt) : Bool := decide (t.kind = 5) && decide (t.op = 1) && !t.args.all (Ko.known B)
theorem known_name (B : Ko.Bd) (x : Tm) : Ko.known B x = (decide (x.v.toList = []) || B x.v) := by
  unfold Ko.known Ko.isVar
  rw [Lib.toList_data]
  by_cases h : x.v.data.toList = [] <;> simp [h]
set_option maxHeartbeats 600000 in
set_option maxRecDepth 100000 in
theorem binds_any (A : Option Addr) (c : Nat) (l : List ByteArray) (t : Lt) (w : World) (hA : NmAt w A l) (hl : l.length ≤ 1000000) (ht : LtOk w t) (hn : t.args.length ≤ 1000000) :
    Calls Tryd.prog 40 #[t.v, .slice A l.length c] w fun e w' => e = .returned (.bool (bindsP (bdN l) t)) ∧ Below w.heap.size w w' := by
  obtain ⟨kind, name, pred, aa, ac, args, bind, elem, least, op, pos⟩ := t
  have hs0 : Str w aa 4 (args.map Tm.fs) := ht.args
  have HS := Lib.hid hs0
  have HI := Lib.hid (fun x W (h : Below w.heap.size w W) => index_any A c l x W (hA.below h) hl)
  unfold bindsP Lt.v
  dsimp only at *
  clear hA ht hs0
  have HAT := Lib.hid (At.new w 60 #[.int .i64 kind, .string name, .int .i64 pred, .slice aa args.length ac, .string bind, .string elem, .int .i64 least, .int .i64 op, .int .i64 pos])
  obtain ⟨R, hR⟩ : ∃ R, (decide (kind = 5) && decide (op = 1) && !args.all (Ko.known (bdN l))) = R := ⟨_, rfl⟩
  rw [hR]
  by_cases h1 : kind = 5
  · have k5 : (kind != 5) = false := by simpa using h1
    rw [decide_eq_true h1] at hR
    clear h1
    by_cases h2 : op = 1
    · have o1 : (op != 1) = false := by simpa using h2
      rw [decide_eq_true h2] at hR
      have HR := Lib.hid hR
      clear h2 hR
      go_enter Tryd.func40, Tryd.ntmps40
      go_wp2_with fail
      go_loopw [5] (fun i wr => ∃ k : Nat, k ≤ args.length ∧ i = .int .i64 k ∧ Hid ((args.take k).all (Ko.known (bdN l)) = true) ∧ Below (w.alloc (.cells #[.int .i64 kind, .string name, .int .i64 pred, .slice aa args.length ac, .string bind, .string elem, .int .i64 least, .int .i64 op, .int .i64 pos] 60)).heap.size (w.alloc (.cells #[.int .i64 kind, .string name, .int .i64 pred, .slice aa args.length ac, .string bind, .string elem, .int .i64 least, .int .i64 op, .int .i64 pos] 60)) wr) (fun i _ => args.length - (intOf i).toNat)
      case atStart => exact ⟨0, by omega, rfl, Lib.hid rfl, Below.refl _ _⟩
      case round =>
        obtain ⟨k, hk, rfl, HK, hb⟩ := hrel
        have hat := HAT.out.next hb
        have hw1 : Below w.heap.size w wr := (below1 _ _).trans (hb.mono (by simp))
        have c3 : wr.cell? ⟨w.heap.size, 3, none⟩ = some (.slice aa args.length ac) := hat.cell 3
        by_cases h1 : k < args.length
        · have d1 : decide ((k : Int) < (args.length : Int)) = true := by simp; omega
          obtain ⟨x, hx⟩ : ∃ x, args[k]? = some x := ⟨_, List.getElem?_eq_getElem h1⟩
          obtain ⟨g, o, rfl, hg, x0, x1, x2, x3⟩ := tm_cells (HS.out.below hw1) hx
          have i0 : (0 : Int) ≤ (k : Int) := by omega
          have i1 : (k : Int) < (args.length : Int) := by omega
          have HM := Lib.hid (all_more' (f := Ko.known (bdN l)) hx)
          have HG := Lib.hid (show Ko.known (bdN l) x = false → args.all (Ko.known (bdN l)) = false from fun h => List.all_eq_false.2 ⟨x, List.mem_of_getElem? hx, by rw [h]; simp⟩)
          have HV := Lib.hid (known_name (bdN l) x)
          clear hx
          by_cases hv : x.v.toList = []
          · have HN := Lib.hid (show (args.take (k + 1)).all (Ko.known (bdN l)) = true by rw [HM.out, HK.out, HV.out, decide_eq_true hv]; rfl)
            have t1 : (x.v.toList == []) = true := by rw [hv]; rfl
            have t2 : (x.v.toList != []) = false := by rw [hv]; rfl
            go_wp2_with fail
            go_roundw
            case rel => exact ⟨k + 1, by omega, by go_num, HN, hb⟩
            case measure => simp [intOf]; omega
          · have t1 : (x.v.toList == []) = false := by simpa using hv
            have t2 : (x.v.toList != []) = true := by simpa using hv
            have hV : Ko.known (bdN l) x = hasN l x.v := by rw [HV.out, decide_eq_false hv]; rfl
            cases hz : hasN l x.v
            · have HZ := Lib.hid hz
              have HR2 := Lib.hid (HG.out (hV.trans hz))
              clear hz hV
              go_wp2_with (go_at_call 59; refine (HI.out x.v _ hw1).mono ?_; rintro e w2 ⟨⟨i, rfl, hi, hlo, hup⟩, rfl⟩; rw [HZ.out] at hi; have d2 : decide (i < 0) = true := decide_eq_true (by have := of_decide_eq_false hi; omega); clear hi)
              go_ret
              exact ⟨by rw [← HR.out, HR2.out]; rfl, hw1⟩
            · have HZ := Lib.hid hz
              have HN := Lib.hid (show (args.take (k + 1)).all (Ko.known (bdN l)) = true by rw [HM.out, HK.out, hV, hz]; rfl)
              clear hz hV
              go_wp2_with (go_at_call 59; refine (HI.out x.v _ hw1).mono ?_; rintro e w2 ⟨⟨i, rfl, hi, hlo, hup⟩, rfl⟩; rw [HZ.out] at hi; have d2 : decide (i < 0) = false := decide_eq_false (by have := of_decide_eq_true hi; omega); clear hi)
              go_roundw
              case rel => exact ⟨k + 1, by omega, by go_num, HN, hb⟩
              case measure => simp [intOf]; omega
        · have d1 : decide ((k : Int) < (args.length : Int)) = false := by simp; omega
          have HR2 := Lib.hid (show args.all (Ko.known (bdN l)) = true by
            have h := HK.out
            rw [List.take_of_length_le (by omega)] at h
            exact h)
          go_wp2_with fail
          go_ret
          exact ⟨by rw [← HR.out, HR2.out]; rfl, hw1⟩
    · have o1 : (op != 1) = true := by simpa using h2
      rw [decide_eq_false h2] at hR
      have HR := Lib.hid hR
      clear h2 hR
      go_enter Tryd.func40, Tryd.ntmps40
      go_wp2_with fail
      go_ret
      exact ⟨by rw [← HR.out]; rfl, below1 _ _⟩
  · have k5 : (kind != 5) = true := by simpa using h1
    rw [decide_eq_false h1] at hR
    have HR := Lib.hid hR
    clear h1 hR
    go_enter Tryd.func40, Tryd.ntmps40
    go_wp2_with fail
    go_ret
    exact ⟨by rw [← HR.out]; rfl, below1 _ _⟩
end Go.Proofs.YtoficnfpoeaccaaDoor
