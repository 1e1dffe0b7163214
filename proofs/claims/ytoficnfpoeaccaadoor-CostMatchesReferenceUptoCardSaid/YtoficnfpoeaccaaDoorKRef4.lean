/- The walk of the reference's Ready. -/
import Derived.Test.YtoficnfpoeaccaaDoorKRef3
namespace Go.Proofs.YtoficnfpoeaccaaDoor
set_option linter.unusedVariables false
set_option linter.unusedSimpArgs false
open Go.RowKit
/-- A term's cells, as the walk names them. -/
theorem tm_cells {w : World} {A : Option Addr} {l : List Tm} (h : Str w A 4 (l.map Tm.fs)) {i : Nat} {x : Tm} (hi : l[i]? = some x) : ∃ g o, A = some ⟨g, o, none⟩ ∧ g < w.heap.size ∧ w.cell? ⟨g, o + i * 4, none⟩ = some (.string x.v) ∧ w.cell? ⟨g, o + i * 4 + 1, none⟩ = some (.int .i64 x.t) ∧ w.cell? ⟨g, o + i * 4 + 2, none⟩ = some (.int .i64 x.n) ∧ w.cell? ⟨g, o + i * 4 + 3, none⟩ = some (.string x.s) := by
  obtain ⟨g, o, e, hg, hc⟩ := h.at (i := i) (fs := x.fs) (by rw [List.getElem?_map, hi]; rfl)
  exact ⟨g, o, e, hg, hc 0 _ rfl, hc 1 _ rfl, hc 2 _ rfl, hc 3 _ rfl⟩
theorem tm_one {w : World} {g o : Nat} {l : List Tm} (h : Str w (some ⟨g, o, none⟩) 4 (l.map Tm.fs)) {x : Tm} (hi : l[1]? = some x) : g < w.heap.size ∧ w.cell? ⟨g, o + 4, none⟩ = some (.string x.v) ∧ w.cell? ⟨g, o + 4 + 1, none⟩ = some (.int .i64 x.t) ∧ w.cell? ⟨g, o + 4 + 2, none⟩ = some (.int .i64 x.n) ∧ w.cell? ⟨g, o + 4 + 3, none⟩ = some (.string x.s) := by
  obtain ⟨g', o', e, hg, hc⟩ := tm_cells h hi
  cases e
  rw [Nat.one_mul] at hc
  exact ⟨hg, hc⟩
theorem all_more' {f : Tm → Bool} {l : List Tm} {k : Nat} {x : Tm} (h : l[k]? = some x) : (l.take (k + 1)).all f = ((l.take k).all f && f x) := by
  rw [List.take_add_one, h, List.all_append]
  simp
set_option maxRecDepth 100000 in
set_option maxHeartbeats 600000 in
theorem ready_any (A : Option Addr) (c : Nat) (l : List ByteArray) (t : Lt) (w : World) (hA : NmAt w A l) (hl : l.length ≤ 1000000) (ht : LtOk w t) (hn : t.args.length ≤ 1000000) :
    Calls Tryd.prog 44 #[.slice A l.length c, t.v] w fun e w' => e = .returned (.bool (Ko.ready (bdN l) t)) ∧ Below w.heap.size w w' := by
  obtain ⟨kind, name, pred, aa, ac, args, bind, elem, least, op, pos⟩ := t
  have hs0 : Str w aa 4 (args.map Tm.fs) := ht.args
  have HS := Lib.hid hs0
  have HI := Lib.hid (fun x W (h : Below w.heap.size w W) => known_any A c l x W (hA.below h) hl)
  unfold Ko.ready Lt.v
  dsimp only at *
  clear hA ht hs0
  have HAT := Lib.hid (At.new w 60 #[.int .i64 kind, .string name, .int .i64 pred, .slice aa args.length ac, .string bind, .string elem, .int .i64 least, .int .i64 op, .int .i64 pos])
  by_cases h1 : kind = 1 ∨ kind = 3
  · rw [if_pos h1]
    rcases h1 with rfl | rfl
    all_goals
      go_enter Tryd.func44, Tryd.ntmps44
      go_wp2_with fail
      go_ret
      exact ⟨rfl, below1 _ _⟩
  · rw [if_neg h1]
    have k1 : (kind == 1) = false := by simpa using fun h => h1 (.inl h)
    have k3 : (kind == 3) = false := by simpa using fun h => h1 (.inr h)
    clear h1
    by_cases h2 : kind = 5 ∧ op = 1 ∧ args.length = 2
    · rw [if_pos h2]
      obtain ⟨h5, h6, h7⟩ := h2
      have k5 : (kind == 5) = true := by simpa using h5
      have o1 : (op == 1) = true := by simpa using h6
      have n2 : ((args.length : Int) == 2) = true := by simp [h7]
      clear h5 h6
      obtain ⟨x, hx⟩ : ∃ x, args[0]? = some x := ⟨_, List.getElem?_eq_getElem (by omega)⟩
      obtain ⟨y, hy⟩ : ∃ y, args[1]? = some y := ⟨_, List.getElem?_eq_getElem (by omega)⟩
      obtain ⟨g, o, rfl, hg, x0, x1, x2, x3⟩ := tm_cells (HS.out.below (below1 w (.cells #[.int .i64 kind, .string name, .int .i64 pred, .slice aa args.length ac, .string bind, .string elem, .int .i64 least, .int .i64 op, .int .i64 pos] 60))) hx
      have HY := Lib.hid (fun W (h : Below w.heap.size w W) => tm_one (HS.out.below h) hy)
      have i0 : (0 : Int) < (args.length : Int) := by omega
      have i1 : (1 : Int) < (args.length : Int) := by omega
      have HR := Lib.hid (show args.any (Ko.known (bdN l)) = (Ko.known (bdN l) x || Ko.known (bdN l) y) by
        match args, h7, hx, hy with
        | [a, b], _, hx, hy =>
          obtain rfl : a = x := Option.some.inj hx
          obtain rfl : b = y := Option.some.inj hy
          simp)
      simp only [Nat.zero_mul, Nat.add_zero] at x0 x1 x2 x3
      clear hx hy h7
      cases hz : Ko.known (bdN l) x
      · have HZ := Lib.hid hz
        clear hz
        go_enter Tryd.func44, Tryd.ntmps44
        go_wp2_with first
          | (go_at_call 60; refine (HI.out y _ hw2).mono ?_; rintro e w3 ⟨rfl, hb3⟩)
          | (go_at_call 60; refine (HI.out x _ (below1 _ _)).mono ?_; rintro e w2 ⟨rfl, hb2⟩; rw [HZ.out]; have hw2 : Below w.heap.size w w2 := (below1 _ _).trans (hb2.mono (by simp)); have hat2 := HAT.out.next hb2; have c3 := hat2.cell 3; replace c3 : w2.cell? ⟨w.heap.size, 3, none⟩ = some (.slice (some ⟨g, o, none⟩) args.length ac) := c3; obtain ⟨hg2, y0, y1, y2, y3⟩ := HY.out w2 hw2)
        go_ret
        exact ⟨by rw [HR.out, HZ.out]; rfl, hw2.trans (hb3.mono hw2.size)⟩
      · have HZ := Lib.hid hz
        clear hz
        go_enter Tryd.func44, Tryd.ntmps44
        go_wp2_with (go_at_call 60; refine (HI.out x _ (below1 _ _)).mono ?_; rintro e w2 ⟨rfl, hb2⟩; rw [HZ.out])
        go_ret
        exact ⟨by rw [HR.out, HZ.out]; rfl, (below1 _ _).trans (hb2.mono (by simp))⟩
    · rw [if_neg h2]
      cases k5 : (kind == 5) <;> cases o1 : (op == 1) <;> cases n2 : ((args.length : Int) == 2)
      case true.true.true => exact absurd ⟨by simpa using k5, by simpa using o1, by have : (args.length : Int) = 2 := by simpa using n2
                                                                                    omega⟩ h2
      all_goals
        clear h2
        go_enter Tryd.func44, Tryd.ntmps44
        go_wp2_with fail
        go_loopw [5, 6] (fun i _ wr => ∃ k : Nat, k ≤ args.length ∧ i = .int .i64 k ∧ Hid ((args.take k).all (Ko.known (bdN l)) = true) ∧ Below (w.alloc (.cells #[.int .i64 kind, .string name, .int .i64 pred, .slice aa args.length ac, .string bind, .string elem, .int .i64 least, .int .i64 op, .int .i64 pos] 60)).heap.size (w.alloc (.cells #[.int .i64 kind, .string name, .int .i64 pred, .slice aa args.length ac, .string bind, .string elem, .int .i64 least, .int .i64 op, .int .i64 pos] 60)) wr) (fun i _ _ => args.length - (intOf i).toNat)
        case atStart => exact ⟨0, by omega, rfl, Lib.hid rfl, Below.refl _ _⟩
        case round =>
          obtain ⟨k, hk, rfl, HK, hb⟩ := hrel
          have hat := HAT.out.next hb
          have hw1 : Below w.heap.size w wr := (below1 _ _).trans (hb.mono (by simp))
          have c3 : wr.cell? ⟨w.heap.size, 3, none⟩ = some (.slice aa args.length ac) := hat.cell 3
          by_cases h1 : k < args.length
          · have d1 : decide ((k : Int) < (args.length : Int)) = true := by simp; omega
            obtain ⟨x, hx⟩ : ∃ x, args[k]? = some x := ⟨_, List.getElem?_eq_getElem h1⟩
            obtain ⟨g, o, rfl, hg, x0, x1, x2, x3⟩ := tm_cells (HS.out.below hw1) hx
            have i0 : (0 : Int) ≤ (k : Int) := by omega
            have i1 : (k : Int) < (args.length : Int) := by omega
            have HM := Lib.hid (all_more' (f := Ko.known (bdN l)) hx)
            have HG := Lib.hid (show Ko.known (bdN l) x = false → args.all (Ko.known (bdN l)) = false from fun h => List.all_eq_false.2 ⟨x, List.mem_of_getElem? hx, by rw [h]; simp⟩)
            clear hx
            cases hz : Ko.known (bdN l) x
            · have HZ := Lib.hid hz
              have HR := Lib.hid (HG.out hz)
              clear hz
              go_wp2_with (go_at_call 60; refine (HI.out x _ hw1).mono ?_; rintro e w2 ⟨rfl, hb2⟩; rw [HZ.out])
              go_ret
              exact ⟨by rw [HR.out]; rfl, hw1.trans (hb2.mono hw1.size)⟩
            · have HZ := Lib.hid hz
              have HN := Lib.hid (show (args.take (k + 1)).all (Ko.known (bdN l)) = true by rw [HM.out, HK.out, hz]; rfl)
              clear hz
              go_wp2_with (go_at_call 60; refine (HI.out x _ hw1).mono ?_; rintro e w2 ⟨rfl, hb2⟩; rw [HZ.out])
              go_roundw
              case rel => exact ⟨k + 1, by omega, by go_num, HN, hb.trans (hb2.mono hb.size)⟩
              case measure => simp [intOf]; omega
          · have d1 : decide ((k : Int) < (args.length : Int)) = false := by simp; omega
            have HR := Lib.hid (show args.all (Ko.known (bdN l)) = true by
              have h := HK.out
              rw [List.take_of_length_le (by omega)] at h
              exact h)
            go_wp2_with fail
            go_ret
            exact ⟨by rw [HR.out]; rfl, hw1⟩
end Go.Proofs.YtoficnfpoeaccaaDoor
