/- The walks of safety's ready and Evaluable. -/
import Derived.Test.YtoficnfpoeaccaaDoorKFun
import Derived.Test.YtoficnfpoeaccaaDoorKRefC
namespace Go.Proofs.YtoficnfpoeaccaaDoor
set_option linter.unusedVariables false
set_option linter.unusedSimpArgs false
open Go.RowKit
theorem lacks_fn {b n : Nat} {B : Ko.Bd} {ts : List Tm} {w : World} (h : SetIs w b n B) (hz : ∀ x ∈ ts, FitS x.v) : FnOk 68 (.map (some b)) (fun x => !Ko.known B x) ts w :=
  fun W x hx hb => lacks_any b n B x W (h.next hb) (hz x hx)
theorem lacks_enters : ∀ args w, (callFunc 68 args).run Tryd.prog w = .ok (.enter 68 args) w := enters_of Tryd.func68 (by kernel_rfl) rfl
set_option maxHeartbeats 1000000 in
set_option maxRecDepth 100000 in
theorem ready_set (b n : Nat) (B : Ko.Bd) (t : Lt) (w : World) (h : SetIs w b n B) (ht : LtOk w t) (hn : t.args.length ≤ 1000000) (hz : ∀ x ∈ t.args, FitS x.v) :
    Calls Tryd.prog 53 #[.map (some b), t.v] w fun e w' => e = .returned (.bool (Ko.ready B t)) ∧ Below w.heap.size w w' := by
  obtain ⟨kind, name, pred, aa, ac, args, bind, elem, least, op, pos⟩ := t
  have HS := Lib.hid (fun W (h : Below w.heap.size w W) => (ht.args).below h)
  have HF := Lib.hid (fun W (hb : Below w.heap.size w W) => lacks_fn (h.next hb) hz)
  have eg := lacks_enters
  unfold Ko.ready Lt.v
  dsimp only at *
  clear ht h hz
  have HAT := Lib.hid (At.new w 60 #[.int .i64 kind, .string name, .int .i64 pred, .slice aa args.length ac, .string bind, .string elem, .int .i64 least, .int .i64 op, .int .i64 pos])
  have hw0 : Below w.heap.size w (w.alloc (.cells #[.int .i64 kind, .string name, .int .i64 pred, .slice aa args.length ac, .string bind, .string elem, .int .i64 least, .int .i64 op, .int .i64 pos] 60)) := below1 _ _
  by_cases h1 : kind = 1 ∨ kind = 3
  · rw [if_pos h1]
    rcases h1 with rfl | rfl
    all_goals
      go_enter Tryd.func53, Tryd.ntmps53
      go_wp2_with fail
      go_ret
      exact ⟨rfl, hw0⟩
  · rw [if_neg h1]
    have k1 : (kind == 1) = false := by simpa using fun h => h1 (.inl h)
    have k3 : (kind == 3) = false := by simpa using fun h => h1 (.inr h)
    clear h1
    by_cases h2 : kind = 5 ∧ op = 1 ∧ args.length = 2
    · rw [if_pos h2]
      obtain ⟨h5, h6, h7⟩ := h2
      have k5 : (kind == 5) = true := by simpa using h5
      have o1 : (op == 1) = true := by simpa using h6
      have n2 : ((args.length : Int) == 2) = true := by simp [h7]
      clear h5 h6
      obtain ⟨x, hx⟩ : ∃ x, args[0]? = some x := ⟨_, List.getElem?_eq_getElem (by omega)⟩
      obtain ⟨y, hy⟩ : ∃ y, args[1]? = some y := ⟨_, List.getElem?_eq_getElem (by omega)⟩
      obtain ⟨g, o, rfl, hg, x0, x1, x2, x3⟩ := tm_cells (HS.out _ hw0) hx
      have HY := Lib.hid (fun W (h : Below w.heap.size w W) => tm_one (HS.out W h) hy)
      have i0 : (0 : Int) < (args.length : Int) := by omega
      have i1 : (1 : Int) < (args.length : Int) := by omega
      have HR := Lib.hid (show args.any (Ko.known B) = (Ko.known B x || Ko.known B y) by
        match args, h7, hx, hy with
        | [a, b], _, hx, hy =>
          obtain rfl : a = x := Option.some.inj hx
          obtain rfl : b = y := Option.some.inj hy
          simp)
      simp only [Nat.zero_mul, Nat.add_zero] at x0 x1 x2 x3
      have HX := Lib.hid (HF.out _ hw0 _ x (List.mem_of_getElem? hx) (Below.refl _ _))
      have HY2 := Lib.hid (fun W (hb : Below w.heap.size w W) => HF.out W hb _ y (List.mem_of_getElem? hy) (Below.refl _ _))
      clear hx hy h7
      cases hz : Ko.known B x
      · have HZ := Lib.hid hz
        dsimp only at HX
        rw [hz] at HX
        clear hz
        obtain ⟨z, hz⟩ : ∃ z, Ko.known B y = z := ⟨_, rfl⟩
        have HZ2 := Lib.hid hz
        dsimp only at HY2
        rw [hz] at HY2
        clear hz
        go_enter Tryd.func53, Tryd.ntmps53
        go_wp2_with first
          | (go_at_fn 68; refine (HY2.out _ hw2).mono ?_; rintro e w3 ⟨rfl, hb3⟩)
          | (go_at_fn 68; refine HX.out.mono ?_; rintro e w2 ⟨rfl, hb2⟩; have hw2 : Below w.heap.size w w2 := (below1 _ _).trans (hb2.mono (by simp)); have hat2 := HAT.out.next hb2; have c3 := hat2.cell 3; replace c3 : w2.cell? ⟨w.heap.size, 3, none⟩ = some (.slice (some ⟨g, o, none⟩) args.length ac) := c3; obtain ⟨hg2, y0, y1, y2, y3⟩ := HY.out w2 hw2)
        go_ret
        exact ⟨by rw [HR.out, HZ.out, HZ2.out]; cases z <;> rfl, hw2.trans (hb3.mono hw2.size)⟩
      · have HZ := Lib.hid hz
        dsimp only at HX
        rw [hz] at HX
        clear hz
        go_enter Tryd.func53, Tryd.ntmps53
        go_wp2_with (go_at_fn 68; refine HX.out.mono ?_; rintro e w2 ⟨rfl, hb2⟩)
        go_ret
        exact ⟨by rw [HR.out, HZ.out]; rfl, hw0.trans (hb2.mono (by simp))⟩
    · rw [if_neg h2]
      have HR := Lib.hid (show args.all (Ko.known B) = !args.any fun x => !Ko.known B x by rw [List.not_any_eq_all_not]; simp)
      have HCF := Lib.hid (containsfn_any _ _ eg _ aa ac args _ (HS.out _ hw0) hn (HF.out _ hw0))
      obtain ⟨z, hz⟩ : ∃ z, (args.any fun x => !Ko.known B x) = z := ⟨_, rfl⟩
      rw [hz] at HCF HR
      clear hz
      cases k5 : (kind == 5) <;> cases o1 : (op == 1) <;> cases n2 : ((args.length : Int) == 2)
      case true.true.true => exact absurd ⟨by simpa using k5, by simpa using o1, by have : (args.length : Int) = 2 := by simpa using n2
                                                                                    omega⟩ h2
      all_goals
        clear h2
        go_enter Tryd.func53, Tryd.ntmps53
        go_wp2_with (go_at_call 34; refine HCF.out.mono ?_; rintro e w2 ⟨rfl, hb2⟩)
        go_ret
        exact ⟨by rw [HR.out]; rfl, hw0.trans (hb2.mono (by simp))⟩
end Go.Proofs.YtoficnfpoeaccaaDoor
