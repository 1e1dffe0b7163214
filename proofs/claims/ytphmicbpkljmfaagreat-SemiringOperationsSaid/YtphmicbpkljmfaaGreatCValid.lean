/- The walk of Valid. -/
import Derived.Test.YtphmicbpkljmfaaGreatCRVal
import Derived.Test.YtphmicbpkljmfaaGreatCEval
import Derived.Outline
namespace Go.Proofs.YtphmicbpkljmfaaGreat
set_option linter.unusedVariables false
set_option linter.unusedSimpArgs false
open Go.RowKit
open Cx (N)
theorem unit_enc : EEnc unitElem (fun _ : Unit => Value.agg #[]) (fun _ => (.agg [] : DataW Unit)) := eenc_unit
theorem zero_unit (w : World) : (zeroValue 46).run Tryz.prog w = .ok (.agg #[]) w := by kernel_rfl
abbrev UMap (w : World) (b n : Nat) (f : N → Option Unit) : Prop := FMap w Tryz.prog 58 unitElem nval (fun _ : Unit => (.agg [] : DataW Unit)) b n f
theorem run_makeMap_hint (n : Int) (w : World) : (Instr.makeMap 70 (some (.int .i64 n))).run Tryz.prog w = .ok (.map (some w.heap.size)) (w.alloc (.map #[] 0)) := by
  simp [Instr.makeMap, go_sem, Tryz.underlying70]
theorem NGood.eta (x : N) : (⟨x.o, x.a, x.b⟩ : N) = x := by cases x; rfl
set_option maxHeartbeats 4000000 in
set_option maxRecDepth 100000 in
theorem valid_any (A : Option Addr) (c : Nat) (l : List N) (w : World) (hl : l.length ≤ 20000) (hF : ∀ n ∈ l, NGood n) (hA' : Cir w A c l) :
    Calls Tryz.prog 24 #[.slice A l.length c] w fun e w' => e = .returned (.bool (Cx.valid l)) ∧ Below w.heap.size w w' := by
  have hA := hA'.circ
  have hlc := hA'.le
  have hcm := hA'.cap
  clear hA'
  obtain ⟨R, hR⟩ : ∃ R, R = Cx.valid l := ⟨_, rfl⟩
  rw [← hR]
  by_cases h2 : l.length < 2
  · have d1 : decide ((l.length : Int) < 2) = true := by simp; omega
    have HR := Lib.hid (show R = false by rw [hR, valid_short h2])
    clear hR
    go_enter Tryz.func24, Tryz.ntmps24
    go_wp2_with fail
    refine wp_region_held w.heap.size w (Below.refl _ _) (by kernel_rfl) (by kernel_rfl) ?_
    repeat (go_big_quiet_step (fail))
    refine wpQuiet_nil ?_
    rintro w1 ⟨⟨_, b1⟩, rfl⟩
    go_wp2_with fail
    go_ret
    exact ⟨by rw [HR.out]; rfl, b1⟩
  · have d1 : decide ((l.length : Int) < 2) = false := by simp; omega
    have d2 : decide ((20000 : Int) < (l.length : Int)) = false := by simp; omega
    obtain ⟨g, o, x, y, rfl, hg, e0, e1, a0, a1, a2, b0, b1, b2⟩ := cells_at hA (by omega)
    have i0 : (0 : Int) < (l.length : Int) := by omega
    have i1 : (1 : Int) < (l.length : Int) := by omega
    have j0 : 0 < l.length := by omega
    have j1 : 1 < l.length := by omega
    have HBD := Lib.hid (show ∀ W, Below w.heap.size w W → W.cell? ⟨g, o, none⟩ = some (.int .i64 x.o) ∧ W.cell? ⟨g, o + 1, none⟩ = some (.int .i64 x.a) ∧ W.cell? ⟨g, o + 2, none⟩ = some (.int .i64 x.b) ∧ W.cell? ⟨g, o + 3, none⟩ = some (.int .i64 y.o) ∧ W.cell? ⟨g, o + 4, none⟩ = some (.int .i64 y.a) ∧ W.cell? ⟨g, o + 5, none⟩ = some (.int .i64 y.b) from
      fun W hb => ⟨(hb.cell hg).trans a0, (hb.cell hg).trans a1, (hb.cell hg).trans a2, (hb.cell hg).trans b0, (hb.cell hg).trans b1, (hb.cell hg).trans b2⟩)
    clear a0 a1 a2 b0 b1 b2
    have qa := fun w => node_eq x Cx.zero w
    have qb := fun w => node_eq y Cx.one w
    simp only [Cx.zero, Cx.one] at qa qb
    by_cases hx : x = Cx.zero
    · by_cases hy : y = Cx.one
      · have hz : (x == Cx.zero) = true := by simpa using hx
        have hz' : (y == Cx.one) = true := by simpa using hy
        have HR := Lib.hid (show VAt l R 2 [] from by rw [hR]; exact valid_2 (by omega) hl (by rw [e0, hx]) (by rw [e1, hy]))
        simp only [Cx.zero] at hz
        simp only [Cx.one] at hz'
        rw [hz] at qa
        rw [hz'] at qb
        clear hR e0 e1 hx hy hz hz'
        go_enter Tryz.func24, Tryz.ntmps24
        go_wp2_with fail
        refine' wp_region_each _ (Below w.heap.size w) (Onward) [Vl, Vl, Vl, Vl, Vl, Vl, Vl, Vl, Vl, Vl, Vl, Vl, NewSl 2 2 58 news, NewPt 0 58 news, Vl, Vl, Vl, Vl, Vl, Vl, Vl, NewSl 2 2 58 news, NewPt 3 58 news, Vl, Vl, Vl] ?hF (by kernel_rfl) (by kernel_rfl) (by kernel_rfl) ((Below.refl _ _).drew) (lasting_cons (lasting_vl) (lasting_cons (lasting_vl) (lasting_cons (lasting_vl) (lasting_cons (lasting_vl) (lasting_cons (lasting_vl) (lasting_cons (lasting_vl) (lasting_cons (lasting_vl) (lasting_cons (lasting_vl) (lasting_cons (lasting_vl) (lasting_cons (lasting_vl) (lasting_cons (lasting_vl) (lasting_cons (lasting_vl) (lasting_cons (lasting_newSl _ _ _ _) (lasting_cons (lasting_newPt _ _ _) (lasting_cons (lasting_vl) (lasting_cons (lasting_vl) (lasting_cons (lasting_vl) (lasting_cons (lasting_vl) (lasting_cons (lasting_vl) (lasting_cons (lasting_vl) (lasting_cons (lasting_vl) (lasting_cons (lasting_newSl _ _ _ _) (lasting_cons (lasting_newPt _ _ _) (lasting_cons (lasting_vl) (lasting_cons (lasting_vl) (lasting_cons (lasting_vl) (lasting_none))))))))))))))))))))))))))) ?hops ?hend
        case hF => (intro v; simp only [over, Act.put, List.setIfInBounds_toArray, List.set_cons_zero, List.set_cons_succ, Nat.zero_add, Nat.reduceAdd]; exact rfl)
        case hops =>
          refine ⟨?_, ?_⟩
          · intro v w' hj hd hs K hK
            have hk := hK.out
            simp only [Act.put, List.setIfInBounds_toArray, List.set_cons_zero, List.set_cons_succ] at hk
            have HK := Lib.hid hk
            clear hd hs hk hK
            go_simp
            exact HK.out _ _ hj.out (Below.refl _ _) (show _ = _ from rfl)
          refine ⟨?_, ?_⟩
          · intro v w' hj hd hs K hK
            have t0 : v 0 = _ := hd.out 0 (by kernel_rfl)
            have hk := hK.out
            simp only [t0, Act.put, List.setIfInBounds_toArray, List.set_cons_zero, List.set_cons_succ] at hk
            have HK := Lib.hid hk
            clear hd hs hk hK
            go_simp
            exact HK.out _ _ hj.out (Below.refl _ _) (show _ = _ from rfl)
          refine ⟨?_, ?_⟩
          · intro v w' hj hd hs K hK
            have t1 : v 1 = _ := hd.out 1 (by kernel_rfl)
            have hk := hK.out
            simp only [t1, Act.put, List.setIfInBounds_toArray, List.set_cons_zero, List.set_cons_succ] at hk
            have HK := Lib.hid hk
            clear hd hs hk hK
            go_simp
            exact HK.out _ _ hj.out (Below.refl _ _) (show _ = _ from rfl)
          refine ⟨?_, ?_⟩
          · intro v w' hj hd hs K hK
            have t2 : v 2 = _ := hd.out 2 (by kernel_rfl)
            have hk := hK.out
            simp only [t2, Act.put, List.setIfInBounds_toArray, List.set_cons_zero, List.set_cons_succ] at hk
            have HK := Lib.hid hk
            clear hd hs hk hK
            go_simp
            exact HK.out _ _ hj.out (Below.refl _ _) (show _ = _ from rfl)
          refine ⟨?_, ?_⟩
          · intro v w' hj hd hs K hK
            have t3 : v 3 = _ := hd.out 3 (by kernel_rfl)
            have hk := hK.out
            simp only [t3, Act.put, List.setIfInBounds_toArray, List.set_cons_zero, List.set_cons_succ] at hk
            have HK := Lib.hid hk
            clear hd hs hk hK
            go_simp
            exact HK.out _ _ hj.out (Below.refl _ _) (show _ = _ from rfl)
          refine ⟨?_, ?_⟩
          · intro v w' hj hd hs K hK
            have t3 : v 3 = _ := hd.out 3 (by kernel_rfl)
            have t4 : v 4 = _ := hd.out 4 (by kernel_rfl)
            have hk := hK.out
            simp only [t3, t4, Act.put, List.setIfInBounds_toArray, List.set_cons_zero, List.set_cons_succ] at hk
            have HK := Lib.hid hk
            clear hd hs hk hK
            go_simp
            exact HK.out _ _ hj.out (Below.refl _ _) (show _ = _ from rfl)
          refine ⟨?_, ?_⟩
          · intro v w' hj hd hs K hK
            have t3 : v 3 = _ := hd.out 3 (by kernel_rfl)
            have t5 : v 5 = _ := hd.out 5 (by kernel_rfl)
            have hk := hK.out
            simp only [t3, t5, Act.put, List.setIfInBounds_toArray, List.set_cons_zero, List.set_cons_succ] at hk
            have HK := Lib.hid hk
            clear hd hs hk hK
            go_simp
            exact HK.out _ _ hj.out (Below.refl _ _) (show _ = _ from rfl)
          refine ⟨?_, ?_⟩
          · intro v w' hj hd hs K hK
            have t3 : v 3 = _ := hd.out 3 (by kernel_rfl)
            have t6 : v 6 = _ := hd.out 6 (by kernel_rfl)
            have hk := hK.out
            simp only [t3, t6, Act.put, List.setIfInBounds_toArray, List.set_cons_zero, List.set_cons_succ] at hk
            have HK := Lib.hid hk
            clear hd hs hk hK
            go_simp
            exact HK.out _ _ hj.out (Below.refl _ _) (show _ = _ from rfl)
          refine ⟨?_, ?_⟩
          · intro v w' hj hd hs K hK
            have t7 : v 7 = _ := hd.out 7 (by kernel_rfl)
            have hk := hK.out
            simp only [t7, Act.put, List.setIfInBounds_toArray, List.set_cons_zero, List.set_cons_succ] at hk
            have HK := Lib.hid hk
            clear hd hs hk hK
            go_simp
            exact HK.out _ _ hj.out (Below.refl _ _) (show _ = _ from rfl)
          refine ⟨?_, ?_⟩
          · intro v w' hj hd hs K hK
            have t8 : v 8 = _ := hd.out 8 (by kernel_rfl)
            have hk := hK.out
            simp only [t8, Act.put, List.setIfInBounds_toArray, List.set_cons_zero, List.set_cons_succ] at hk
            have HK := Lib.hid hk
            clear hd hs hk hK
            go_simp
            exact HK.out _ _ hj.out (Below.refl _ _) (show _ = _ from rfl)
          refine ⟨?_, ?_⟩
          · intro v w' hj hd hs K hK
            have t8 : v 8 = _ := hd.out 8 (by kernel_rfl)
            have t9 : v 9 = _ := hd.out 9 (by kernel_rfl)
            have hk := hK.out
            simp only [t8, t9, Act.put, List.setIfInBounds_toArray, List.set_cons_zero, List.set_cons_succ] at hk
            have HK := Lib.hid hk
            clear hd hs hk hK
            go_simp
            exact HK.out _ _ hj.out (Below.refl _ _) (show _ = _ from rfl)
          refine ⟨?_, ?_⟩
          · intro v w' hj hd hs K hK
            have t8 : v 8 = _ := hd.out 8 (by kernel_rfl)
            have t10 : v 10 = _ := hd.out 10 (by kernel_rfl)
            obtain ⟨c0, c1, c2, _⟩ := HBD.out _ hj.out
            have hk := hK.out
            simp only [t8, t10, Act.put, List.setIfInBounds_toArray, List.set_cons_zero, List.set_cons_succ] at hk
            have HK := Lib.hid hk
            clear hd hs hk hK
            go_simp
            exact HK.out _ _ hj.out (Below.refl _ _) (show _ = _ from rfl)
          refine ⟨?_, ?_⟩
          · intro v w' hj hd hs K hK
            have t8 : v 8 = _ := hd.out 8 (by kernel_rfl)
            have hk := hK.out
            simp only [t8, Act.put, List.setIfInBounds_toArray, List.set_cons_zero, List.set_cons_succ] at hk
            have HK := Lib.hid hk
            clear hd hs hk hK
            go_simp
            refine (new_any _).mono ?_
            rintro e w2 ⟨rfl, hw2⟩
            subst hw2
            exact HK.out _ _ (hj.out.alloc hj.out.size _) (below1 _ _) ⟨_, rfl, At.new _ _ _⟩
          refine ⟨?_, ?_⟩
          · intro v w' hj hd hs K hK
            have t8 : v 8 = _ := hd.out 8 (by kernel_rfl)
            obtain ⟨b12, t12, z12⟩ : NewSl 2 2 58 news (v 12) w' := hd.out 12 (by kernel_rfl)
            have hk := hK.out
            simp only [t8, t12, Act.put, List.setIfInBounds_toArray, List.set_cons_zero, List.set_cons_succ] at hk
            have HK := Lib.hid hk
            clear hd hs hk hK
            go_simp
            exact HK.out _ _ hj.out (Below.refl _ _) ⟨_, rfl, z12⟩
          refine ⟨?_, ?_⟩
          · intro v w' hj hd hs K hK
            have t8 : v 8 = _ := hd.out 8 (by kernel_rfl)
            obtain ⟨b13, t13, z13⟩ : NewPt 0 58 news (v 13) w' := hd.out 13 (by kernel_rfl)
            have c0 := z13.cell 0; have c1 := z13.cell 1; have c2 := z13.cell 2
            simp [news] at c0 c1 c2
            clear z13
            have hk := hK.out
            simp only [t8, t13, Act.put, List.setIfInBounds_toArray, List.set_cons_zero, List.set_cons_succ] at hk
            have HK := Lib.hid hk
            clear hd hs hk hK
            go_simp
            exact HK.out _ _ hj.out (Below.refl _ _) (show _ = _ from rfl)
          refine ⟨?_, ?_⟩
          · intro v w' hj hd hs K hK
            have t8 : v 8 = _ := hd.out 8 (by kernel_rfl)
            have t11 : v 11 = _ := hd.out 11 (by kernel_rfl)
            have t14 : v 14 = _ := hd.out 14 (by kernel_rfl)
            have hk := hK.out
            simp only [t8, t11, t14, Act.put, List.setIfInBounds_toArray, List.set_cons_zero, List.set_cons_succ] at hk
            have HK := Lib.hid hk
            clear hd hs hk hK
            go_simp
            exact HK.out _ _ hj.out (Below.refl _ _) (show _ = _ from rfl)
          refine ⟨?_, ?_⟩
          · intro v w' hj hd hs K hK
            have t8 : v 8 = _ := hd.out 8 (by kernel_rfl)
            have t15 : v 15 = _ := hd.out 15 (by kernel_rfl)
            have hk := hK.out
            simp only [t8, t15, Act.put, List.setIfInBounds_toArray, List.set_cons_zero, List.set_cons_succ] at hk
            have HK := Lib.hid hk
            clear hd hs hk hK
            go_simp
            exact HK.out _ _ hj.out (Below.refl _ _) (show _ = _ from rfl)
          refine ⟨?_, ?_⟩
          · intro v w' hj hd hs K hK
            have t16 : v 16 = _ := hd.out 16 (by kernel_rfl)
            have hk := hK.out
            simp only [t16, Act.put, List.setIfInBounds_toArray, List.set_cons_zero, List.set_cons_succ] at hk
            have HK := Lib.hid hk
            clear hd hs hk hK
            go_simp
            exact HK.out _ _ hj.out (Below.refl _ _) (show _ = _ from rfl)
          refine ⟨?_, ?_⟩
          · intro v w' hj hd hs K hK
            have t17 : v 17 = _ := hd.out 17 (by kernel_rfl)
            have hk := hK.out
            simp only [t17, Act.put, List.setIfInBounds_toArray, List.set_cons_zero, List.set_cons_succ] at hk
            have HK := Lib.hid hk
            clear hd hs hk hK
            go_simp
            exact HK.out _ _ hj.out (Below.refl _ _) (show _ = _ from rfl)
          refine ⟨?_, ?_⟩
          · intro v w' hj hd hs K hK
            have t17 : v 17 = _ := hd.out 17 (by kernel_rfl)
            have t18 : v 18 = _ := hd.out 18 (by kernel_rfl)
            have hk := hK.out
            simp only [t17, t18, Act.put, List.setIfInBounds_toArray, List.set_cons_zero, List.set_cons_succ] at hk
            have HK := Lib.hid hk
            clear hd hs hk hK
            go_simp
            exact HK.out _ _ hj.out (Below.refl _ _) (show _ = _ from rfl)
          refine ⟨?_, ?_⟩
          · intro v w' hj hd hs K hK
            have t17 : v 17 = _ := hd.out 17 (by kernel_rfl)
            have t19 : v 19 = _ := hd.out 19 (by kernel_rfl)
            obtain ⟨_, _, _, c0, c1, c2⟩ := HBD.out _ hj.out
            have hk := hK.out
            simp only [t17, t19, Act.put, List.setIfInBounds_toArray, List.set_cons_zero, List.set_cons_succ] at hk
            have HK := Lib.hid hk
            clear hd hs hk hK
            go_simp
            exact HK.out _ _ hj.out (Below.refl _ _) (show _ = _ from rfl)
          refine ⟨?_, ?_⟩
          · intro v w' hj hd hs K hK
            have t17 : v 17 = _ := hd.out 17 (by kernel_rfl)
            have hk := hK.out
            simp only [t17, Act.put, List.setIfInBounds_toArray, List.set_cons_zero, List.set_cons_succ] at hk
            have HK := Lib.hid hk
            clear hd hs hk hK
            go_simp
            refine (new_any _).mono ?_
            rintro e w2 ⟨rfl, hw2⟩
            subst hw2
            exact HK.out _ _ (hj.out.alloc hj.out.size _) (below1 _ _) ⟨_, rfl, At.new _ _ _⟩
          refine ⟨?_, ?_⟩
          · intro v w' hj hd hs K hK
            have t17 : v 17 = _ := hd.out 17 (by kernel_rfl)
            obtain ⟨b21, t21, z21⟩ : NewSl 2 2 58 news (v 21) w' := hd.out 21 (by kernel_rfl)
            have hk := hK.out
            simp only [t17, t21, Act.put, List.setIfInBounds_toArray, List.set_cons_zero, List.set_cons_succ] at hk
            have HK := Lib.hid hk
            clear hd hs hk hK
            go_simp
            exact HK.out _ _ hj.out (Below.refl _ _) ⟨_, rfl, z21⟩
          refine ⟨?_, ?_⟩
          · intro v w' hj hd hs K hK
            have t17 : v 17 = _ := hd.out 17 (by kernel_rfl)
            obtain ⟨b22, t22, z22⟩ : NewPt 3 58 news (v 22) w' := hd.out 22 (by kernel_rfl)
            have c0 := z22.cell 3; have c1 := z22.cell 4; have c2 := z22.cell 5
            simp [news] at c0 c1 c2
            clear z22
            have hk := hK.out
            simp only [t17, t22, Act.put, List.setIfInBounds_toArray, List.set_cons_zero, List.set_cons_succ] at hk
            have HK := Lib.hid hk
            clear hd hs hk hK
            go_simp
            exact HK.out _ _ hj.out (Below.refl _ _) (show _ = _ from rfl)
          refine ⟨?_, ?_⟩
          · intro v w' hj hd hs K hK
            have t17 : v 17 = _ := hd.out 17 (by kernel_rfl)
            have t20 : v 20 = _ := hd.out 20 (by kernel_rfl)
            have t23 : v 23 = _ := hd.out 23 (by kernel_rfl)
            have hk := hK.out
            simp only [t17, t20, t23, Act.put, List.setIfInBounds_toArray, List.set_cons_zero, List.set_cons_succ] at hk
            have HK := Lib.hid hk
            clear hd hs hk hK
            go_simp
            exact HK.out _ _ hj.out (Below.refl _ _) (show _ = _ from rfl)
          refine ⟨?_, ?_⟩
          · intro v w' hj hd hs K hK
            have t17 : v 17 = _ := hd.out 17 (by kernel_rfl)
            have t24 : v 24 = _ := hd.out 24 (by kernel_rfl)
            have hk := hK.out
            simp only [t17, t24, Act.put, List.setIfInBounds_toArray, List.set_cons_zero, List.set_cons_succ] at hk
            have HK := Lib.hid hk
            clear hd hs hk hK
            go_simp
            exact HK.out _ _ hj.out (Below.refl _ _) (show _ = _ from rfl)
          trivial
        case hend =>
          intro v w2 hj hd
          have t25 : v 25 = _ := hd.out 25 (of_decide_eq_true (by kernel_rfl))
          have b2 := hj.out
          clear hj hd qa qb
          simp only [t25]
          clear t25
          have hmm := run_makeMap_hint
          have f0 : UMap (w2.alloc (.map #[] 0)) w2.heap.size 0 (fun _ => none) := FMap.made w2 Tryz.prog 58 unitElem nval (fun _ : Unit => (.agg [] : DataW Unit))
          have b3 := b2.alloc b2.size (.map #[] 0)
          have hlt : w.heap.size ≤ w2.heap.size := b2.size
          have le2 : 2 ≤ l.length := by omega
          have le2' : (2 : Int) ≤ (l.length : Int) := by omega
          by_cases hc2 : c = 2
          · have hl2 : l.length = 2 := by omega
            have HR' := Lib.hid (HR.out.done (by omega))
            rw [hl2, hc2]
            clear hl2 hc2 d1 d2 i0 i1 j0 j1 h2 hlc hcm le2 le2'
            go_wp2_with fail
            go_loopw [41] (fun v wr => v = .int .i64 0 ∧ Below w.heap.size w wr) (fun _ _ => 0)
            case atStart => exact ⟨rfl, b3⟩
            case round =>
              obtain ⟨rfl, hbw⟩ := hrel
              go_wp2_with fail
              go_ret
              exact ⟨by rw [HR'.out]; rfl, hbw⟩
          · unfold maxLen at hcm
            have hc3 : 2 < c := by omega
            go_wp2_with fail
            obtain ⟨m, hm'⟩ : ∃ m, l.length - 2 = m := ⟨_, rfl⟩
            have hlm : l.length = m + 2 := by omega
            rw [hm']
            clear hm'
            go_loopw [41] (fun v wr => ∃ (k n : Nat) (seen : List N) (f : N → Option Unit), k ≤ m ∧ n ≤ k ∧ v = .int .i64 k ∧ UMap wr w2.heap.size n f ∧ Hid (Seen () seen f) ∧ Hid (VAt l R (k + 2) seen) ∧ Below w.heap.size w wr) (fun v _ => m - (intOf v).toNat)
            case atStart => exact ⟨0, 0, [], _, by omega, by omega, rfl, f0, Lib.hid (fun y => by simp), HR, b3⟩
            case round =>
              obtain ⟨k, n, seen, f, hk, hn, rfl, hm, HS, HV, hbw⟩ := hrel
              clear f0 b3 b2
              by_cases h1 : k < m
              · have d3 : decide ((k : Int) < (m : Int)) = true := by simp; omega
                have d3' : decide (k < m) = true := by simp; omega
                have h1' : k + 2 < l.length := by omega
                obtain ⟨g', o', e', _, c0, c1, c2⟩ := (hA.below hbw).at h1'
                simp at e'
                obtain ⟨rfl, rfl⟩ := e'
                have e1 := getElem_of h1'
                have hgood := hF _ (List.getElem_mem h1')
                generalize l[k + 2] = x at *
                rw [show o + (k + 2) * 3 = o + 6 + k * 3 by omega] at c0 c1 c2
                have hmore := HV.out.more e1
                have i0' : (0 : Int) ≤ (k : Int) := by omega
                have i1' : (k : Int) < (m : Int) := by omega
                have HLM := Lib.hid hlm
                have z1 := hm.lt
                have q0 := (hm.alloc (.cells #[.int .i64 x.o, .int .i64 x.a, .int .i64 x.b] 58)).look_ok (a0 := ()) node_enc unit_enc Tryz.underlying70 (zero_unit _) x hgood
                have HSN := Lib.hid (HS.out.more x)
                have hsome := HS.out.isSome x
                simp only [nval] at q0
                cases hct : seen.contains x
                · rw [hsome, hct] at q0
                  have hm2 := (hm.alloc (.cells #[.int .i64 x.o, .int .i64 x.a, .int .i64 x.b] 58)).alloc (.cells #[] 46)
                  have hn2 : At ((wr.alloc (.cells #[.int .i64 x.o, .int .i64 x.a, .int .i64 x.b] 58)).alloc (.cells #[] 46)) wr.heap.size 58 #[.int .i64 x.o, .int .i64 x.a, .int .i64 x.b] := At.alloc (At.new _ _ _) _
                  have hb2 : Below w.heap.size w ((wr.alloc (.cells #[.int .i64 x.o, .int .i64 x.a, .int .i64 x.b] 58)).alloc (.cells #[] 46)) := (hbw.alloc hbw.size _).alloc (by have := hbw.size; simp; omega) _
                  obtain ⟨es, ec, hob⟩ := hm2.obj
                  have HOB := Lib.hid hob
                  clear hob hsome e1 hlm hlc hcm hc2 hc3
                  have hok := ok_cases x ((k + 2 : Nat) : Int)
                  by_cases h2 : x.o = 2
                  · have h3 : ¬ x.o = 3 := by omega
                    have h4 : ¬ x.o = 4 := by omega
                    have t2 : (x.o == 2) = true := by simpa using h2
                    have t3 : (x.o == 3) = false := by simpa using h3
                    have t4 : (x.o == 4) = false := by simpa using h4
                    rw [if_pos h2] at hok
                    have HBI := Lib.hid (show Cx.binary ⟨x.o, x.a, x.b⟩ = false by unfold Cx.binary; rw [decide_eq_false h3, decide_eq_false h4]; rfl)
                    cases t5 : decide (0 ≤ x.a)
                    · have HR' := Lib.hid (show R = false by rw [hmore, show Cx.okB x ((k + 2 : Nat) : Int) = false from by rw [hok, t5]; rfl]; rfl)
                      clear hmore hok h2 h3 h4
                      go_wp2_with (first | (at_mapUpdate; refine wpList_fmap_update _ rfl _ _ _ 70 rfl hm2 node_enc unit_enc Tryz.underlying70 (by unfold maxLen; omega) rfl x rfl hgood () rfl ?_; intro w9 hk9 g9; have hn9 := hn2.grown g9 (hn2.not_map HOB.out); have hb9 := hb2.trans (below_of_grown g9 hlt hb2.size); have n0 := hn9.cell 0; have n1 := hn9.cell 1; have n2 := hn9.cell 2; simp at n0 n1 n2))
                      refine (binary_any x.o x.a x.b _).mono ?_
                      rintro e w4 ⟨rfl, hw4⟩
                      rw [show Cx.binary ⟨x.o, x.a, x.b⟩ = false from HBI.out]
                      have b4 : Below w9.heap.size w9 w4 := by rw [← hw4]; exact below1 _ _
                      have hn4 := hn9.next b4
                      clear hw4 n0 n1 n2
                      have n0 := hn4.cell 0; have n1 := hn4.cell 1; have n2 := hn4.cell 2
                      simp at n0 n1 n2
                      have hb4 := hb9.trans (b4.mono hb9.size)
                      go_wp2_with fail
                      go_ret
                      exact ⟨by rw [HR'.out]; rfl, hb4⟩
                    · cases t6 : (x.b == 0)
                      · have HR' := Lib.hid (show R = false by rw [hmore, show Cx.okB x ((k + 2 : Nat) : Int) = false from by rw [hok, t5, t6]; rfl]; rfl)
                        clear hmore hok h2 h3 h4
                        go_wp2_with (first | (at_mapUpdate; refine wpList_fmap_update _ rfl _ _ _ 70 rfl hm2 node_enc unit_enc Tryz.underlying70 (by unfold maxLen; omega) rfl x rfl hgood () rfl ?_; intro w9 hk9 g9; have hn9 := hn2.grown g9 (hn2.not_map HOB.out); have hb9 := hb2.trans (below_of_grown g9 hlt hb2.size); have n0 := hn9.cell 0; have n1 := hn9.cell 1; have n2 := hn9.cell 2; simp at n0 n1 n2))
                        refine (binary_any x.o x.a x.b _).mono ?_
                        rintro e w4 ⟨rfl, hw4⟩
                        rw [show Cx.binary ⟨x.o, x.a, x.b⟩ = false from HBI.out]
                        have b4 : Below w9.heap.size w9 w4 := by rw [← hw4]; exact below1 _ _
                        have hn4 := hn9.next b4
                        clear hw4 n0 n1 n2
                        have n0 := hn4.cell 0; have n1 := hn4.cell 1; have n2 := hn4.cell 2
                        simp at n0 n1 n2
                        have hb4 := hb9.trans (b4.mono hb9.size)
                        go_wp2_with fail
                        go_ret
                        exact ⟨by rw [HR'.out]; rfl, hb4⟩
                      · have HN := Lib.hid (show VAt l R (k + 1 + 2) (seen ++ [x]) by unfold VAt; rw [hmore, show Cx.okB x ((k + 2 : Nat) : Int) = true from by rw [hok, t5, t6]; rfl, hct]; rfl)
                        clear hmore hok h2 h3 h4
                        go_wp2_with (first | (at_mapUpdate; refine wpList_fmap_update _ rfl _ _ _ 70 rfl hm2 node_enc unit_enc Tryz.underlying70 (by unfold maxLen; omega) rfl x rfl hgood () rfl ?_; intro w9 hk9 g9; have hn9 := hn2.grown g9 (hn2.not_map HOB.out); have hb9 := hb2.trans (below_of_grown g9 hlt hb2.size); have n0 := hn9.cell 0; have n1 := hn9.cell 1; have n2 := hn9.cell 2; simp at n0 n1 n2))
                        go_roundw
                        case rel => exact ⟨k + 1, n + 1, seen ++ [x], _, by omega, by omega, by go_num, hk9, HSN, HN, hb9⟩
                        case measure => simp [intOf]; omega
                  · have t2 : (x.o == 2) = false := by simpa using h2
                    rw [if_neg h2] at hok
                    by_cases h3 : x.o = 3
                    · have h4 : ¬ x.o = 4 := by omega
                      have t3 : (x.o == 3) = true := by simpa using h3
                      rw [if_pos (Or.inl h3)] at hok
                      have HBI := Lib.hid (show Cx.binary ⟨x.o, x.a, x.b⟩ = true by unfold Cx.binary; rw [decide_eq_true h3]; rfl)
                      cases t5 : decide ((2 : Int) ≤ x.a)
                      · have HR' := Lib.hid (show R = false by rw [hmore, show Cx.okB x ((k + 2 : Nat) : Int) = false from by rw [hok, t5]; rfl]; rfl)
                        clear hmore hok h2 h3 h4
                        go_wp2_with (first | (at_mapUpdate; refine wpList_fmap_update _ rfl _ _ _ 70 rfl hm2 node_enc unit_enc Tryz.underlying70 (by unfold maxLen; omega) rfl x rfl hgood () rfl ?_; intro w9 hk9 g9; have hn9 := hn2.grown g9 (hn2.not_map HOB.out); have hb9 := hb2.trans (below_of_grown g9 hlt hb2.size); have n0 := hn9.cell 0; have n1 := hn9.cell 1; have n2 := hn9.cell 2; simp at n0 n1 n2))
                        refine (binary_any x.o x.a x.b _).mono ?_
                        rintro e w4 ⟨rfl, hw4⟩
                        rw [show Cx.binary ⟨x.o, x.a, x.b⟩ = true from HBI.out]
                        have b4 : Below w9.heap.size w9 w4 := by rw [← hw4]; exact below1 _ _
                        have hn4 := hn9.next b4
                        clear hw4 n0 n1 n2
                        have n0 := hn4.cell 0; have n1 := hn4.cell 1; have n2 := hn4.cell 2
                        simp at n0 n1 n2
                        have hb4 := hb9.trans (b4.mono hb9.size)
                        go_wp2_with fail
                        go_ret
                        exact ⟨by rw [HR'.out]; rfl, hb4⟩
                      · cases t6 : decide (x.a < x.b)
                        · have HR' := Lib.hid (show R = false by rw [hmore, show Cx.okB x ((k + 2 : Nat) : Int) = false from by rw [hok, t5, t6]; rfl]; rfl)
                          clear hmore hok h2 h3 h4
                          go_wp2_with (first | (at_mapUpdate; refine wpList_fmap_update _ rfl _ _ _ 70 rfl hm2 node_enc unit_enc Tryz.underlying70 (by unfold maxLen; omega) rfl x rfl hgood () rfl ?_; intro w9 hk9 g9; have hn9 := hn2.grown g9 (hn2.not_map HOB.out); have hb9 := hb2.trans (below_of_grown g9 hlt hb2.size); have n0 := hn9.cell 0; have n1 := hn9.cell 1; have n2 := hn9.cell 2; simp at n0 n1 n2))
                          refine (binary_any x.o x.a x.b _).mono ?_
                          rintro e w4 ⟨rfl, hw4⟩
                          rw [show Cx.binary ⟨x.o, x.a, x.b⟩ = true from HBI.out]
                          have b4 : Below w9.heap.size w9 w4 := by rw [← hw4]; exact below1 _ _
                          have hn4 := hn9.next b4
                          clear hw4 n0 n1 n2
                          have n0 := hn4.cell 0; have n1 := hn4.cell 1; have n2 := hn4.cell 2
                          simp at n0 n1 n2
                          have hb4 := hb9.trans (b4.mono hb9.size)
                          go_wp2_with fail
                          go_ret
                          exact ⟨by rw [HR'.out]; rfl, hb4⟩
                        · cases t7 : decide (x.b < (k : Int) + 2)
                          · have t8 : decide (x.b < ((k + 2 : Nat) : Int)) = false := by rw [← t7]; congr 1
                            have HR' := Lib.hid (show R = false by rw [hmore, show Cx.okB x ((k + 2 : Nat) : Int) = false from by rw [hok, t5, t6, t8]; rfl]; rfl)
                            clear hmore hok h2 h3 h4
                            go_wp2_with (first | (at_mapUpdate; refine wpList_fmap_update _ rfl _ _ _ 70 rfl hm2 node_enc unit_enc Tryz.underlying70 (by unfold maxLen; omega) rfl x rfl hgood () rfl ?_; intro w9 hk9 g9; have hn9 := hn2.grown g9 (hn2.not_map HOB.out); have hb9 := hb2.trans (below_of_grown g9 hlt hb2.size); have n0 := hn9.cell 0; have n1 := hn9.cell 1; have n2 := hn9.cell 2; simp at n0 n1 n2))
                            refine (binary_any x.o x.a x.b _).mono ?_
                            rintro e w4 ⟨rfl, hw4⟩
                            rw [show Cx.binary ⟨x.o, x.a, x.b⟩ = true from HBI.out]
                            have b4 : Below w9.heap.size w9 w4 := by rw [← hw4]; exact below1 _ _
                            have hn4 := hn9.next b4
                            clear hw4 n0 n1 n2
                            have n0 := hn4.cell 0; have n1 := hn4.cell 1; have n2 := hn4.cell 2
                            simp at n0 n1 n2
                            have hb4 := hb9.trans (b4.mono hb9.size)
                            go_wp2_with fail
                            go_ret
                            exact ⟨by rw [HR'.out]; rfl, hb4⟩
                          · have t8 : decide (x.b < ((k + 2 : Nat) : Int)) = true := by rw [← t7]; congr 1
                            have HN := Lib.hid (show VAt l R (k + 1 + 2) (seen ++ [x]) by unfold VAt; rw [hmore, show Cx.okB x ((k + 2 : Nat) : Int) = true from by rw [hok, t5, t6, t8]; rfl, hct]; rfl)
                            clear hmore hok h2 h3 h4
                            go_wp2_with (first | (at_mapUpdate; refine wpList_fmap_update _ rfl _ _ _ 70 rfl hm2 node_enc unit_enc Tryz.underlying70 (by unfold maxLen; omega) rfl x rfl hgood () rfl ?_; intro w9 hk9 g9; have hn9 := hn2.grown g9 (hn2.not_map HOB.out); have hb9 := hb2.trans (below_of_grown g9 hlt hb2.size); have n0 := hn9.cell 0; have n1 := hn9.cell 1; have n2 := hn9.cell 2; simp at n0 n1 n2))
                            refine (binary_any x.o x.a x.b _).mono ?_
                            rintro e w4 ⟨rfl, hw4⟩
                            rw [show Cx.binary ⟨x.o, x.a, x.b⟩ = true from HBI.out]
                            have b4 : Below w9.heap.size w9 w4 := by rw [← hw4]; exact below1 _ _
                            have hn4 := hn9.next b4
                            clear hw4 n0 n1 n2
                            have n0 := hn4.cell 0; have n1 := hn4.cell 1; have n2 := hn4.cell 2
                            simp at n0 n1 n2
                            have hb4 := hb9.trans (b4.mono hb9.size)
                            go_wp2_with fail
                            go_roundw
                            case rel => exact ⟨k + 1, n + 1, seen ++ [x], _, by omega, by omega, by go_num, hk9.next b4, HSN, HN, hb4⟩
                            case measure => simp [intOf]; omega
                    · have t3 : (x.o == 3) = false := by simpa using h3
                      by_cases h4 : x.o = 4
                      · have t4 : (x.o == 4) = true := by simpa using h4
                        rw [if_pos (Or.inr h4)] at hok
                        have HBI := Lib.hid (show Cx.binary ⟨x.o, x.a, x.b⟩ = true by unfold Cx.binary; rw [decide_eq_false h3, decide_eq_true h4]; rfl)
                        cases t5 : decide ((2 : Int) ≤ x.a)
                        · have HR' := Lib.hid (show R = false by rw [hmore, show Cx.okB x ((k + 2 : Nat) : Int) = false from by rw [hok, t5]; rfl]; rfl)
                          clear hmore hok h2 h3 h4
                          go_wp2_with (first | (at_mapUpdate; refine wpList_fmap_update _ rfl _ _ _ 70 rfl hm2 node_enc unit_enc Tryz.underlying70 (by unfold maxLen; omega) rfl x rfl hgood () rfl ?_; intro w9 hk9 g9; have hn9 := hn2.grown g9 (hn2.not_map HOB.out); have hb9 := hb2.trans (below_of_grown g9 hlt hb2.size); have n0 := hn9.cell 0; have n1 := hn9.cell 1; have n2 := hn9.cell 2; simp at n0 n1 n2))
                          refine (binary_any x.o x.a x.b _).mono ?_
                          rintro e w4 ⟨rfl, hw4⟩
                          rw [show Cx.binary ⟨x.o, x.a, x.b⟩ = true from HBI.out]
                          have b4 : Below w9.heap.size w9 w4 := by rw [← hw4]; exact below1 _ _
                          have hn4 := hn9.next b4
                          clear hw4 n0 n1 n2
                          have n0 := hn4.cell 0; have n1 := hn4.cell 1; have n2 := hn4.cell 2
                          simp at n0 n1 n2
                          have hb4 := hb9.trans (b4.mono hb9.size)
                          go_wp2_with fail
                          go_ret
                          exact ⟨by rw [HR'.out]; rfl, hb4⟩
                        · cases t6 : decide (x.a < x.b)
                          · have HR' := Lib.hid (show R = false by rw [hmore, show Cx.okB x ((k + 2 : Nat) : Int) = false from by rw [hok, t5, t6]; rfl]; rfl)
                            clear hmore hok h2 h3 h4
                            go_wp2_with (first | (at_mapUpdate; refine wpList_fmap_update _ rfl _ _ _ 70 rfl hm2 node_enc unit_enc Tryz.underlying70 (by unfold maxLen; omega) rfl x rfl hgood () rfl ?_; intro w9 hk9 g9; have hn9 := hn2.grown g9 (hn2.not_map HOB.out); have hb9 := hb2.trans (below_of_grown g9 hlt hb2.size); have n0 := hn9.cell 0; have n1 := hn9.cell 1; have n2 := hn9.cell 2; simp at n0 n1 n2))
                            refine (binary_any x.o x.a x.b _).mono ?_
                            rintro e w4 ⟨rfl, hw4⟩
                            rw [show Cx.binary ⟨x.o, x.a, x.b⟩ = true from HBI.out]
                            have b4 : Below w9.heap.size w9 w4 := by rw [← hw4]; exact below1 _ _
                            have hn4 := hn9.next b4
                            clear hw4 n0 n1 n2
                            have n0 := hn4.cell 0; have n1 := hn4.cell 1; have n2 := hn4.cell 2
                            simp at n0 n1 n2
                            have hb4 := hb9.trans (b4.mono hb9.size)
                            go_wp2_with fail
                            go_ret
                            exact ⟨by rw [HR'.out]; rfl, hb4⟩
                          · cases t7 : decide (x.b < (k : Int) + 2)
                            · have t8 : decide (x.b < ((k + 2 : Nat) : Int)) = false := by rw [← t7]; congr 1
                              have HR' := Lib.hid (show R = false by rw [hmore, show Cx.okB x ((k + 2 : Nat) : Int) = false from by rw [hok, t5, t6, t8]; rfl]; rfl)
                              clear hmore hok h2 h3 h4
                              go_wp2_with (first | (at_mapUpdate; refine wpList_fmap_update _ rfl _ _ _ 70 rfl hm2 node_enc unit_enc Tryz.underlying70 (by unfold maxLen; omega) rfl x rfl hgood () rfl ?_; intro w9 hk9 g9; have hn9 := hn2.grown g9 (hn2.not_map HOB.out); have hb9 := hb2.trans (below_of_grown g9 hlt hb2.size); have n0 := hn9.cell 0; have n1 := hn9.cell 1; have n2 := hn9.cell 2; simp at n0 n1 n2))
                              refine (binary_any x.o x.a x.b _).mono ?_
                              rintro e w4 ⟨rfl, hw4⟩
                              rw [show Cx.binary ⟨x.o, x.a, x.b⟩ = true from HBI.out]
                              have b4 : Below w9.heap.size w9 w4 := by rw [← hw4]; exact below1 _ _
                              have hn4 := hn9.next b4
                              clear hw4 n0 n1 n2
                              have n0 := hn4.cell 0; have n1 := hn4.cell 1; have n2 := hn4.cell 2
                              simp at n0 n1 n2
                              have hb4 := hb9.trans (b4.mono hb9.size)
                              go_wp2_with fail
                              go_ret
                              exact ⟨by rw [HR'.out]; rfl, hb4⟩
                            · have t8 : decide (x.b < ((k + 2 : Nat) : Int)) = true := by rw [← t7]; congr 1
                              have HN := Lib.hid (show VAt l R (k + 1 + 2) (seen ++ [x]) by unfold VAt; rw [hmore, show Cx.okB x ((k + 2 : Nat) : Int) = true from by rw [hok, t5, t6, t8]; rfl, hct]; rfl)
                              clear hmore hok h2 h3 h4
                              go_wp2_with (first | (at_mapUpdate; refine wpList_fmap_update _ rfl _ _ _ 70 rfl hm2 node_enc unit_enc Tryz.underlying70 (by unfold maxLen; omega) rfl x rfl hgood () rfl ?_; intro w9 hk9 g9; have hn9 := hn2.grown g9 (hn2.not_map HOB.out); have hb9 := hb2.trans (below_of_grown g9 hlt hb2.size); have n0 := hn9.cell 0; have n1 := hn9.cell 1; have n2 := hn9.cell 2; simp at n0 n1 n2))
                              refine (binary_any x.o x.a x.b _).mono ?_
                              rintro e w4 ⟨rfl, hw4⟩
                              rw [show Cx.binary ⟨x.o, x.a, x.b⟩ = true from HBI.out]
                              have b4 : Below w9.heap.size w9 w4 := by rw [← hw4]; exact below1 _ _
                              have hn4 := hn9.next b4
                              clear hw4 n0 n1 n2
                              have n0 := hn4.cell 0; have n1 := hn4.cell 1; have n2 := hn4.cell 2
                              simp at n0 n1 n2
                              have hb4 := hb9.trans (b4.mono hb9.size)
                              go_wp2_with fail
                              go_roundw
                              case rel => exact ⟨k + 1, n + 1, seen ++ [x], _, by omega, by omega, by go_num, hk9.next b4, HSN, HN, hb4⟩
                              case measure => simp [intOf]; omega
                      · have t4 : (x.o == 4) = false := by simpa using h4
                        rw [if_neg (by omega)] at hok
                        have HBI := Lib.hid (show Cx.binary ⟨x.o, x.a, x.b⟩ = false by unfold Cx.binary; rw [decide_eq_false h3, decide_eq_false h4]; rfl)
                        have HR' := Lib.hid (show R = false by rw [hmore, show Cx.okB x ((k + 2 : Nat) : Int) = false from hok]; rfl)
                        clear hmore hok h2 h3 h4
                        go_wp2_with (first | (at_mapUpdate; refine wpList_fmap_update _ rfl _ _ _ 70 rfl hm2 node_enc unit_enc Tryz.underlying70 (by unfold maxLen; omega) rfl x rfl hgood () rfl ?_; intro w9 hk9 g9; have hn9 := hn2.grown g9 (hn2.not_map HOB.out); have hb9 := hb2.trans (below_of_grown g9 hlt hb2.size); have n0 := hn9.cell 0; have n1 := hn9.cell 1; have n2 := hn9.cell 2; simp at n0 n1 n2))
                        refine (binary_any x.o x.a x.b _).mono ?_
                        rintro e w4 ⟨rfl, hw4⟩
                        rw [show Cx.binary ⟨x.o, x.a, x.b⟩ = false from HBI.out]
                        have b4 : Below w9.heap.size w9 w4 := by rw [← hw4]; exact below1 _ _
                        have hn4 := hn9.next b4
                        clear hw4 n0 n1 n2
                        have n0 := hn4.cell 0; have n1 := hn4.cell 1; have n2 := hn4.cell 2
                        simp at n0 n1 n2
                        have hb4 := hb9.trans (b4.mono hb9.size)
                        go_wp2_with fail
                        go_ret
                        exact ⟨by rw [HR'.out]; rfl, hb4⟩
                · rw [hsome, hct] at q0
                  have HR' := Lib.hid (show R = false by rw [hmore, hct]; simp)
                  clear hsome e1 hlm hlc hcm hc2 hc3 hmore hct
                  go_wp2_with fail
                  go_ret
                  exact ⟨by rw [HR'.out]; rfl, (hbw.alloc hbw.size _).alloc (by have := hbw.size; simp; omega) _⟩
              · have d3 : decide ((k : Int) < (m : Int)) = false := by simp; omega
                have d3' : decide (k < m) = false := by simp; omega
                have HR' := Lib.hid (HV.out.done (by omega))
                go_wp2_with fail
                go_ret
                exact ⟨by rw [HR'.out]; rfl, hbw⟩
      · have hz : (x == Cx.zero) = true := by simpa using hx
        have hz' : (y == Cx.one) = false := by simpa using hy
        have HR := Lib.hid (show R = false by rw [hR, valid_1 e1 hy])
        simp only [Cx.zero] at hz
        simp only [Cx.one] at hz'
        rw [hz] at qa
        rw [hz'] at qb
        clear hR e0 e1 hx hy hz hz'
        go_enter Tryz.func24, Tryz.ntmps24
        go_wp2_with fail
        refine' wp_region_each _ (Below w.heap.size w) (Onward) [Vl, Vl, Vl, Vl, Vl, Vl, Vl, Vl, Vl, Vl, Vl, Vl, NewSl 2 2 58 news, NewPt 0 58 news, Vl, Vl, Vl, Vl, Vl, Vl, Vl, NewSl 2 2 58 news, NewPt 3 58 news, Vl, Vl, Vl] ?hF (by kernel_rfl) (by kernel_rfl) (by kernel_rfl) ((Below.refl _ _).drew) (lasting_cons (lasting_vl) (lasting_cons (lasting_vl) (lasting_cons (lasting_vl) (lasting_cons (lasting_vl) (lasting_cons (lasting_vl) (lasting_cons (lasting_vl) (lasting_cons (lasting_vl) (lasting_cons (lasting_vl) (lasting_cons (lasting_vl) (lasting_cons (lasting_vl) (lasting_cons (lasting_vl) (lasting_cons (lasting_vl) (lasting_cons (lasting_newSl _ _ _ _) (lasting_cons (lasting_newPt _ _ _) (lasting_cons (lasting_vl) (lasting_cons (lasting_vl) (lasting_cons (lasting_vl) (lasting_cons (lasting_vl) (lasting_cons (lasting_vl) (lasting_cons (lasting_vl) (lasting_cons (lasting_vl) (lasting_cons (lasting_newSl _ _ _ _) (lasting_cons (lasting_newPt _ _ _) (lasting_cons (lasting_vl) (lasting_cons (lasting_vl) (lasting_cons (lasting_vl) (lasting_none))))))))))))))))))))))))))) ?hops ?hend
        case hF => (intro v; simp only [over, Act.put, List.setIfInBounds_toArray, List.set_cons_zero, List.set_cons_succ, Nat.zero_add, Nat.reduceAdd]; exact rfl)
        case hops =>
          refine ⟨?_, ?_⟩
          · intro v w' hj hd hs K hK
            have hk := hK.out
            simp only [Act.put, List.setIfInBounds_toArray, List.set_cons_zero, List.set_cons_succ] at hk
            have HK := Lib.hid hk
            clear hd hs hk hK
            go_simp
            exact HK.out _ _ hj.out (Below.refl _ _) (show _ = _ from rfl)
          refine ⟨?_, ?_⟩
          · intro v w' hj hd hs K hK
            have t0 : v 0 = _ := hd.out 0 (by kernel_rfl)
            have hk := hK.out
            simp only [t0, Act.put, List.setIfInBounds_toArray, List.set_cons_zero, List.set_cons_succ] at hk
            have HK := Lib.hid hk
            clear hd hs hk hK
            go_simp
            exact HK.out _ _ hj.out (Below.refl _ _) (show _ = _ from rfl)
          refine ⟨?_, ?_⟩
          · intro v w' hj hd hs K hK
            have t1 : v 1 = _ := hd.out 1 (by kernel_rfl)
            have hk := hK.out
            simp only [t1, Act.put, List.setIfInBounds_toArray, List.set_cons_zero, List.set_cons_succ] at hk
            have HK := Lib.hid hk
            clear hd hs hk hK
            go_simp
            exact HK.out _ _ hj.out (Below.refl _ _) (show _ = _ from rfl)
          refine ⟨?_, ?_⟩
          · intro v w' hj hd hs K hK
            have t2 : v 2 = _ := hd.out 2 (by kernel_rfl)
            have hk := hK.out
            simp only [t2, Act.put, List.setIfInBounds_toArray, List.set_cons_zero, List.set_cons_succ] at hk
            have HK := Lib.hid hk
            clear hd hs hk hK
            go_simp
            exact HK.out _ _ hj.out (Below.refl _ _) (show _ = _ from rfl)
          refine ⟨?_, ?_⟩
          · intro v w' hj hd hs K hK
            have t3 : v 3 = _ := hd.out 3 (by kernel_rfl)
            have hk := hK.out
            simp only [t3, Act.put, List.setIfInBounds_toArray, List.set_cons_zero, List.set_cons_succ] at hk
            have HK := Lib.hid hk
            clear hd hs hk hK
            go_simp
            exact HK.out _ _ hj.out (Below.refl _ _) (show _ = _ from rfl)
          refine ⟨?_, ?_⟩
          · intro v w' hj hd hs K hK
            have t3 : v 3 = _ := hd.out 3 (by kernel_rfl)
            have t4 : v 4 = _ := hd.out 4 (by kernel_rfl)
            have hk := hK.out
            simp only [t3, t4, Act.put, List.setIfInBounds_toArray, List.set_cons_zero, List.set_cons_succ] at hk
            have HK := Lib.hid hk
            clear hd hs hk hK
            go_simp
            exact HK.out _ _ hj.out (Below.refl _ _) (show _ = _ from rfl)
          refine ⟨?_, ?_⟩
          · intro v w' hj hd hs K hK
            have t3 : v 3 = _ := hd.out 3 (by kernel_rfl)
            have t5 : v 5 = _ := hd.out 5 (by kernel_rfl)
            have hk := hK.out
            simp only [t3, t5, Act.put, List.setIfInBounds_toArray, List.set_cons_zero, List.set_cons_succ] at hk
            have HK := Lib.hid hk
            clear hd hs hk hK
            go_simp
            exact HK.out _ _ hj.out (Below.refl _ _) (show _ = _ from rfl)
          refine ⟨?_, ?_⟩
          · intro v w' hj hd hs K hK
            have t3 : v 3 = _ := hd.out 3 (by kernel_rfl)
            have t6 : v 6 = _ := hd.out 6 (by kernel_rfl)
            have hk := hK.out
            simp only [t3, t6, Act.put, List.setIfInBounds_toArray, List.set_cons_zero, List.set_cons_succ] at hk
            have HK := Lib.hid hk
            clear hd hs hk hK
            go_simp
            exact HK.out _ _ hj.out (Below.refl _ _) (show _ = _ from rfl)
          refine ⟨?_, ?_⟩
          · intro v w' hj hd hs K hK
            have t7 : v 7 = _ := hd.out 7 (by kernel_rfl)
            have hk := hK.out
            simp only [t7, Act.put, List.setIfInBounds_toArray, List.set_cons_zero, List.set_cons_succ] at hk
            have HK := Lib.hid hk
            clear hd hs hk hK
            go_simp
            exact HK.out _ _ hj.out (Below.refl _ _) (show _ = _ from rfl)
          refine ⟨?_, ?_⟩
          · intro v w' hj hd hs K hK
            have t8 : v 8 = _ := hd.out 8 (by kernel_rfl)
            have hk := hK.out
            simp only [t8, Act.put, List.setIfInBounds_toArray, List.set_cons_zero, List.set_cons_succ] at hk
            have HK := Lib.hid hk
            clear hd hs hk hK
            go_simp
            exact HK.out _ _ hj.out (Below.refl _ _) (show _ = _ from rfl)
          refine ⟨?_, ?_⟩
          · intro v w' hj hd hs K hK
            have t8 : v 8 = _ := hd.out 8 (by kernel_rfl)
            have t9 : v 9 = _ := hd.out 9 (by kernel_rfl)
            have hk := hK.out
            simp only [t8, t9, Act.put, List.setIfInBounds_toArray, List.set_cons_zero, List.set_cons_succ] at hk
            have HK := Lib.hid hk
            clear hd hs hk hK
            go_simp
            exact HK.out _ _ hj.out (Below.refl _ _) (show _ = _ from rfl)
          refine ⟨?_, ?_⟩
          · intro v w' hj hd hs K hK
            have t8 : v 8 = _ := hd.out 8 (by kernel_rfl)
            have t10 : v 10 = _ := hd.out 10 (by kernel_rfl)
            obtain ⟨c0, c1, c2, _⟩ := HBD.out _ hj.out
            have hk := hK.out
            simp only [t8, t10, Act.put, List.setIfInBounds_toArray, List.set_cons_zero, List.set_cons_succ] at hk
            have HK := Lib.hid hk
            clear hd hs hk hK
            go_simp
            exact HK.out _ _ hj.out (Below.refl _ _) (show _ = _ from rfl)
          refine ⟨?_, ?_⟩
          · intro v w' hj hd hs K hK
            have t8 : v 8 = _ := hd.out 8 (by kernel_rfl)
            have hk := hK.out
            simp only [t8, Act.put, List.setIfInBounds_toArray, List.set_cons_zero, List.set_cons_succ] at hk
            have HK := Lib.hid hk
            clear hd hs hk hK
            go_simp
            refine (new_any _).mono ?_
            rintro e w2 ⟨rfl, hw2⟩
            subst hw2
            exact HK.out _ _ (hj.out.alloc hj.out.size _) (below1 _ _) ⟨_, rfl, At.new _ _ _⟩
          refine ⟨?_, ?_⟩
          · intro v w' hj hd hs K hK
            have t8 : v 8 = _ := hd.out 8 (by kernel_rfl)
            obtain ⟨b12, t12, z12⟩ : NewSl 2 2 58 news (v 12) w' := hd.out 12 (by kernel_rfl)
            have hk := hK.out
            simp only [t8, t12, Act.put, List.setIfInBounds_toArray, List.set_cons_zero, List.set_cons_succ] at hk
            have HK := Lib.hid hk
            clear hd hs hk hK
            go_simp
            exact HK.out _ _ hj.out (Below.refl _ _) ⟨_, rfl, z12⟩
          refine ⟨?_, ?_⟩
          · intro v w' hj hd hs K hK
            have t8 : v 8 = _ := hd.out 8 (by kernel_rfl)
            obtain ⟨b13, t13, z13⟩ : NewPt 0 58 news (v 13) w' := hd.out 13 (by kernel_rfl)
            have c0 := z13.cell 0; have c1 := z13.cell 1; have c2 := z13.cell 2
            simp [news] at c0 c1 c2
            clear z13
            have hk := hK.out
            simp only [t8, t13, Act.put, List.setIfInBounds_toArray, List.set_cons_zero, List.set_cons_succ] at hk
            have HK := Lib.hid hk
            clear hd hs hk hK
            go_simp
            exact HK.out _ _ hj.out (Below.refl _ _) (show _ = _ from rfl)
          refine ⟨?_, ?_⟩
          · intro v w' hj hd hs K hK
            have t8 : v 8 = _ := hd.out 8 (by kernel_rfl)
            have t11 : v 11 = _ := hd.out 11 (by kernel_rfl)
            have t14 : v 14 = _ := hd.out 14 (by kernel_rfl)
            have hk := hK.out
            simp only [t8, t11, t14, Act.put, List.setIfInBounds_toArray, List.set_cons_zero, List.set_cons_succ] at hk
            have HK := Lib.hid hk
            clear hd hs hk hK
            go_simp
            exact HK.out _ _ hj.out (Below.refl _ _) (show _ = _ from rfl)
          refine ⟨?_, ?_⟩
          · intro v w' hj hd hs K hK
            have t8 : v 8 = _ := hd.out 8 (by kernel_rfl)
            have t15 : v 15 = _ := hd.out 15 (by kernel_rfl)
            have hk := hK.out
            simp only [t8, t15, Act.put, List.setIfInBounds_toArray, List.set_cons_zero, List.set_cons_succ] at hk
            have HK := Lib.hid hk
            clear hd hs hk hK
            go_simp
            exact HK.out _ _ hj.out (Below.refl _ _) (show _ = _ from rfl)
          refine ⟨?_, ?_⟩
          · intro v w' hj hd hs K hK
            have t16 : v 16 = _ := hd.out 16 (by kernel_rfl)
            have hk := hK.out
            simp only [t16, Act.put, List.setIfInBounds_toArray, List.set_cons_zero, List.set_cons_succ] at hk
            have HK := Lib.hid hk
            clear hd hs hk hK
            go_simp
            exact HK.out _ _ hj.out (Below.refl _ _) (show _ = _ from rfl)
          refine ⟨?_, ?_⟩
          · intro v w' hj hd hs K hK
            have t17 : v 17 = _ := hd.out 17 (by kernel_rfl)
            have hk := hK.out
            simp only [t17, Act.put, List.setIfInBounds_toArray, List.set_cons_zero, List.set_cons_succ] at hk
            have HK := Lib.hid hk
            clear hd hs hk hK
            go_simp
            exact HK.out _ _ hj.out (Below.refl _ _) (show _ = _ from rfl)
          refine ⟨?_, ?_⟩
          · intro v w' hj hd hs K hK
            have t17 : v 17 = _ := hd.out 17 (by kernel_rfl)
            have t18 : v 18 = _ := hd.out 18 (by kernel_rfl)
            have hk := hK.out
            simp only [t17, t18, Act.put, List.setIfInBounds_toArray, List.set_cons_zero, List.set_cons_succ] at hk
            have HK := Lib.hid hk
            clear hd hs hk hK
            go_simp
            exact HK.out _ _ hj.out (Below.refl _ _) (show _ = _ from rfl)
          refine ⟨?_, ?_⟩
          · intro v w' hj hd hs K hK
            have t17 : v 17 = _ := hd.out 17 (by kernel_rfl)
            have t19 : v 19 = _ := hd.out 19 (by kernel_rfl)
            obtain ⟨_, _, _, c0, c1, c2⟩ := HBD.out _ hj.out
            have hk := hK.out
            simp only [t17, t19, Act.put, List.setIfInBounds_toArray, List.set_cons_zero, List.set_cons_succ] at hk
            have HK := Lib.hid hk
            clear hd hs hk hK
            go_simp
            exact HK.out _ _ hj.out (Below.refl _ _) (show _ = _ from rfl)
          refine ⟨?_, ?_⟩
          · intro v w' hj hd hs K hK
            have t17 : v 17 = _ := hd.out 17 (by kernel_rfl)
            have hk := hK.out
            simp only [t17, Act.put, List.setIfInBounds_toArray, List.set_cons_zero, List.set_cons_succ] at hk
            have HK := Lib.hid hk
            clear hd hs hk hK
            go_simp
            refine (new_any _).mono ?_
            rintro e w2 ⟨rfl, hw2⟩
            subst hw2
            exact HK.out _ _ (hj.out.alloc hj.out.size _) (below1 _ _) ⟨_, rfl, At.new _ _ _⟩
          refine ⟨?_, ?_⟩
          · intro v w' hj hd hs K hK
            have t17 : v 17 = _ := hd.out 17 (by kernel_rfl)
            obtain ⟨b21, t21, z21⟩ : NewSl 2 2 58 news (v 21) w' := hd.out 21 (by kernel_rfl)
            have hk := hK.out
            simp only [t17, t21, Act.put, List.setIfInBounds_toArray, List.set_cons_zero, List.set_cons_succ] at hk
            have HK := Lib.hid hk
            clear hd hs hk hK
            go_simp
            exact HK.out _ _ hj.out (Below.refl _ _) ⟨_, rfl, z21⟩
          refine ⟨?_, ?_⟩
          · intro v w' hj hd hs K hK
            have t17 : v 17 = _ := hd.out 17 (by kernel_rfl)
            obtain ⟨b22, t22, z22⟩ : NewPt 3 58 news (v 22) w' := hd.out 22 (by kernel_rfl)
            have c0 := z22.cell 3; have c1 := z22.cell 4; have c2 := z22.cell 5
            simp [news] at c0 c1 c2
            clear z22
            have hk := hK.out
            simp only [t17, t22, Act.put, List.setIfInBounds_toArray, List.set_cons_zero, List.set_cons_succ] at hk
            have HK := Lib.hid hk
            clear hd hs hk hK
            go_simp
            exact HK.out _ _ hj.out (Below.refl _ _) (show _ = _ from rfl)
          refine ⟨?_, ?_⟩
          · intro v w' hj hd hs K hK
            have t17 : v 17 = _ := hd.out 17 (by kernel_rfl)
            have t20 : v 20 = _ := hd.out 20 (by kernel_rfl)
            have t23 : v 23 = _ := hd.out 23 (by kernel_rfl)
            have hk := hK.out
            simp only [t17, t20, t23, Act.put, List.setIfInBounds_toArray, List.set_cons_zero, List.set_cons_succ] at hk
            have HK := Lib.hid hk
            clear hd hs hk hK
            go_simp
            exact HK.out _ _ hj.out (Below.refl _ _) (show _ = _ from rfl)
          refine ⟨?_, ?_⟩
          · intro v w' hj hd hs K hK
            have t17 : v 17 = _ := hd.out 17 (by kernel_rfl)
            have t24 : v 24 = _ := hd.out 24 (by kernel_rfl)
            have hk := hK.out
            simp only [t17, t24, Act.put, List.setIfInBounds_toArray, List.set_cons_zero, List.set_cons_succ] at hk
            have HK := Lib.hid hk
            clear hd hs hk hK
            go_simp
            exact HK.out _ _ hj.out (Below.refl _ _) (show _ = _ from rfl)
          trivial
        case hend =>
          intro v w2 hj hd
          have t25 : v 25 = _ := hd.out 25 (of_decide_eq_true (by kernel_rfl))
          have b2 := hj.out
          clear hj hd
          simp only [t25]
          go_wp2_with fail
          go_ret
          exact ⟨by rw [HR.out]; rfl, b2⟩
    · have hz : (x == Cx.zero) = false := by simpa using hx
      have HR := Lib.hid (show R = false by rw [hR, valid_0 e0 hx])
      simp only [Cx.zero] at hz
      rw [hz] at qa
      clear hR e0 e1 hx hz
      go_enter Tryz.func24, Tryz.ntmps24
      go_wp2_with fail
      refine' wp_region_each _ (Below w.heap.size w) (Onward) [Vl, Vl, Vl, Vl, Vl, Vl, Vl, Vl, Vl, Vl, Vl, Vl, NewSl 2 2 58 news, NewPt 0 58 news, Vl, Vl, Vl, Vl, Pin undef, Pin undef, Pin undef, Pin undef, Pin undef, Pin undef, Pin undef, Vl] ?hF (by kernel_rfl) (by kernel_rfl) (by kernel_rfl) ((Below.refl _ _).drew) (lasting_cons (lasting_vl) (lasting_cons (lasting_vl) (lasting_cons (lasting_vl) (lasting_cons (lasting_vl) (lasting_cons (lasting_vl) (lasting_cons (lasting_vl) (lasting_cons (lasting_vl) (lasting_cons (lasting_vl) (lasting_cons (lasting_vl) (lasting_cons (lasting_vl) (lasting_cons (lasting_vl) (lasting_cons (lasting_vl) (lasting_cons (lasting_newSl _ _ _ _) (lasting_cons (lasting_newPt _ _ _) (lasting_cons (lasting_vl) (lasting_cons (lasting_vl) (lasting_cons (lasting_vl) (lasting_cons (lasting_vl) (lasting_cons (lasting_pin _) (lasting_cons (lasting_pin _) (lasting_cons (lasting_pin _) (lasting_cons (lasting_pin _) (lasting_cons (lasting_pin _) (lasting_cons (lasting_pin _) (lasting_cons (lasting_pin _) (lasting_cons (lasting_vl) (lasting_none))))))))))))))))))))))))))) ?hops ?hend
      case hF => (intro v; simp only [over, Act.put, List.setIfInBounds_toArray, List.set_cons_zero, List.set_cons_succ, Nat.zero_add, Nat.reduceAdd]; exact rfl)
      case hops =>
        refine ⟨?_, ?_⟩
        · intro v w' hj hd hs K hK
          have hk := hK.out
          simp only [Act.put, List.setIfInBounds_toArray, List.set_cons_zero, List.set_cons_succ] at hk
          have HK := Lib.hid hk
          clear hd hs hk hK
          go_simp
          exact HK.out _ _ hj.out (Below.refl _ _) (show _ = _ from rfl)
        refine ⟨?_, ?_⟩
        · intro v w' hj hd hs K hK
          have t0 : v 0 = _ := hd.out 0 (by kernel_rfl)
          have hk := hK.out
          simp only [t0, Act.put, List.setIfInBounds_toArray, List.set_cons_zero, List.set_cons_succ] at hk
          have HK := Lib.hid hk
          clear hd hs hk hK
          go_simp
          exact HK.out _ _ hj.out (Below.refl _ _) (show _ = _ from rfl)
        refine ⟨?_, ?_⟩
        · intro v w' hj hd hs K hK
          have t1 : v 1 = _ := hd.out 1 (by kernel_rfl)
          have hk := hK.out
          simp only [t1, Act.put, List.setIfInBounds_toArray, List.set_cons_zero, List.set_cons_succ] at hk
          have HK := Lib.hid hk
          clear hd hs hk hK
          go_simp
          exact HK.out _ _ hj.out (Below.refl _ _) (show _ = _ from rfl)
        refine ⟨?_, ?_⟩
        · intro v w' hj hd hs K hK
          have t2 : v 2 = _ := hd.out 2 (by kernel_rfl)
          have hk := hK.out
          simp only [t2, Act.put, List.setIfInBounds_toArray, List.set_cons_zero, List.set_cons_succ] at hk
          have HK := Lib.hid hk
          clear hd hs hk hK
          go_simp
          exact HK.out _ _ hj.out (Below.refl _ _) (show _ = _ from rfl)
        refine ⟨?_, ?_⟩
        · intro v w' hj hd hs K hK
          have t3 : v 3 = _ := hd.out 3 (by kernel_rfl)
          have hk := hK.out
          simp only [t3, Act.put, List.setIfInBounds_toArray, List.set_cons_zero, List.set_cons_succ] at hk
          have HK := Lib.hid hk
          clear hd hs hk hK
          go_simp
          exact HK.out _ _ hj.out (Below.refl _ _) (show _ = _ from rfl)
        refine ⟨?_, ?_⟩
        · intro v w' hj hd hs K hK
          have t3 : v 3 = _ := hd.out 3 (by kernel_rfl)
          have t4 : v 4 = _ := hd.out 4 (by kernel_rfl)
          have hk := hK.out
          simp only [t3, t4, Act.put, List.setIfInBounds_toArray, List.set_cons_zero, List.set_cons_succ] at hk
          have HK := Lib.hid hk
          clear hd hs hk hK
          go_simp
          exact HK.out _ _ hj.out (Below.refl _ _) (show _ = _ from rfl)
        refine ⟨?_, ?_⟩
        · intro v w' hj hd hs K hK
          have t3 : v 3 = _ := hd.out 3 (by kernel_rfl)
          have t5 : v 5 = _ := hd.out 5 (by kernel_rfl)
          have hk := hK.out
          simp only [t3, t5, Act.put, List.setIfInBounds_toArray, List.set_cons_zero, List.set_cons_succ] at hk
          have HK := Lib.hid hk
          clear hd hs hk hK
          go_simp
          exact HK.out _ _ hj.out (Below.refl _ _) (show _ = _ from rfl)
        refine ⟨?_, ?_⟩
        · intro v w' hj hd hs K hK
          have t3 : v 3 = _ := hd.out 3 (by kernel_rfl)
          have t6 : v 6 = _ := hd.out 6 (by kernel_rfl)
          have hk := hK.out
          simp only [t3, t6, Act.put, List.setIfInBounds_toArray, List.set_cons_zero, List.set_cons_succ] at hk
          have HK := Lib.hid hk
          clear hd hs hk hK
          go_simp
          exact HK.out _ _ hj.out (Below.refl _ _) (show _ = _ from rfl)
        refine ⟨?_, ?_⟩
        · intro v w' hj hd hs K hK
          have t7 : v 7 = _ := hd.out 7 (by kernel_rfl)
          have hk := hK.out
          simp only [t7, Act.put, List.setIfInBounds_toArray, List.set_cons_zero, List.set_cons_succ] at hk
          have HK := Lib.hid hk
          clear hd hs hk hK
          go_simp
          exact HK.out _ _ hj.out (Below.refl _ _) (show _ = _ from rfl)
        refine ⟨?_, ?_⟩
        · intro v w' hj hd hs K hK
          have t8 : v 8 = _ := hd.out 8 (by kernel_rfl)
          have hk := hK.out
          simp only [t8, Act.put, List.setIfInBounds_toArray, List.set_cons_zero, List.set_cons_succ] at hk
          have HK := Lib.hid hk
          clear hd hs hk hK
          go_simp
          exact HK.out _ _ hj.out (Below.refl _ _) (show _ = _ from rfl)
        refine ⟨?_, ?_⟩
        · intro v w' hj hd hs K hK
          have t8 : v 8 = _ := hd.out 8 (by kernel_rfl)
          have t9 : v 9 = _ := hd.out 9 (by kernel_rfl)
          have hk := hK.out
          simp only [t8, t9, Act.put, List.setIfInBounds_toArray, List.set_cons_zero, List.set_cons_succ] at hk
          have HK := Lib.hid hk
          clear hd hs hk hK
          go_simp
          exact HK.out _ _ hj.out (Below.refl _ _) (show _ = _ from rfl)
        refine ⟨?_, ?_⟩
        · intro v w' hj hd hs K hK
          have t8 : v 8 = _ := hd.out 8 (by kernel_rfl)
          have t10 : v 10 = _ := hd.out 10 (by kernel_rfl)
          obtain ⟨c0, c1, c2, _⟩ := HBD.out _ hj.out
          have hk := hK.out
          simp only [t8, t10, Act.put, List.setIfInBounds_toArray, List.set_cons_zero, List.set_cons_succ] at hk
          have HK := Lib.hid hk
          clear hd hs hk hK
          go_simp
          exact HK.out _ _ hj.out (Below.refl _ _) (show _ = _ from rfl)
        refine ⟨?_, ?_⟩
        · intro v w' hj hd hs K hK
          have t8 : v 8 = _ := hd.out 8 (by kernel_rfl)
          have hk := hK.out
          simp only [t8, Act.put, List.setIfInBounds_toArray, List.set_cons_zero, List.set_cons_succ] at hk
          have HK := Lib.hid hk
          clear hd hs hk hK
          go_simp
          refine (new_any _).mono ?_
          rintro e w2 ⟨rfl, hw2⟩
          subst hw2
          exact HK.out _ _ (hj.out.alloc hj.out.size _) (below1 _ _) ⟨_, rfl, At.new _ _ _⟩
        refine ⟨?_, ?_⟩
        · intro v w' hj hd hs K hK
          have t8 : v 8 = _ := hd.out 8 (by kernel_rfl)
          obtain ⟨b12, t12, z12⟩ : NewSl 2 2 58 news (v 12) w' := hd.out 12 (by kernel_rfl)
          have hk := hK.out
          simp only [t8, t12, Act.put, List.setIfInBounds_toArray, List.set_cons_zero, List.set_cons_succ] at hk
          have HK := Lib.hid hk
          clear hd hs hk hK
          go_simp
          exact HK.out _ _ hj.out (Below.refl _ _) ⟨_, rfl, z12⟩
        refine ⟨?_, ?_⟩
        · intro v w' hj hd hs K hK
          have t8 : v 8 = _ := hd.out 8 (by kernel_rfl)
          obtain ⟨b13, t13, z13⟩ : NewPt 0 58 news (v 13) w' := hd.out 13 (by kernel_rfl)
          have c0 := z13.cell 0; have c1 := z13.cell 1; have c2 := z13.cell 2
          simp [news] at c0 c1 c2
          clear z13
          have hk := hK.out
          simp only [t8, t13, Act.put, List.setIfInBounds_toArray, List.set_cons_zero, List.set_cons_succ] at hk
          have HK := Lib.hid hk
          clear hd hs hk hK
          go_simp
          exact HK.out _ _ hj.out (Below.refl _ _) (show _ = _ from rfl)
        refine ⟨?_, ?_⟩
        · intro v w' hj hd hs K hK
          have t8 : v 8 = _ := hd.out 8 (by kernel_rfl)
          have t11 : v 11 = _ := hd.out 11 (by kernel_rfl)
          have t14 : v 14 = _ := hd.out 14 (by kernel_rfl)
          have hk := hK.out
          simp only [t8, t11, t14, Act.put, List.setIfInBounds_toArray, List.set_cons_zero, List.set_cons_succ] at hk
          have HK := Lib.hid hk
          clear hd hs hk hK
          go_simp
          exact HK.out _ _ hj.out (Below.refl _ _) (show _ = _ from rfl)
        refine ⟨?_, ?_⟩
        · intro v w' hj hd hs K hK
          have t8 : v 8 = _ := hd.out 8 (by kernel_rfl)
          have t15 : v 15 = _ := hd.out 15 (by kernel_rfl)
          have hk := hK.out
          simp only [t8, t15, Act.put, List.setIfInBounds_toArray, List.set_cons_zero, List.set_cons_succ] at hk
          have HK := Lib.hid hk
          clear hd hs hk hK
          go_simp
          exact HK.out _ _ hj.out (Below.refl _ _) (show _ = _ from rfl)
        refine ⟨?_, ?_⟩
        · intro v w' hj hd hs K hK
          have t16 : v 16 = _ := hd.out 16 (by kernel_rfl)
          have hk := hK.out
          simp only [t16, Act.put, List.setIfInBounds_toArray, List.set_cons_zero, List.set_cons_succ] at hk
          have HK := Lib.hid hk
          clear hd hs hk hK
          go_simp
          exact HK.out _ _ hj.out (Below.refl _ _) (show _ = _ from rfl)
        refine ⟨?_, ?_⟩
        · intro v w' hj hd hs K hK
          have t17 : v 17 = _ := hd.out 17 (by kernel_rfl)
          have hk := hK.out
          simp only [t17, Act.put, List.setIfInBounds_toArray, List.set_cons_zero, List.set_cons_succ] at hk
          have HK := Lib.hid hk
          clear hd hs hk hK
          go_simp
          exact HK.out _ _ hj.out (Below.refl _ _) (show _ = _ from rfl)
        refine ⟨?_, ?_⟩
        · intro v w' hj hd hs K hK
          have t17 : v 17 = _ := hd.out 17 (by kernel_rfl)
          have hk := hK.out
          simp only [t17, Act.put, List.setIfInBounds_toArray, List.set_cons_zero, List.set_cons_succ] at hk
          have HK := Lib.hid hk
          clear hd hs hk hK
          go_simp
          exact HK.out _ _ hj.out (Below.refl _ _) (show _ = _ from rfl)
        refine ⟨?_, ?_⟩
        · intro v w' hj hd hs K hK
          have t17 : v 17 = _ := hd.out 17 (by kernel_rfl)
          have hk := hK.out
          simp only [t17, Act.put, List.setIfInBounds_toArray, List.set_cons_zero, List.set_cons_succ] at hk
          have HK := Lib.hid hk
          clear hd hs hk hK
          go_simp
          exact HK.out _ _ hj.out (Below.refl _ _) (show _ = _ from rfl)
        refine ⟨?_, ?_⟩
        · intro v w' hj hd hs K hK
          have t17 : v 17 = _ := hd.out 17 (by kernel_rfl)
          have hk := hK.out
          simp only [t17, Act.put, List.setIfInBounds_toArray, List.set_cons_zero, List.set_cons_succ] at hk
          have HK := Lib.hid hk
          clear hd hs hk hK
          go_simp
          exact HK.out _ _ hj.out (Below.refl _ _) (show _ = _ from rfl)
        refine ⟨?_, ?_⟩
        · intro v w' hj hd hs K hK
          have t17 : v 17 = _ := hd.out 17 (by kernel_rfl)
          have hk := hK.out
          simp only [t17, Act.put, List.setIfInBounds_toArray, List.set_cons_zero, List.set_cons_succ] at hk
          have HK := Lib.hid hk
          clear hd hs hk hK
          go_simp
          exact HK.out _ _ hj.out (Below.refl _ _) (show _ = _ from rfl)
        refine ⟨?_, ?_⟩
        · intro v w' hj hd hs K hK
          have t17 : v 17 = _ := hd.out 17 (by kernel_rfl)
          have hk := hK.out
          simp only [t17, Act.put, List.setIfInBounds_toArray, List.set_cons_zero, List.set_cons_succ] at hk
          have HK := Lib.hid hk
          clear hd hs hk hK
          go_simp
          exact HK.out _ _ hj.out (Below.refl _ _) (show _ = _ from rfl)
        refine ⟨?_, ?_⟩
        · intro v w' hj hd hs K hK
          have t17 : v 17 = _ := hd.out 17 (by kernel_rfl)
          have hk := hK.out
          simp only [t17, Act.put, List.setIfInBounds_toArray, List.set_cons_zero, List.set_cons_succ] at hk
          have HK := Lib.hid hk
          clear hd hs hk hK
          go_simp
          exact HK.out _ _ hj.out (Below.refl _ _) (show _ = _ from rfl)
        refine ⟨?_, ?_⟩
        · intro v w' hj hd hs K hK
          have t17 : v 17 = _ := hd.out 17 (by kernel_rfl)
          have t24 : v 24 = _ := hd.out 24 (by kernel_rfl)
          have hk := hK.out
          simp only [t17, t24, Act.put, List.setIfInBounds_toArray, List.set_cons_zero, List.set_cons_succ] at hk
          have HK := Lib.hid hk
          clear hd hs hk hK
          go_simp
          exact HK.out _ _ hj.out (Below.refl _ _) (show _ = _ from rfl)
        trivial
      case hend =>
        intro v w2 hj hd
        have t25 : v 25 = _ := hd.out 25 (of_decide_eq_true (by kernel_rfl))
        have b2 := hj.out
        clear hj hd
        simp only [t25]
        go_wp2_with fail
        go_ret
        exact ⟨by rw [HR.out]; rfl, b2⟩
end Go.Proofs.YtphmicbpkljmfaaGreat
