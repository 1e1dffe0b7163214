/- The walk of the reference's Vars. -/
import Derived.Test.YtphmicbpkljmfaaGreatCBelow2
import Derived.Test.YtphmicbpkljmfaaGreatTwo
import Derived.Test.YtphmicbpkljmfaaGreatCRVal
import Derived.Deep.RegionLawGrows
import Derived.Deep.RegionLaw
import Derived.Deep.QuietTactic
import Derived.BigQuiet
import Derived.Outline
namespace Go.Proofs.YtphmicbpkljmfaaGreat
set_option linter.unusedVariables false
set_option linter.unusedSimpArgs false
open Go.RowKit
open Cx (N)
/-- A slice of the call's own, not nil. -/
def OwnSl (B n : Nat) (cs : List Value) : Value → World → Prop := fun x w => ∃ b k, x = .slice (some ⟨b, 0, none⟩) n k ∧ w.ownsRow B 3 1 x n cs
theorem lasting_ownSl {J : World → Prop} (B n : Nat) (cs : List Value) : Lasting J Onward (OwnSl B n cs) := fun x w w' _ hb ⟨b, k, e, h⟩ => ⟨b, k, e, own_below h hb⟩
/-- A slice of one number, of the call's own. -/
def OneSl (B : Nat) (y : Int) : Value → World → Prop := fun x w => ∃ b, x = .slice (some ⟨b, 0, none⟩) 1 1 ∧ B ≤ b ∧ At w b 3 [.int .i64 y].toArray
theorem lasting_oneSl {J : World → Prop} (B : Nat) (y : Int) : Lasting J Onward (OneSl B y) := fun x w w' _ hb ⟨b, e, h, ha⟩ => ⟨b, e, h, ha.next hb⟩
theorem below_none {w w' : World} (h : w.grownBy w' none) : Below w.heap.size w w' := ⟨h.os, h.tape, h.output, h.size, fun i hi => h.block i hi (fun e => by cases e)⟩
theorem insAt_le (x : Int) (out : List Int) : Cx.insAt x out ≤ out.length := by unfold Cx.insAt; exact (List.takeWhile_sublist _).length_le
theorem insAt_lt {x : Int} {out : List Int} {k : Nat} {y : Int} (h : k < Cx.insAt x out) (hy : out[k]? = some y) : y < x := by
  unfold Cx.insAt at h
  have hk : (out.takeWhile (fun y => decide (y < x)))[k]? = some y := by
    have := List.takeWhile_prefix (fun y => decide (y < x)) (l := out)
    obtain ⟨t, ht⟩ := this
    rw [← ht, List.getElem?_append_left h] at hy
    exact hy
  have hm := List.mem_of_getElem? hk
  have := List.all_eq_true.1 (List.all_takeWhile (p := fun y => decide (y < x)) (l := out)) y hm
  simpa using this
theorem insAt_stop {x : Int} {out : List Int} {y : Int} (hy : out[Cx.insAt x out]? = some y) : ¬ y < x := by
  induction out with
  | nil => simp [Cx.insAt] at hy
  | cons z r ih =>
    unfold Cx.insAt at hy ih
    rw [List.takeWhile_cons] at hy
    split at hy
    · exact ih (by simpa using hy)
    · rename_i h
      simp at hy
      subst hy
      simpa using h
theorem own_shape {w : World} {B n : Nat} {v : Value} {cs : List Value} (h : w.ownsRow B 3 1 v n cs) (hn : 0 < n) : OwnSl B n cs v w := by
  rcases h.2 with ⟨rfl, e⟩ | ⟨g, cap, cur, rfl, r⟩
  · omega
  · exact ⟨g, cap, rfl, h⟩
theorem own_of_at {w : World} {b B : Nat} {x : Value} (h : At w b 3 [x].toArray) (hB : B ≤ b) : w.ownsRow B 3 1 (.slice (some ⟨b, 0, none⟩) 1 1) 1 [x] :=
  ⟨rfl, Or.inr ⟨b, 1, #[x], rfl, hB, h, Nat.le_refl _, by unfold maxLen; omega, rfl, rfl⟩⟩
theorem own_news {w : World} {B b n k : Nat} {cs : List Value} (h : w.ownsRow B 3 1 (.slice (some ⟨b, 0, none⟩) n k) n cs) : ∀ j u, cs[j]? = some u → w.cell? ((⟨b, 0, none⟩ : Addr).add j) = some u := by
  obtain ⟨A, c, hv, _, _, hc⟩ := own_cells h
  injection hv with h1 h2 h3
  intro j u hu
  rcases hc with hc | ⟨g, hg, _, _, hc⟩
  · have : cs.length = n * 1 := h.1
    rw [hc] at this
    rw [List.getElem?_eq_none (by omega)] at hu; cases hu
  · rw [hg] at h1
    injection h1 with h1
    injection h1 with h1 _ _
    subst h1
    rw [add_off]
    exact hc j u hu
/-- The variables of the first k nodes. -/
def VarsAt (l : List N) (bs : List Bool) (k : Nat) (out : List Int) : Prop := out = Cx.varsTo l bs k
theorem VarsAt.no {l : List N} {bs : List Bool} {k : Nat} {out : List Int} {v : N} (h : VarsAt l bs k out) (hv : l[k]? = some v) (h2 : bs[k]? = some false ∨ ¬ v.o = 2) : VarsAt l bs (k + 1) out := by
  unfold VarsAt at *
  rw [Cx.varsTo_succ, ← h]
  unfold Cx.varsStep
  rcases h2 with h2 | h2
  · rw [List.getD_eq_getElem?_getD, h2]; rfl
  · split
    · have : Cx.varOf l k = none := by unfold Cx.varOf; rw [hv]; simp [h2]
      rw [this]
    · rfl
theorem VarsAt.yes {l : List N} {bs : List Bool} {k : Nat} {out : List Int} {v : N} (h : VarsAt l bs k out) (hv : l[k]? = some v) (hb : bs[k]? = some true) (h2 : v.o = 2) : VarsAt l bs (k + 1) (Cx.ins v.a out) := by
  unfold VarsAt at *
  rw [Cx.varsTo_succ, ← h]
  unfold Cx.varsStep
  rw [if_pos (by rw [List.getD_eq_getElem?_getD, hb]; rfl)]
  have : Cx.varOf l k = some v.a := by unfold Cx.varOf; rw [hv]; simp [h2]
  rw [this]
/-- Numbers in a slice of the call's own that is not nil. -/
def NS (w : World) (B G c : Nat) (xs : List Int) : Prop := w.ownsRow B 3 1 (.slice (some ⟨G, 0, none⟩) xs.length c) xs.length (icells xs)
theorem NS.cell {w : World} {B G c : Nat} {xs : List Int} (h : NS w B G c xs) {j : Nat} {x : Int} (hj : xs[j]? = some x) : w.cell? ⟨G, j, none⟩ = some (.int .i64 x) := by
  have := own_news h j (.int .i64 x) (by simp [icells, hj])
  rwa [add_off] at this
theorem icells_get {xs : List Int} {j : Nat} {u : Value} (h : (icells xs)[j]? = some u) : ∃ z, xs[j]? = some z ∧ Value.int .i64 z = u := by simpa [icells] using h
theorem NS.caps {w : World} {B G c : Nat} {xs : List Int} (h : NS w B G c xs) : xs.length ≤ c ∧ c ≤ maxLen ∧ B ≤ G ∧ G < w.heap.size := by
  obtain ⟨A, c', hv, h1, h2, _⟩ := own_cells h
  injection hv with _ _ e
  subst e
  have := own_lt h (g := G) rfl
  exact ⟨h1, h2, this.1, this.2⟩
set_option maxHeartbeats 8000000 in
set_option maxRecDepth 100000 in
theorem rvars_any (A : Option Addr) (c : Nat) (l : List N) (n : Int) (w : World) (hg : Cx.Good l) (hl : l.length ≤ 20000) (hA : Circ w A l) :
    Calls Tryz.prog 29 #[.slice A l.length c, .int .i64 n] w (NumsOut (Cx.vars l n) w) := by
  obtain ⟨R, hR⟩ : ∃ R, Cx.vars l n = R := ⟨_, rfl⟩
  have hRv : R = Cx.varsTo l (Cx.below l n) l.length := by rw [← hR]; rfl
  have hbl := Cx.below_len l n
  rw [hR]
  have HRV := Lib.hid hRv
  clear hR hRv
  obtain ⟨i0, hi0, hz0, hz1, hz2⟩ := info_parts int_info
  go_enter Tryz.func29, Tryz.ntmps29
  go_wp2_with fail
  refine (below_all A c l n _ hg hl hA).mono ?_
  rintro e w1 ⟨gb, rfl, hgb, ab, b1⟩
  rw [hbl]
  have HBL := Lib.hid hbl
  have o0 : NS (w1.alloc (.cells #[] 3)) w.heap.size w1.heap.size 0 [] := own_empty w1 3 1 w.heap.size b1.size
  have ab1 := ab.alloc (.cells #[] 3)
  have bw1 := b1.alloc b1.size (.cells #[] 3)
  generalize Cx.below l n = bs at *
  clear hbl b1 ab
  go_wp2_with fail
  go_loopw [6, 7] (fun z u wr => ∃ (k : Nat) (out : List Int) (G kc : Nat), k ≤ l.length ∧ out.length ≤ k ∧ u = .int .i64 k ∧ z = .slice (some ⟨G, 0, none⟩) out.length kc ∧ NS wr w.heap.size G kc out ∧ Hid (VarsAt l bs k out) ∧ At wr gb 4 (bcells bs).toArray ∧ Below w.heap.size w wr) (fun _ u _ => l.length - (intOf u).toNat)
  case atStart => exact ⟨0, [], w1.heap.size, 0, by omega, by simp, rfl, rfl, o0, Lib.hid rfl, ab1, bw1⟩
  case round =>
    obtain ⟨k, out, G, kc, hk, hok, rfl, rfl, ho, HV, hab, hbw⟩ := hrel
    clear o0 ab1 bw1
    obtain ⟨q1, q2, q3, q4⟩ := ho.caps
    unfold maxLen at q2
    by_cases h1 : k < l.length
    · have d1 : decide ((k : Int) < (l.length : Int)) = true := by simp; omega
      have d1' : decide (k < l.length) = true := by simp; omega
      obtain ⟨g, o, rfl, hgl, c0, c1, c2⟩ := (hA.below hbw).at h1
      have e1 := getElem_of h1
      obtain ⟨b, eb⟩ : ∃ b, bs[k]? = some b := ⟨_, getElem_of (show k < bs.length by rw [HBL.out]; omega)⟩
      have x0 := hab.bools eb
      have j1 : (0 : Int) ≤ (k : Int) := by omega
      have j2 : (k : Int) < (l.length : Int) := by omega
      generalize l[k] = v at *
      cases b
      · have HN := Lib.hid (HV.out.no e1 (Or.inl eb))
        clear e1 eb
        go_wp2_with fail
        go_roundw
        case rel => exact ⟨k + 1, out, G, kc, by omega, by omega, by go_num, rfl, ho, HN, hab, hbw⟩
        case measure => simp [intOf]; omega
      · by_cases h2 : v.o = 2
        · have t2 : (v.o == 2) = true := by simpa using h2
          have t2' : (v.o != 2) = false := by simp [h2]
          have HN := Lib.hid (HV.out.yes e1 eb h2)
          clear e1 eb h2
          obtain ⟨x, hx⟩ : ∃ x, v.a = x := ⟨_, rfl⟩
          rw [hx] at c1 HN
          clear hx
          go_wp2_with fail
          obtain ⟨wo, rfl⟩ : ∃ wo : World, wo = wr := ⟨_, rfl⟩
          go_loopw [8] (fun z wq => ∃ j q : Nat, j ≤ Cx.insAt x out ∧ z = .int .i64 j ∧ wq = wo.drewN q) (fun z _ => Cx.insAt x out - (intOf z).toNat)
          case atStart => exact ⟨0, 0, by omega, rfl, rfl⟩
          case round =>
            obtain ⟨j, q, hj, rfl, rfl⟩ := hrel
            have hile := insAt_le x out
            have i1 : (0 : Int) ≤ (j : Int) := by omega
            by_cases h3 : j < Cx.insAt x out
            · have h4 : j < out.length := by omega
              have d3 : decide ((j : Int) < (out.length : Int)) = true := by simp; omega
              have d3' : decide (j < out.length) = true := by simp; omega
              have i2 : (j : Int) < (out.length : Int) := by omega
              have ey := getElem_of h4
              have hlt := insAt_lt h3 ey
              have y0 := ho.cell ey
              generalize out[j] = y at *
              have d4 : decide (y < x) = true := by simpa using hlt
              clear ey
              go_wp2_with fail
              go_quiet (fail)
              go_wp2_with fail
              go_roundw
              case rel => exact ⟨j + 1, _, by omega, by go_num, rfl⟩
              case measure => simp [intOf]; omega
            · obtain ⟨at', ha⟩ : ∃ at', Cx.insAt x out = at' := ⟨_, rfl⟩
              obtain rfl : j = at' := by omega
              have HIN := Lib.hid (show Cx.ins x out = out.take j ++ x :: out.drop j by rw [Cx.ins_eq, ha])
              rw [ha] at h3 hile
              by_cases h4 : j < out.length
              · have d3 : decide ((j : Int) < (out.length : Int)) = true := by simp; omega
                have d3' : decide (j < out.length) = true := by simp; omega
                have i2 : (j : Int) < (out.length : Int) := by omega
                have ey := getElem_of h4
                have hge := insAt_stop (by rw [ha]; exact ey)
                have y0 := ho.cell ey
                generalize out[j] = y at *
                have d4 : decide (y < x) = false := by simpa using hge
                clear ey ha hj hge
                go_wp2_with fail
                go_quiet (fail)
                go_wp2_with fail
                clear y0
                obtain ⟨W1, hW1⟩ : ∃ W1, W1 = (wo.drewN q).drewN nq := ⟨_, rfl⟩
                have bW1 : Below wo.heap.size wo W1 := by rw [hW1]; exact below_drewN (below_drewN (Below.refl _ _) _) _
                rw [← hW1]
                clear hW1
                have ho1 : NS W1 w.heap.size G kc out := own_below ho bW1
                have hab1 := hab.next bW1
                have HB1 := Lib.hid (hbw.trans (bW1.mono hbw.size))
                have KE := Lib.hid (fun W' (h : Below W1.heap.size W1 W') => (h.cell (p := ⟨g, o + k * 3 + 1, none⟩) (Nat.lt_of_lt_of_le hgl bW1.size)).trans ((bW1.cell hgl).trans c1))
                have HDR := Lib.hid (fun W' (h : Below W1.heap.size W1 W') => show ∀ j' u, (icells (out.drop j))[j']? = some u → W'.cell? ((⟨G, j, none⟩ : Addr).add j') = some u from fun j' u hu => by
                  rw [add_at]
                  obtain ⟨z, hz, rfl⟩ := icells_get hu
                  rw [List.getElem?_drop] at hz
                  exact (NS.cell (own_below ho1 h) hz))
                have HTK := Lib.hid (fun W' (h : Below W1.heap.size W1 W') => show ∀ j' u, (icells (out.take j))[j']? = some u → W'.cell? ((⟨G, 0, none⟩ : Addr).add j') = some u from fun j' u hu => by
                  rw [add_off]
                  obtain ⟨z, hz, rfl⟩ := icells_get hu
                  rw [List.getElem?_take] at hz
                  split at hz
                  · exact (NS.cell (own_below ho1 h) hz)
                  · cases hz)
                have hol : out.length ≤ 20000 := by omega
                have r1 : j ≤ kc := by omega
                have r2 : j ≤ out.length := by omega
                have r3 : j < kc := by omega
                have r4 : ¬ kc = j := by omega
                clear ho c1 c0 c2 x0
                refine' wp_region_each _ (Below W1.heap.size W1) (Onward) [Vl, Vl, Vl, Vl, Vl, Vl, Vl, Vl, Vl, OneSl W1.heap.size x, Vl, Vl, Vl, OwnSl W1.heap.size (out.length - j + 1) (icells (x :: out.drop j)), OwnSl W1.heap.size (out.length + 1) (icells (Cx.ins x out)), OwnSl W1.heap.size (out.length + 1) (icells (Cx.ins x out))] ?hF (by kernel_rfl) (by kernel_rfl) (by kernel_rfl) ((Below.refl _ _).drew) (lasting_cons (lasting_vl) (lasting_cons (lasting_vl) (lasting_cons (lasting_vl) (lasting_cons (lasting_vl) (lasting_cons (lasting_vl) (lasting_cons (lasting_vl) (lasting_cons (lasting_vl) (lasting_cons (lasting_vl) (lasting_cons (lasting_vl) (lasting_cons (lasting_oneSl _ _) (lasting_cons (lasting_vl) (lasting_cons (lasting_vl) (lasting_cons (lasting_vl) (lasting_cons (lasting_ownSl _ _ _) (lasting_cons (lasting_ownSl _ _ _) (lasting_cons (lasting_ownSl _ _ _) (lasting_none))))))))))))))))) ?hops ?hend
                case hF => (intro v; simp only [over, Act.put, List.setIfInBounds_toArray, List.set_cons_zero, List.set_cons_succ, Nat.zero_add, Nat.reduceAdd]; exact rfl)
                case hops =>
                  refine ⟨?_, ?_⟩
                  · intro v w' hj hd hs K hK
                    have s15 : v 15 = .slice (some ⟨G, 0, none⟩) out.length kc := hs.out 15 (by kernel_rfl)
                    have hk := hK.out
                    simp only [s15, Act.put, List.setIfInBounds_toArray, List.set_cons_zero, List.set_cons_succ] at hk
                    have HK := Lib.hid hk
                    clear hd hs hk hK
                    go_simp
                    exact HK.out _ _ hj.out (Below.refl _ _) (show _ = _ from rfl)
                  refine ⟨?_, ?_⟩
                  · intro v w' hj hd hs K hK
                    have hk := hK.out
                    simp only [Act.put, List.setIfInBounds_toArray, List.set_cons_zero, List.set_cons_succ] at hk
                    have HK := Lib.hid hk
                    clear hd hs hk hK
                    go_simp
                    exact HK.out _ _ hj.out (Below.refl _ _) (show _ = _ from rfl)
                  refine ⟨?_, ?_⟩
                  · intro v w' hj hd hs K hK
                    have hk := hK.out
                    simp only [Act.put, List.setIfInBounds_toArray, List.set_cons_zero, List.set_cons_succ] at hk
                    have HK := Lib.hid hk
                    clear hd hs hk hK
                    go_simp
                    exact HK.out _ _ hj.out (Below.refl _ _) (show _ = _ from rfl)
                  refine ⟨?_, ?_⟩
                  · intro v w' hj hd hs K hK
                    have t0 : v 0 = _ := hd.out 0 (by kernel_rfl)
                    have t1 : v 1 = _ := hd.out 1 (by kernel_rfl)
                    have t2 : v 2 = _ := hd.out 2 (by kernel_rfl)
                    have hk := hK.out
                    simp only [t0, t1, t2, Act.put, List.setIfInBounds_toArray, List.set_cons_zero, List.set_cons_succ] at hk
                    have HK := Lib.hid hk
                    clear hd hs hk hK
                    go_simp
                    exact HK.out _ _ hj.out (Below.refl _ _) (show _ = _ from rfl)
                  refine ⟨?_, ?_⟩
                  · intro v w' hj hd hs K hK
                    have hk := hK.out
                    simp only [Act.put, List.setIfInBounds_toArray, List.set_cons_zero, List.set_cons_succ] at hk
                    have HK := Lib.hid hk
                    clear hd hs hk hK
                    go_simp
                    exact HK.out _ _ hj.out (Below.refl _ _) (show _ = _ from rfl)
                  refine ⟨?_, ?_⟩
                  · intro v w' hj hd hs K hK
                    have hk := hK.out
                    simp only [Act.put, List.setIfInBounds_toArray, List.set_cons_zero, List.set_cons_succ] at hk
                    have HK := Lib.hid hk
                    clear hd hs hk hK
                    go_simp
                    exact HK.out _ _ hj.out (Below.refl _ _) (show _ = _ from rfl)
                  refine ⟨?_, ?_⟩
                  · intro v w' hj hd hs K hK
                    have t4 : v 4 = _ := hd.out 4 (by kernel_rfl)
                    have t5 : v 5 = _ := hd.out 5 (by kernel_rfl)
                    have hk := hK.out
                    simp only [t4, t5, Act.put, List.setIfInBounds_toArray, List.set_cons_zero, List.set_cons_succ] at hk
                    have HK := Lib.hid hk
                    clear hd hs hk hK
                    go_simp
                    exact HK.out _ _ hj.out (Below.refl _ _) (show _ = _ from rfl)
                  refine ⟨?_, ?_⟩
                  · intro v w' hj hd hs K hK
                    have t6 : v 6 = _ := hd.out 6 (by kernel_rfl)
                    have hk := hK.out
                    simp only [t6, Act.put, List.setIfInBounds_toArray, List.set_cons_zero, List.set_cons_succ] at hk
                    have HK := Lib.hid hk
                    clear hd hs hk hK
                    go_simp
                    exact HK.out _ _ hj.out (Below.refl _ _) (show _ = _ from rfl)
                  refine ⟨?_, ?_⟩
                  · intro v w' hj hd hs K hK
                    have t7 : v 7 = _ := hd.out 7 (by kernel_rfl)
                    have c1 := KE.out _ hj.out
                    have hk := hK.out
                    simp only [t7, Act.put, List.setIfInBounds_toArray, List.set_cons_zero, List.set_cons_succ] at hk
                    have HK := Lib.hid hk
                    clear hd hs hk hK
                    go_simp
                    exact HK.out _ _ hj.out (Below.refl _ _) (show _ = _ from rfl)
                  refine ⟨?_, ?_⟩
                  · intro v w' hj hd hs K hK
                    have t8 : v 8 = _ := hd.out 8 (by kernel_rfl)
                    have hk := hK.out
                    simp only [t8, Act.put, List.setIfInBounds_toArray, List.set_cons_zero, List.set_cons_succ] at hk
                    have HK := Lib.hid hk
                    clear hd hs hk hK
                    go_simp
                    exact HK.out _ _ (hj.out.alloc hj.out.size _) (below1 _ _) ⟨_, rfl, hj.out.size, At.new _ _ _⟩
                  refine ⟨?_, ?_⟩
                  · intro v w' hj hd hs K hK
                    have s15 : v 15 = .slice (some ⟨G, 0, none⟩) out.length kc := hs.out 15 (by kernel_rfl)
                    have hk := hK.out
                    simp only [s15, Act.put, List.setIfInBounds_toArray, List.set_cons_zero, List.set_cons_succ] at hk
                    have HK := Lib.hid hk
                    clear hd hs hk hK
                    go_simp
                    exact HK.out _ _ hj.out (Below.refl _ _) (show _ = _ from rfl)
                  refine ⟨?_, ?_⟩
                  · intro v w' hj hd hs K hK
                    have hk := hK.out
                    simp only [Act.put, List.setIfInBounds_toArray, List.set_cons_zero, List.set_cons_succ] at hk
                    have HK := Lib.hid hk
                    clear hd hs hk hK
                    go_simp
                    exact HK.out _ _ hj.out (Below.refl _ _) (show _ = _ from rfl)
                  refine ⟨?_, ?_⟩
                  · intro v w' hj hd hs K hK
                    have t10 : v 10 = _ := hd.out 10 (by kernel_rfl)
                    have t11 : v 11 = _ := hd.out 11 (by kernel_rfl)
                    have hk := hK.out
                    simp only [t10, t11, Act.put, List.setIfInBounds_toArray, List.set_cons_zero, List.set_cons_succ] at hk
                    have HK := Lib.hid hk
                    clear hd hs hk hK
                    go_simp
                    exact HK.out _ _ hj.out (Below.refl _ _) (show _ = _ from rfl)
                  refine ⟨?_, ?_⟩
                  · intro v w' hj hd hs K hK
                    obtain ⟨b9, t9, y9, z9⟩ : OneSl W1.heap.size x (v 9) w' := hd.out 9 (by kernel_rfl)
                    have t12 : v 12 = _ := hd.out 12 (by kernel_rfl)
                    have hk := hK.out
                    rw [if_pos (show Region.wanted _ _ = true from rfl)]
                    simp only [t9, t12] at hk ⊢
                    have HK := Lib.hid hk
                    clear hd hs hk hK
                    refine wp_of_step (ops := #[]) (E := True) rfl ?_
                    refine step_append_grows (by rfl) (.tmp 59) (.tmp 62) 24 (by rfl) 3 i0 _ 1 8 Tryz.underlying24 hi0 hz0 hz1 hz2 rfl (by omega) (some ⟨b9, 0, none⟩) 1 1 [.int .i64 x] (by rfl) (fun h => by cases h) rfl (fun ad h => by obtain rfl := Option.some.inj h; exact At.news z9) ⟨G, j, none⟩ (out.length - j) (kc - j) (icells (out.drop j)) (by rfl) (by rw [icells_len, List.length_drop]; omega) (HDR.out _ hj.out) (icells_one _) (by omega) (by unfold maxLen; omega) (by omega) ?_
                    intro v' w2 o2 g2
                    exact HK.out _ _ (hj.out.trans ((below_none g2).mono hj.out.size)) (below_none g2) (own_shape (by rw [show 1 + (out.length - j) = out.length - j + 1 by omega] at o2; exact own_mono o2 hj.out.size) (by omega))
                  refine ⟨?_, ?_⟩
                  · intro v w' hj hd hs K hK
                    have t3 : v 3 = _ := hd.out 3 (by kernel_rfl)
                    obtain ⟨b13, k13, t13, z13⟩ : OwnSl W1.heap.size (out.length - j + 1) (icells (x :: out.drop j)) (v 13) w' := hd.out 13 (by kernel_rfl)
                    rw [t13] at z13
                    have hk := hK.out
                    rw [if_pos (show Region.wanted _ _ = true from rfl)]
                    simp only [t3, t13] at hk ⊢
                    have HK := Lib.hid hk
                    clear hd hs hk hK
                    refine wp_of_step (ops := #[]) (E := True) rfl ?_
                    refine step_append_grows (by rfl) (.tmp 53) (.tmp 63) 24 (by rfl) 3 i0 _ 1 8 Tryz.underlying24 hi0 hz0 hz1 hz2 rfl (by omega) (some ⟨G, 0, none⟩) j j (icells (out.take j)) (by rfl) (fun h => by cases h) (by rw [icells_len, List.length_take]; omega) (fun ad h => by obtain rfl := Option.some.inj h; exact HTK.out _ hj.out) ⟨b13, 0, none⟩ (out.length - j + 1) k13 (icells (x :: out.drop j)) (by rfl) (by rw [icells_len, List.length_cons, List.length_drop]; omega) (own_news z13) (icells_one _) (by omega) (by unfold maxLen; omega) (by omega) ?_
                    intro v' w2 o2 g2
                    exact HK.out _ _ (hj.out.trans ((below_none g2).mono hj.out.size)) (below_none g2) (own_shape (by rw [show j + (out.length - j + 1) = out.length + 1 by omega, ← icells_app, ← HIN.out] at o2; exact own_mono o2 hj.out.size) (by omega))
                  refine ⟨?_, ?_⟩
                  · intro v w' hj hd hs K hK
                    obtain ⟨b14, k14, t14, z14⟩ : OwnSl W1.heap.size (out.length + 1) (icells (Cx.ins x out)) (v 14) w' := hd.out 14 (by kernel_rfl)
                    have hk := hK.out
                    simp only [t14, Act.put, List.setIfInBounds_toArray, List.set_cons_zero, List.set_cons_succ] at hk
                    have HK := Lib.hid hk
                    clear hd hs hk hK
                    go_simp
                    exact HK.out _ _ hj.out (Below.refl _ _) ⟨b14, k14, rfl, by rw [← t14]; exact z14⟩
                  trivial
                case hend =>
                  intro v w2 hj hd
                  obtain ⟨b', kc', t15, z15⟩ : OwnSl W1.heap.size (out.length + 1) (icells (Cx.ins x out)) (v 15) w2 := hd.out 15 (of_decide_eq_true (by kernel_rfl))
                  have b2 := hj.out
                  clear hj hd
                  simp only [t15]
                  have hln : (Cx.ins x out).length = out.length + 1 := by rw [(Cx.ins_perm x out).length_eq]; rfl
                  have z16 : NS w2 w.heap.size b' kc' (Cx.ins x out) := by unfold NS; rw [hln, ← t15]; exact own_mono z15 HB1.out.size
                  have hb2 := HB1.out.trans (b2.mono HB1.out.size)
                  rw [← hln]
                  have HX := Lib.hid hln
                  clear t15 z15 hln
                  go_wp2_with fail
                  go_roundw
                  case rel => exact ⟨k + 1, Cx.ins x out, b', kc', by omega, by rw [HX.out]; omega, by go_num, rfl, z16, HN, hab1.next b2, hb2⟩
                  case measure => simp [intOf]; omega
              · have d3 : decide ((j : Int) < (out.length : Int)) = false := by simp; omega
                have d3' : decide (j < out.length) = false := by simp; omega
                clear ha hj
                go_wp2_with fail
                go_quiet (fail)
                go_wp2_with fail
                have hjl : j = out.length := by omega
                have HLN := Lib.hid (show out.length - j + 1 = 1 by omega)
                have HL0 := Lib.hid (show out.length - j = 0 by omega)
                have HDN := Lib.hid (show out.drop j = [] by rw [List.drop_eq_nil_of_le]; omega)
                clear hjl
                by_cases hkc : kc = j
                · obtain rfl : j = kc := hkc.symm
                  obtain ⟨W1, hW1⟩ : ∃ W1, W1 = (wo.drewN q).drewN nq := ⟨_, rfl⟩
                  have bW1 : Below wo.heap.size wo W1 := by rw [hW1]; exact below_drewN (below_drewN (Below.refl _ _) _) _
                  rw [← hW1]
                  clear hW1
                  have ho1 : NS W1 w.heap.size G j out := own_below ho bW1
                  have hab1 := hab.next bW1
                  have HB1 := Lib.hid (hbw.trans (bW1.mono hbw.size))
                  have KE := Lib.hid (fun W' (h : Below W1.heap.size W1 W') => (h.cell (p := ⟨g, o + k * 3 + 1, none⟩) (Nat.lt_of_lt_of_le hgl bW1.size)).trans ((bW1.cell hgl).trans c1))
                  have HDR := Lib.hid (fun W' (h : Below W1.heap.size W1 W') => show ∀ j' u, (icells (out.drop j))[j']? = some u → W'.cell? ((⟨G, j, none⟩ : Addr).add j') = some u from fun j' u hu => by
                    rw [add_at]
                    obtain ⟨z, hz, rfl⟩ := icells_get hu
                    rw [List.getElem?_drop] at hz
                    exact (NS.cell (own_below ho1 h) hz))
                  have HTK := Lib.hid (fun W' (h : Below W1.heap.size W1 W') => show ∀ j' u, (icells (out.take j))[j']? = some u → W'.cell? ((⟨G, 0, none⟩ : Addr).add j') = some u from fun j' u hu => by
                    rw [add_off]
                    obtain ⟨z, hz, rfl⟩ := icells_get hu
                    rw [List.getElem?_take] at hz
                    split at hz
                    · exact (NS.cell (own_below ho1 h) hz)
                    · cases hz)
                  have hol : out.length ≤ 20000 := by omega
                  have r1 : j ≤ j := by omega
                  have r2 : j ≤ out.length := by omega
                  clear ho c1 c0 c2 x0
                  have HOL := Lib.hid (show out.length = j by omega)
                  refine' wp_region_each _ (Below W1.heap.size W1) (Onward) [Vl, Vl, Vl, Vl, Vl, Vl, Vl, Vl, Vl, OneSl W1.heap.size x, Vl, Vl, Vl, OwnSl W1.heap.size (out.length - j + 1) (icells (x :: out.drop j)), OwnSl W1.heap.size (out.length + 1) (icells (Cx.ins x out)), OwnSl W1.heap.size (out.length + 1) (icells (Cx.ins x out))] ?hF (by kernel_rfl) (by kernel_rfl) (by kernel_rfl) ((Below.refl _ _).drew) (lasting_cons (lasting_vl) (lasting_cons (lasting_vl) (lasting_cons (lasting_vl) (lasting_cons (lasting_vl) (lasting_cons (lasting_vl) (lasting_cons (lasting_vl) (lasting_cons (lasting_vl) (lasting_cons (lasting_vl) (lasting_cons (lasting_vl) (lasting_cons (lasting_oneSl _ _) (lasting_cons (lasting_vl) (lasting_cons (lasting_vl) (lasting_cons (lasting_vl) (lasting_cons (lasting_ownSl _ _ _) (lasting_cons (lasting_ownSl _ _ _) (lasting_cons (lasting_ownSl _ _ _) (lasting_none))))))))))))))))) ?hops ?hend
                  case hF => (intro v; simp only [over, Act.put, List.setIfInBounds_toArray, List.set_cons_zero, List.set_cons_succ, Nat.zero_add, Nat.reduceAdd]; exact rfl)
                  case hops =>
                    refine ⟨?_, ?_⟩
                    · intro v w' hj hd hs K hK
                      have s15 : v 15 = .slice (some ⟨G, 0, none⟩) out.length j := hs.out 15 (by kernel_rfl)
                      have hk := hK.out
                      simp only [s15, Act.put, List.setIfInBounds_toArray, List.set_cons_zero, List.set_cons_succ] at hk
                      have HK := Lib.hid hk
                      clear hd hs hk hK
                      go_simp
                      exact HK.out _ _ hj.out (Below.refl _ _) (show _ = _ from rfl)
                    refine ⟨?_, ?_⟩
                    · intro v w' hj hd hs K hK
                      have hk := hK.out
                      simp only [Act.put, List.setIfInBounds_toArray, List.set_cons_zero, List.set_cons_succ] at hk
                      have HK := Lib.hid hk
                      clear hd hs hk hK
                      go_simp
                      exact HK.out _ _ hj.out (Below.refl _ _) (show _ = _ from rfl)
                    refine ⟨?_, ?_⟩
                    · intro v w' hj hd hs K hK
                      have hk := hK.out
                      simp only [Act.put, List.setIfInBounds_toArray, List.set_cons_zero, List.set_cons_succ] at hk
                      have HK := Lib.hid hk
                      clear hd hs hk hK
                      go_simp
                      exact HK.out _ _ hj.out (Below.refl _ _) (show _ = _ from rfl)
                    refine ⟨?_, ?_⟩
                    · intro v w' hj hd hs K hK
                      have t0 : v 0 = _ := hd.out 0 (by kernel_rfl)
                      have t1 : v 1 = _ := hd.out 1 (by kernel_rfl)
                      have t2 : v 2 = _ := hd.out 2 (by kernel_rfl)
                      have hk := hK.out
                      simp only [t0, t1, t2, Act.put, List.setIfInBounds_toArray, List.set_cons_zero, List.set_cons_succ] at hk
                      have HK := Lib.hid hk
                      clear hd hs hk hK
                      go_simp
                      exact HK.out _ _ hj.out (Below.refl _ _) (show _ = _ from rfl)
                    refine ⟨?_, ?_⟩
                    · intro v w' hj hd hs K hK
                      have hk := hK.out
                      simp only [Act.put, List.setIfInBounds_toArray, List.set_cons_zero, List.set_cons_succ] at hk
                      have HK := Lib.hid hk
                      clear hd hs hk hK
                      go_simp
                      exact HK.out _ _ hj.out (Below.refl _ _) (show _ = _ from rfl)
                    refine ⟨?_, ?_⟩
                    · intro v w' hj hd hs K hK
                      have hk := hK.out
                      simp only [Act.put, List.setIfInBounds_toArray, List.set_cons_zero, List.set_cons_succ] at hk
                      have HK := Lib.hid hk
                      clear hd hs hk hK
                      go_simp
                      exact HK.out _ _ hj.out (Below.refl _ _) (show _ = _ from rfl)
                    refine ⟨?_, ?_⟩
                    · intro v w' hj hd hs K hK
                      have t4 : v 4 = _ := hd.out 4 (by kernel_rfl)
                      have t5 : v 5 = _ := hd.out 5 (by kernel_rfl)
                      have hk := hK.out
                      simp only [t4, t5, Act.put, List.setIfInBounds_toArray, List.set_cons_zero, List.set_cons_succ] at hk
                      have HK := Lib.hid hk
                      clear hd hs hk hK
                      go_simp
                      exact HK.out _ _ hj.out (Below.refl _ _) (show _ = _ from rfl)
                    refine ⟨?_, ?_⟩
                    · intro v w' hj hd hs K hK
                      have t6 : v 6 = _ := hd.out 6 (by kernel_rfl)
                      have hk := hK.out
                      simp only [t6, Act.put, List.setIfInBounds_toArray, List.set_cons_zero, List.set_cons_succ] at hk
                      have HK := Lib.hid hk
                      clear hd hs hk hK
                      go_simp
                      exact HK.out _ _ hj.out (Below.refl _ _) (show _ = _ from rfl)
                    refine ⟨?_, ?_⟩
                    · intro v w' hj hd hs K hK
                      have t7 : v 7 = _ := hd.out 7 (by kernel_rfl)
                      have c1 := KE.out _ hj.out
                      have hk := hK.out
                      simp only [t7, Act.put, List.setIfInBounds_toArray, List.set_cons_zero, List.set_cons_succ] at hk
                      have HK := Lib.hid hk
                      clear hd hs hk hK
                      go_simp
                      exact HK.out _ _ hj.out (Below.refl _ _) (show _ = _ from rfl)
                    refine ⟨?_, ?_⟩
                    · intro v w' hj hd hs K hK
                      have t8 : v 8 = _ := hd.out 8 (by kernel_rfl)
                      have hk := hK.out
                      simp only [t8, Act.put, List.setIfInBounds_toArray, List.set_cons_zero, List.set_cons_succ] at hk
                      have HK := Lib.hid hk
                      clear hd hs hk hK
                      go_simp
                      exact HK.out _ _ (hj.out.alloc hj.out.size _) (below1 _ _) ⟨_, rfl, hj.out.size, At.new _ _ _⟩
                    refine ⟨?_, ?_⟩
                    · intro v w' hj hd hs K hK
                      have s15 : v 15 = .slice (some ⟨G, 0, none⟩) out.length j := hs.out 15 (by kernel_rfl)
                      have hk := hK.out
                      simp only [s15, Act.put, List.setIfInBounds_toArray, List.set_cons_zero, List.set_cons_succ] at hk
                      have HK := Lib.hid hk
                      clear hd hs hk hK
                      go_simp
                      exact HK.out _ _ hj.out (Below.refl _ _) (show _ = _ from rfl)
                    refine ⟨?_, ?_⟩
                    · intro v w' hj hd hs K hK
                      have hk := hK.out
                      simp only [Act.put, List.setIfInBounds_toArray, List.set_cons_zero, List.set_cons_succ] at hk
                      have HK := Lib.hid hk
                      clear hd hs hk hK
                      go_simp
                      exact HK.out _ _ hj.out (Below.refl _ _) (show _ = _ from rfl)
                    refine ⟨?_, ?_⟩
                    · intro v w' hj hd hs K hK
                      have t10 : v 10 = _ := hd.out 10 (by kernel_rfl)
                      have t11 : v 11 = _ := hd.out 11 (by kernel_rfl)
                      have hk := hK.out
                      simp only [t10, t11, Act.put, List.setIfInBounds_toArray, List.set_cons_zero, List.set_cons_succ] at hk
                      have HK := Lib.hid hk
                      clear hd hs hk hK
                      go_simp
                      exact HK.out _ _ hj.out (Below.refl _ _) (show _ = _ from rfl)
                    refine ⟨?_, ?_⟩
                    · intro v w' hj hd hs K hK
                      obtain ⟨b9, t9, y9, z9⟩ : OneSl W1.heap.size x (v 9) w' := hd.out 9 (by kernel_rfl)
                      have t12 : v 12 = _ := hd.out 12 (by kernel_rfl)
                      have hk := hK.out
                      rw [if_pos (show Region.wanted _ _ = true from rfl)]
                      simp only [t9, t12] at hk ⊢
                      have HK := Lib.hid hk
                      clear hd hs hk hK
                      refine wp_of_step (ops := #[]) (E := True) rfl ?_
                      refine step_append_room (by rfl) (.tmp 59) (.tmp 62) 24 (by rfl) 3 i0 1 Tryz.underlying24 hi0 hz1 b9 0 1 1 (by rfl) ⟨G, 0, none⟩ 0 0 [] (by rfl) rfl (fun j u h => by simp at h) (fun u h => by cases h) (by omega) (fun j h => by simp at h) ?_
                      exact HK.out _ _ hj.out (Below.refl _ _) ⟨b9, 1, by rw [HLN.out], by rw [HLN.out, HDN.out]; exact own_of_at z9 y9⟩
                    refine ⟨?_, ?_⟩
                    · intro v w' hj hd hs K hK
                      have t3 : v 3 = _ := hd.out 3 (by kernel_rfl)
                      obtain ⟨b13, k13, t13, z13⟩ : OwnSl W1.heap.size (out.length - j + 1) (icells (x :: out.drop j)) (v 13) w' := hd.out 13 (by kernel_rfl)
                      rw [t13] at z13
                      have hk := hK.out
                      rw [if_pos (show Region.wanted _ _ = true from rfl)]
                      simp only [t3, t13] at hk ⊢
                      have HK := Lib.hid hk
                      clear hd hs hk hK
                      refine wp_of_step (ops := #[]) (E := True) rfl ?_
                      refine step_append_grows (by rfl) (.tmp 53) (.tmp 63) 24 (by rfl) 3 i0 _ 1 8 Tryz.underlying24 hi0 hz0 hz1 hz2 rfl (by omega) (some ⟨G, 0, none⟩) j j (icells (out.take j)) (by rfl) (fun h => by cases h) (by rw [icells_len, List.length_take]; omega) (fun ad h => by obtain rfl := Option.some.inj h; exact HTK.out _ hj.out) ⟨b13, 0, none⟩ (out.length - j + 1) k13 (icells (x :: out.drop j)) (by rfl) (by rw [icells_len, List.length_cons, List.length_drop]; omega) (own_news z13) (icells_one _) (by omega) (by unfold maxLen; omega) (by omega) ?_
                      intro v' w2 o2 g2
                      exact HK.out _ _ (hj.out.trans ((below_none g2).mono hj.out.size)) (below_none g2) (own_shape (by rw [show j + (out.length - j + 1) = out.length + 1 by omega, ← icells_app, ← HIN.out] at o2; exact own_mono o2 hj.out.size) (by omega))
                    refine ⟨?_, ?_⟩
                    · intro v w' hj hd hs K hK
                      obtain ⟨b14, k14, t14, z14⟩ : OwnSl W1.heap.size (out.length + 1) (icells (Cx.ins x out)) (v 14) w' := hd.out 14 (by kernel_rfl)
                      have hk := hK.out
                      simp only [t14, Act.put, List.setIfInBounds_toArray, List.set_cons_zero, List.set_cons_succ] at hk
                      have HK := Lib.hid hk
                      clear hd hs hk hK
                      go_simp
                      exact HK.out _ _ hj.out (Below.refl _ _) ⟨b14, k14, rfl, by rw [← t14]; exact z14⟩
                    trivial
                  case hend =>
                    intro v w2 hj hd
                    obtain ⟨b', j', t15, z15⟩ : OwnSl W1.heap.size (out.length + 1) (icells (Cx.ins x out)) (v 15) w2 := hd.out 15 (of_decide_eq_true (by kernel_rfl))
                    have b2 := hj.out
                    clear hj hd
                    simp only [t15]
                    have hln : (Cx.ins x out).length = out.length + 1 := by rw [(Cx.ins_perm x out).length_eq]; rfl
                    have z16 : NS w2 w.heap.size b' j' (Cx.ins x out) := by unfold NS; rw [hln, ← t15]; exact own_mono z15 HB1.out.size
                    have hb2 := HB1.out.trans (b2.mono HB1.out.size)
                    rw [← hln]
                    have HX := Lib.hid hln
                    clear t15 z15 hln
                    go_wp2_with fail
                    go_roundw
                    case rel => exact ⟨k + 1, Cx.ins x out, b', j', by omega, by rw [HX.out]; omega, by go_num, rfl, z16, HN, hab1.next b2, hb2⟩
                    case measure => simp [intOf]; omega
                · have hkj : j < kc := by omega
                  obtain ⟨W1, hW1⟩ : ∃ W1, W1 = (wo.drewN q).drewN nq := ⟨_, rfl⟩
                  have bW1 : Below wo.heap.size wo W1 := by rw [hW1]; exact below_drewN (below_drewN (Below.refl _ _) _) _
                  rw [← hW1]
                  clear hW1
                  have ho1 : NS W1 w.heap.size G kc out := own_below ho bW1
                  have hab1 := hab.next bW1
                  have HB1 := Lib.hid (hbw.trans (bW1.mono hbw.size))
                  have KE := Lib.hid (fun W' (h : Below W1.heap.size W1 W') => (h.cell (p := ⟨g, o + k * 3 + 1, none⟩) (Nat.lt_of_lt_of_le hgl bW1.size)).trans ((bW1.cell hgl).trans c1))
                  have HDR := Lib.hid (fun W' (h : Below W1.heap.size W1 W') => show ∀ j' u, (icells (out.drop j))[j']? = some u → W'.cell? ((⟨G, j, none⟩ : Addr).add j') = some u from fun j' u hu => by
                    rw [add_at]
                    obtain ⟨z, hz, rfl⟩ := icells_get hu
                    rw [List.getElem?_drop] at hz
                    exact (NS.cell (own_below ho1 h) hz))
                  have HTK := Lib.hid (fun W' (h : Below W1.heap.size W1 W') => show ∀ j' u, (icells (out.take j))[j']? = some u → W'.cell? ((⟨G, 0, none⟩ : Addr).add j') = some u from fun j' u hu => by
                    rw [add_off]
                    obtain ⟨z, hz, rfl⟩ := icells_get hu
                    rw [List.getElem?_take] at hz
                    split at hz
                    · exact (NS.cell (own_below ho1 h) hz)
                    · cases hz)
                  have hol : out.length ≤ 20000 := by omega
                  have r1 : j ≤ kc := by omega
                  have r2 : j ≤ out.length := by omega
                  have r3 : j < kc := by omega
                  have r4 : ¬ kc = j := by omega
                  clear ho c1 c0 c2 x0
                  refine' wp_region_each _ (Below W1.heap.size W1) (Onward) [Vl, Vl, Vl, Vl, Vl, Vl, Vl, Vl, Vl, OneSl W1.heap.size x, Vl, Vl, Vl, OwnSl W1.heap.size (out.length - j + 1) (icells (x :: out.drop j)), OwnSl W1.heap.size (out.length + 1) (icells (Cx.ins x out)), OwnSl W1.heap.size (out.length + 1) (icells (Cx.ins x out))] ?hF (by kernel_rfl) (by kernel_rfl) (by kernel_rfl) ((Below.refl _ _).drew) (lasting_cons (lasting_vl) (lasting_cons (lasting_vl) (lasting_cons (lasting_vl) (lasting_cons (lasting_vl) (lasting_cons (lasting_vl) (lasting_cons (lasting_vl) (lasting_cons (lasting_vl) (lasting_cons (lasting_vl) (lasting_cons (lasting_vl) (lasting_cons (lasting_oneSl _ _) (lasting_cons (lasting_vl) (lasting_cons (lasting_vl) (lasting_cons (lasting_vl) (lasting_cons (lasting_ownSl _ _ _) (lasting_cons (lasting_ownSl _ _ _) (lasting_cons (lasting_ownSl _ _ _) (lasting_none))))))))))))))))) ?hops ?hend
                  case hF => (intro v; simp only [over, Act.put, List.setIfInBounds_toArray, List.set_cons_zero, List.set_cons_succ, Nat.zero_add, Nat.reduceAdd]; exact rfl)
                  case hops =>
                    refine ⟨?_, ?_⟩
                    · intro v w' hj hd hs K hK
                      have s15 : v 15 = .slice (some ⟨G, 0, none⟩) out.length kc := hs.out 15 (by kernel_rfl)
                      have hk := hK.out
                      simp only [s15, Act.put, List.setIfInBounds_toArray, List.set_cons_zero, List.set_cons_succ] at hk
                      have HK := Lib.hid hk
                      clear hd hs hk hK
                      go_simp
                      exact HK.out _ _ hj.out (Below.refl _ _) (show _ = _ from rfl)
                    refine ⟨?_, ?_⟩
                    · intro v w' hj hd hs K hK
                      have hk := hK.out
                      simp only [Act.put, List.setIfInBounds_toArray, List.set_cons_zero, List.set_cons_succ] at hk
                      have HK := Lib.hid hk
                      clear hd hs hk hK
                      go_simp
                      exact HK.out _ _ hj.out (Below.refl _ _) (show _ = _ from rfl)
                    refine ⟨?_, ?_⟩
                    · intro v w' hj hd hs K hK
                      have hk := hK.out
                      simp only [Act.put, List.setIfInBounds_toArray, List.set_cons_zero, List.set_cons_succ] at hk
                      have HK := Lib.hid hk
                      clear hd hs hk hK
                      go_simp
                      exact HK.out _ _ hj.out (Below.refl _ _) (show _ = _ from rfl)
                    refine ⟨?_, ?_⟩
                    · intro v w' hj hd hs K hK
                      have t0 : v 0 = _ := hd.out 0 (by kernel_rfl)
                      have t1 : v 1 = _ := hd.out 1 (by kernel_rfl)
                      have t2 : v 2 = _ := hd.out 2 (by kernel_rfl)
                      have hk := hK.out
                      simp only [t0, t1, t2, Act.put, List.setIfInBounds_toArray, List.set_cons_zero, List.set_cons_succ] at hk
                      have HK := Lib.hid hk
                      clear hd hs hk hK
                      go_simp
                      exact HK.out _ _ hj.out (Below.refl _ _) (show _ = _ from rfl)
                    refine ⟨?_, ?_⟩
                    · intro v w' hj hd hs K hK
                      have hk := hK.out
                      simp only [Act.put, List.setIfInBounds_toArray, List.set_cons_zero, List.set_cons_succ] at hk
                      have HK := Lib.hid hk
                      clear hd hs hk hK
                      go_simp
                      exact HK.out _ _ hj.out (Below.refl _ _) (show _ = _ from rfl)
                    refine ⟨?_, ?_⟩
                    · intro v w' hj hd hs K hK
                      have hk := hK.out
                      simp only [Act.put, List.setIfInBounds_toArray, List.set_cons_zero, List.set_cons_succ] at hk
                      have HK := Lib.hid hk
                      clear hd hs hk hK
                      go_simp
                      exact HK.out _ _ hj.out (Below.refl _ _) (show _ = _ from rfl)
                    refine ⟨?_, ?_⟩
                    · intro v w' hj hd hs K hK
                      have t4 : v 4 = _ := hd.out 4 (by kernel_rfl)
                      have t5 : v 5 = _ := hd.out 5 (by kernel_rfl)
                      have hk := hK.out
                      simp only [t4, t5, Act.put, List.setIfInBounds_toArray, List.set_cons_zero, List.set_cons_succ] at hk
                      have HK := Lib.hid hk
                      clear hd hs hk hK
                      go_simp
                      exact HK.out _ _ hj.out (Below.refl _ _) (show _ = _ from rfl)
                    refine ⟨?_, ?_⟩
                    · intro v w' hj hd hs K hK
                      have t6 : v 6 = _ := hd.out 6 (by kernel_rfl)
                      have hk := hK.out
                      simp only [t6, Act.put, List.setIfInBounds_toArray, List.set_cons_zero, List.set_cons_succ] at hk
                      have HK := Lib.hid hk
                      clear hd hs hk hK
                      go_simp
                      exact HK.out _ _ hj.out (Below.refl _ _) (show _ = _ from rfl)
                    refine ⟨?_, ?_⟩
                    · intro v w' hj hd hs K hK
                      have t7 : v 7 = _ := hd.out 7 (by kernel_rfl)
                      have c1 := KE.out _ hj.out
                      have hk := hK.out
                      simp only [t7, Act.put, List.setIfInBounds_toArray, List.set_cons_zero, List.set_cons_succ] at hk
                      have HK := Lib.hid hk
                      clear hd hs hk hK
                      go_simp
                      exact HK.out _ _ hj.out (Below.refl _ _) (show _ = _ from rfl)
                    refine ⟨?_, ?_⟩
                    · intro v w' hj hd hs K hK
                      have t8 : v 8 = _ := hd.out 8 (by kernel_rfl)
                      have hk := hK.out
                      simp only [t8, Act.put, List.setIfInBounds_toArray, List.set_cons_zero, List.set_cons_succ] at hk
                      have HK := Lib.hid hk
                      clear hd hs hk hK
                      go_simp
                      exact HK.out _ _ (hj.out.alloc hj.out.size _) (below1 _ _) ⟨_, rfl, hj.out.size, At.new _ _ _⟩
                    refine ⟨?_, ?_⟩
                    · intro v w' hj hd hs K hK
                      have s15 : v 15 = .slice (some ⟨G, 0, none⟩) out.length kc := hs.out 15 (by kernel_rfl)
                      have hk := hK.out
                      simp only [s15, Act.put, List.setIfInBounds_toArray, List.set_cons_zero, List.set_cons_succ] at hk
                      have HK := Lib.hid hk
                      clear hd hs hk hK
                      go_simp
                      exact HK.out _ _ hj.out (Below.refl _ _) (show _ = _ from rfl)
                    refine ⟨?_, ?_⟩
                    · intro v w' hj hd hs K hK
                      have hk := hK.out
                      simp only [Act.put, List.setIfInBounds_toArray, List.set_cons_zero, List.set_cons_succ] at hk
                      have HK := Lib.hid hk
                      clear hd hs hk hK
                      go_simp
                      exact HK.out _ _ hj.out (Below.refl _ _) (show _ = _ from rfl)
                    refine ⟨?_, ?_⟩
                    · intro v w' hj hd hs K hK
                      have t10 : v 10 = _ := hd.out 10 (by kernel_rfl)
                      have t11 : v 11 = _ := hd.out 11 (by kernel_rfl)
                      have hk := hK.out
                      simp only [t10, t11, Act.put, List.setIfInBounds_toArray, List.set_cons_zero, List.set_cons_succ] at hk
                      have HK := Lib.hid hk
                      clear hd hs hk hK
                      go_simp
                      exact HK.out _ _ hj.out (Below.refl _ _) (show _ = _ from rfl)
                    refine ⟨?_, ?_⟩
                    · intro v w' hj hd hs K hK
                      obtain ⟨b9, t9, y9, z9⟩ : OneSl W1.heap.size x (v 9) w' := hd.out 9 (by kernel_rfl)
                      have t12 : v 12 = _ := hd.out 12 (by kernel_rfl)
                      rw [HL0.out] at t12
                      have hk := hK.out
                      rw [if_pos (show Region.wanted _ _ = true from rfl)]
                      simp only [t9, t12] at hk ⊢
                      have HK := Lib.hid hk
                      clear hd hs hk hK
                      refine wp_of_step (ops := #[]) (E := True) rfl ?_
                      refine step_append_room (by rfl) (.tmp 59) (.tmp 62) 24 (by rfl) 3 i0 1 Tryz.underlying24 hi0 hz1 b9 0 1 1 (by rfl) ⟨G, j, none⟩ 0 (kc - j) [] (by rfl) rfl (fun j u h => by simp at h) (fun u h => by cases h) (by omega) (fun j h => by simp at h) ?_
                      exact HK.out _ _ hj.out (Below.refl _ _) ⟨b9, 1, by rw [HLN.out], by rw [HLN.out, HDN.out]; exact own_of_at z9 y9⟩
                    refine ⟨?_, ?_⟩
                    · intro v w' hj hd hs K hK
                      have t3 : v 3 = _ := hd.out 3 (by kernel_rfl)
                      obtain ⟨b13, k13, t13, z13⟩ : OwnSl W1.heap.size (out.length - j + 1) (icells (x :: out.drop j)) (v 13) w' := hd.out 13 (by kernel_rfl)
                      rw [t13] at z13
                      have hk := hK.out
                      rw [if_pos (show Region.wanted _ _ = true from rfl)]
                      simp only [t3, t13] at hk ⊢
                      have HK := Lib.hid hk
                      clear hd hs hk hK
                      refine wp_of_step (ops := #[]) (E := True) rfl ?_
                      refine step_append_grows (by rfl) (.tmp 53) (.tmp 63) 24 (by rfl) 3 i0 _ 1 8 Tryz.underlying24 hi0 hz0 hz1 hz2 rfl (by omega) (some ⟨G, 0, none⟩) j j (icells (out.take j)) (by rfl) (fun h => by cases h) (by rw [icells_len, List.length_take]; omega) (fun ad h => by obtain rfl := Option.some.inj h; exact HTK.out _ hj.out) ⟨b13, 0, none⟩ (out.length - j + 1) k13 (icells (x :: out.drop j)) (by rfl) (by rw [icells_len, List.length_cons, List.length_drop]; omega) (own_news z13) (icells_one _) (by omega) (by unfold maxLen; omega) (by omega) ?_
                      intro v' w2 o2 g2
                      exact HK.out _ _ (hj.out.trans ((below_none g2).mono hj.out.size)) (below_none g2) (own_shape (by rw [show j + (out.length - j + 1) = out.length + 1 by omega, ← icells_app, ← HIN.out] at o2; exact own_mono o2 hj.out.size) (by omega))
                    refine ⟨?_, ?_⟩
                    · intro v w' hj hd hs K hK
                      obtain ⟨b14, k14, t14, z14⟩ : OwnSl W1.heap.size (out.length + 1) (icells (Cx.ins x out)) (v 14) w' := hd.out 14 (by kernel_rfl)
                      have hk := hK.out
                      simp only [t14, Act.put, List.setIfInBounds_toArray, List.set_cons_zero, List.set_cons_succ] at hk
                      have HK := Lib.hid hk
                      clear hd hs hk hK
                      go_simp
                      exact HK.out _ _ hj.out (Below.refl _ _) ⟨b14, k14, rfl, by rw [← t14]; exact z14⟩
                    trivial
                  case hend =>
                    intro v w2 hj hd
                    obtain ⟨b', kc', t15, z15⟩ : OwnSl W1.heap.size (out.length + 1) (icells (Cx.ins x out)) (v 15) w2 := hd.out 15 (of_decide_eq_true (by kernel_rfl))
                    have b2 := hj.out
                    clear hj hd
                    simp only [t15]
                    have hln : (Cx.ins x out).length = out.length + 1 := by rw [(Cx.ins_perm x out).length_eq]; rfl
                    have z16 : NS w2 w.heap.size b' kc' (Cx.ins x out) := by unfold NS; rw [hln, ← t15]; exact own_mono z15 HB1.out.size
                    have hb2 := HB1.out.trans (b2.mono HB1.out.size)
                    rw [← hln]
                    have HX := Lib.hid hln
                    clear t15 z15 hln
                    go_wp2_with fail
                    go_roundw
                    case rel => exact ⟨k + 1, Cx.ins x out, b', kc', by omega, by rw [HX.out]; omega, by go_num, rfl, z16, HN, hab1.next b2, hb2⟩
                    case measure => simp [intOf]; omega
        · have t2 : (v.o == 2) = false := by simpa using h2
          have t2' : (v.o != 2) = true := by simp [h2]
          have HN := Lib.hid (HV.out.no e1 (Or.inr h2))
          clear e1 eb h2
          go_wp2_with fail
          go_roundw
          case rel => exact ⟨k + 1, out, G, kc, by omega, by omega, by go_num, rfl, ho, HN, hab, hbw⟩
          case measure => simp [intOf]; omega
    · have d1 : decide ((k : Int) < (l.length : Int)) = false := by simp; omega
      have d1' : decide (k < l.length) = false := by simp; omega
      have HE := Lib.hid (show R = out by rw [HRV.out, show l.length = k by omega]; exact HV.out.symm)
      go_wp2_with fail
      go_ret
      obtain ⟨A3, c3, e3, h3⟩ := ns_of_own ho
      exact ⟨A3, c3, by rw [HE.out, ← e3]; rfl, by rw [HE.out]; exact h3, hbw⟩
end Go.Proofs.YtphmicbpkljmfaaGreat
