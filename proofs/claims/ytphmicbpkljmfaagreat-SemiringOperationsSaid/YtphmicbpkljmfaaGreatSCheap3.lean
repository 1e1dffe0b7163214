/- The walks of Cheapest. -/
import Derived.Test.YtphmicbpkljmfaaGreatSWit2
import Derived.Test.YtphmicbpkljmfaaGreatCVars
namespace Go.Proofs.YtphmicbpkljmfaaGreat
set_option linter.unusedVariables false
set_option linter.unusedSimpArgs false
open Go.RowKit
open Cx (N fam Few)
def wBad (x : Int) : Bool := decide (x < 0) || decide (1000000 < x)
theorem bad_closure (w : World) : PredAt Tryz.prog 37 #[] (Value.int .i64) wBad w := by
  intro W x hb
  unfold FnGives
  show Calls Tryz.prog 37 #[.int .i64 x] W _
  unfold wBad
  by_cases h1 : x < 0
  · have d1 : decide (x < 0) = true := by simpa using h1
    go_enter Tryz.func37, Tryz.ntmps37
    go_wp2_with fail
    go_ret
    exact ⟨by rw [d1]; rfl, 0, rfl⟩
  · have d1 : decide (x < 0) = false := by simpa using h1
    by_cases h2 : 1000000 < x
    · have d2 : decide (1000000 < x) = true := by simpa using h2
      go_enter Tryz.func37, Tryz.ntmps37
      go_wp2_with fail
      go_ret
      exact ⟨rfl, 0, rfl⟩
    · have d2 : decide (1000000 < x) = false := by simpa using h2
      go_enter Tryz.func37, Tryz.ntmps37
      go_wp2_with fail
      go_ret
      exact ⟨rfl, 0, rfl⟩
theorem badfn_any (B : Option Addr) (d : Nat) (ws : List Int) (w : World) (hl : ws.length ≤ 1000000) (hB : Nums w B ws) :
    Calls Tryz.prog 36 #[.slice B ws.length d, .func (.func 37) #[] #[]] w fun e w' => e = .returned (.bool (ws.any wBad)) ∧ ∃ q, w' = w.drewN q := by
  cases ws with
  | nil => exact (Tryz.slices_ContainsFunc_empty (α := Int) B d _ w).mono fun e w' ⟨h1, h2⟩ => ⟨h1, 0, h2⟩
  | cons y r =>
    obtain ⟨g, o, rfl, hg, hc⟩ := hB (by simp)
    generalize y :: r = a at *
    have eg : ∀ args w, (callFunc 37 args).run Tryz.prog w = .ok (.enter 37 args) w := enters_of Tryz.func37 (by kernel_rfl) rfl
    have h := Tryz.slices_ContainsFunc (Value.int .i64) wBad 37 #[] eg g o a.length d a w (bad_closure w) (Nat.le_refl _) (by omega) (fun j hj => by
      rw [getBang a j hj]
      exact hc j _ (List.getElem?_eq_getElem hj))
    rw [List.take_length] at h
    exact h
theorem wok_iff {ws : List Int} : ws.any wBad = false ↔ WOk ws := by
  unfold WOk wBad
  rw [List.any_eq_false]
  constructor
  · intro h x hx
    have := h x hx
    simp at this
    omega
  · intro h x hx
    have := h x hx
    simp; omega
/-- The closures of Cheapest in the memory. -/
structure WMem (w : World) (Bf Bw : Nat) (B : Option Addr) (d : Nat) (ws : List Int) : Prop where
  f : At w Bf 62 #[.func (.func 38) #[] #[.pointer (some ⟨Bw, 0, none⟩)]]
  b : At w Bw 24 #[.slice B ws.length d]
  n : Nums w B ws
theorem WMem.below {w w' : World} {Bf Bw : Nat} {B : Option Addr} {d : Nat} {ws : List Int} (h : WMem w Bf Bw B d ws) (hb : Below w.heap.size w w') : WMem w' Bf Bw B d ws := ⟨h.f.next hb, h.b.next hb, h.n.below hb⟩
theorem weightc_any (Bw : Nat) (B : Option Addr) (d : Nat) (ws : List Int) (A : Option Addr) (c : Nat) (s : List Int) (w : World) (hs : s.length ≤ 1000000) (hw : ws.length ≤ 9223372036854775807) (hp : ∀ x ∈ s, 0 ≤ x) (hW : WOk ws) (hA : Nums w A s) (hMw : At w Bw 24 #[.slice B ws.length d]) (hB : Nums w B ws) :
    Calls Tryz.prog 38 #[.slice A s.length c, .pointer (some ⟨Bw, 0, none⟩)] w fun e w' => e = .returned (.int .i64 (wsum ws s)) ∧ w = w' := by
  have m0 := hMw.cell 0
  simp at m0
  go_enter Tryz.func38, Tryz.ntmps38
  go_wp2_with fail
  go_loop [4, 9] (fun t i => ∃ k : Nat, k ≤ s.length ∧ t = .int .i64 (wsum ws (s.take k)) ∧ i = .int .i64 k) (fun _ i => s.length - (intOf i).toNat)
  case atStart => exact ⟨0, by omega, by simp [wsum], rfl⟩
  case round =>
    obtain ⟨k, hk, rfl, rfl⟩ := hrel
    have hb := wsum_le hW (s.take k)
    have hbl : (s.take k).length ≤ s.length := by simp; omega
    by_cases h1 : k < s.length
    · have d1 : decide ((k : Int) < (s.length : Int)) = true := by simp; omega
      have e1 := getElem_of h1
      obtain ⟨g, o, rfl, hg, c1⟩ := hA.at h1
      have hx := hp _ (List.getElem_mem h1)
      have hm : wsum ws (s.take (k + 1)) = wsum ws (s.take k) + wOf ws s[k] := by rw [take_more e1, wsum_snoc]
      obtain ⟨t', ht'⟩ : ∃ t', wsum ws (s.take (k + 1)) = t' := ⟨_, rfl⟩
      rw [ht'] at hm
      have HT' := Lib.hid ht'
      have j0 : (0 : Int) ≤ (k : Int) := by omega
      have j1 : (k : Int) < (s.length : Int) := by omega
      clear ht'
      generalize s[k] = x at *
      generalize wsum ws (s.take k) = t at *
      by_cases h2 : x < ws.length
      · have d2 : decide (x < (ws.length : Int)) = true := by simpa using h2
        obtain ⟨j, rfl⟩ : ∃ j : Nat, x = j := ⟨x.toNat, by omega⟩
        have hj : j < ws.length := by omega
        obtain ⟨g', o', rfl, hg', c1'⟩ := hB.at hj
        have hwv : wOf ws (j : Int) = ws[j] := by unfold wOf; rw [if_pos (by omega), Int.toNat_natCast, List.getD_eq_getElem?_getD, getElem_of hj]; rfl
        have hbd := hW _ (List.getElem_mem hj)
        rw [hwv] at hm
        generalize ws[j] = y at *
        have HM := Lib.hid hm
        have d2' : decide (j < ws.length) = true := by simp; omega
        have w1 : (t : Int) + y ≤ 9223372036854775807 := by omega
        have w2 : -9223372036854775808 ≤ t + y := by omega
        have w3 : IntKind.i64.wrap (t + y) = t + y := by rw [IntKind.wrap_i64]; omega
        clear hm hwv e1
        go_wp2_with fail
        go_round
        case rel => exact ⟨k + 1, by omega, by rw [HT'.out, HM.out], by go_num⟩
        case measure => simp [intOf]; omega
      · have d2 : decide (x < (ws.length : Int)) = false := by simpa using h2
        have hwv : wOf ws x = 0 := by unfold wOf; rw [if_neg h2]
        rw [hwv] at hm
        have HM := Lib.hid hm
        clear hm hwv e1
        go_wp2_with fail
        go_round
        case rel => exact ⟨k + 1, by omega, by rw [HT'.out, HM.out]; simp, by go_num⟩
        case measure => simp [intOf]; omega
    · have d1 : decide ((k : Int) < (s.length : Int)) = false := by simp; omega
      have e : s.take k = s := List.take_of_length_le (by omega)
      rw [e]
      go_wp2_with fail
      go_ret
      exact ⟨rfl, rfl⟩
theorem weightcmp_any (Bf Bw : Nat) (B : Option Addr) (d : Nat) (ws : List Int) (A : Option Addr) (c : Nat) (s : List Int) (A' : Option Addr) (c' : Nat) (s' : List Int) (w : World) (hs : s.length ≤ 1000000) (hs' : s'.length ≤ 1000000) (hw : ws.length ≤ 9223372036854775807) (hp : ∀ x ∈ s, 0 ≤ x) (hp' : ∀ x ∈ s', 0 ≤ x) (hW : WOk ws) (hA : Nums w A s) (hA' : Nums w A' s') (hm : WMem w Bf Bw B d ws) :
    Calls Tryz.prog 40 #[.slice A s.length c, .slice A' s'.length c', .pointer (some ⟨Bf, 0, none⟩)] w fun e w' => e = .returned (.int .i64 (cmpI (wsum ws s) (wsum ws s'))) ∧ Below w.heap.size w w' := by
  have hlt := hm.f.lt
  have m0 := hm.f.cell 0
  simp at m0
  have f0 : ∀ z : Held w.heap.size w, z.w.cell? ⟨Bf, 0, none⟩ = some (.func (.func 38) #[] #[.pointer (some ⟨Bw, 0, none⟩)]) := fun z => z.cell hlt m0
  have CA : ∀ z : Held w.heap.size w, Calls Tryz.prog 38 #[.slice A s.length c, .pointer (some ⟨Bw, 0, none⟩)] z.w fun e w' => e = .returned (.int .i64 (wsum ws s)) ∧ z.w = w' := fun z => weightc_any Bw B d ws A c s z.w hs hw hp hW (hA.below z.ok) (hm.b.next z.ok) (hm.n.below z.ok)
  have CB : ∀ z : Held w.heap.size w, Calls Tryz.prog 38 #[.slice A' s'.length c', .pointer (some ⟨Bw, 0, none⟩)] z.w fun e w' => e = .returned (.int .i64 (wsum ws s')) ∧ z.w = w' := fun z => weightc_any Bw B d ws A' c' s' z.w hs' hw hp' hW (hA'.below z.ok) (hm.b.next z.ok) (hm.n.below z.ok)
  generalize wsum ws s = x at *
  generalize wsum ws s' = y at *
  have CC : ∀ z : Held w.heap.size w, Calls Tryz.prog 41 #[.int .i64 x, .int .i64 y] z.w fun e w' => e = .returned (.int .i64 (cmpI x y)) ∧ z.w = w' := fun z => (Tryz.cmp_Compare_int x y z.w).mono fun e w' ⟨h1, h2⟩ => ⟨h1, h2.symm⟩
  have HCA := Lib.hid CA; have HCB := Lib.hid CB; have HCC := Lib.hid CC
  clear CA CB CC m0
  go_enter Tryz.func40, Tryz.ntmps40
  go_wp2_with fail
  refine wp_region_held w.heap.size w (Below.refl _ _) (by kernel_rfl) (by kernel_rfl) ?_
  repeat (go_big_quiet_step (first
    | (go_at_call 38; with_reducible first
      | exact held_same _ (HCA.out _)
      | exact held_same _ (HCB.out _))
    | (go_at_call 41; exact held_same _ (HCC.out _))))
  refine wpQuiet_nil ?_
  rintro w5 ⟨⟨_, b5⟩, rfl⟩
  clear f0
  go_wp2_with fail
  go_ret
  exact ⟨rfl, b5⟩
end Go.Proofs.YtphmicbpkljmfaaGreat
namespace Go.Proofs.YtphmicbpkljmfaaGreat
set_option linter.unusedVariables false
set_option linter.unusedSimpArgs false
open Go.RowKit
open Cx (N fam Few)
/-- The index of the first set of the least weight among the first k + 1. -/
def bestIx (ws : List Int) (F : List (List Int)) : Nat → Nat
  | 0 => 0
  | k + 1 => if wsum ws (F.getD (k + 1) []) < wsum ws (F.getD (bestIx ws F k) []) then k + 1 else bestIx ws F k
theorem bestIx_le (ws : List Int) (F : List (List Int)) : ∀ k, bestIx ws F k ≤ k
  | 0 => Nat.le_refl _
  | k + 1 => by
    unfold bestIx
    have := bestIx_le ws F k
    split <;> omega
def best (ws : List Int) (F : List (List Int)) : List Int := F.getD (bestIx ws F (F.length - 1)) []
theorem best_mem {ws : List Int} {F : List (List Int)} (h : F ≠ []) : best ws F ∈ F := by
  have h0 : 0 < F.length := by cases F with | nil => exact absurd rfl h | cons _ _ => simp
  have := bestIx_le ws F (F.length - 1)
  unfold best
  rw [List.getD_eq_getElem?_getD, List.getElem?_eq_getElem (show bestIx ws F (F.length - 1) < F.length by omega)]
  exact List.getElem_mem _
theorem bestIx_min (ws : List Int) (F : List (List Int)) : ∀ k j, j ≤ k → wsum ws (F.getD (bestIx ws F k) []) ≤ wsum ws (F.getD j [])
  | 0, j, h => by have : j = 0 := by omega
                  subst this; exact Int.le_refl _
  | k + 1, j, h => by
    unfold bestIx
    rcases Nat.lt_or_ge j (k + 1) with h1 | h1
    · have := bestIx_min ws F k j (by omega)
      split <;> omega
    · have e : j = k + 1 := by omega
      subst e
      split
      · exact Int.le_refl _
      · omega
theorem best_min {ws : List Int} {F : List (List Int)} {s : List Int} (h : s ∈ F) : wsum ws (best ws F) ≤ wsum ws s := by
  obtain ⟨j, hj, e⟩ := List.mem_iff_getElem.1 h
  have := bestIx_min ws F (F.length - 1) j (by omega)
  rw [List.getD_eq_getElem?_getD (i := j), List.getElem?_eq_getElem hj, e] at this
  exact this
theorem cmpI_neg (a b : Int) : decide (cmpI a b < 0) = decide (a < b) := by
  unfold cmpI
  split
  · rename_i h; simp [h]
  · rename_i h
    split <;> simp [h]
set_option maxHeartbeats 1000000 in
theorem minfunc_any (Bf Bw : Nat) (B : Option Addr) (d : Nat) (ws : List Int) (A : Option Addr) (c : Nat) (F : List (List Int)) (w : World) (h0 : 0 < F.length) (hF : F.length ≤ 1000000) (hS : ∀ s ∈ F, s.length ≤ 1000000 ∧ ∀ x ∈ s, 0 ≤ x) (hw : ws.length ≤ 9223372036854775807) (hW : WOk ws) (hA : Sets w A F) (hm : WMem w Bf Bw B d ws) :
    Calls Tryz.prog 39 #[.slice A F.length c, .func (.func 40) #[] #[.pointer (some ⟨Bf, 0, none⟩)]] w fun e w' => ∃ v, e = .returned v ∧ SetV w' v (best ws F) ∧ Below w.heap.size w w' := by
  have d0 : decide ((F.length : Int) < 1) = false := by rw [decide_eq_false_iff_not]; omega
  have d0' : decide (F.length < 1) = false := by rw [decide_eq_false_iff_not]; omega
  obtain ⟨x0, hx0⟩ : ∃ x, F[0]? = some x := ⟨_, List.getElem?_eq_getElem h0⟩
  obtain ⟨g0, o0, C0, k0, hA0, hg0, c0, p1, p2, p3, p4⟩ := hA.at hx0
  have HE := Lib.hid (show F.getD (bestIx ws F 0) [] = x0 by show F.getD 0 [] = x0; rw [List.getD_eq_getElem?_getD, hx0]; rfl)
  have HX0 := Lib.hid (show SetV w (.slice C0 x0.length k0) x0 from ⟨C0, k0, rfl, p1, p2, p3, p4⟩)
  subst hA0
  rw [Nat.add_zero] at c0
  have z0 : (0 : Int) < (F.length : Int) := by omega
  clear p1 p2 p3 p4 hx0
  go_enter Tryz.func39, Tryz.ntmps39
  go_wp2_with fail
  go_loopw [5, 6] (fun m i wr => ∃ (k : Nat) (C : Option Addr) (cc : Nat) (s : List Int), k + 1 ≤ F.length ∧ Hid (F.getD (bestIx ws F k) [] = s) ∧ i = .int .i64 ((k : Int) + 1) ∧ m = .slice C s.length cc ∧ Hid (SetV w m s) ∧ Below w.heap.size w wr) (fun _ i _ => F.length - (intOf i).toNat)
  case atStart => exact ⟨0, C0, k0, x0, by omega, HE, rfl, rfl, HX0, Below.refl _ _⟩
  case round =>
    obtain ⟨k, C, cc, s, hk, HB, rfl, rfl, HM, hbw⟩ := hrel
    by_cases h1 : k + 1 < F.length
    · have d1 : decide ((k : Int) + 1 < (F.length : Int)) = true := by rw [decide_eq_true_eq]; omega
      obtain ⟨y, hy⟩ : ∃ x, F[k + 1]? = some x := ⟨_, List.getElem?_eq_getElem h1⟩
      obtain ⟨g1, o1, C1, k1, hA1, hg1, c1, p1, p2, p3, p4⟩ := hA.at hy
      injection hA1 with hA1
      injection hA1 with e1 e2 _
      subst e1; subst e2
      have c1w := (hbw.cell hg0).trans c1
      have hyp := hS y (List.mem_of_getElem? hy)
      have hsp : s.length ≤ 1000000 ∧ ∀ x ∈ s, 0 ≤ x := by
        rw [← HB.out]
        refine hS _ ?_
        have := bestIx_le ws F k
        rw [List.getD_eq_getElem?_getD, List.getElem?_eq_getElem (show bestIx ws F k < F.length by omega)]
        exact List.getElem_mem _
      have HY := Lib.hid (show SetV w (.slice C1 y.length k1) y from ⟨C1, k1, rfl, p1, p2, p3, p4⟩)
      obtain ⟨Cm, cm, em, m1, m2, m3, m4⟩ := HM.out
      injection em with em1 _ em3
      subst em1; subst em3
      have HC := Lib.hid (weightcmp_any Bf Bw B d ws C1 k1 y C cc s wr hyp.1 hsp.1 hw hyp.2 hsp.2 hW (p4.below hbw) (m4.below hbw) (hm.below hbw))
      have HN := Lib.hid (cmpI_neg (wsum ws y) (wsum ws s))
      have HG := Lib.hid (show F.getD (k + 1) [] = y by rw [List.getD_eq_getElem?_getD, hy]; rfl)
      have j0 : (0 : Int) ≤ (k : Int) + 1 := by omega
      have j1 : (k : Int) + 1 < (F.length : Int) := by omega
      have jn : ((k : Int) + 1).toNat = k + 1 := by omega
      have wr1 : IntKind.i64.wrap ((k : Int) + 1 + 1) = (k : Int) + 1 + 1 := by rw [IntKind.wrap_i64]; omega
      clear hy c1 p1 p2 p3 p4 m1 m2 m3 m4 hyp hsp
      by_cases h2 : wsum ws y < wsum ws s
      · have hd := HN.out
        rw [show decide (wsum ws y < wsum ws s) = true by simpa using h2] at hd
        have HK := Lib.hid (show F.getD (bestIx ws F (k + 1)) [] = y by
          unfold bestIx; rw [HG.out, HB.out, if_pos h2, HG.out])
        generalize cmpI (wsum ws y) (wsum ws s) = z at *
        go_wp2_with fail
        refine HC.out.mono ?_
        rintro e w2 ⟨rfl, b2⟩
        have c1w2 := (b2.cell (Nat.lt_of_lt_of_le hg0 hbw.size)).trans c1w
        go_wp2_with fail
        go_roundw
        case rel => exact ⟨k + 1, C1, k1, y, by omega, HK, by go_num, rfl, HY, hbw.trans (b2.mono hbw.size)⟩
        case measure => simp [intOf]; omega
      · have hd := HN.out
        rw [show decide (wsum ws y < wsum ws s) = false by simpa using h2] at hd
        have HK := Lib.hid (show F.getD (bestIx ws F (k + 1)) [] = s by
          unfold bestIx; rw [HG.out, HB.out, if_neg h2, HB.out])
        generalize cmpI (wsum ws y) (wsum ws s) = z at *
        go_wp2_with fail
        refine HC.out.mono ?_
        rintro e w2 ⟨rfl, b2⟩
        go_wp2_with fail
        go_roundw
        case rel => exact ⟨k + 1, C, cc, s, by omega, HK, by go_num, rfl, HM, hbw.trans (b2.mono hbw.size)⟩
        case measure => simp [intOf]; omega
    · have d1 : decide ((k : Int) + 1 < (F.length : Int)) = false := by rw [decide_eq_false_iff_not]; omega
      have hk1 : k = F.length - 1 := by omega
      have HR := Lib.hid (show best ws F = s by unfold best; rw [← hk1, HB.out])
      go_wp2_with fail
      go_ret
      exact ⟨_, rfl, by rw [HR.out]; exact HM.out.below hbw, hbw⟩
end Go.Proofs.YtphmicbpkljmfaaGreat
namespace Go.Proofs.YtphmicbpkljmfaaGreat
set_option linter.unusedVariables false
set_option linter.unusedSimpArgs false
open Go.RowKit
open Cx (N fam Few)
theorem allVars_nonneg {l : List N} (h : Cx.Good l) : ∀ x ∈ allVars l, 0 ≤ x := by
  intro x hx
  obtain ⟨v, hv, rfl⟩ := List.mem_map.1 hx
  rw [List.mem_filter] at hv
  obtain ⟨k, hk⟩ := List.mem_iff_getElem?.1 hv.1
  have h2 : v.o = 2 := by simpa using hv.2
  rcases Nat.lt_or_ge k 2 with h3 | h3
  · rcases (by omega : k = 0 ∨ k = 1) with rfl | rfl
    · rw [h.z] at hk; obtain rfl := Option.some.inj hk; exact absurd h2 (by decide)
    · rw [h.o] at hk; obtain rfl := Option.some.inj hk; exact absurd h2 (by decide)
  · exact (Cx.ok_leaf (h.ok k v h3 hk) h2).1
/-- The code of Cheapest, its set, its weight. -/
noncomputable def ccode (l : List N) (n : Int) (ws : List Int) : Int := if ws.any wBad = true then 1 else if wcode l n ≠ 0 then wcode l n else if (wlist l n).length = 0 then 4 else 0
noncomputable def cset (l : List N) (n : Int) (ws : List Int) : List Int := if ccode l n ws = 0 then best ws (wlist l n) else []
noncomputable def cweight (l : List N) (n : Int) (ws : List Int) : Int := if ccode l n ws = 0 then wsum ws (best ws (wlist l n)) else 0
/-- What Cheapest leaves. -/
def CheapOut (l : List N) (n : Int) (ws : List Int) (w : World) (e : Ending) (w' : World) : Prop := ∃ v, e = .returned (.tuple #[v, .int .i64 (cweight l n ws), .int .i64 (ccode l n ws)]) ∧ SetV w' v (cset l n ws) ∧ Below w.heap.size w w'
theorem cheap_none {l : List N} {n : Int} {ws : List Int} (h : ccode l n ws ≠ 0) : cset l n ws = [] ∧ cweight l n ws = 0 := by
  unfold cset cweight
  rw [if_neg h, if_neg h]; exact ⟨rfl, rfl⟩
theorem wcode_zero {l : List N} {n : Int} (h : wcode l n = 0) : ∃ i : Nat, n = i ∧ i < l.length ∧ Cx.Good l ∧ Few l i := by
  unfold wcode at h
  split at h
  · rename_i hh
    rw [Bool.and_eq_true] at hh
    obtain ⟨i, rfl, hi⟩ := Cx.isIn_get hh.1
    rw [Int.toNat_natCast] at h
    split at h
    · rename_i hf; exact ⟨i, rfl, hi, Cx.valid_good hh.2, hf⟩
    · cases h
  · cases h
set_option maxHeartbeats 1000000 in
set_option maxRecDepth 100000 in
theorem cheapest_any (A : Option Addr) (c : Nat) (l : List N) (n : Int) (B : Option Addr) (d : Nat) (ws : List Int) (w : World) (hl : l.length ≤ 20000) (hF : ∀ n ∈ l, NGood n) (hA : Cir w A c l) (hws : ws.length ≤ 1000000) (hB : Nums w B ws) :
    Calls Tryz.prog 14 #[.slice A l.length c, .int .i64 n, .slice B ws.length d] w (CheapOut l n ws w) := by
  have b0 := below1 w (.cells #[.slice B ws.length d] 24)
  have a0 : At (w.alloc (.cells #[.slice B ws.length d] 24)) w.heap.size 24 #[.slice B ws.length d] := At.new _ _ _
  have HC := Lib.hid (badfn_any B d ws (w.alloc (.cells #[.slice B ws.length d] 24)) hws (hB.below b0))
  cases hbad : ws.any wBad with
  | true =>
    have hcc : ccode l n ws = 1 := by unfold ccode; rw [hbad, if_pos rfl]
    obtain ⟨e1, e2⟩ := cheap_none (show ccode l n ws ≠ 0 by rw [hcc]; decide)
    have H0 := Lib.hid hcc; have H1 := Lib.hid e1; have H2 := Lib.hid e2
    have HBD := Lib.hid hbad
    clear hcc e1 e2 hbad a0 b0
    go_enter Tryz.func14, Tryz.ntmps14
    go_wp2_with fail
    refine HC.out.mono ?_
    rintro e w1 ⟨rfl, q, rfl⟩
    rw [HBD.out]
    go_wp2_with fail
    go_ret3
    exact ⟨_, by rw [H0.out, H2.out]; rfl, by rw [H1.out]; exact setV_nil _, below_drewN (below1 w _) q⟩
  | false =>
    have hW := wok_iff.1 hbad
    have HW := Lib.hid hW
    have HBD := Lib.hid hbad
    have bq : ∀ q, Below w.heap.size w ((w.alloc (.cells #[.slice B ws.length d] 24)).drewN q) := fun q => below_drewN (below1 w _) q
    have aq : ∀ q, At ((w.alloc (.cells #[.slice B ws.length d] 24)).drewN q) w.heap.size 24 #[.slice B ws.length d] := fun q => a0
    have HAQ := Lib.hid aq
    have HBQ := Lib.hid bq
    have HCD := Lib.hid (show ccode l n ws = if wcode l n ≠ 0 then wcode l n else if (wlist l n).length = 0 then 4 else 0 by unfold ccode; rw [hbad, if_neg (by decide)])
    clear hW hbad a0 b0 aq bq
    go_enter Tryz.func14, Tryz.ntmps14
    go_wp2_with fail
    refine HC.out.mono ?_
    rintro e w1 ⟨rfl, q, rfl⟩
    rw [HBD.out]
    obtain ⟨w1, hw1⟩ : ∃ w1, w1 = (w.alloc (.cells #[.slice B ws.length d] 24)).drewN q := ⟨_, rfl⟩
    have b1 := HBQ.out q
    have a1 := HAQ.out q
    rw [← hw1] at b1 a1 ⊢
    have HWT := Lib.hid (witnesses_any A c l n w1 hl hF (hA.below b1))
    clear hw1
    go_wp2_with fail
    refine HWT.out.mono ?_
    rintro e w2 ⟨v, rfl, hS, b2⟩
    have a2 := a1.next b2
    have b12 := b1.trans (b2.mono b1.size)
    by_cases h0 : wcode l n = 0
    · obtain ⟨i, rfl, hi, hg, _⟩ := wcode_zero h0
      obtain ⟨G, hG⟩ : ∃ G, wlist l (i : Int) = G := ⟨_, rfl⟩
      rw [hG] at hS
      obtain ⟨⟨V, vc, rfl, v1, v2, _, hsets⟩, hfew, hok⟩ := hS
      have HCC := Lib.hid (show ccode l (i : Int) ws = if G.length = 0 then 4 else 0 by rw [HCD.out, if_neg (by omega), hG])
      have HG := Lib.hid hG
      have HO := Lib.hid (show ∀ s ∈ G, s.length ≤ 1000000 ∧ ∀ x ∈ s, 0 ≤ x from fun s hs => ⟨by
        have h1 := (hok s hs).len
        have h2 := allVars_len l
        omega, fun x hx => allVars_nonneg hg x ((hok s hs).2 hx)⟩)
      simp only [h0]
      have H0 := Lib.hid h0
      clear h0 hG hok
      by_cases hl0 : G.length = 0
      · have d1 : ((G.length : Int) == 0) = true := by rw [beq_iff_eq]; omega
        have hcc : ccode l (i : Int) ws = 4 := by rw [HCC.out, if_pos hl0]
        obtain ⟨e1, e2⟩ := cheap_none (show ccode l (i : Int) ws ≠ 0 by rw [hcc]; decide)
        have K0 := Lib.hid hcc; have K1 := Lib.hid e1; have K2 := Lib.hid e2
        clear hcc e1 e2
        go_wp2_with fail
        go_ret3
        exact ⟨_, by rw [K0.out, K2.out]; rfl, by rw [K1.out]; exact setV_nil _, b12⟩
      · have d1 : ((G.length : Int) == 0) = false := by rw [beq_eq_false_iff_ne]; omega
        have hcc : ccode l (i : Int) ws = 0 := by rw [HCC.out, if_neg hl0]
        have K0 := Lib.hid hcc
        have K1 := Lib.hid (show cset l (i : Int) ws = best ws G by unfold cset; rw [if_pos hcc, HG.out])
        have K2 := Lib.hid (show cweight l (i : Int) ws = wsum ws (best ws G) by unfold cweight; rw [if_pos hcc, HG.out])
        have hBm := best_mem (ws := ws) (F := G) (by intro e; rw [e] at hl0; simp at hl0)
        have HBm := Lib.hid hBm
        obtain ⟨w3, hw3⟩ : ∃ w3, w3 = w2.alloc (.cells #[.func (.func 38) #[] #[.pointer (some ⟨w.heap.size, 0, none⟩)]] 62) := ⟨_, rfl⟩
        have b3 : Below w2.heap.size w2 w3 := by rw [hw3]; exact below1 _ _
        have hM : WMem w3 w2.heap.size w.heap.size B d ws := ⟨by rw [hw3]; exact At.new _ _ _, a2.next b3, (hB.below b12).below b3⟩
        have HMF := Lib.hid (minfunc_any w2.heap.size w.heap.size B d ws V vc G w3 (by omega) (by omega) HO.out (by omega) HW.out (hsets.below b3) hM)
        have HW3 := Lib.hid hw3
        have HM := Lib.hid hM
        have HB3 := Lib.hid (b12.trans (b3.mono b12.size))
        have hz3 : w2.heap.size < w3.heap.size := by rw [hw3]; simp
        clear hcc hBm hw3 hM b3 hsets
        go_wp2_with fail
        rw [← HW3.out]
        refine HMF.out.mono ?_
        rintro e w4 ⟨vb, rfl, hvb, b4⟩
        have HVB := Lib.hid hvb
        obtain ⟨Cb, cb, rfl, p1, p2, p3, p4⟩ := hvb
        have hM4 := HM.out.below b4
        have f0 := hM4.f.cell 0
        simp at f0
        have HWC := Lib.hid (weightc_any w.heap.size B d ws Cb cb (best ws G) w4 (HO.out _ HBm.out).1 (by omega) (HO.out _ HBm.out).2 HW.out p4 hM4.b hM4.n)
        have hz4 := hM4.f.lt
        clear p1 p2 p3 p4 hM4
        go_wp2_with fail
        refine HWC.out.mono ?_
        rintro e w5 ⟨rfl, rfl⟩
        go_wp2_with fail
        go_ret3
        exact ⟨_, by rw [K0.out, K2.out]; rfl, by rw [K1.out]; exact HVB.out, HB3.out.trans (b4.mono HB3.out.size)⟩
    · have hcc : ccode l n ws = wcode l n := by rw [HCD.out, if_pos h0]
      obtain ⟨e1, e2⟩ := cheap_none (show ccode l n ws ≠ 0 by rw [hcc]; exact h0)
      have K0 := Lib.hid hcc; have K1 := Lib.hid e1; have K2 := Lib.hid e2
      have d1 : (wcode l n != 0) = true := by simpa using h0
      clear hcc e1 e2 hS
      generalize wcode l n = code at *
      go_wp2_with fail
      go_ret3
      exact ⟨_, by rw [K0.out, K2.out]; rfl, by rw [K1.out]; exact setV_nil _, b12⟩
end Go.Proofs.YtphmicbpkljmfaaGreat
