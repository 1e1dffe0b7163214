/- container/heap at the heap of groups: Swap. -/
import Derived.Test.YtljlihimmcmlmaaTHw
import Derived.Test.YtljlihimmcmlmaaMap
import Derived.Laws.OwnMore
namespace Go.Proofs.Ytljlihimmcmlmaa
set_option linter.unusedVariables false
set_option linter.unusedSimpArgs false
open Go.RowKit
def swpL (hs : List Value) (i j : Nat) (x y : Value) (s1 s2 : Bool) : List Value :=
  if s2 then (if s1 then hs.set i y else hs).set j x else if s1 then hs.set i y else hs
/-- What each operation of the exchange is to yield. -/
def swpC (g n c i j : Nat) (x y : Value) (k : Nat) : Value :=
  [.slice (some ⟨g, 0, none⟩) n c, .int .i64 (i : Int), .slice (some ⟨g, 0, none⟩) n c, .int .i64 (j : Int), .slice (some ⟨g, 0, none⟩) n c, .int .i64 (j : Int), .pointer (some ⟨g, j, none⟩), y, .slice (some ⟨g, 0, none⟩) n c, .int .i64 (i : Int), .pointer (some ⟨g, i, none⟩), x, .pointer (some ⟨g, i, none⟩), undef, .pointer (some ⟨g, j, none⟩), undef].getD k undef
structure SW (w0 w : World) (B H g n c i j : Nat) (hs : List Value) (x y : Value) (L : Nat → Bool) (v : Nat → Value) (W : World) : Prop where
  cell : At W H 68 #[.slice (some ⟨g, 0, none⟩) n c]
  own : W.ownsRow B 42 1 (.slice (some ⟨g, 0, none⟩) n c) n (swpL hs i j x y (L 13) (L 15))
  grow : w.grownBy W (some g)
  vals : ∀ k, k < 16 → L k = true → v k = swpC g n c i j x y k
section
variable {w0 w W W' : World} {B H g n c i j : Nat} {hs : List Value} {x y : Value} {L : Nat → Bool} {v : Nat → Value}
theorem SW.pin (h : SW w0 w B H g n c i j hs x y L v W) {k : Nat} (hk : k ≠ 13 ∧ k ≠ 15) : SW w0 w B H g n c i j hs x y (mark L k) (vset v k (swpC g n c i j x y k)) W := by
  refine ⟨h.cell, by rw [mark_ne (fun e => hk.1 e.symm), mark_ne (fun e => hk.2 e.symm)]; exact h.own, h.grow, fun m hm hl => ?_⟩
  by_cases e : m = k
  · rw [e, vset_self]
  · rw [mark_ne e] at hl; rw [vset_ne e]; exact h.vals m hm hl
theorem SW.first (h : SW w0 w B H g n c i j hs x y L v W) (hi : hs[i]? = some x) (hj : hs[j]? = some y) (h13 : L 13 = false) : SW w0 w B H g n c i j hs x y (mark L 13) (vset v 13 undef) (W.setCell ⟨g, i, none⟩ y) := by
  obtain ⟨h1, h2⟩ := h.own.stored i y
  have e : (swpL hs i j x y (L 13) (L 15)).set i y = swpL hs i j x y (mark L 13 13) (mark L 13 15) := by
    rw [h13, mark_self, mark_ne (by decide)]
    cases L 15
    · rfl
    · show (hs.set j x).set i y = (hs.set i y).set j x
      by_cases e : i = j
      · subst e
        rw [hi] at hj
        rw [Option.some.inj hj]
      · exact List.set_comm _ _ (fun e2 => e e2.symm)
  rw [e] at h1
  refine ⟨h.cell.far (p := ⟨g, i, none⟩) (fun e2 => own_far h.own h.cell (by decide) (by rw [e2]; rfl)) _, h1, grown_trans h.grow h2, fun m hm hl => ?_⟩
  by_cases e : m = 13
  · rw [e, vset_self]; rfl
  · rw [mark_ne e] at hl; rw [vset_ne e]; exact h.vals m hm hl
theorem SW.second (h : SW w0 w B H g n c i j hs x y L v W) (h15 : L 15 = false) : SW w0 w B H g n c i j hs x y (mark L 15) (vset v 15 undef) (W.setCell ⟨g, j, none⟩ x) := by
  obtain ⟨h1, h2⟩ := h.own.stored j x
  have e : (swpL hs i j x y (L 13) (L 15)).set j x = swpL hs i j x y (mark L 15 13) (mark L 15 15) := by
    rw [h15, mark_self, mark_ne (by decide)]; rfl
  rw [e] at h1
  refine ⟨h.cell.far (p := ⟨g, j, none⟩) (fun e2 => own_far h.own h.cell (by decide) (by rw [e2]; rfl)) _, h1, grown_trans h.grow h2, fun m hm hl => ?_⟩
  by_cases e : m = 15
  · rw [e, vset_self]; rfl
  · rw [mark_ne e] at hl; rw [vset_ne e]; exact h.vals m hm hl
end
theorem hp_grown {w0 W W' : World} {B H : Nat} {v : Value} {hs hs' : List Value} {F F' : List (List Nat)} (h : HpAt w0 B H v hs F W) (hl : F'.length = F.length) (hc : At W' H 68 #[v]) (ho : W'.ownsRow B 42 1 v F'.length hs') (hg : W.grownBy W' v.ownBlock) (hr : ∀ (i : Nat) (u : Value) (row : List Nat), hs'[i]? = some u → F'[i]? = some row → ∃ k : Nat, hs[k]? = some u ∧ F[k]? = some row) : HpAt w0 B H v hs' F' W' :=
  ⟨hc, ho, fun i u row h1 h2 => by obtain ⟨k, h3, h4⟩ := hr i u row h1 h2; exact h.rows k u row h3 h4, h.below.grown hg h.below.size (fun q hq => Nat.le_trans h.base (own_lt h.own hq).1), h.base, Nat.le_trans h.size hg.size⟩
theorem swp_pair {α β : Type} {F : List α} {hs : List β} {i j : Nat} (hi : i < F.length) (hj : j < F.length) (hl : hs.length = F.length) : ∀ (k : Nat) (u : β) (row : α), (Hp.swp hs i j)[k]? = some u → (Hp.swp F i j)[k]? = some row → ∃ m : Nat, hs[m]? = some u ∧ F[m]? = some row := fun k u row h1 h2 => by
  rw [Hp.swp_get (by omega) (by omega)] at h1
  rw [Hp.swp_get hi hj] at h2
  split at h1
  · rename_i e; rw [if_pos e] at h2; exact ⟨i, h1, h2⟩
  · rename_i e; rw [if_neg e] at h2
    split at h1
    · rename_i e2; rw [if_pos e2] at h2; exact ⟨j, h1, h2⟩
    · rename_i e2; rw [if_neg e2] at h2; exact ⟨k, h1, h2⟩
set_option maxHeartbeats 1000000 in
set_option maxRecDepth 100000 in
theorem swap_any (w0 : World) (B H : Nat) (v : Value) (hs : List Value) (F : List (List Nat)) (w : World) (h : HpAt w0 B H v hs F w) (i j : Nat) (hi : i < F.length) (hj : j < F.length) :
    Calls Try.prog 90 #[v, .int .i64 (i : Int), .int .i64 (j : Int)] w fun e w' => e = .returned (.tuple #[]) ∧ HpAt w0 B H v (Hp.swp hs i j) (Hp.swp F i j) w' ∧ w.grownBy w' v.ownBlock := by
  obtain ⟨g, c, rfl, hg, gi, oi, mi, ci, x0, x1, x2, x3, x4⟩ := h.get hi
  obtain ⟨g', c', e, hg', gj, oj, mj, cj, y0, y1, y2, y3, y4⟩ := h.get hj
  obtain rfl : g = g' := by injection e with e; injection e with e; injection e
  have HH := Lib.hid h
  have i0 : (0 : Int) ≤ (i : Int) := by omega
  have i1 : (i : Int) < (F.length : Int) := by omega
  have i2 : (0 : Int) ≤ (j : Int) := by omega
  have i3 : (j : Int) < (F.length : Int) := by omega
  have HX := Lib.hid x0
  have HY := Lib.hid y0
  have HST := Lib.hid (fun L v (hL : ∀ i, i < 16 → L i = false) => (⟨h.cell.drew, by rw [hL 13 (by decide), hL 15 (by decide)]; exact h.own, ⟨rfl, rfl, rfl, Nat.le_refl _, fun _ _ _ => rfl⟩, fun k hk hl => by rw [hL k hk] at hl; cases hl⟩ : SW w0 w B H g F.length c i j hs (.slice (some ⟨gi, oi, none⟩) mi ci) (.slice (some ⟨gj, oj, none⟩) mj cj) L v w.drew))
  clear h e hg hg' x0 x1 x2 x3 x4 y0 y1 y2 y3 y4
  go_enter Try.func90, Try.ntmps90
  go_wp2_with fail
  refine' wp_region_inv _ (SW w0 w B H g F.length c i j hs (.slice (some ⟨gi, oi, none⟩) mi ci) (.slice (some ⟨gj, oj, none⟩) mj cj)) ?hF (by kernel_rfl) (by kernel_rfl) (by kernel_rfl) (fun L v hL => HST.out L v (fun i hi => hL i (by simpa using hi))) ?hops ?hend
  case hF => (intro v; simp only [over, Act.put, List.setIfInBounds_toArray, List.set_cons_zero, List.set_cons_succ, Nat.zero_add, Nat.reduceAdd]; exact rfl)
  case hops =>
    refine ⟨?_, ?_⟩
    · intro L v w' hL hd hu hI K hK
      have hk := hK.out
      simp only [Act.put, List.setIfInBounds_toArray, List.set_cons_zero, List.set_cons_succ] at hk
      have HK := Lib.hid hk
      clear hd hu hk hK
      go_simp
      exact HK.out _ _ (hI.out.pin (k := 0) (by decide))
    refine ⟨?_, ?_⟩
    · intro L v w' hL hd hu hI K hK
      have hk := hK.out
      simp only [Act.put, List.setIfInBounds_toArray, List.set_cons_zero, List.set_cons_succ] at hk
      have HK := Lib.hid hk
      clear hd hu hk hK
      go_simp
      exact HK.out _ _ (hI.out.pin (k := 1) (by decide))
    refine ⟨?_, ?_⟩
    · intro L v w' hL hd hu hI K hK
      have hk := hK.out
      simp only [Act.put, List.setIfInBounds_toArray, List.set_cons_zero, List.set_cons_succ] at hk
      have HK := Lib.hid hk
      clear hd hu hk hK
      go_simp
      exact HK.out _ _ (hI.out.pin (k := 2) (by decide))
    refine ⟨?_, ?_⟩
    · intro L v w' hL hd hu hI K hK
      have hk := hK.out
      simp only [Act.put, List.setIfInBounds_toArray, List.set_cons_zero, List.set_cons_succ] at hk
      have HK := Lib.hid hk
      clear hd hu hk hK
      go_simp
      exact HK.out _ _ (hI.out.pin (k := 3) (by decide))
    refine ⟨?_, ?_⟩
    · intro L v w' hL hd hu hI K hK
      have hk := hK.out
      simp only [Act.put, List.setIfInBounds_toArray, List.set_cons_zero, List.set_cons_succ] at hk
      have HK := Lib.hid hk
      clear hd hu hk hK
      go_simp
      exact HK.out _ _ (hI.out.pin (k := 4) (by decide))
    refine ⟨?_, ?_⟩
    · intro L v w' hL hd hu hI K hK
      have hk := hK.out
      simp only [Act.put, List.setIfInBounds_toArray, List.set_cons_zero, List.set_cons_succ] at hk
      have HK := Lib.hid hk
      clear hd hu hk hK
      go_simp
      exact HK.out _ _ (hI.out.pin (k := 5) (by decide))
    refine ⟨?_, ?_⟩
    · intro L v w' hL hd hu hI K hK
      have t4 : v 4 = _ := hI.out.vals 4 (by decide) (hd.out 4 (by kernel_rfl))
      simp only [swpC, List.getD_cons_zero, List.getD_cons_succ] at t4
      have t5 : v 5 = _ := hI.out.vals 5 (by decide) (hd.out 5 (by kernel_rfl))
      simp only [swpC, List.getD_cons_zero, List.getD_cons_succ] at t5
      have hk := hK.out
      simp only [t4, t5, Act.put, List.setIfInBounds_toArray, List.set_cons_zero, List.set_cons_succ] at hk
      have HK := Lib.hid hk
      clear hd hu hk hK
      go_simp
      exact HK.out _ _ (hI.out.pin (k := 6) (by decide))
    refine ⟨?_, ?_⟩
    · intro L v w' hL hd hu hI K hK
      have t6 : v 6 = _ := hI.out.vals 6 (by decide) (hd.out 6 (by kernel_rfl))
      simp only [swpC, List.getD_cons_zero, List.getD_cons_succ] at t6
      have l13 : L 13 = false := hu.out 13 (by kernel_rfl)
      have l15 : L 15 = false := hu.out 15 (by kernel_rfl)
      have ho := hI.out.own
      rw [l13, l15] at ho
      have yc : w'.cell? ⟨g, j, none⟩ = some (.slice (some ⟨gj, oj, none⟩) mj cj) := by
        have := ho.cells (g := g) rfl j _ HY.out
        rw [add_at, Nat.zero_add] at this
        exact this
      clear ho
      have hk := hK.out
      simp only [t6, Act.put, List.setIfInBounds_toArray, List.set_cons_zero, List.set_cons_succ] at hk
      have HK := Lib.hid hk
      clear hd hu hk hK
      go_simp
      exact HK.out _ _ (hI.out.pin (k := 7) (by decide))
    refine ⟨?_, ?_⟩
    · intro L v w' hL hd hu hI K hK
      have hk := hK.out
      simp only [Act.put, List.setIfInBounds_toArray, List.set_cons_zero, List.set_cons_succ] at hk
      have HK := Lib.hid hk
      clear hd hu hk hK
      go_simp
      exact HK.out _ _ (hI.out.pin (k := 8) (by decide))
    refine ⟨?_, ?_⟩
    · intro L v w' hL hd hu hI K hK
      have hk := hK.out
      simp only [Act.put, List.setIfInBounds_toArray, List.set_cons_zero, List.set_cons_succ] at hk
      have HK := Lib.hid hk
      clear hd hu hk hK
      go_simp
      exact HK.out _ _ (hI.out.pin (k := 9) (by decide))
    refine ⟨?_, ?_⟩
    · intro L v w' hL hd hu hI K hK
      have t8 : v 8 = _ := hI.out.vals 8 (by decide) (hd.out 8 (by kernel_rfl))
      simp only [swpC, List.getD_cons_zero, List.getD_cons_succ] at t8
      have t9 : v 9 = _ := hI.out.vals 9 (by decide) (hd.out 9 (by kernel_rfl))
      simp only [swpC, List.getD_cons_zero, List.getD_cons_succ] at t9
      have hk := hK.out
      simp only [t8, t9, Act.put, List.setIfInBounds_toArray, List.set_cons_zero, List.set_cons_succ] at hk
      have HK := Lib.hid hk
      clear hd hu hk hK
      go_simp
      exact HK.out _ _ (hI.out.pin (k := 10) (by decide))
    refine ⟨?_, ?_⟩
    · intro L v w' hL hd hu hI K hK
      have t10 : v 10 = _ := hI.out.vals 10 (by decide) (hd.out 10 (by kernel_rfl))
      simp only [swpC, List.getD_cons_zero, List.getD_cons_succ] at t10
      have l13 : L 13 = false := hu.out 13 (by kernel_rfl)
      have l15 : L 15 = false := hu.out 15 (by kernel_rfl)
      have ho := hI.out.own
      rw [l13, l15] at ho
      have yc : w'.cell? ⟨g, i, none⟩ = some (.slice (some ⟨gi, oi, none⟩) mi ci) := by
        have := ho.cells (g := g) rfl i _ HX.out
        rw [add_at, Nat.zero_add] at this
        exact this
      clear ho
      have hk := hK.out
      simp only [t10, Act.put, List.setIfInBounds_toArray, List.set_cons_zero, List.set_cons_succ] at hk
      have HK := Lib.hid hk
      clear hd hu hk hK
      go_simp
      exact HK.out _ _ (hI.out.pin (k := 11) (by decide))
    refine ⟨?_, ?_⟩
    · intro L v w' hL hd hu hI K hK
      have t0 : v 0 = _ := hI.out.vals 0 (by decide) (hd.out 0 (by kernel_rfl))
      simp only [swpC, List.getD_cons_zero, List.getD_cons_succ] at t0
      have t1 : v 1 = _ := hI.out.vals 1 (by decide) (hd.out 1 (by kernel_rfl))
      simp only [swpC, List.getD_cons_zero, List.getD_cons_succ] at t1
      have hk := hK.out
      simp only [t0, t1, Act.put, List.setIfInBounds_toArray, List.set_cons_zero, List.set_cons_succ] at hk
      have HK := Lib.hid hk
      clear hd hu hk hK
      go_simp
      exact HK.out _ _ (hI.out.pin (k := 12) (by decide))
    refine ⟨?_, ?_⟩
    · intro L v w' hL hd hu hI K hK
      have t12 : v 12 = _ := hI.out.vals 12 (by decide) (hd.out 12 (by kernel_rfl))
      simp only [swpC, List.getD_cons_zero, List.getD_cons_succ] at t12
      have t7 : v 7 = _ := hI.out.vals 7 (by decide) (hd.out 7 (by kernel_rfl))
      simp only [swpC, List.getD_cons_zero, List.getD_cons_succ] at t7
      have yf := hI.out.own.frozenAt i
      obtain ⟨z, yc⟩ : ∃ z, w'.cell? ⟨g, i, none⟩ = some z := by
        have hlt : i < (swpL hs i j (.slice (some ⟨gi, oi, none⟩) mi ci) (.slice (some ⟨gj, oj, none⟩) mj cj) (L 13) (L 15)).length := by have := hI.out.own.1; omega
        have := hI.out.own.cells (g := g) rfl i _ (List.getElem?_eq_getElem hlt)
        rw [add_at, Nat.zero_add] at this
        exact ⟨_, this⟩
      have hk := hK.out
      simp only [t12, t7, Act.put, List.setIfInBounds_toArray, List.set_cons_zero, List.set_cons_succ] at hk
      have HK := Lib.hid hk
      clear hd hu hk hK
      go_simp
      exact HK.out undef _ (hI.out.first HX.out HY.out hL)
    refine ⟨?_, ?_⟩
    · intro L v w' hL hd hu hI K hK
      have t2 : v 2 = _ := hI.out.vals 2 (by decide) (hd.out 2 (by kernel_rfl))
      simp only [swpC, List.getD_cons_zero, List.getD_cons_succ] at t2
      have t3 : v 3 = _ := hI.out.vals 3 (by decide) (hd.out 3 (by kernel_rfl))
      simp only [swpC, List.getD_cons_zero, List.getD_cons_succ] at t3
      have hk := hK.out
      simp only [t2, t3, Act.put, List.setIfInBounds_toArray, List.set_cons_zero, List.set_cons_succ] at hk
      have HK := Lib.hid hk
      clear hd hu hk hK
      go_simp
      exact HK.out _ _ (hI.out.pin (k := 14) (by decide))
    refine ⟨?_, ?_⟩
    · intro L v w' hL hd hu hI K hK
      have t14 : v 14 = _ := hI.out.vals 14 (by decide) (hd.out 14 (by kernel_rfl))
      simp only [swpC, List.getD_cons_zero, List.getD_cons_succ] at t14
      have t11 : v 11 = _ := hI.out.vals 11 (by decide) (hd.out 11 (by kernel_rfl))
      simp only [swpC, List.getD_cons_zero, List.getD_cons_succ] at t11
      have yf := hI.out.own.frozenAt j
      obtain ⟨z, yc⟩ : ∃ z, w'.cell? ⟨g, j, none⟩ = some z := by
        have hlt : j < (swpL hs i j (.slice (some ⟨gi, oi, none⟩) mi ci) (.slice (some ⟨gj, oj, none⟩) mj cj) (L 13) (L 15)).length := by have := hI.out.own.1; omega
        have := hI.out.own.cells (g := g) rfl j _ (List.getElem?_eq_getElem hlt)
        rw [add_at, Nat.zero_add] at this
        exact ⟨_, this⟩
      have hk := hK.out
      simp only [t14, t11, Act.put, List.setIfInBounds_toArray, List.set_cons_zero, List.set_cons_succ] at hk
      have HK := Lib.hid hk
      clear hd hu hk hK
      go_simp
      exact HK.out undef _ (hI.out.second hL)
    trivial
  case hend =>
    intro L v w2 hL hI
    have l13 := hL.out 13 (by simp)
    have l15 := hL.out 15 (by simp)
    have ho := hI.out.own
    rw [l13, l15] at ho
    have hgr := hI.out.grow
    have hce := hI.out.cell
    clear hI hL l13 l15
    have hl := HH.out.len
    have e : swpL hs i j (.slice (some ⟨gi, oi, none⟩) mi ci) (.slice (some ⟨gj, oj, none⟩) mj cj) true true = Hp.swp hs i j := by
      unfold Hp.swp; rw [HX.out, HY.out]; rfl
    rw [e] at ho
    go_wp2_with fail
    go_end0
    exact ⟨rfl, hp_grown HH.out (Hp.swp_len _ _ _) hce (by rw [Hp.swp_len]; exact ho) hgr (swp_pair hi hj hl), hgr⟩
end Go.Proofs.Ytljlihimmcmlmaa
namespace Go.Proofs.Ytljlihimmcmlmaa
set_option linter.unusedVariables false
set_option linter.unusedSimpArgs false
open Go.RowKit
theorem half_i (j : Nat) : ((j : Int) - 1).tdiv 2 = (((j - 1) / 2 : Nat) : Int) := by
  cases j with
  | zero => decide
  | succ k =>
    have e : ((k + 1 : Nat) : Int) - 1 = (k : Int) := by omega
    rw [e, Nat.add_sub_cancel]
    rfl
set_option maxHeartbeats 1000000 in
set_option maxRecDepth 100000 in
theorem up_any (w0 : World) (B H : Nat) (v : Value) (hs : List Value) (F : List (List Nat)) (w : World) (h : HpAt w0 B H v hs F w) (j f : Nat) (hj : j < F.length) (hjf : j < f) (hl : F.length ≤ 100000) :
    Calls Try.prog 48 #[hif H, .int .i64 (j : Int)] w fun e w' => e = .returned (.tuple #[]) ∧ ∃ hs', HpAt w0 B H v hs' (Hp.up Tj.key f F j) w' ∧ w.grownBy w' v.ownBlock := by
  obtain ⟨R, hR⟩ : ∃ R, Hp.up Tj.key f F j = R := ⟨_, rfl⟩
  rw [hR]
  unfold hif
  obtain ⟨N, hN⟩ : ∃ N, F.length = N := ⟨_, rfl⟩
  rw [hN] at hj hl
  have HR := Lib.hid hR
  clear hR
  go_enter Try.func48, Try.ntmps48
  go_wp2_with fail
  go_loopw [1, 4] (fun i _ wr => ∃ (f j : Nat) (hs : List Value) (F : List (List Nat)), j < N ∧ j < f ∧ F.length = N ∧ i = .int .i64 j ∧ HpAt w0 B H v hs F wr ∧ Hid (Hp.up Tj.key f F j = R) ∧ w.grownBy wr v.ownBlock) (fun i _ _ => (intOf i).toNat)
  case atStart => exact ⟨f, j, hs, F, hj, hjf, hN, rfl, h, HR, grown_refl _ _⟩
  case round =>
    clear h HR hj hjf hN
    obtain ⟨f, j, hs, F, hj, hjf, hN, rfl, h, HR, hgr⟩ := hrel
    have e1 := half_i j
    obtain ⟨q, hq⟩ : ∃ q, (j - 1) / 2 = q := ⟨_, rfl⟩
    rw [hq] at e1
    have hqN : q < N := by omega
    obtain ⟨f, rfl⟩ : ∃ f', f = f' + 1 := ⟨f - 1, by omega⟩
    have hup : R = if (j - 1) / 2 = j ∨ ¬ Hp.K Tj.key F j < Hp.K Tj.key F ((j - 1) / 2) then F else Hp.up Tj.key f (Hp.swp F ((j - 1) / 2) j) ((j - 1) / 2) := HR.out.symm
    rw [hq] at hup
    clear HR
    by_cases h0 : q = j
    · have t1 : ((q : Int) == (j : Int)) = true := by rw [beq_iff_eq]; omega
      rw [if_pos (Or.inl h0)] at hup
      have HU := Lib.hid hup
      clear hup h0 hq
      go_wp2_with fail
      go_end0
      exact ⟨rfl, hs, by rw [HU.out]; exact h, hgr⟩
    · have t1 : ((q : Int) == (j : Int)) = false := by rw [beq_eq_false_iff_ne]; omega
      have hqj : q < j := by omega
      have hm := method_less H v wr (h.cell.cell 0)
      have HL := Lib.hid (less_any w0 B H v hs F wr h j q (by omega) (by omega))
      obtain ⟨tv, htv⟩ : ∃ tv, decide (Hp.K Tj.key F j < Hp.K Tj.key F q) = tv := ⟨_, rfl⟩
      rw [htv] at HL
      cases tv
      · rw [if_pos (Or.inr (by simpa using htv))] at hup
        have HU := Lib.hid hup
        clear hup h0 hq htv
        go_wp2_with (go_at_call 87; refine HL.out.mono ?_; rintro e w3 ⟨rfl, hb3⟩)
        go_end0
        exact ⟨rfl, hs, by rw [HU.out]; exact h.next hb3, grown_trans hgr (grown_of_below hb3 _)⟩
      · rw [if_neg (by rintro (h1 | h1); exact h0 h1; exact h1 (by simpa using htv))] at hup
        have HU := Lib.hid hup
        clear hup htv
        go_wp2_with (first | (go_at_call 87; refine HL.out.mono ?_; rintro e w3 ⟨rfl, hb3⟩; have h3 := h.next hb3; have hm3 := method_swap H v w3 (h3.cell.cell 0); have HS := Lib.hid (swap_any w0 B H v hs F w3 h3 q j (by omega) (by omega))) | (go_at_call 90; refine HS.out.mono ?_; rintro e w4 ⟨rfl, h4, hg4⟩))
        go_roundw
        case rel => exact ⟨f, q, _, _, by omega, by omega, by rw [Hp.swp_len]; exact hN, by go_num, h4, Lib.hid HU.out.symm, grown_trans (grown_trans hgr (grown_of_below hb3 _)) hg4⟩
        case measure => simp [intOf]; omega
end Go.Proofs.Ytljlihimmcmlmaa
