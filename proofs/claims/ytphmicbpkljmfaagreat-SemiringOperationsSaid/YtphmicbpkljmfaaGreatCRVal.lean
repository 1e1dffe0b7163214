/- The walk of the reference's Valid. -/
import Derived.Test.YtphmicbpkljmfaaGreatCMisc
import Derived.Test.YtphmicbpkljmfaaGreatCLaw
import Derived.Test.YtphmicbpkljmfaaGreatCKey
import Derived.Test.YtphmicbpkljmfaaGreatTwo
namespace Go.Proofs.YtphmicbpkljmfaaGreat
set_option linter.unusedVariables false
set_option linter.unusedSimpArgs false
open Go.RowKit
open Cx (N)
/-- What is left to be seen of the nodes. -/
def VAt (l : List N) (R : Bool) (k : Nat) (seen : List N) : Prop := R = Cx.validFrom seen (l.drop k) k
theorem VAt.more {l : List N} {R : Bool} {k : Nat} {seen : List N} {n : N} (h : VAt l R k seen) (hn : l[k]? = some n) : R = (Cx.okB n k && !seen.contains n && Cx.validFrom (seen ++ [n]) (l.drop (k + 1)) (k + 1)) := by
  obtain ⟨hk, rfl⟩ := List.getElem?_eq_some_iff.1 hn
  unfold VAt at h
  rw [h, List.drop_eq_getElem_cons hk]; rfl
/-- A set of nodes as a function. -/
def Seen {α : Type} (a : α) (seen : List N) (f : N → Option α) : Prop := ∀ y, f y = if seen.contains y = true then some a else none
theorem Seen.more {α : Type} {a : α} {seen : List N} {f : N → Option α} (h : Seen a seen f) (n : N) : Seen a (seen ++ [n]) (fun y => if y = n then some a else f y) := by
  intro y
  show (if y = n then some a else f y) = _
  by_cases e : y = n
  · subst e; simp
  · rw [if_neg e, h y]; simp [e]
theorem Seen.get {seen : List N} {f : N → Option Bool} (h : Seen true seen f) (n : N) : (f n).getD false = seen.contains n := by
  rw [h n]; cases seen.contains n <;> rfl
theorem Seen.isSome {α : Type} {a : α} {seen : List N} {f : N → Option α} (h : Seen a seen f) (n : N) : (f n).isSome = seen.contains n := by
  rw [h n]; cases seen.contains n <;> rfl
theorem valid_short {l : List N} (h : l.length < 2) : Cx.valid l = false := by unfold Cx.valid; simp; omega
theorem valid_0 {l : List N} {x : N} (h : l[0]? = some x) (hx : x ≠ Cx.zero) : Cx.valid l = false := by unfold Cx.valid; simp [h, hx]
theorem valid_1 {l : List N} {x : N} (h : l[1]? = some x) (hx : x ≠ Cx.one) : Cx.valid l = false := by unfold Cx.valid; simp [h, hx]
theorem valid_2 {l : List N} (h2 : 2 ≤ l.length) (hl : l.length ≤ 20000) (h0 : l[0]? = some Cx.zero) (h1 : l[1]? = some Cx.one) : VAt l (Cx.valid l) 2 [] := by unfold VAt Cx.valid; simp [h0, h1, h2, hl]
theorem VAt.done {l : List N} {R : Bool} {k : Nat} {seen : List N} (h : VAt l R k seen) (hk : l.length ≤ k) : R = true := by
  unfold VAt at h; rw [h, List.drop_eq_nil_of_le hk]; rfl
/-- The region that looks at the first two nodes. -/
theorem cells_at {w : World} {A : Option Addr} {l : List N} (h : Circ w A l) (h2 : 2 ≤ l.length) : ∃ g o x y, A = some ⟨g, o, none⟩ ∧ g < w.heap.size ∧ l[0]? = some x ∧ l[1]? = some y ∧ w.cell? ⟨g, o, none⟩ = some (.int .i64 x.o) ∧ w.cell? ⟨g, o + 1, none⟩ = some (.int .i64 x.a) ∧ w.cell? ⟨g, o + 2, none⟩ = some (.int .i64 x.b) ∧ w.cell? ⟨g, o + 3, none⟩ = some (.int .i64 y.o) ∧ w.cell? ⟨g, o + 4, none⟩ = some (.int .i64 y.a) ∧ w.cell? ⟨g, o + 5, none⟩ = some (.int .i64 y.b) := by
  obtain ⟨g, o, e, hg, hc⟩ := h (by intro e; rw [e] at h2; simp at h2)
  have e0 := getElem_of (show 0 < l.length by omega)
  have e1 := getElem_of (show 1 < l.length by omega)
  obtain ⟨a, b, c⟩ := hc _ _ e0
  obtain ⟨a', b', c'⟩ := hc _ _ e1
  exact ⟨g, o, _, _, e, hg, e0, e1, a, b, c, a', b', c'⟩
/-- A slice, or a pointer into a block, of the call's own. -/
def NewSl (n c : Nat) (t : TypeId) (cs : List Value) : Value → World → Prop := fun x w => ∃ b, x = .slice (some ⟨b, 0, none⟩) n c ∧ At w b t cs.toArray
def NewPt (o : Nat) (t : TypeId) (cs : List Value) : Value → World → Prop := fun x w => ∃ b, x = .pointer (some ⟨b, o, none⟩) ∧ At w b t cs.toArray
theorem lasting_newSl {J : World → Prop} (n c : Nat) (t : TypeId) (cs : List Value) : Lasting J Onward (NewSl n c t cs) := fun x w w' _ hb ⟨b, e, h⟩ => ⟨b, e, h.next hb⟩
theorem lasting_newPt {J : World → Prop} (o : Nat) (t : TypeId) (cs : List Value) : Lasting J Onward (NewPt o t cs) := fun x w w' _ hb ⟨b, e, h⟩ => ⟨b, e, h.next hb⟩
/-- The nodes 0 and 1 in memory. -/
def news : List Value := [.int .i64 0, .int .i64 0, .int .i64 0, .int .i64 1, .int .i64 0, .int .i64 0]
set_option maxHeartbeats 4000000 in
set_option maxRecDepth 100000 in
theorem rvalid_any (A : Option Addr) (c : Nat) (l : List N) (w : World) (hl : l.length ≤ 20000) (hF : ∀ n ∈ l, NGood n) (hA : Circ w A l) :
    Calls Tryz.prog 44 #[.slice A l.length c] w fun e w' => e = .returned (.bool (Cx.valid l)) ∧ Below w.heap.size w w' := by
  obtain ⟨R, hR⟩ : ∃ R, R = Cx.valid l := ⟨_, rfl⟩
  rw [← hR]
  by_cases h2 : l.length < 2
  · have d1 : decide ((l.length : Int) < 2) = true := by simp; omega
    have HR := Lib.hid (show R = false by rw [hR, valid_short h2])
    clear hR
    go_enter Tryz.func44, Tryz.ntmps44
    go_wp2_with fail
    refine wp_region_held w.heap.size w (Below.refl _ _) (by kernel_rfl) (by kernel_rfl) ?_
    repeat (go_big_quiet_step (fail))
    refine wpQuiet_nil ?_
    rintro w1 ⟨⟨_, b1⟩, rfl⟩
    go_wp2_with fail
    go_ret
    exact ⟨by rw [HR.out]; rfl, b1⟩
  · have d1 : decide ((l.length : Int) < 2) = false := by simp; omega
    have d2 : decide ((20000 : Int) < (l.length : Int)) = false := by simp; omega
    obtain ⟨g, o, x, y, rfl, hg, e0, e1, a0, a1, a2, b0, b1, b2⟩ := cells_at hA (by omega)
    have i0 : (0 : Int) < (l.length : Int) := by omega
    have i1 : (1 : Int) < (l.length : Int) := by omega
    have j0 : 0 < l.length := by omega
    have j1 : 1 < l.length := by omega
    have HBD := Lib.hid (show ∀ W, Below w.heap.size w W → W.cell? ⟨g, o, none⟩ = some (.int .i64 x.o) ∧ W.cell? ⟨g, o + 1, none⟩ = some (.int .i64 x.a) ∧ W.cell? ⟨g, o + 2, none⟩ = some (.int .i64 x.b) ∧ W.cell? ⟨g, o + 3, none⟩ = some (.int .i64 y.o) ∧ W.cell? ⟨g, o + 4, none⟩ = some (.int .i64 y.a) ∧ W.cell? ⟨g, o + 5, none⟩ = some (.int .i64 y.b) from
      fun W hb => ⟨(hb.cell hg).trans a0, (hb.cell hg).trans a1, (hb.cell hg).trans a2, (hb.cell hg).trans b0, (hb.cell hg).trans b1, (hb.cell hg).trans b2⟩)
    clear a0 a1 a2 b0 b1 b2
    have qa := fun w => node_eq x Cx.zero w
    have qb := fun w => node_eq y Cx.one w
    simp only [Cx.zero, Cx.one] at qa qb
    by_cases hx : x = Cx.zero
    · by_cases hy : y = Cx.one
      · have hz : (x == Cx.zero) = true := by simpa using hx
        have hz' : (y == Cx.one) = true := by simpa using hy
        have HR := Lib.hid (show VAt l R 2 [] from by rw [hR]; exact valid_2 (by omega) hl (by rw [e0, hx]) (by rw [e1, hy]))
        simp only [Cx.zero] at hz
        simp only [Cx.one] at hz'
        rw [hz] at qa
        rw [hz'] at qb
        clear hR e0 e1 hx hy hz hz'
        go_enter Tryz.func44, Tryz.ntmps44
        go_wp2_with fail
        refine' wp_region_each _ (Below w.heap.size w) (Onward) [Vl, Vl, Vl, Vl, Vl, Vl, Vl, Vl, Vl, Vl, Vl, Vl, NewSl 2 2 58 news, NewPt 0 58 news, Vl, Vl, Vl, Vl, Vl, Vl, Vl, NewSl 2 2 58 news, NewPt 3 58 news, Vl, Vl, Vl] ?hF (by kernel_rfl) (by kernel_rfl) (by kernel_rfl) ((Below.refl _ _).drew) (lasting_cons (lasting_vl) (lasting_cons (lasting_vl) (lasting_cons (lasting_vl) (lasting_cons (lasting_vl) (lasting_cons (lasting_vl) (lasting_cons (lasting_vl) (lasting_cons (lasting_vl) (lasting_cons (lasting_vl) (lasting_cons (lasting_vl) (lasting_cons (lasting_vl) (lasting_cons (lasting_vl) (lasting_cons (lasting_vl) (lasting_cons (lasting_newSl _ _ _ _) (lasting_cons (lasting_newPt _ _ _) (lasting_cons (lasting_vl) (lasting_cons (lasting_vl) (lasting_cons (lasting_vl) (lasting_cons (lasting_vl) (lasting_cons (lasting_vl) (lasting_cons (lasting_vl) (lasting_cons (lasting_vl) (lasting_cons (lasting_newSl _ _ _ _) (lasting_cons (lasting_newPt _ _ _) (lasting_cons (lasting_vl) (lasting_cons (lasting_vl) (lasting_cons (lasting_vl) (lasting_none))))))))))))))))))))))))))) ?hops ?hend
        case hF => (intro v; simp only [over, Act.put, List.setIfInBounds_toArray, List.set_cons_zero, List.set_cons_succ, Nat.zero_add, Nat.reduceAdd]; exact rfl)
        case hops =>
          refine ⟨?_, ?_⟩
          · intro v w' hj hd hs K hK
            have hk := hK.out
            simp only [Act.put, List.setIfInBounds_toArray, List.set_cons_zero, List.set_cons_succ] at hk
            have HK := Lib.hid hk
            clear hd hs hk hK
            go_simp
            exact HK.out _ _ hj.out (Below.refl _ _) (show _ = _ from rfl)
          refine ⟨?_, ?_⟩
          · intro v w' hj hd hs K hK
            have t0 : v 0 = _ := hd.out 0 (by kernel_rfl)
            have hk := hK.out
            simp only [t0, Act.put, List.setIfInBounds_toArray, List.set_cons_zero, List.set_cons_succ] at hk
            have HK := Lib.hid hk
            clear hd hs hk hK
            go_simp
            exact HK.out _ _ hj.out (Below.refl _ _) (show _ = _ from rfl)
          refine ⟨?_, ?_⟩
          · intro v w' hj hd hs K hK
            have t1 : v 1 = _ := hd.out 1 (by kernel_rfl)
            have hk := hK.out
            simp only [t1, Act.put, List.setIfInBounds_toArray, List.set_cons_zero, List.set_cons_succ] at hk
            have HK := Lib.hid hk
            clear hd hs hk hK
            go_simp
            exact HK.out _ _ hj.out (Below.refl _ _) (show _ = _ from rfl)
          refine ⟨?_, ?_⟩
          · intro v w' hj hd hs K hK
            have t2 : v 2 = _ := hd.out 2 (by kernel_rfl)
            have hk := hK.out
            simp only [t2, Act.put, List.setIfInBounds_toArray, List.set_cons_zero, List.set_cons_succ] at hk
            have HK := Lib.hid hk
            clear hd hs hk hK
            go_simp
            exact HK.out _ _ hj.out (Below.refl _ _) (show _ = _ from rfl)
          refine ⟨?_, ?_⟩
          · intro v w' hj hd hs K hK
            have t3 : v 3 = _ := hd.out 3 (by kernel_rfl)
            have hk := hK.out
            simp only [t3, Act.put, List.setIfInBounds_toArray, List.set_cons_zero, List.set_cons_succ] at hk
            have HK := Lib.hid hk
            clear hd hs hk hK
            go_simp
            exact HK.out _ _ hj.out (Below.refl _ _) (show _ = _ from rfl)
          refine ⟨?_, ?_⟩
          · intro v w' hj hd hs K hK
            have t3 : v 3 = _ := hd.out 3 (by kernel_rfl)
            have t4 : v 4 = _ := hd.out 4 (by kernel_rfl)
            have hk := hK.out
            simp only [t3, t4, Act.put, List.setIfInBounds_toArray, List.set_cons_zero, List.set_cons_succ] at hk
            have HK := Lib.hid hk
            clear hd hs hk hK
            go_simp
            exact HK.out _ _ hj.out (Below.refl _ _) (show _ = _ from rfl)
          refine ⟨?_, ?_⟩
          · intro v w' hj hd hs K hK
            have t3 : v 3 = _ := hd.out 3 (by kernel_rfl)
            have t5 : v 5 = _ := hd.out 5 (by kernel_rfl)
            have hk := hK.out
            simp only [t3, t5, Act.put, List.setIfInBounds_toArray, List.set_cons_zero, List.set_cons_succ] at hk
            have HK := Lib.hid hk
            clear hd hs hk hK
            go_simp
            exact HK.out _ _ hj.out (Below.refl _ _) (show _ = _ from rfl)
          refine ⟨?_, ?_⟩
          · intro v w' hj hd hs K hK
            have t3 : v 3 = _ := hd.out 3 (by kernel_rfl)
            have t6 : v 6 = _ := hd.out 6 (by kernel_rfl)
            have hk := hK.out
            simp only [t3, t6, Act.put, List.setIfInBounds_toArray, List.set_cons_zero, List.set_cons_succ] at hk
            have HK := Lib.hid hk
            clear hd hs hk hK
            go_simp
            exact HK.out _ _ hj.out (Below.refl _ _) (show _ = _ from rfl)
          refine ⟨?_, ?_⟩
          · intro v w' hj hd hs K hK
            have t7 : v 7 = _ := hd.out 7 (by kernel_rfl)
            have hk := hK.out
            simp only [t7, Act.put, List.setIfInBounds_toArray, List.set_cons_zero, List.set_cons_succ] at hk
            have HK := Lib.hid hk
            clear hd hs hk hK
            go_simp
            exact HK.out _ _ hj.out (Below.refl _ _) (show _ = _ from rfl)
          refine ⟨?_, ?_⟩
          · intro v w' hj hd hs K hK
            have t8 : v 8 = _ := hd.out 8 (by kernel_rfl)
            have hk := hK.out
            simp only [t8, Act.put, List.setIfInBounds_toArray, List.set_cons_zero, List.set_cons_succ] at hk
            have HK := Lib.hid hk
            clear hd hs hk hK
            go_simp
            exact HK.out _ _ hj.out (Below.refl _ _) (show _ = _ from rfl)
          refine ⟨?_, ?_⟩
          · intro v w' hj hd hs K hK
            have t8 : v 8 = _ := hd.out 8 (by kernel_rfl)
            have t9 : v 9 = _ := hd.out 9 (by kernel_rfl)
            have hk := hK.out
            simp only [t8, t9, Act.put, List.setIfInBounds_toArray, List.set_cons_zero, List.set_cons_succ] at hk
            have HK := Lib.hid hk
            clear hd hs hk hK
            go_simp
            exact HK.out _ _ hj.out (Below.refl _ _) (show _ = _ from rfl)
          refine ⟨?_, ?_⟩
          · intro v w' hj hd hs K hK
            have t8 : v 8 = _ := hd.out 8 (by kernel_rfl)
            have t10 : v 10 = _ := hd.out 10 (by kernel_rfl)
            obtain ⟨c0, c1, c2, _⟩ := HBD.out _ hj.out
            have hk := hK.out
            simp only [t8, t10, Act.put, List.setIfInBounds_toArray, List.set_cons_zero, List.set_cons_succ] at hk
            have HK := Lib.hid hk
            clear hd hs hk hK
            go_simp
            exact HK.out _ _ hj.out (Below.refl _ _) (show _ = _ from rfl)
          refine ⟨?_, ?_⟩
          · intro v w' hj hd hs K hK
            have t8 : v 8 = _ := hd.out 8 (by kernel_rfl)
            have hk := hK.out
            simp only [t8, Act.put, List.setIfInBounds_toArray, List.set_cons_zero, List.set_cons_succ] at hk
            have HK := Lib.hid hk
            clear hd hs hk hK
            go_simp
            refine (rnew_any _).mono ?_
            rintro e w2 ⟨rfl, hw2⟩
            subst hw2
            exact HK.out _ _ (hj.out.alloc hj.out.size _) (below1 _ _) ⟨_, rfl, At.new _ _ _⟩
          refine ⟨?_, ?_⟩
          · intro v w' hj hd hs K hK
            have t8 : v 8 = _ := hd.out 8 (by kernel_rfl)
            obtain ⟨b12, t12, z12⟩ : NewSl 2 2 58 news (v 12) w' := hd.out 12 (by kernel_rfl)
            have hk := hK.out
            simp only [t8, t12, Act.put, List.setIfInBounds_toArray, List.set_cons_zero, List.set_cons_succ] at hk
            have HK := Lib.hid hk
            clear hd hs hk hK
            go_simp
            exact HK.out _ _ hj.out (Below.refl _ _) ⟨_, rfl, z12⟩
          refine ⟨?_, ?_⟩
          · intro v w' hj hd hs K hK
            have t8 : v 8 = _ := hd.out 8 (by kernel_rfl)
            obtain ⟨b13, t13, z13⟩ : NewPt 0 58 news (v 13) w' := hd.out 13 (by kernel_rfl)
            have c0 := z13.cell 0; have c1 := z13.cell 1; have c2 := z13.cell 2
            simp [news] at c0 c1 c2
            clear z13
            have hk := hK.out
            simp only [t8, t13, Act.put, List.setIfInBounds_toArray, List.set_cons_zero, List.set_cons_succ] at hk
            have HK := Lib.hid hk
            clear hd hs hk hK
            go_simp
            exact HK.out _ _ hj.out (Below.refl _ _) (show _ = _ from rfl)
          refine ⟨?_, ?_⟩
          · intro v w' hj hd hs K hK
            have t8 : v 8 = _ := hd.out 8 (by kernel_rfl)
            have t11 : v 11 = _ := hd.out 11 (by kernel_rfl)
            have t14 : v 14 = _ := hd.out 14 (by kernel_rfl)
            have hk := hK.out
            simp only [t8, t11, t14, Act.put, List.setIfInBounds_toArray, List.set_cons_zero, List.set_cons_succ] at hk
            have HK := Lib.hid hk
            clear hd hs hk hK
            go_simp
            exact HK.out _ _ hj.out (Below.refl _ _) (show _ = _ from rfl)
          refine ⟨?_, ?_⟩
          · intro v w' hj hd hs K hK
            have t8 : v 8 = _ := hd.out 8 (by kernel_rfl)
            have t15 : v 15 = _ := hd.out 15 (by kernel_rfl)
            have hk := hK.out
            simp only [t8, t15, Act.put, List.setIfInBounds_toArray, List.set_cons_zero, List.set_cons_succ] at hk
            have HK := Lib.hid hk
            clear hd hs hk hK
            go_simp
            exact HK.out _ _ hj.out (Below.refl _ _) (show _ = _ from rfl)
          refine ⟨?_, ?_⟩
          · intro v w' hj hd hs K hK
            have t16 : v 16 = _ := hd.out 16 (by kernel_rfl)
            have hk := hK.out
            simp only [t16, Act.put, List.setIfInBounds_toArray, List.set_cons_zero, List.set_cons_succ] at hk
            have HK := Lib.hid hk
            clear hd hs hk hK
            go_simp
            exact HK.out _ _ hj.out (Below.refl _ _) (show _ = _ from rfl)
          refine ⟨?_, ?_⟩
          · intro v w' hj hd hs K hK
            have t17 : v 17 = _ := hd.out 17 (by kernel_rfl)
            have hk := hK.out
            simp only [t17, Act.put, List.setIfInBounds_toArray, List.set_cons_zero, List.set_cons_succ] at hk
            have HK := Lib.hid hk
            clear hd hs hk hK
            go_simp
            exact HK.out _ _ hj.out (Below.refl _ _) (show _ = _ from rfl)
          refine ⟨?_, ?_⟩
          · intro v w' hj hd hs K hK
            have t17 : v 17 = _ := hd.out 17 (by kernel_rfl)
            have t18 : v 18 = _ := hd.out 18 (by kernel_rfl)
            have hk := hK.out
            simp only [t17, t18, Act.put, List.setIfInBounds_toArray, List.set_cons_zero, List.set_cons_succ] at hk
            have HK := Lib.hid hk
            clear hd hs hk hK
            go_simp
            exact HK.out _ _ hj.out (Below.refl _ _) (show _ = _ from rfl)
          refine ⟨?_, ?_⟩
          · intro v w' hj hd hs K hK
            have t17 : v 17 = _ := hd.out 17 (by kernel_rfl)
            have t19 : v 19 = _ := hd.out 19 (by kernel_rfl)
            obtain ⟨_, _, _, c0, c1, c2⟩ := HBD.out _ hj.out
            have hk := hK.out
            simp only [t17, t19, Act.put, List.setIfInBounds_toArray, List.set_cons_zero, List.set_cons_succ] at hk
            have HK := Lib.hid hk
            clear hd hs hk hK
            go_simp
            exact HK.out _ _ hj.out (Below.refl _ _) (show _ = _ from rfl)
          refine ⟨?_, ?_⟩
          · intro v w' hj hd hs K hK
            have t17 : v 17 = _ := hd.out 17 (by kernel_rfl)
            have hk := hK.out
            simp only [t17, Act.put, List.setIfInBounds_toArray, List.set_cons_zero, List.set_cons_succ] at hk
            have HK := Lib.hid hk
            clear hd hs hk hK
            go_simp
            refine (rnew_any _).mono ?_
            rintro e w2 ⟨rfl, hw2⟩
            subst hw2
            exact HK.out _ _ (hj.out.alloc hj.out.size _) (below1 _ _) ⟨_, rfl, At.new _ _ _⟩
          refine ⟨?_, ?_⟩
          · intro v w' hj hd hs K hK
            have t17 : v 17 = _ := hd.out 17 (by kernel_rfl)
            obtain ⟨b21, t21, z21⟩ : NewSl 2 2 58 news (v 21) w' := hd.out 21 (by kernel_rfl)
            have hk := hK.out
            simp only [t17, t21, Act.put, List.setIfInBounds_toArray, List.set_cons_zero, List.set_cons_succ] at hk
            have HK := Lib.hid hk
            clear hd hs hk hK
            go_simp
            exact HK.out _ _ hj.out (Below.refl _ _) ⟨_, rfl, z21⟩
          refine ⟨?_, ?_⟩
          · intro v w' hj hd hs K hK
            have t17 : v 17 = _ := hd.out 17 (by kernel_rfl)
            obtain ⟨b22, t22, z22⟩ : NewPt 3 58 news (v 22) w' := hd.out 22 (by kernel_rfl)
            have c0 := z22.cell 3; have c1 := z22.cell 4; have c2 := z22.cell 5
            simp [news] at c0 c1 c2
            clear z22
            have hk := hK.out
            simp only [t17, t22, Act.put, List.setIfInBounds_toArray, List.set_cons_zero, List.set_cons_succ] at hk
            have HK := Lib.hid hk
            clear hd hs hk hK
            go_simp
            exact HK.out _ _ hj.out (Below.refl _ _) (show _ = _ from rfl)
          refine ⟨?_, ?_⟩
          · intro v w' hj hd hs K hK
            have t17 : v 17 = _ := hd.out 17 (by kernel_rfl)
            have t20 : v 20 = _ := hd.out 20 (by kernel_rfl)
            have t23 : v 23 = _ := hd.out 23 (by kernel_rfl)
            have hk := hK.out
            simp only [t17, t20, t23, Act.put, List.setIfInBounds_toArray, List.set_cons_zero, List.set_cons_succ] at hk
            have HK := Lib.hid hk
            clear hd hs hk hK
            go_simp
            exact HK.out _ _ hj.out (Below.refl _ _) (show _ = _ from rfl)
          refine ⟨?_, ?_⟩
          · intro v w' hj hd hs K hK
            have t17 : v 17 = _ := hd.out 17 (by kernel_rfl)
            have t24 : v 24 = _ := hd.out 24 (by kernel_rfl)
            have hk := hK.out
            simp only [t17, t24, Act.put, List.setIfInBounds_toArray, List.set_cons_zero, List.set_cons_succ] at hk
            have HK := Lib.hid hk
            clear hd hs hk hK
            go_simp
            exact HK.out _ _ hj.out (Below.refl _ _) (show _ = _ from rfl)
          trivial
        case hend =>
          intro v w2 hj hd
          have t25 : v 25 = _ := hd.out 25 (of_decide_eq_true (by kernel_rfl))
          have b2 := hj.out
          clear hj hd qa qb
          simp only [t25]
          clear t25
          have hmm := @run_makeMap Tryz.prog
          have f0 := FMap.made w2 Tryz.prog 58 (plainElem Tryz.prog 4) nval (fun x : Bool => (.lit (.bool x) : DataW Unit))
          have b3 := b2.alloc b2.size (.map #[] 0)
          have hlt : w.heap.size ≤ w2.heap.size := b2.size
          go_wp2_with fail
          go_loopw [4] (fun v wr => ∃ (k n : Nat) (seen : List N) (f : N → Option Bool), 2 ≤ k ∧ k ≤ l.length ∧ n ≤ k ∧ v = .int .i64 k ∧ FMap wr Tryz.prog 58 (plainElem Tryz.prog 4) nval (fun x : Bool => (.lit (.bool x) : DataW Unit)) w2.heap.size n f ∧ Hid (Seen true seen f) ∧ Hid (VAt l R k seen) ∧ Below w.heap.size w wr) (fun v _ => l.length - (intOf v).toNat)
          case atStart => exact ⟨2, 0, [], _, by omega, by omega, by omega, rfl, f0, Lib.hid (fun y => by simp), HR, b3⟩
          case round =>
            obtain ⟨k, n, seen, f, hk2, hk, hn, rfl, hm, HS, HV, hbw⟩ := hrel
            clear f0 b3 b2
            by_cases h1 : k < l.length
            · have d3 : decide ((k : Int) < (l.length : Int)) = true := by simp; omega
              have d3' : decide (k < l.length) = true := by simp; omega
              have KE := Lib.hid (fun W (h : Below w.heap.size w W) => by
                obtain ⟨g', o', e', _, r⟩ := (hA.below h).at h1
                simp at e'
                obtain ⟨rfl, rfl⟩ := e'
                exact r)
              have e1 := getElem_of h1
              have hgood := hF _ (List.getElem_mem h1)
              obtain ⟨c0, c1, c2⟩ := KE.out _ hbw
              generalize l[k] = x at *
              have hmore := HV.out.more e1
              have i0' : (0 : Int) ≤ (k : Int) := by omega
              have i1' : (k : Int) < (l.length : Int) := by omega
              cases hok : Cx.okB x k
              · have HR' := Lib.hid (show R = false by rw [hmore, hok]; rfl)
                have HOK := Lib.hid hok
                clear hok hmore e1
                go_wp2_with fail
                refine (ok_any x (k : Int) _).mono ?_
                rintro e w3 ⟨rfl, b3⟩
                rw [HOK.out]
                go_wp2_with fail
                go_ret
                exact ⟨by rw [HR'.out]; rfl, hbw.trans (b3.mono hbw.size)⟩
              · have HOK := Lib.hid hok
                cases hct : seen.contains x
                · have HN := Lib.hid (show VAt l R (k + 1) (seen ++ [x]) by unfold VAt; rw [hmore, hok, hct]; rfl)
                  have HG := Lib.hid (show (f x).getD false = false by rw [HS.out.get, hct])
                  have HSN := Lib.hid (HS.out.more x)
                  clear hok hmore e1 hct
                  go_wp2_with fail
                  refine (ok_any x (k : Int) _).mono ?_
                  rintro e w3 ⟨rfl, b3⟩
                  rw [HOK.out]
                  have hm3 := hm.next b3
                  have hb3 := hbw.trans (b3.mono hbw.size)
                  have q0 := hm3.look node_enc bool_enc Tryz.underlying85 (zero_bool _) x hgood
                  rw [HG.out] at q0
                  simp only [nval] at q0
                  clear c0 c1 c2
                  obtain ⟨c0, c1, c2⟩ := KE.out _ hb3
                  go_wp2_with (first | (at_mapUpdate; refine wpList_fmap_update _ rfl _ _ _ 85 rfl hm3 node_enc bool_enc Tryz.underlying85 (by unfold maxLen; omega) rfl x rfl hgood true rfl ?_; intro w9 hk9 g9))
                  go_roundw
                  case rel => exact ⟨k + 1, n + 1, seen ++ [x], _, by omega, by omega, by omega, by go_num, hk9, HSN, HN, hb3.trans (below_of_grown g9 hlt hb3.size)⟩
                  case measure => simp [intOf]; omega
                · have HR' := Lib.hid (show R = false by rw [hmore, hok, hct]; rfl)
                  have HG := Lib.hid (show (f x).getD false = true by rw [HS.out.get, hct])
                  clear hok hmore e1 hct
                  go_wp2_with fail
                  refine (ok_any x (k : Int) _).mono ?_
                  rintro e w3 ⟨rfl, b3⟩
                  rw [HOK.out]
                  have hm3 := hm.next b3
                  have hb3 := hbw.trans (b3.mono hbw.size)
                  have q0 := hm3.look node_enc bool_enc Tryz.underlying85 (zero_bool _) x hgood
                  rw [HG.out] at q0
                  simp only [nval] at q0
                  clear c0 c1 c2
                  obtain ⟨c0, c1, c2⟩ := KE.out _ hb3
                  go_wp2_with fail
                  go_ret
                  exact ⟨by rw [HR'.out]; rfl, hb3⟩
            · have d3 : decide ((k : Int) < (l.length : Int)) = false := by simp; omega
              have d3' : decide (k < l.length) = false := by simp; omega
              have HR' := Lib.hid (HV.out.done (by omega))
              go_wp2_with fail
              go_ret
              exact ⟨by rw [HR'.out]; rfl, hbw⟩
      · have hz : (x == Cx.zero) = true := by simpa using hx
        have hz' : (y == Cx.one) = false := by simpa using hy
        have HR := Lib.hid (show R = false by rw [hR, valid_1 e1 hy])
        simp only [Cx.zero] at hz
        simp only [Cx.one] at hz'
        rw [hz] at qa
        rw [hz'] at qb
        clear hR e0 e1 hx hy hz hz'
        go_enter Tryz.func44, Tryz.ntmps44
        go_wp2_with fail
        refine' wp_region_each _ (Below w.heap.size w) (Onward) [Vl, Vl, Vl, Vl, Vl, Vl, Vl, Vl, Vl, Vl, Vl, Vl, NewSl 2 2 58 news, NewPt 0 58 news, Vl, Vl, Vl, Vl, Vl, Vl, Vl, NewSl 2 2 58 news, NewPt 3 58 news, Vl, Vl, Vl] ?hF (by kernel_rfl) (by kernel_rfl) (by kernel_rfl) ((Below.refl _ _).drew) (lasting_cons (lasting_vl) (lasting_cons (lasting_vl) (lasting_cons (lasting_vl) (lasting_cons (lasting_vl) (lasting_cons (lasting_vl) (lasting_cons (lasting_vl) (lasting_cons (lasting_vl) (lasting_cons (lasting_vl) (lasting_cons (lasting_vl) (lasting_cons (lasting_vl) (lasting_cons (lasting_vl) (lasting_cons (lasting_vl) (lasting_cons (lasting_newSl _ _ _ _) (lasting_cons (lasting_newPt _ _ _) (lasting_cons (lasting_vl) (lasting_cons (lasting_vl) (lasting_cons (lasting_vl) (lasting_cons (lasting_vl) (lasting_cons (lasting_vl) (lasting_cons (lasting_vl) (lasting_cons (lasting_vl) (lasting_cons (lasting_newSl _ _ _ _) (lasting_cons (lasting_newPt _ _ _) (lasting_cons (lasting_vl) (lasting_cons (lasting_vl) (lasting_cons (lasting_vl) (lasting_none))))))))))))))))))))))))))) ?hops ?hend
        case hF => (intro v; simp only [over, Act.put, List.setIfInBounds_toArray, List.set_cons_zero, List.set_cons_succ, Nat.zero_add, Nat.reduceAdd]; exact rfl)
        case hops =>
          refine ⟨?_, ?_⟩
          · intro v w' hj hd hs K hK
            have hk := hK.out
            simp only [Act.put, List.setIfInBounds_toArray, List.set_cons_zero, List.set_cons_succ] at hk
            have HK := Lib.hid hk
            clear hd hs hk hK
            go_simp
            exact HK.out _ _ hj.out (Below.refl _ _) (show _ = _ from rfl)
          refine ⟨?_, ?_⟩
          · intro v w' hj hd hs K hK
            have t0 : v 0 = _ := hd.out 0 (by kernel_rfl)
            have hk := hK.out
            simp only [t0, Act.put, List.setIfInBounds_toArray, List.set_cons_zero, List.set_cons_succ] at hk
            have HK := Lib.hid hk
            clear hd hs hk hK
            go_simp
            exact HK.out _ _ hj.out (Below.refl _ _) (show _ = _ from rfl)
          refine ⟨?_, ?_⟩
          · intro v w' hj hd hs K hK
            have t1 : v 1 = _ := hd.out 1 (by kernel_rfl)
            have hk := hK.out
            simp only [t1, Act.put, List.setIfInBounds_toArray, List.set_cons_zero, List.set_cons_succ] at hk
            have HK := Lib.hid hk
            clear hd hs hk hK
            go_simp
            exact HK.out _ _ hj.out (Below.refl _ _) (show _ = _ from rfl)
          refine ⟨?_, ?_⟩
          · intro v w' hj hd hs K hK
            have t2 : v 2 = _ := hd.out 2 (by kernel_rfl)
            have hk := hK.out
            simp only [t2, Act.put, List.setIfInBounds_toArray, List.set_cons_zero, List.set_cons_succ] at hk
            have HK := Lib.hid hk
            clear hd hs hk hK
            go_simp
            exact HK.out _ _ hj.out (Below.refl _ _) (show _ = _ from rfl)
          refine ⟨?_, ?_⟩
          · intro v w' hj hd hs K hK
            have t3 : v 3 = _ := hd.out 3 (by kernel_rfl)
            have hk := hK.out
            simp only [t3, Act.put, List.setIfInBounds_toArray, List.set_cons_zero, List.set_cons_succ] at hk
            have HK := Lib.hid hk
            clear hd hs hk hK
            go_simp
            exact HK.out _ _ hj.out (Below.refl _ _) (show _ = _ from rfl)
          refine ⟨?_, ?_⟩
          · intro v w' hj hd hs K hK
            have t3 : v 3 = _ := hd.out 3 (by kernel_rfl)
            have t4 : v 4 = _ := hd.out 4 (by kernel_rfl)
            have hk := hK.out
            simp only [t3, t4, Act.put, List.setIfInBounds_toArray, List.set_cons_zero, List.set_cons_succ] at hk
            have HK := Lib.hid hk
            clear hd hs hk hK
            go_simp
            exact HK.out _ _ hj.out (Below.refl _ _) (show _ = _ from rfl)
          refine ⟨?_, ?_⟩
          · intro v w' hj hd hs K hK
            have t3 : v 3 = _ := hd.out 3 (by kernel_rfl)
            have t5 : v 5 = _ := hd.out 5 (by kernel_rfl)
            have hk := hK.out
            simp only [t3, t5, Act.put, List.setIfInBounds_toArray, List.set_cons_zero, List.set_cons_succ] at hk
            have HK := Lib.hid hk
            clear hd hs hk hK
            go_simp
            exact HK.out _ _ hj.out (Below.refl _ _) (show _ = _ from rfl)
          refine ⟨?_, ?_⟩
          · intro v w' hj hd hs K hK
            have t3 : v 3 = _ := hd.out 3 (by kernel_rfl)
            have t6 : v 6 = _ := hd.out 6 (by kernel_rfl)
            have hk := hK.out
            simp only [t3, t6, Act.put, List.setIfInBounds_toArray, List.set_cons_zero, List.set_cons_succ] at hk
            have HK := Lib.hid hk
            clear hd hs hk hK
            go_simp
            exact HK.out _ _ hj.out (Below.refl _ _) (show _ = _ from rfl)
          refine ⟨?_, ?_⟩
          · intro v w' hj hd hs K hK
            have t7 : v 7 = _ := hd.out 7 (by kernel_rfl)
            have hk := hK.out
            simp only [t7, Act.put, List.setIfInBounds_toArray, List.set_cons_zero, List.set_cons_succ] at hk
            have HK := Lib.hid hk
            clear hd hs hk hK
            go_simp
            exact HK.out _ _ hj.out (Below.refl _ _) (show _ = _ from rfl)
          refine ⟨?_, ?_⟩
          · intro v w' hj hd hs K hK
            have t8 : v 8 = _ := hd.out 8 (by kernel_rfl)
            have hk := hK.out
            simp only [t8, Act.put, List.setIfInBounds_toArray, List.set_cons_zero, List.set_cons_succ] at hk
            have HK := Lib.hid hk
            clear hd hs hk hK
            go_simp
            exact HK.out _ _ hj.out (Below.refl _ _) (show _ = _ from rfl)
          refine ⟨?_, ?_⟩
          · intro v w' hj hd hs K hK
            have t8 : v 8 = _ := hd.out 8 (by kernel_rfl)
            have t9 : v 9 = _ := hd.out 9 (by kernel_rfl)
            have hk := hK.out
            simp only [t8, t9, Act.put, List.setIfInBounds_toArray, List.set_cons_zero, List.set_cons_succ] at hk
            have HK := Lib.hid hk
            clear hd hs hk hK
            go_simp
            exact HK.out _ _ hj.out (Below.refl _ _) (show _ = _ from rfl)
          refine ⟨?_, ?_⟩
          · intro v w' hj hd hs K hK
            have t8 : v 8 = _ := hd.out 8 (by kernel_rfl)
            have t10 : v 10 = _ := hd.out 10 (by kernel_rfl)
            obtain ⟨c0, c1, c2, _⟩ := HBD.out _ hj.out
            have hk := hK.out
            simp only [t8, t10, Act.put, List.setIfInBounds_toArray, List.set_cons_zero, List.set_cons_succ] at hk
            have HK := Lib.hid hk
            clear hd hs hk hK
            go_simp
            exact HK.out _ _ hj.out (Below.refl _ _) (show _ = _ from rfl)
          refine ⟨?_, ?_⟩
          · intro v w' hj hd hs K hK
            have t8 : v 8 = _ := hd.out 8 (by kernel_rfl)
            have hk := hK.out
            simp only [t8, Act.put, List.setIfInBounds_toArray, List.set_cons_zero, List.set_cons_succ] at hk
            have HK := Lib.hid hk
            clear hd hs hk hK
            go_simp
            refine (rnew_any _).mono ?_
            rintro e w2 ⟨rfl, hw2⟩
            subst hw2
            exact HK.out _ _ (hj.out.alloc hj.out.size _) (below1 _ _) ⟨_, rfl, At.new _ _ _⟩
          refine ⟨?_, ?_⟩
          · intro v w' hj hd hs K hK
            have t8 : v 8 = _ := hd.out 8 (by kernel_rfl)
            obtain ⟨b12, t12, z12⟩ : NewSl 2 2 58 news (v 12) w' := hd.out 12 (by kernel_rfl)
            have hk := hK.out
            simp only [t8, t12, Act.put, List.setIfInBounds_toArray, List.set_cons_zero, List.set_cons_succ] at hk
            have HK := Lib.hid hk
            clear hd hs hk hK
            go_simp
            exact HK.out _ _ hj.out (Below.refl _ _) ⟨_, rfl, z12⟩
          refine ⟨?_, ?_⟩
          · intro v w' hj hd hs K hK
            have t8 : v 8 = _ := hd.out 8 (by kernel_rfl)
            obtain ⟨b13, t13, z13⟩ : NewPt 0 58 news (v 13) w' := hd.out 13 (by kernel_rfl)
            have c0 := z13.cell 0; have c1 := z13.cell 1; have c2 := z13.cell 2
            simp [news] at c0 c1 c2
            clear z13
            have hk := hK.out
            simp only [t8, t13, Act.put, List.setIfInBounds_toArray, List.set_cons_zero, List.set_cons_succ] at hk
            have HK := Lib.hid hk
            clear hd hs hk hK
            go_simp
            exact HK.out _ _ hj.out (Below.refl _ _) (show _ = _ from rfl)
          refine ⟨?_, ?_⟩
          · intro v w' hj hd hs K hK
            have t8 : v 8 = _ := hd.out 8 (by kernel_rfl)
            have t11 : v 11 = _ := hd.out 11 (by kernel_rfl)
            have t14 : v 14 = _ := hd.out 14 (by kernel_rfl)
            have hk := hK.out
            simp only [t8, t11, t14, Act.put, List.setIfInBounds_toArray, List.set_cons_zero, List.set_cons_succ] at hk
            have HK := Lib.hid hk
            clear hd hs hk hK
            go_simp
            exact HK.out _ _ hj.out (Below.refl _ _) (show _ = _ from rfl)
          refine ⟨?_, ?_⟩
          · intro v w' hj hd hs K hK
            have t8 : v 8 = _ := hd.out 8 (by kernel_rfl)
            have t15 : v 15 = _ := hd.out 15 (by kernel_rfl)
            have hk := hK.out
            simp only [t8, t15, Act.put, List.setIfInBounds_toArray, List.set_cons_zero, List.set_cons_succ] at hk
            have HK := Lib.hid hk
            clear hd hs hk hK
            go_simp
            exact HK.out _ _ hj.out (Below.refl _ _) (show _ = _ from rfl)
          refine ⟨?_, ?_⟩
          · intro v w' hj hd hs K hK
            have t16 : v 16 = _ := hd.out 16 (by kernel_rfl)
            have hk := hK.out
            simp only [t16, Act.put, List.setIfInBounds_toArray, List.set_cons_zero, List.set_cons_succ] at hk
            have HK := Lib.hid hk
            clear hd hs hk hK
            go_simp
            exact HK.out _ _ hj.out (Below.refl _ _) (show _ = _ from rfl)
          refine ⟨?_, ?_⟩
          · intro v w' hj hd hs K hK
            have t17 : v 17 = _ := hd.out 17 (by kernel_rfl)
            have hk := hK.out
            simp only [t17, Act.put, List.setIfInBounds_toArray, List.set_cons_zero, List.set_cons_succ] at hk
            have HK := Lib.hid hk
            clear hd hs hk hK
            go_simp
            exact HK.out _ _ hj.out (Below.refl _ _) (show _ = _ from rfl)
          refine ⟨?_, ?_⟩
          · intro v w' hj hd hs K hK
            have t17 : v 17 = _ := hd.out 17 (by kernel_rfl)
            have t18 : v 18 = _ := hd.out 18 (by kernel_rfl)
            have hk := hK.out
            simp only [t17, t18, Act.put, List.setIfInBounds_toArray, List.set_cons_zero, List.set_cons_succ] at hk
            have HK := Lib.hid hk
            clear hd hs hk hK
            go_simp
            exact HK.out _ _ hj.out (Below.refl _ _) (show _ = _ from rfl)
          refine ⟨?_, ?_⟩
          · intro v w' hj hd hs K hK
            have t17 : v 17 = _ := hd.out 17 (by kernel_rfl)
            have t19 : v 19 = _ := hd.out 19 (by kernel_rfl)
            obtain ⟨_, _, _, c0, c1, c2⟩ := HBD.out _ hj.out
            have hk := hK.out
            simp only [t17, t19, Act.put, List.setIfInBounds_toArray, List.set_cons_zero, List.set_cons_succ] at hk
            have HK := Lib.hid hk
            clear hd hs hk hK
            go_simp
            exact HK.out _ _ hj.out (Below.refl _ _) (show _ = _ from rfl)
          refine ⟨?_, ?_⟩
          · intro v w' hj hd hs K hK
            have t17 : v 17 = _ := hd.out 17 (by kernel_rfl)
            have hk := hK.out
            simp only [t17, Act.put, List.setIfInBounds_toArray, List.set_cons_zero, List.set_cons_succ] at hk
            have HK := Lib.hid hk
            clear hd hs hk hK
            go_simp
            refine (rnew_any _).mono ?_
            rintro e w2 ⟨rfl, hw2⟩
            subst hw2
            exact HK.out _ _ (hj.out.alloc hj.out.size _) (below1 _ _) ⟨_, rfl, At.new _ _ _⟩
          refine ⟨?_, ?_⟩
          · intro v w' hj hd hs K hK
            have t17 : v 17 = _ := hd.out 17 (by kernel_rfl)
            obtain ⟨b21, t21, z21⟩ : NewSl 2 2 58 news (v 21) w' := hd.out 21 (by kernel_rfl)
            have hk := hK.out
            simp only [t17, t21, Act.put, List.setIfInBounds_toArray, List.set_cons_zero, List.set_cons_succ] at hk
            have HK := Lib.hid hk
            clear hd hs hk hK
            go_simp
            exact HK.out _ _ hj.out (Below.refl _ _) ⟨_, rfl, z21⟩
          refine ⟨?_, ?_⟩
          · intro v w' hj hd hs K hK
            have t17 : v 17 = _ := hd.out 17 (by kernel_rfl)
            obtain ⟨b22, t22, z22⟩ : NewPt 3 58 news (v 22) w' := hd.out 22 (by kernel_rfl)
            have c0 := z22.cell 3; have c1 := z22.cell 4; have c2 := z22.cell 5
            simp [news] at c0 c1 c2
            clear z22
            have hk := hK.out
            simp only [t17, t22, Act.put, List.setIfInBounds_toArray, List.set_cons_zero, List.set_cons_succ] at hk
            have HK := Lib.hid hk
            clear hd hs hk hK
            go_simp
            exact HK.out _ _ hj.out (Below.refl _ _) (show _ = _ from rfl)
          refine ⟨?_, ?_⟩
          · intro v w' hj hd hs K hK
            have t17 : v 17 = _ := hd.out 17 (by kernel_rfl)
            have t20 : v 20 = _ := hd.out 20 (by kernel_rfl)
            have t23 : v 23 = _ := hd.out 23 (by kernel_rfl)
            have hk := hK.out
            simp only [t17, t20, t23, Act.put, List.setIfInBounds_toArray, List.set_cons_zero, List.set_cons_succ] at hk
            have HK := Lib.hid hk
            clear hd hs hk hK
            go_simp
            exact HK.out _ _ hj.out (Below.refl _ _) (show _ = _ from rfl)
          refine ⟨?_, ?_⟩
          · intro v w' hj hd hs K hK
            have t17 : v 17 = _ := hd.out 17 (by kernel_rfl)
            have t24 : v 24 = _ := hd.out 24 (by kernel_rfl)
            have hk := hK.out
            simp only [t17, t24, Act.put, List.setIfInBounds_toArray, List.set_cons_zero, List.set_cons_succ] at hk
            have HK := Lib.hid hk
            clear hd hs hk hK
            go_simp
            exact HK.out _ _ hj.out (Below.refl _ _) (show _ = _ from rfl)
          trivial
        case hend =>
          intro v w2 hj hd
          have t25 : v 25 = _ := hd.out 25 (of_decide_eq_true (by kernel_rfl))
          have b2 := hj.out
          clear hj hd
          simp only [t25]
          go_wp2_with fail
          go_ret
          exact ⟨by rw [HR.out]; rfl, b2⟩
    · have hz : (x == Cx.zero) = false := by simpa using hx
      have HR := Lib.hid (show R = false by rw [hR, valid_0 e0 hx])
      simp only [Cx.zero] at hz
      rw [hz] at qa
      clear hR e0 e1 hx hz
      go_enter Tryz.func44, Tryz.ntmps44
      go_wp2_with fail
      refine' wp_region_each _ (Below w.heap.size w) (Onward) [Vl, Vl, Vl, Vl, Vl, Vl, Vl, Vl, Vl, Vl, Vl, Vl, NewSl 2 2 58 news, NewPt 0 58 news, Vl, Vl, Vl, Vl, Pin undef, Pin undef, Pin undef, Pin undef, Pin undef, Pin undef, Pin undef, Vl] ?hF (by kernel_rfl) (by kernel_rfl) (by kernel_rfl) ((Below.refl _ _).drew) (lasting_cons (lasting_vl) (lasting_cons (lasting_vl) (lasting_cons (lasting_vl) (lasting_cons (lasting_vl) (lasting_cons (lasting_vl) (lasting_cons (lasting_vl) (lasting_cons (lasting_vl) (lasting_cons (lasting_vl) (lasting_cons (lasting_vl) (lasting_cons (lasting_vl) (lasting_cons (lasting_vl) (lasting_cons (lasting_vl) (lasting_cons (lasting_newSl _ _ _ _) (lasting_cons (lasting_newPt _ _ _) (lasting_cons (lasting_vl) (lasting_cons (lasting_vl) (lasting_cons (lasting_vl) (lasting_cons (lasting_vl) (lasting_cons (lasting_pin _) (lasting_cons (lasting_pin _) (lasting_cons (lasting_pin _) (lasting_cons (lasting_pin _) (lasting_cons (lasting_pin _) (lasting_cons (lasting_pin _) (lasting_cons (lasting_pin _) (lasting_cons (lasting_vl) (lasting_none))))))))))))))))))))))))))) ?hops ?hend
      case hF => (intro v; simp only [over, Act.put, List.setIfInBounds_toArray, List.set_cons_zero, List.set_cons_succ, Nat.zero_add, Nat.reduceAdd]; exact rfl)
      case hops =>
        refine ⟨?_, ?_⟩
        · intro v w' hj hd hs K hK
          have hk := hK.out
          simp only [Act.put, List.setIfInBounds_toArray, List.set_cons_zero, List.set_cons_succ] at hk
          have HK := Lib.hid hk
          clear hd hs hk hK
          go_simp
          exact HK.out _ _ hj.out (Below.refl _ _) (show _ = _ from rfl)
        refine ⟨?_, ?_⟩
        · intro v w' hj hd hs K hK
          have t0 : v 0 = _ := hd.out 0 (by kernel_rfl)
          have hk := hK.out
          simp only [t0, Act.put, List.setIfInBounds_toArray, List.set_cons_zero, List.set_cons_succ] at hk
          have HK := Lib.hid hk
          clear hd hs hk hK
          go_simp
          exact HK.out _ _ hj.out (Below.refl _ _) (show _ = _ from rfl)
        refine ⟨?_, ?_⟩
        · intro v w' hj hd hs K hK
          have t1 : v 1 = _ := hd.out 1 (by kernel_rfl)
          have hk := hK.out
          simp only [t1, Act.put, List.setIfInBounds_toArray, List.set_cons_zero, List.set_cons_succ] at hk
          have HK := Lib.hid hk
          clear hd hs hk hK
          go_simp
          exact HK.out _ _ hj.out (Below.refl _ _) (show _ = _ from rfl)
        refine ⟨?_, ?_⟩
        · intro v w' hj hd hs K hK
          have t2 : v 2 = _ := hd.out 2 (by kernel_rfl)
          have hk := hK.out
          simp only [t2, Act.put, List.setIfInBounds_toArray, List.set_cons_zero, List.set_cons_succ] at hk
          have HK := Lib.hid hk
          clear hd hs hk hK
          go_simp
          exact HK.out _ _ hj.out (Below.refl _ _) (show _ = _ from rfl)
        refine ⟨?_, ?_⟩
        · intro v w' hj hd hs K hK
          have t3 : v 3 = _ := hd.out 3 (by kernel_rfl)
          have hk := hK.out
          simp only [t3, Act.put, List.setIfInBounds_toArray, List.set_cons_zero, List.set_cons_succ] at hk
          have HK := Lib.hid hk
          clear hd hs hk hK
          go_simp
          exact HK.out _ _ hj.out (Below.refl _ _) (show _ = _ from rfl)
        refine ⟨?_, ?_⟩
        · intro v w' hj hd hs K hK
          have t3 : v 3 = _ := hd.out 3 (by kernel_rfl)
          have t4 : v 4 = _ := hd.out 4 (by kernel_rfl)
          have hk := hK.out
          simp only [t3, t4, Act.put, List.setIfInBounds_toArray, List.set_cons_zero, List.set_cons_succ] at hk
          have HK := Lib.hid hk
          clear hd hs hk hK
          go_simp
          exact HK.out _ _ hj.out (Below.refl _ _) (show _ = _ from rfl)
        refine ⟨?_, ?_⟩
        · intro v w' hj hd hs K hK
          have t3 : v 3 = _ := hd.out 3 (by kernel_rfl)
          have t5 : v 5 = _ := hd.out 5 (by kernel_rfl)
          have hk := hK.out
          simp only [t3, t5, Act.put, List.setIfInBounds_toArray, List.set_cons_zero, List.set_cons_succ] at hk
          have HK := Lib.hid hk
          clear hd hs hk hK
          go_simp
          exact HK.out _ _ hj.out (Below.refl _ _) (show _ = _ from rfl)
        refine ⟨?_, ?_⟩
        · intro v w' hj hd hs K hK
          have t3 : v 3 = _ := hd.out 3 (by kernel_rfl)
          have t6 : v 6 = _ := hd.out 6 (by kernel_rfl)
          have hk := hK.out
          simp only [t3, t6, Act.put, List.setIfInBounds_toArray, List.set_cons_zero, List.set_cons_succ] at hk
          have HK := Lib.hid hk
          clear hd hs hk hK
          go_simp
          exact HK.out _ _ hj.out (Below.refl _ _) (show _ = _ from rfl)
        refine ⟨?_, ?_⟩
        · intro v w' hj hd hs K hK
          have t7 : v 7 = _ := hd.out 7 (by kernel_rfl)
          have hk := hK.out
          simp only [t7, Act.put, List.setIfInBounds_toArray, List.set_cons_zero, List.set_cons_succ] at hk
          have HK := Lib.hid hk
          clear hd hs hk hK
          go_simp
          exact HK.out _ _ hj.out (Below.refl _ _) (show _ = _ from rfl)
        refine ⟨?_, ?_⟩
        · intro v w' hj hd hs K hK
          have t8 : v 8 = _ := hd.out 8 (by kernel_rfl)
          have hk := hK.out
          simp only [t8, Act.put, List.setIfInBounds_toArray, List.set_cons_zero, List.set_cons_succ] at hk
          have HK := Lib.hid hk
          clear hd hs hk hK
          go_simp
          exact HK.out _ _ hj.out (Below.refl _ _) (show _ = _ from rfl)
        refine ⟨?_, ?_⟩
        · intro v w' hj hd hs K hK
          have t8 : v 8 = _ := hd.out 8 (by kernel_rfl)
          have t9 : v 9 = _ := hd.out 9 (by kernel_rfl)
          have hk := hK.out
          simp only [t8, t9, Act.put, List.setIfInBounds_toArray, List.set_cons_zero, List.set_cons_succ] at hk
          have HK := Lib.hid hk
          clear hd hs hk hK
          go_simp
          exact HK.out _ _ hj.out (Below.refl _ _) (show _ = _ from rfl)
        refine ⟨?_, ?_⟩
        · intro v w' hj hd hs K hK
          have t8 : v 8 = _ := hd.out 8 (by kernel_rfl)
          have t10 : v 10 = _ := hd.out 10 (by kernel_rfl)
          obtain ⟨c0, c1, c2, _⟩ := HBD.out _ hj.out
          have hk := hK.out
          simp only [t8, t10, Act.put, List.setIfInBounds_toArray, List.set_cons_zero, List.set_cons_succ] at hk
          have HK := Lib.hid hk
          clear hd hs hk hK
          go_simp
          exact HK.out _ _ hj.out (Below.refl _ _) (show _ = _ from rfl)
        refine ⟨?_, ?_⟩
        · intro v w' hj hd hs K hK
          have t8 : v 8 = _ := hd.out 8 (by kernel_rfl)
          have hk := hK.out
          simp only [t8, Act.put, List.setIfInBounds_toArray, List.set_cons_zero, List.set_cons_succ] at hk
          have HK := Lib.hid hk
          clear hd hs hk hK
          go_simp
          refine (rnew_any _).mono ?_
          rintro e w2 ⟨rfl, hw2⟩
          subst hw2
          exact HK.out _ _ (hj.out.alloc hj.out.size _) (below1 _ _) ⟨_, rfl, At.new _ _ _⟩
        refine ⟨?_, ?_⟩
        · intro v w' hj hd hs K hK
          have t8 : v 8 = _ := hd.out 8 (by kernel_rfl)
          obtain ⟨b12, t12, z12⟩ : NewSl 2 2 58 news (v 12) w' := hd.out 12 (by kernel_rfl)
          have hk := hK.out
          simp only [t8, t12, Act.put, List.setIfInBounds_toArray, List.set_cons_zero, List.set_cons_succ] at hk
          have HK := Lib.hid hk
          clear hd hs hk hK
          go_simp
          exact HK.out _ _ hj.out (Below.refl _ _) ⟨_, rfl, z12⟩
        refine ⟨?_, ?_⟩
        · intro v w' hj hd hs K hK
          have t8 : v 8 = _ := hd.out 8 (by kernel_rfl)
          obtain ⟨b13, t13, z13⟩ : NewPt 0 58 news (v 13) w' := hd.out 13 (by kernel_rfl)
          have c0 := z13.cell 0; have c1 := z13.cell 1; have c2 := z13.cell 2
          simp [news] at c0 c1 c2
          clear z13
          have hk := hK.out
          simp only [t8, t13, Act.put, List.setIfInBounds_toArray, List.set_cons_zero, List.set_cons_succ] at hk
          have HK := Lib.hid hk
          clear hd hs hk hK
          go_simp
          exact HK.out _ _ hj.out (Below.refl _ _) (show _ = _ from rfl)
        refine ⟨?_, ?_⟩
        · intro v w' hj hd hs K hK
          have t8 : v 8 = _ := hd.out 8 (by kernel_rfl)
          have t11 : v 11 = _ := hd.out 11 (by kernel_rfl)
          have t14 : v 14 = _ := hd.out 14 (by kernel_rfl)
          have hk := hK.out
          simp only [t8, t11, t14, Act.put, List.setIfInBounds_toArray, List.set_cons_zero, List.set_cons_succ] at hk
          have HK := Lib.hid hk
          clear hd hs hk hK
          go_simp
          exact HK.out _ _ hj.out (Below.refl _ _) (show _ = _ from rfl)
        refine ⟨?_, ?_⟩
        · intro v w' hj hd hs K hK
          have t8 : v 8 = _ := hd.out 8 (by kernel_rfl)
          have t15 : v 15 = _ := hd.out 15 (by kernel_rfl)
          have hk := hK.out
          simp only [t8, t15, Act.put, List.setIfInBounds_toArray, List.set_cons_zero, List.set_cons_succ] at hk
          have HK := Lib.hid hk
          clear hd hs hk hK
          go_simp
          exact HK.out _ _ hj.out (Below.refl _ _) (show _ = _ from rfl)
        refine ⟨?_, ?_⟩
        · intro v w' hj hd hs K hK
          have t16 : v 16 = _ := hd.out 16 (by kernel_rfl)
          have hk := hK.out
          simp only [t16, Act.put, List.setIfInBounds_toArray, List.set_cons_zero, List.set_cons_succ] at hk
          have HK := Lib.hid hk
          clear hd hs hk hK
          go_simp
          exact HK.out _ _ hj.out (Below.refl _ _) (show _ = _ from rfl)
        refine ⟨?_, ?_⟩
        · intro v w' hj hd hs K hK
          have t17 : v 17 = _ := hd.out 17 (by kernel_rfl)
          have hk := hK.out
          simp only [t17, Act.put, List.setIfInBounds_toArray, List.set_cons_zero, List.set_cons_succ] at hk
          have HK := Lib.hid hk
          clear hd hs hk hK
          go_simp
          exact HK.out _ _ hj.out (Below.refl _ _) (show _ = _ from rfl)
        refine ⟨?_, ?_⟩
        · intro v w' hj hd hs K hK
          have t17 : v 17 = _ := hd.out 17 (by kernel_rfl)
          have hk := hK.out
          simp only [t17, Act.put, List.setIfInBounds_toArray, List.set_cons_zero, List.set_cons_succ] at hk
          have HK := Lib.hid hk
          clear hd hs hk hK
          go_simp
          exact HK.out _ _ hj.out (Below.refl _ _) (show _ = _ from rfl)
        refine ⟨?_, ?_⟩
        · intro v w' hj hd hs K hK
          have t17 : v 17 = _ := hd.out 17 (by kernel_rfl)
          have hk := hK.out
          simp only [t17, Act.put, List.setIfInBounds_toArray, List.set_cons_zero, List.set_cons_succ] at hk
          have HK := Lib.hid hk
          clear hd hs hk hK
          go_simp
          exact HK.out _ _ hj.out (Below.refl _ _) (show _ = _ from rfl)
        refine ⟨?_, ?_⟩
        · intro v w' hj hd hs K hK
          have t17 : v 17 = _ := hd.out 17 (by kernel_rfl)
          have hk := hK.out
          simp only [t17, Act.put, List.setIfInBounds_toArray, List.set_cons_zero, List.set_cons_succ] at hk
          have HK := Lib.hid hk
          clear hd hs hk hK
          go_simp
          exact HK.out _ _ hj.out (Below.refl _ _) (show _ = _ from rfl)
        refine ⟨?_, ?_⟩
        · intro v w' hj hd hs K hK
          have t17 : v 17 = _ := hd.out 17 (by kernel_rfl)
          have hk := hK.out
          simp only [t17, Act.put, List.setIfInBounds_toArray, List.set_cons_zero, List.set_cons_succ] at hk
          have HK := Lib.hid hk
          clear hd hs hk hK
          go_simp
          exact HK.out _ _ hj.out (Below.refl _ _) (show _ = _ from rfl)
        refine ⟨?_, ?_⟩
        · intro v w' hj hd hs K hK
          have t17 : v 17 = _ := hd.out 17 (by kernel_rfl)
          have hk := hK.out
          simp only [t17, Act.put, List.setIfInBounds_toArray, List.set_cons_zero, List.set_cons_succ] at hk
          have HK := Lib.hid hk
          clear hd hs hk hK
          go_simp
          exact HK.out _ _ hj.out (Below.refl _ _) (show _ = _ from rfl)
        refine ⟨?_, ?_⟩
        · intro v w' hj hd hs K hK
          have t17 : v 17 = _ := hd.out 17 (by kernel_rfl)
          have hk := hK.out
          simp only [t17, Act.put, List.setIfInBounds_toArray, List.set_cons_zero, List.set_cons_succ] at hk
          have HK := Lib.hid hk
          clear hd hs hk hK
          go_simp
          exact HK.out _ _ hj.out (Below.refl _ _) (show _ = _ from rfl)
        refine ⟨?_, ?_⟩
        · intro v w' hj hd hs K hK
          have t17 : v 17 = _ := hd.out 17 (by kernel_rfl)
          have t24 : v 24 = _ := hd.out 24 (by kernel_rfl)
          have hk := hK.out
          simp only [t17, t24, Act.put, List.setIfInBounds_toArray, List.set_cons_zero, List.set_cons_succ] at hk
          have HK := Lib.hid hk
          clear hd hs hk hK
          go_simp
          exact HK.out _ _ hj.out (Below.refl _ _) (show _ = _ from rfl)
        trivial
      case hend =>
        intro v w2 hj hd
        have t25 : v 25 = _ := hd.out 25 (of_decide_eq_true (by kernel_rfl))
        have b2 := hj.out
        clear hj hd
        simp only [t25]
        go_wp2_with fail
        go_ret
        exact ⟨by rw [HR.out]; rfl, b2⟩
end Go.Proofs.YtphmicbpkljmfaaGreat
