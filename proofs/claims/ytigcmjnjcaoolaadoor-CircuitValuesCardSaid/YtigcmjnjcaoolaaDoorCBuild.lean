/- The walk of Build. -/
import Derived.Test.YtigcmjnjcaoolaaDoorCJoin
namespace Go.Proofs.YtigcmjnjcaoolaaDoor
set_option linter.unusedVariables false
set_option linter.unusedSimpArgs false
open Go.RowKit
open Cx (N M)
/-- A slice's cells hold these calls. -/
def Makes (w : World) (A : Option Addr) (l : List M) : Prop :=
  l ≠ [] → ∃ g o, A = some ⟨g, o, none⟩ ∧ g < w.heap.size ∧ ∀ (k : Nat) (v : M), l[k]? = some v → v.a < 256 ∧ v.b < 256 ∧ w.cell? ⟨g, o + k * 3, none⟩ = some (.int .i64 v.o) ∧ w.cell? ⟨g, o + k * 3 + 1, none⟩ = some (.int .u8 (v.a : Int)) ∧ w.cell? ⟨g, o + k * 3 + 2, none⟩ = some (.int .u8 (v.b : Int))
theorem Makes.below {w w' : World} {A : Option Addr} {l : List M} (h : Makes w A l) (hb : Below w.heap.size w w') : Makes w' A l := fun hn => by
  obtain ⟨g, o, e, hg, hc⟩ := h hn
  refine ⟨g, o, e, Nat.lt_of_lt_of_le hg hb.size, fun k v hv => ?_⟩
  obtain ⟨z1, z2, a, b, c⟩ := hc k v hv
  exact ⟨z1, z2, (hb.cell (p := ⟨g, o + k * 3, none⟩) hg).trans a, (hb.cell (p := ⟨g, o + k * 3 + 1, none⟩) hg).trans b, (hb.cell (p := ⟨g, o + k * 3 + 2, none⟩) hg).trans c⟩
theorem Makes.at {w : World} {A : Option Addr} {l : List M} (h : Makes w A l) {k : Nat} (hk : k < l.length) :
    ∃ g o, A = some ⟨g, o, none⟩ ∧ g < w.heap.size ∧ l[k].a < 256 ∧ l[k].b < 256 ∧ w.cell? ⟨g, o + k * 3, none⟩ = some (.int .i64 l[k].o) ∧ w.cell? ⟨g, o + k * 3 + 1, none⟩ = some (.int .u8 (l[k].a : Int)) ∧ w.cell? ⟨g, o + k * 3 + 2, none⟩ = some (.int .u8 (l[k].b : Int)) := by
  obtain ⟨g, o, e, hg, hc⟩ := h (by intro h; rw [h] at hk; simp at hk)
  exact ⟨g, o, e, hg, hc _ _ (List.getElem?_eq_getElem hk)⟩
/-- A circuit in memory. -/
def CirOut (l : List N) (w : World) (e : Ending) (w' : World) : Prop := ∃ A c, e = .returned (.slice A l.length c) ∧ Cir w' A c l ∧ Below w.heap.size w w'
theorem put_len (l : List N) (n : N) : l.length ≤ (Cx.put l n).1.length ∧ (Cx.put l n).1.length ≤ l.length + 1 := by
  unfold Cx.put
  split
  · exact ⟨Nat.le_refl _, by simp⟩
  · split
    · simp
    · exact ⟨Nat.le_refl _, by simp⟩
theorem two_len (l : List N) (op a b z o : Int) : l.length ≤ (Cx.two l op a b z o).1.length ∧ (Cx.two l op a b z o).1.length ≤ l.length + 1 := by
  unfold Cx.two
  repeat' split
  all_goals first | exact put_len _ _ | exact ⟨Nat.le_refl _, by simp⟩
theorem var_len (l : List N) (n : Int) : l.length ≤ (Cx.var l n).1.length ∧ (Cx.var l n).1.length ≤ l.length + 1 := by
  unfold Cx.var
  split
  · exact ⟨Nat.le_refl _, by simp⟩
  · exact put_len _ _
theorem step_len (l : List N) (m : M) : l.length ≤ (Cx.step l m).length ∧ (Cx.step l m).length ≤ l.length + 1 := by
  unfold Cx.step
  split
  · exact var_len _ _
  · split
    · exact two_len _ _ _ _ _ _
    · split
      · exact two_len _ _ _ _ _ _
      · exact ⟨Nat.le_refl _, by simp⟩
theorem build_len (ms : List M) : 2 ≤ (Cx.build ms).length ∧ (Cx.build ms).length ≤ ms.length + 2 := by
  unfold Cx.build
  have key : ∀ (ms : List M) (l : List N), l.length ≤ (ms.foldl Cx.step l).length ∧ (ms.foldl Cx.step l).length ≤ ms.length + l.length := by
    intro ms
    induction ms with
    | nil => intro l; simp
    | cons m ms ih =>
      intro l
      have h1 := ih (Cx.step l m)
      have h2 := step_len l m
      simp only [List.foldl_cons, List.length_cons]
      omega
  exact key ms Cx.new
/-- The circuit that the first k calls build. -/
def BuildAt (ms : List M) (k : Nat) (l : List N) : Prop := l = Cx.build (ms.take k)
theorem BuildAt.more {ms : List M} {k : Nat} {l : List N} {m : M} (h : BuildAt ms k l) (hm : ms[k]? = some m) : BuildAt ms (k + 1) (Cx.step l m) := by
  unfold BuildAt at *
  rw [take_more hm, h]
  unfold Cx.build
  rw [List.foldl_append]; rfl
theorem BuildAt.len {ms : List M} {k : Nat} {l : List N} (h : BuildAt ms k l) : 2 ≤ l.length ∧ l.length ≤ k + 2 := by
  unfold BuildAt at h
  have := build_len (ms.take k)
  rw [← h] at this
  have : (ms.take k).length ≤ k := List.length_take_le _ _
  omega
set_option maxHeartbeats 4000000 in
set_option maxRecDepth 100000 in
theorem build_any (A : Option Addr) (c : Nat) (ms : List M) (w : World) (hm : ms.length ≤ 60) (hA : Makes w A ms) :
    Calls Tryd.prog 10 #[.slice A ms.length c] w (CirOut (Cx.build ms) w) := by
  obtain ⟨R, hR⟩ : ∃ R, R = Cx.build ms := ⟨_, rfl⟩
  rw [← hR]
  have HR := Lib.hid hR
  clear hR
  go_enter Tryd.func10, Tryd.ntmps10
  go_wp2_with fail
  refine (rnew_any _).mono ?_
  rintro e w1 ⟨rfl, hw1⟩
  have c1 : Cir w1 (some ⟨w.heap.size, 0, none⟩) 2 Cx.new := by rw [← hw1]; exact cir_new (At.new _ _ _) (by decide)
  have b1 : Below w.heap.size w w1 := by rw [← hw1]; exact below1 _ _
  clear hw1
  go_wp2_with fail
  go_loopw [3, 4] (fun v i wr => ∃ (k : Nat) (l : List N) (C : Option Addr) (kc : Nat), k ≤ ms.length ∧ Hid (BuildAt ms k l) ∧ 2 ≤ l.length ∧ l.length ≤ k + 2 ∧ v = .slice C l.length kc ∧ Cir wr C kc l ∧ i = .int .i64 k ∧ Below w.heap.size w wr) (fun _ i _ => ms.length - (intOf i).toNat)
  case atStart => exact ⟨0, Cx.new, _, 2, by omega, Lib.hid rfl, by decide, by decide, rfl, c1, rfl, b1⟩
  case round =>
    obtain ⟨k, l, C, kc, hk, HB, h2, h62, rfl, hC, rfl, hbw⟩ := hrel
    clear c1 b1
    by_cases h1 : k < ms.length
    · have d1 : decide ((k : Int) < (ms.length : Int)) = true := by simp; omega
      obtain ⟨g, o, rfl, hg, z1, z2, a0, a1, a2⟩ := (hA.below hbw).at h1
      have e1 := getElem_of h1
      have KE := Lib.hid (fun W (h : Below w.heap.size w W) => by
        obtain ⟨g', o', e', _, _, _, r⟩ := (hA.below h).at h1
        simp at e'
        obtain ⟨rfl, rfl⟩ := e'
        exact r)
      generalize ms[k] = m at *
      have HM := Lib.hid (HB.out.more e1)
      have i0 : (0 : Int) ≤ (k : Int) := by omega
      have i1 : (k : Int) < (ms.length : Int) := by omega
      have y1 : (0 : Int) ≤ (m.a : Int) := by omega
      have y2 : (0 : Int) ≤ (m.b : Int) := by omega
      have y3 : (1 : Int) ≤ (l.length : Int) := by omega
      clear e1
      by_cases q2 : m.o = 2
      · have t2 : (m.o == 2) = true := by simpa using q2
        have HS := Lib.hid (show Cx.step l m = (Cx.var l m.a).1 by unfold Cx.step; rw [if_pos q2])
        have hsl := HM.out.len
        clear q2
        go_wp2_with fail
        refine (rvar_any C kc l (m.a : Int) _ (by omega) (by omega) hC).mono ?_
        rintro e w2 ⟨A2, c2, rfl, h2', b2⟩
        rw [← HS.out] at h2'
        have bw2 := hbw.trans (b2.mono hbw.size)
        go_wp2_with fail
        go_roundw
        case rel => exact ⟨k + 1, Cx.step l m, A2, c2, by omega, HM, by omega, by omega, by rw [HS.out], h2', by go_num, bw2⟩
        case measure => simp [intOf]; omega
      · have t2 : (m.o == 2) = false := by simpa using q2
        by_cases q3 : m.o = 3
        · have t3 : (m.o == 3) = true := by simpa using q3
          have HS := Lib.hid (show Cx.step l m = (Cx.plus l ((m.a : Int) % (l.length : Int)) ((m.b : Int) % (l.length : Int))).1 by unfold Cx.step; rw [if_neg q2, if_pos q3]; simp)
          have hsl := HM.out.len
          clear q2 q3
          have v1 : 0 ≤ (m.a : Int) % (l.length : Int) ∧ (m.a : Int) % (l.length : Int) < 256 := ⟨Int.emod_nonneg _ (by omega), by have := Int.emod_lt_of_pos (m.a : Int) (show (0 : Int) < (l.length : Int) by omega); omega⟩
          have v2 : 0 ≤ (m.b : Int) % (l.length : Int) ∧ (m.b : Int) % (l.length : Int) < 256 := ⟨Int.emod_nonneg _ (by omega), by have := Int.emod_lt_of_pos (m.b : Int) (show (0 : Int) < (l.length : Int) by omega); omega⟩
          have V1 := Lib.hid v1; have V2 := Lib.hid v2
          clear v1 v2
          go_wp2_with fail
          refine (rplus_any C kc l _ _ _ (by omega) hC (by omega) (by have := V1.out; omega) (by have := V2.out; omega)).mono ?_
          rintro e w2 ⟨A2, c2, rfl, h2', b2⟩
          rw [← HS.out] at h2'
          have bw2 := hbw.trans (b2.mono hbw.size)
          go_wp2_with fail
          go_roundw
          case rel => exact ⟨k + 1, Cx.step l m, A2, c2, by omega, HM, by omega, by omega, by rw [HS.out], h2', by go_num, bw2⟩
          case measure => simp [intOf]; omega
        · have t3 : (m.o == 3) = false := by simpa using q3
          by_cases q4 : m.o = 4
          · have t4 : (m.o == 4) = true := by simpa using q4
            have HS := Lib.hid (show Cx.step l m = (Cx.times l ((m.a : Int) % (l.length : Int)) ((m.b : Int) % (l.length : Int))).1 by unfold Cx.step; rw [if_neg q2, if_neg q3, if_pos q4]; simp)
            have hsl := HM.out.len
            clear q2 q3 q4
            have v1 : 0 ≤ (m.a : Int) % (l.length : Int) ∧ (m.a : Int) % (l.length : Int) < 256 := ⟨Int.emod_nonneg _ (by omega), by have := Int.emod_lt_of_pos (m.a : Int) (show (0 : Int) < (l.length : Int) by omega); omega⟩
            have v2 : 0 ≤ (m.b : Int) % (l.length : Int) ∧ (m.b : Int) % (l.length : Int) < 256 := ⟨Int.emod_nonneg _ (by omega), by have := Int.emod_lt_of_pos (m.b : Int) (show (0 : Int) < (l.length : Int) by omega); omega⟩
            have V1 := Lib.hid v1; have V2 := Lib.hid v2
            clear v1 v2
            go_wp2_with fail
            refine (rtimes_any C kc l _ _ _ (by omega) hC (by omega) (by have := V1.out; omega) (by have := V2.out; omega)).mono ?_
            rintro e w2 ⟨A2, c2, rfl, h2', b2⟩
            rw [← HS.out] at h2'
            have bw2 := hbw.trans (b2.mono hbw.size)
            go_wp2_with fail
            go_roundw
            case rel => exact ⟨k + 1, Cx.step l m, A2, c2, by omega, HM, by omega, by omega, by rw [HS.out], h2', by go_num, bw2⟩
            case measure => simp [intOf]; omega
          · have t4 : (m.o == 4) = false := by simpa using q4
            have HS := Lib.hid (show Cx.step l m = l by unfold Cx.step; rw [if_neg q2, if_neg q3, if_neg q4])
            have HM' := Lib.hid (show BuildAt ms (k + 1) l by have := HM.out; rw [HS.out] at this; exact this)
            clear q2 q3 q4
            go_wp2_with fail
            go_roundw
            case rel => exact ⟨k + 1, l, C, kc, by omega, HM', by omega, by omega, rfl, hC, by go_num, hbw⟩
            case measure => simp [intOf]; omega
    · have d1 : decide ((k : Int) < (ms.length : Int)) = false := by simp; omega
      have HE := Lib.hid (show R = l by rw [HR.out, HB.out, List.take_of_length_le (by omega)])
      go_wp2_with fail
      go_ret
      exact ⟨C, kc, by rw [HE.out]; rfl, by rw [HE.out]; exact hC, hbw⟩
end Go.Proofs.YtigcmjnjcaoolaaDoor
