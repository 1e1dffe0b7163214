/- The walks of Same, Weight, rest, meets, small, fine, last. -/
import Derived.Test.YtphmicbpkljmfaaGreatSRef0
import Derived.Test.YtphmicbpkljmfaaGreatCRVal
import Derived.Test.YtphmicbpkljmfaaGreatSCirc
import Derived.Test.YtphmicbpkljmfaaGreatCVars
namespace Go.Proofs.YtphmicbpkljmfaaGreat
set_option linter.unusedVariables false
set_option linter.unusedSimpArgs false
open Go.RowKit
open Cx (N)
theorem famV_at {w : World} {A : Option Addr} {F : List (List Int)} (h : Sets w A F) {k : Nat} (hk : k < F.length) : ∃ g o B c, A = some ⟨g, o, none⟩ ∧ g < w.heap.size ∧ w.cell? ⟨g, o + k, none⟩ = some (.slice B F[k].length c) ∧ F[k].length ≤ c ∧ c ≤ maxLen ∧ (B = none → F[k].length = 0 ∧ c = 0) ∧ Nums w B F[k] := h.at (getElem_of hk)
theorem same29_any (A : Option Addr) (c : Nat) (F : List (List Int)) (B : Option Addr) (d : Nat) (G : List (List Int)) (w : World) (hF : F.length ≤ 9223372036854775807) (hG : G.length ≤ 9223372036854775807) (hA : Sets w A F) (hB : Sets w B G) :
    Calls Tryz.prog 16 #[.slice A F.length c, .slice B G.length d] w fun e w' => e = .returned (.bool (decide (F = G))) ∧ Below w.heap.size w w' := by
  by_cases hlen : F.length = G.length
  · have t1 : ((F.length : Int) == (G.length : Int)) = true := by rw [beq_iff_eq]; omega
    have t2 : ((F.length : Int) != (G.length : Int)) = false := by rw [bne, t1]; rfl
    go_enter Tryz.func16, Tryz.ntmps16
    go_wp2_with fail
    go_loopw [5] (fun i wr => ∃ k : Nat, k ≤ F.length ∧ Hid (∀ j, j < k → F[j]? = G[j]?) ∧ i = .int .i64 k ∧ Below w.heap.size w wr) (fun i _ => F.length - (intOf i).toNat)
    case atStart => exact ⟨0, by omega, Lib.hid (fun j hj => by omega), rfl, Below.refl _ _⟩
    case round =>
      obtain ⟨k, hk, HN, rfl, hbw⟩ := hrel
      by_cases h1 : k < F.length
      · have d1 : decide ((k : Int) < (F.length : Int)) = true := by simp; omega
        have h2 : k < G.length := by omega
        obtain ⟨g, o, C, cc, rfl, hg, c0, q1, q2, q3, q4⟩ := famV_at hA h1
        obtain ⟨g', o', C', cc', rfl, hg', c0', q1', q2', q3', q4'⟩ := famV_at hB h2
        have e1 := getElem_of h1
        have e2 := getElem_of h2
        have z1 : F[k].length ≤ 9223372036854775807 := by unfold maxLen at q2; omega
        have z2 : G[k].length ≤ 9223372036854775807 := by unfold maxLen at q2'; omega
        generalize F[k] = x at *
        generalize G[k] = y at *
        have i0 : (0 : Int) ≤ (k : Int) := by omega
        have i1 : (k : Int) < (F.length : Int) := by omega
        have i2 : (k : Int) < (G.length : Int) := by omega
        have f0 : ∀ z : Held wr.heap.size wr, z.w.cell? ⟨g, o + k, none⟩ = some (.slice C x.length cc) := fun z => z.cell (Nat.lt_of_lt_of_le hg hbw.size) ((hbw.cell hg).trans c0)
        have f1 : ∀ z : Held wr.heap.size wr, z.w.cell? ⟨g', o' + k, none⟩ = some (.slice C' y.length cc') := fun z => z.cell (Nat.lt_of_lt_of_le hg' hbw.size) ((hbw.cell hg').trans c0')
        have CA : ∀ z : Held wr.heap.size wr, Calls Tryz.prog 9 #[.slice C x.length cc, .slice C' y.length cc'] z.w fun e w' => e = .returned (.bool (decide (x = y))) ∧ Below z.w.heap.size z.w w' := fun z => ints29_any _ _ _ _ _ _ _ z1 z2 ((q4.below hbw).below z.ok) ((q4'.below hbw).below z.ok)
        have HCA := Lib.hid CA
        clear t1 t2 CA q1 q2 q3 q4 q1' q2' q3' q4' c0 c0'
        cases hz : decide (x = y)
        · have HR := Lib.hid (show decide (F = G) = false from decide_eq_false (ne_of_one e1 e2 (by simpa using hz)))
          rw [hz] at HCA
          clear e1 e2 hz
          go_wp2_with fail
          refine wp_region_held wr.heap.size wr (Below.refl _ _) (by kernel_rfl) (by kernel_rfl) ?_
          repeat (go_big_quiet_step ((go_at_call 9; exact held_call _ (Nat.le_refl _) (HCA.out _))))
          refine wpQuiet_nil ?_
          rintro w5 ⟨⟨_, b5⟩, rfl⟩
          clear f0 f1
          go_wp2_with fail
          go_ret
          exact ⟨by rw [HR.out]; rfl, hbw.trans (b5.mono hbw.size)⟩
        · have HR := Lib.hid (show ∀ j, j < k + 1 → F[j]? = G[j]? from fun j hj => by
            by_cases e : j = k
            · rw [e, e1, e2, of_decide_eq_true hz]
            · exact HN.out j (by omega))
          rw [hz] at HCA
          clear e1 e2 hz
          go_wp2_with fail
          refine wp_region_held wr.heap.size wr (Below.refl _ _) (by kernel_rfl) (by kernel_rfl) ?_
          repeat (go_big_quiet_step ((go_at_call 9; exact held_call _ (Nat.le_refl _) (HCA.out _))))
          refine wpQuiet_nil ?_
          rintro w5 ⟨⟨_, b5⟩, rfl⟩
          clear f0 f1
          go_wp2_with fail
          go_roundw
          case rel => exact ⟨k + 1, by omega, HR, by go_num, hbw.trans (b5.mono hbw.size)⟩
          case measure => simp [intOf]; omega
      · have d1 : decide ((k : Int) < (F.length : Int)) = false := by simp; omega
        have HR := Lib.hid (show decide (F = G) = true from decide_eq_true (eq_of_all hlen (fun j hj => HN.out j (by omega))))
        go_wp2_with fail
        go_ret
        exact ⟨by rw [HR.out]; rfl, hbw⟩
  · have t1 : ((F.length : Int) == (G.length : Int)) = false := by rw [beq_eq_false_iff_ne]; omega
    have t2 : ((F.length : Int) != (G.length : Int)) = true := by rw [bne, t1]; rfl
    have HR := Lib.hid (show decide (F = G) = false from decide_eq_false (fun e => hlen (by rw [e])))
    go_enter Tryz.func16, Tryz.ntmps16
    go_wp2_with fail
    go_ret
    exact ⟨by rw [HR.out]; rfl, Below.refl _ _⟩
/-- A variable's weight. -/
def wOf (ws : List Int) (x : Int) : Int := if x < ws.length then ws.getD x.toNat 0 else 0
def wsum (ws : List Int) : List Int → Int
  | [] => 0
  | x :: r => wOf ws x + wsum ws r
theorem wsum_app (ws a b : List Int) : wsum ws (a ++ b) = wsum ws a + wsum ws b := by
  induction a with
  | nil => simp [wsum]
  | cons x r ih => simp [wsum, ih]; omega
theorem wsum_snoc (ws a : List Int) (x : Int) : wsum ws (a ++ [x]) = wsum ws a + wOf ws x := by rw [wsum_app]; simp [wsum]
def WOk (ws : List Int) : Prop := ∀ x ∈ ws, 0 ≤ x ∧ x ≤ 1000000
theorem wOf_le {ws : List Int} (h : WOk ws) (x : Int) : 0 ≤ wOf ws x ∧ wOf ws x ≤ 1000000 := by
  unfold wOf
  split
  · rw [List.getD_eq_getElem?_getD]
    cases e : ws[x.toNat]? with
    | none => simp
    | some v => exact h v (List.mem_of_getElem? e)
  · omega
theorem wsum_le {ws : List Int} (h : WOk ws) : ∀ s : List Int, 0 ≤ wsum ws s ∧ wsum ws s ≤ (s.length : Int) * 1000000
  | [] => by simp [wsum]
  | x :: r => by
    have h1 := wsum_le h r
    have h2 := wOf_le h x
    simp [wsum]; omega
theorem weight_any (A : Option Addr) (c : Nat) (s : List Int) (B : Option Addr) (d : Nat) (ws : List Int) (w : World) (hs : s.length ≤ 1000000) (hw : ws.length ≤ 9223372036854775807) (hp : ∀ x ∈ s, 0 ≤ x) (hW : WOk ws) (hA : Nums w A s) (hB : Nums w B ws) :
    Calls Tryz.prog 42 #[.slice A s.length c, .slice B ws.length d] w fun e w' => e = .returned (.int .i64 (wsum ws s)) ∧ w = w' := by
  go_enter Tryz.func42, Tryz.ntmps42
  go_wp2_with fail
  go_loop [5, 6] (fun t i => ∃ k : Nat, k ≤ s.length ∧ t = .int .i64 (wsum ws (s.take k)) ∧ i = .int .i64 k) (fun _ i => s.length - (intOf i).toNat)
  case atStart => exact ⟨0, by omega, by simp [wsum], rfl⟩
  case round =>
    obtain ⟨k, hk, rfl, rfl⟩ := hrel
    have hb := wsum_le hW (s.take k)
    have hbl : (s.take k).length ≤ s.length := by simp; omega
    by_cases h1 : k < s.length
    · have d1 : decide ((k : Int) < (s.length : Int)) = true := by simp; omega
      have e1 := getElem_of h1
      obtain ⟨g, o, rfl, hg, c1⟩ := hA.at h1
      have hx := hp _ (List.getElem_mem h1)
      have hm : wsum ws (s.take (k + 1)) = wsum ws (s.take k) + wOf ws s[k] := by rw [take_more e1, wsum_snoc]
      have hT := hm.symm
      obtain ⟨t', ht'⟩ : ∃ t', wsum ws (s.take (k + 1)) = t' := ⟨_, rfl⟩
      rw [ht'] at hm
      have HT' := Lib.hid ht'
      clear hT ht'
      generalize s[k] = x at *
      generalize wsum ws (s.take k) = t at *
      by_cases h2 : x < ws.length
      · have d2 : decide (x < (ws.length : Int)) = true := by simpa using h2
        obtain ⟨j, rfl⟩ : ∃ j : Nat, x = j := ⟨x.toNat, by omega⟩
        have hj : j < ws.length := by omega
        obtain ⟨g', o', rfl, hg', c1'⟩ := hB.at hj
        have hwv : wOf ws (j : Int) = ws[j] := by unfold wOf; rw [if_pos (by omega), Int.toNat_natCast, List.getD_eq_getElem?_getD, getElem_of hj]; rfl
        have hbd := hW _ (List.getElem_mem hj)
        rw [hwv] at hm
        generalize ws[j] = y at *
        have HM := Lib.hid hm
        have d2' : decide (j < ws.length) = true := by simp; omega
        have w1 : (t : Int) + y ≤ 9223372036854775807 := by omega
        have w2 : -9223372036854775808 ≤ t + y := by omega
        have w3 : IntKind.i64.wrap (t + y) = t + y := by rw [IntKind.wrap_i64]; omega
        clear hm hwv e1
        go_wp2_with fail
        go_round
        case rel => exact ⟨k + 1, by omega, by rw [HT'.out, HM.out], by go_num⟩
        case measure => simp [intOf]; omega
      · have d2 : decide (x < (ws.length : Int)) = false := by simpa using h2
        have hwv : wOf ws x = 0 := by unfold wOf; rw [if_neg h2]
        rw [hwv] at hm
        have HM := Lib.hid hm
        clear hm hwv e1
        go_wp2_with fail
        go_round
        case rel => exact ⟨k + 1, by omega, by rw [HT'.out, HM.out]; simp, by go_num⟩
        case measure => simp [intOf]; omega
    · have d1 : decide ((k : Int) < (s.length : Int)) = false := by simp; omega
      have e : s.take k = s := List.take_of_length_le (by omega)
      rw [e]
      go_wp2_with fail
      go_ret
      exact ⟨rfl, rfl⟩
/-- The numbers that are not in the second list. -/
def restL (a b : List Int) : List Int := a.filter fun x => !b.contains x
theorem rest_more {a b : List Int} {k : Nat} {x : Int} (h : a[k]? = some x) : restL (a.take (k + 1)) b = if b.contains x = true then restL (a.take k) b else restL (a.take k) b ++ [x] := by
  unfold restL
  rw [take_more h, List.filter_append]
  cases hb : b.contains x <;> simp [hb] <;> simpa using hb
end Go.Proofs.YtphmicbpkljmfaaGreat
