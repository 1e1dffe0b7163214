/- The walk of Critical. -/
import Derived.Test.YtphmicbpkljmfaaGreatSCheap3
namespace Go.Proofs.YtphmicbpkljmfaaGreat
set_option linter.unusedVariables false
set_option linter.unusedSimpArgs false
open Go.RowKit
open Cx (N fam Few)
/-- What Critical says. -/
def critP (l : List N) (n : Int) : List Int := if trustP l n [] = true then (Cx.vars l n).filter fun x => !trustP l n [x] else []
theorem vars_i64 {l : List N} (hg : Cx.Good l) (hF : ∀ n ∈ l, NGood n) {n : Nat} (hn : n < l.length) : ∀ x ∈ Cx.vars l n, I64 x ∧ 0 ≤ x := by
  intro x hx
  obtain ⟨j, v, _, hv, h2, rfl⟩ := (Cx.mem_vars hg hn x).1 hx
  have hm := List.mem_of_getElem? hv
  exact ⟨(hF v hm).2.1, allVars_nonneg hg _ (mem_allVars hm h2)⟩
theorem vars_length {l : List N} (hg : Cx.Good l) (n : Nat) (hn : n < l.length) : (Cx.vars l n).length ≤ l.length := by
  have h1 : (Cx.vars l n).Nodup := Cx.vars_nodup hg n
  have h2 : Cx.vars l n ⊆ allVars l := fun x hx => by
    obtain ⟨j, v, _, hv, h2, rfl⟩ := (Cx.mem_vars hg hn x).1 hx
    exact mem_allVars (List.mem_of_getElem? hv) h2
  exact Nat.le_trans (h1.length_le_of_subset h2) (allVars_len l)
theorem filter_take {α : Type} (p : α → Bool) {a : List α} {k : Nat} {x : α} (h : a[k]? = some x) : (a.take (k + 1)).filter p = if p x = true then (a.take k).filter p ++ [x] else (a.take k).filter p := by
  rw [take_more h, List.filter_append]
  cases hp : p x <;> simp [hp]
theorem nums_lit (w : World) (x : Int) : Nums (w.alloc (.cells #[.int .i64 x] 3)) (some ⟨w.heap.size, 0, none⟩) [x] := fun _ => ⟨w.heap.size, 0, rfl, by simp, fun k y hk => by
  cases k with
  | zero => simp at hk; subst hk; exact (At.new w 3 #[.int .i64 x]).cell 0
  | succ k => simp at hk⟩
set_option maxHeartbeats 1000000 in
set_option maxRecDepth 100000 in
theorem critical_any (A : Option Addr) (c : Nat) (l : List N) (n : Int) (w : World) (hl : l.length ≤ 20000) (hF : ∀ n ∈ l, NGood n) (hA : Cir w A c l) :
    Calls Tryz.prog 10 #[.slice A l.length c, .int .i64 n] w (NumsOwn (critP l n) w) := by
  obtain ⟨in0, hi0, hz0, hz1, hz2⟩ := info_parts int_info
  have HC : Hid (Calls Tryz.prog 7 #[.slice A l.length c, .int .i64 n, .slice none 0 0] w fun e w' => e = .returned (.bool (trustP l n [])) ∧ Below w.heap.size w w') :=
    Lib.hid (trust_any A c l n none 0 [] w hl hF hA (by simp) (fun t ht => by cases ht) (fun h => absurd rfl h))
  cases ht : trustP l n [] with
  | false =>
    have HR := Lib.hid (show critP l n = [] by unfold critP; rw [ht]; rfl)
    have HT := Lib.hid ht
    clear ht
    go_enter Tryz.func10, Tryz.ntmps10
    go_wp2_with fail
    refine HC.out.mono ?_
    rintro e w1 ⟨rfl, b1⟩
    rw [HT.out]
    go_wp2_with fail
    go_ret
    exact ⟨_, rfl, by rw [HR.out]; exact World.ownsRow_nil _ _ _ _, b1⟩
  | true =>
    have ht' := ht
    unfold trustP at ht'
    rw [Bool.and_eq_true, Bool.and_eq_true] at ht'
    obtain ⟨i, rfl, hi⟩ := Cx.isIn_get ht'.1.1
    have hg := Cx.valid_good ht'.1.2
    have HR := Lib.hid (show critP l (i : Int) = (Cx.vars l (i : Int)).filter fun x => !trustP l (i : Int) [x] by unfold critP; rw [ht, if_pos rfl])
    have HT := Lib.hid ht
    have HVI := Lib.hid (vars_i64 hg hF hi)
    have hvl := vars_length hg i hi
    clear ht ht'
    go_enter Tryz.func10, Tryz.ntmps10
    go_wp2_with fail
    refine HC.out.mono ?_
    rintro e w1 ⟨rfl, b1⟩
    rw [HT.out]
    go_wp2_with fail
    refine (cvars_own A c l (i : Int) w1 hg hl (hA.circ.below b1)).mono ?_
    rintro e w2 ⟨vv, rfl, ov, b2⟩
    obtain ⟨V, vc, rfl, hns⟩ := ns_of_own ov
    obtain ⟨xs, hxs⟩ : ∃ xs, Cx.vars l (i : Int) = xs := ⟨_, rfl⟩
    have b12 := b1.trans (b2.mono b1.size)
    rw [hxs] at hns hvl
    have HVI' := Lib.hid (show ∀ x ∈ xs, I64 x ∧ 0 ≤ x by rw [← hxs]; exact HVI.out)
    have HXS := Lib.hid hxs
    simp only [hxs]
    clear ov hxs b1 b2 HVI
    go_wp2_with fail
    go_loopw [5, 16] (fun v j wr => ∃ (k : Nat) (out : List Int), k ≤ xs.length ∧ out.length ≤ k ∧ Hid (out = (xs.take k).filter fun x => !trustP l (i : Int) [x]) ∧ j = .int .i64 k ∧ wr.ownsRow w2.heap.size 3 1 v out.length (icells out) ∧ Below w2.heap.size w2 wr) (fun _ j _ => xs.length - (intOf j).toNat)
    case atStart => exact ⟨0, [], by omega, by simp, Lib.hid (by simp), rfl, World.ownsRow_nil _ _ _ _, Below.refl _ _⟩
    case round =>
      obtain ⟨k, out, hk, hok, HO, rfl, ho, hbw⟩ := hrel
      obtain ⟨va, vc', rfl⟩ := own_len ho
      by_cases h1 : k < xs.length
      · have d1 : decide ((k : Int) < (xs.length : Int)) = true := by simp; omega
        obtain ⟨g, o, rfl, hgl, c0⟩ := (hns.nums.below hbw).at h1
        have hE := filter_take (fun x => !trustP l (i : Int) [x]) (getElem_of h1)
        rw [← HO.out] at hE
        have hxi := HVI'.out _ (List.getElem_mem h1)
        generalize xs[k] = x at *
        have j0 : (0 : Int) ≤ (k : Int) := by omega
        have j1 : (k : Int) < (xs.length : Int) := by omega
        have hbA := (b12.trans (hbw.mono b12.size)).alloc (Nat.le_trans b12.size hbw.size) (.cells #[.int .i64 x] 3)
        have HTC := Lib.hid (trust_any A c l (i : Int) (some ⟨wr.heap.size, 0, none⟩) 1 [x] (wr.alloc (.cells #[.int .i64 x] 3)) hl hF (hA.below hbA) (by simp) (fun t ht => by simp at ht; subst ht; exact hxi.1) (nums_lit wr x))
        have hy2 := hbw.size
        cases hz : trustP l (i : Int) [x] with
        | false =>
          rw [hz, if_pos (show (!false) = true from rfl)] at hE
          have HE := Lib.hid hE.symm
          have HZ := Lib.hid hz
          clear hE hz hbA
          go_wp2_with fail
          refine HTC.out.mono ?_
          rintro e w3 ⟨rfl, b3⟩
          rw [HZ.out]
          have o3 := own_below (own_alloc ho (.cells #[.int .i64 x] 3)) b3
          have hz3 := b3.size
          simp at hz3
          go_wp2_with (first
            | (at_builtin; go_loud (refine wpList_append_from rfl (.tmp 26) (.tmp 28) 24 rfl w2.heap.size 3 in0 _ 1 8 Tryz.underlying24 hi0 hz0 hz1 hz2 rfl (by omega) (.slice va out.length vc') out.length (icells out) rfl (own_alloc o3 _) (some ⟨w3.heap.size, 0, none⟩) 1 1 [.int .i64 x] rfl rfl (fun h => by cases h) (fun ad h => by obtain rfl := Option.some.inj h; exact At.news (At.new _ _ _)) (one1 rfl) (by unfold maxLen; omega) (by omega) (by simp; omega) ?_); intro v2 w4 o2 g2))
          have bw4 : Below w2.heap.size w2 w4 := (((hbw.alloc hy2 _).trans (b3.mono (by simp; omega))).alloc (by omega) _).grown g2 (by simp; omega) (fun q hq => (own_lt ho hq).1)
          go_roundw
          case rel => exact ⟨k + 1, out ++ [x], by omega, by simp; omega, HE, by go_num, by rw [icells_app, List.length_append]; exact o2, bw4⟩
          case measure => simp [intOf]; omega
        | true =>
          rw [hz, if_neg (show ¬ (!true) = true by decide)] at hE
          have HE := Lib.hid hE.symm
          have HZ := Lib.hid hz
          clear hE hz hbA
          go_wp2_with fail
          refine HTC.out.mono ?_
          rintro e w3 ⟨rfl, b3⟩
          rw [HZ.out]
          go_wp2_with fail
          go_roundw
          case rel => exact ⟨k + 1, out, by omega, by omega, HE, by go_num, own_below (own_alloc ho _) b3, (hbw.alloc hy2 _).trans (b3.mono (by simp; omega))⟩
          case measure => simp [intOf]; omega
      · have d1 : decide ((k : Int) < (xs.length : Int)) = false := by simp; omega
        have HE := Lib.hid (show critP l (i : Int) = out by rw [HR.out, HXS.out, HO.out, List.take_of_length_le (by omega)])
        go_wp2_with fail
        go_ret
        exact ⟨_, rfl, by rw [HE.out]; exact own_mono ho b12.size, b12.trans (hbw.mono b12.size)⟩
end Go.Proofs.YtphmicbpkljmfaaGreat
