/- The walk of the law SemiringCheapest. -/
import Derived.Test.YtphmicbpkljmfaaSLaw0
namespace Go.Proofs.Ytphmicbpkljmfaa
set_option linter.unusedVariables false
set_option linter.unusedSimpArgs false
open Go.RowKit
open Cx (N fam Few)
theorem wok_of {ws : List Int} (h : ∀ j, j < ws.length → ∀ x, ws[j]? = some x → 0 ≤ x ∧ x ≤ 1000000) : WOk ws := fun x hx => by
  obtain ⟨j, hj⟩ := List.mem_iff_getElem?.1 hx
  exact h j (List.getElem?_eq_some_iff.1 hj).1 x hj
theorem all_snoc {p : Int → Prop} {ws : List Int} {k : Nat} {x : Int} (h : ∀ j, j < k → ∀ x, ws[j]? = some x → p x) (hx : ws[k]? = some x) (hp : p x) : ∀ j, j < k + 1 → ∀ x, ws[j]? = some x → p x := fun j hj y hy => by
  by_cases e : j = k
  · subst e; rw [hx] at hy; obtain rfl := Option.some.inj hy; exact hp
  · exact h j (by omega) y hy
theorem nodup_snoc {ts : List Int} {k : Nat} {x : Int} (h : (ts.take k).Nodup) (hx : ts[k]? = some x) (hn : (ts.take k).contains x = false) : (ts.take (k + 1)).Nodup := by
  rw [take_more hx, List.nodup_append]
  refine ⟨h, by simp, fun a ha b hb e => ?_⟩
  simp at hb
  subst hb; subst e
  have : (ts.take k).contains a = true := by simpa using ha
  rw [hn] at this; cases this
theorem nums_take {w : World} {A : Option Addr} {ts : List Int} (h : Nums w A ts) (k : Nat) : Nums w A (ts.take k) := fun hn => by
  obtain ⟨g, o, e, hg, hc⟩ := h (fun e => hn (by rw [e]; simp))
  refine ⟨g, o, e, hg, fun j x hj => hc j x ?_⟩
  rw [List.getElem?_take] at hj
  split at hj
  · exact hj
  · cases hj
theorem cheap_le {l : List N} {n : Nat} {ws ts : List Int} (hv : Cx.valid l = true) (hn : n < l.length) (hW : WOk ws) (hE : Cx.eval l (n : Int) ts = true) : wsum ws (best ws (fam l n)) ≤ wsum ws ts := by
  have hg := Cx.valid_good hv
  obtain ⟨t, ht, hts⟩ := (Cx.eval_fam hg hn ts).1 hE
  exact Int.le_trans (best_min ht) (wsum_mono hW ((Cx.fam_is hg hn).fam.inc t ht).nodup hts)
theorem cheap_few {l : List N} {n : Nat} {ts : List Int} {m : Nat} {e : Int} (hv : Cx.valid l = true) (hn : n < l.length) (he : 0 < e ∧ e ≤ 1000000) (hm : lastP l < m) (hE : Cx.eval l (n : Int) ts = true) : (best (List.replicate m e) (fam l n)).length ≤ ts.length := by
  have hg := Cx.valid_good hv
  obtain ⟨t, ht, hts⟩ := (Cx.eval_fam hg hn ts).1 hE
  have hb : ∀ s ∈ fam l n, ∀ x ∈ s, 0 ≤ x ∧ x < (m : Int) := fun s hs x hx => by
    have h1 := vars_all hg hn (Cx.fam_vars hg hn s hs hx)
    have h2 := (last_ge l).2 x h1
    exact ⟨allVars_nonneg hg x h1, by omega⟩
  have hne : fam l n ≠ [] := fun e => by rw [e] at ht; cases ht
  have h1 := best_min (ws := List.replicate m e) ht
  rw [wsum_same (hb _ (best_mem hne)), wsum_same (hb _ ht)] at h1
  have h2 : (best (List.replicate m e) (fam l n)).length ≤ t.length := by
    have := Int.le_of_mul_le_mul_left h1 he.1
    omega
  exact Nat.le_trans h2 (((Cx.fam_is hg hn).fam.inc t ht).nodup.length_le_of_subset hts)
theorem icells_rep (k : Nat) (e : Int) : icells (List.replicate (k + 1) e) = icells (List.replicate k e) ++ [.int .i64 e] := by
  simp [icells, List.replicate_succ']
set_option maxHeartbeats 4000000 in
set_option maxRecDepth 100000 in
theorem cheap_law (A : Option Addr) (c : Nat) (l : List N) (n : Int) (B : Option Addr) (d : Nat) (ws : List Int) (E : Option Addr) (f : Nat) (ts : List Int) (r : Nat) (w : World) (hl : l.length ≤ 140737488351232) (hF : ∀ n ∈ l, NGood n) (hA : Cir w A c l)
    (hws : ws.length ≤ 140737488351232) (hB : Nums w B ws) (hts : ts.length ≤ 140737488351232) (hJ : ∀ t ∈ ts, I64 t) (hE : Nums w E ts) (htc : ts.length ≤ f) (hr : r < 256) :
    Calls Try.prog 5 #[.slice A l.length c, .int .i64 n, .slice B ws.length d, .slice E ts.length f, .int .u8 (r : Int)] w fun e w' => e = .returned (.bool true) ∧ Below w.heap.size w w' := by
  cases hf : fineP l n with
  | false =>
    go_enter Try.func5, Try.ntmps5
    go_wp2_with fail
    refine (head_any w).mono ?_
    rintro e w0 ⟨rfl, bw⟩
    go_wp2_with fail
    refine (fine_any A c l n _ (by omega) hF (hA.circ.below bw)).mono ?_
    rintro e w1 ⟨rfl, b1⟩
    rw [hf]
    go_wp2_with fail
    go_ret
    exact ⟨rfl, bw.trans (b1.mono bw.size)⟩
  | true =>
    obtain ⟨i, rfl, hi, h40, hv⟩ := fineP_true hf
    have hg := Cx.valid_good hv
    by_cases h1 : 60 < ws.length
    · have d1 : decide ((60 : Int) < (ws.length : Int)) = true := by simp; omega
      have d1' : decide (60 < ws.length) = true := by simp; omega
      go_enter Try.func5, Try.ntmps5
      go_wp2_with fail
      refine (head_any w).mono ?_
      rintro e w0 ⟨rfl, bw⟩
      go_wp2_with fail
      refine (fine_any A c l _ _ (by omega) hF (hA.circ.below bw)).mono ?_
      rintro e w1 ⟨rfl, b1⟩
      rw [hf]
      go_wp2_with fail
      go_ret
      exact ⟨rfl, bw.trans (b1.mono bw.size)⟩
    have d1 : decide ((60 : Int) < (ws.length : Int)) = false := by simp; omega
    have d1' : decide (60 < ws.length) = false := by simp; omega
    by_cases h2 : 60 < ts.length
    · have d2 : decide ((60 : Int) < (ts.length : Int)) = true := by simp; omega
      have d2' : decide (60 < ts.length) = true := by simp; omega
      go_enter Try.func5, Try.ntmps5
      go_wp2_with fail
      refine (head_any w).mono ?_
      rintro e w0 ⟨rfl, bw⟩
      go_wp2_with fail
      refine (fine_any A c l _ _ (by omega) hF (hA.circ.below bw)).mono ?_
      rintro e w1 ⟨rfl, b1⟩
      rw [hf]
      go_wp2_with fail
      go_ret
      exact ⟨rfl, bw.trans (b1.mono bw.size)⟩
    have d2 : decide ((60 : Int) < (ts.length : Int)) = false := by simp; omega
    have d2' : decide (60 < ts.length) = false := by simp; omega
    have HFN := Lib.hid hf
    have HVI := Lib.hid (vars_i64 hg hF hi)
    have hvl := vars_length hg i hi
    have HCC := Lib.hid (fun (ws : List Int) (hW : WOk ws) => ccode_in hv hi hW)
    have HFV := Lib.hid (show ∀ s ∈ fam l i, s.length ≤ 40 from fun s hs => Nat.le_trans (fam_len hg hi hs) h40)
    have HFI := Lib.hid (show ∀ s ∈ fam l i, ∀ x ∈ s, I64 x ∧ 0 ≤ x from fun s hs x hx => vars_i64 hg hF hi x (Cx.fam_vars hg hi s hs hx))
    have HFT := Lib.hid (show ∀ s ∈ fam l i, Cx.eval l (i : Int) s = true from fun s hs => fam_true hg hi hs)
    have HNV := Lib.hid (fam_nil_vars hg hi)
    have HLE := Lib.hid (fun (hW : WOk ws) (hE : Cx.eval l (i : Int) ts = true) => cheap_le hv hi hW hE)
    have HFW := Lib.hid (fun (m : Nat) (e : Int) (he : 0 < e ∧ e ≤ 1000000) (hm : lastP l < m) (hE : Cx.eval l (i : Int) ts = true) => cheap_few (m := m) (e := e) hv hi he hm hE)
    have HLG := Lib.hid (last_ge l)
    have HLI := Lib.hid (last_i64 hF)
    clear hf
    go_enter Try.func5, Try.ntmps5
    go_wp2_with fail
    refine (head_any w).mono ?_
    rintro e w0 ⟨rfl, bw⟩
    go_wp2_with fail
    refine (fine_any A c l _ _ (by omega) hF (hA.circ.below bw)).mono ?_
    rintro e w1 ⟨rfl, b1⟩
    rw [HFN.out]
    replace bw := bw.trans (b1.mono bw.size)
    clear b1
    go_wp2_with fail
    go_loopw [12] (fun j wr => ∃ k : Nat, k ≤ ws.length ∧ Hid (∀ j, j < k → ∀ x, ws[j]? = some x → 0 ≤ x ∧ x ≤ 1000000) ∧ j = .int .i64 k ∧ Below w.heap.size w wr) (fun j _ => ws.length - (intOf j).toNat)
    case atStart => exact ⟨0, by omega, Lib.hid (fun j hj => by omega), rfl, bw⟩
    case round =>
      clear bw
      obtain ⟨k, hk, HW, rfl, hbw⟩ := hrel
      by_cases h3 : k < ws.length
      · have d3 : decide ((k : Int) < (ws.length : Int)) = true := by simp; omega
        have i0 : (0 : Int) ≤ (k : Int) := by omega
        have i1 : (k : Int) < (ws.length : Int) := by omega
        obtain ⟨x, hx⟩ : ∃ x, ws[k]? = some x := ⟨_, List.getElem?_eq_getElem h3⟩
        obtain ⟨g, o, e0, hgl, c0'⟩ := (hB.below hbw).at h3
        have c0 : _ = some (Value.int .i64 x) := c0'.trans (by congr 2; exact (List.getElem?_eq_some_iff.1 hx).2)
        subst e0
        clear c0'
        by_cases y1 : x < 0
        · have z1 : decide (x < 0) = true := by simpa using y1
          clear hx y1
          go_wp2_with fail
          go_ret
          exact ⟨rfl, hbw⟩
        have z1 : decide (x < 0) = false := by simpa using y1
        by_cases y2 : 1000000 < x
        · have z2 : decide ((1000000 : Int) < x) = true := by simpa using y2
          clear hx y1 y2
          go_wp2_with fail
          go_ret
          exact ⟨rfl, hbw⟩
        have z2 : decide ((1000000 : Int) < x) = false := by simpa using y2
        have HW2 := Lib.hid (all_snoc (p := fun x => 0 ≤ x ∧ x ≤ 1000000) HW.out hx ⟨by omega, by omega⟩)
        clear hx y1 y2 HW
        go_wp2_with fail
        go_roundw
        case rel => exact ⟨k + 1, by omega, HW2, by go_num, hbw⟩
        case measure => simp [intOf]; omega
      have d3 : decide ((k : Int) < (ws.length : Int)) = false := by simp; omega
      have HWK := Lib.hid (show WOk ws from wok_of fun j hj => HW.out j (by omega))
      clear HW
      go_wp2_with fail
      go_loopw [13] (fun j wr => ∃ k : Nat, k ≤ ts.length ∧ Hid (∀ j, j < k → ∀ x, ts[j]? = some x → 0 ≤ x ∧ x ≤ 1000) ∧ Hid (ts.take k).Nodup ∧ j = .int .i64 k ∧ Below w.heap.size w wr) (fun j _ => ts.length - (intOf j).toNat)
      case atStart => exact ⟨0, by omega, Lib.hid (fun j hj => by omega), Lib.hid (by simp), rfl, hbw⟩
      case round =>
        clear hbw
        obtain ⟨k, hk, HT, HND, rfl, hbw⟩ := hrel
        by_cases h4 : k < ts.length
        · have d4 : decide ((k : Int) < (ts.length : Int)) = true := by simp; omega
          have i0 : (0 : Int) ≤ (k : Int) := by omega
          have i1 : (k : Int) < (ts.length : Int) := by omega
          obtain ⟨x, hx⟩ : ∃ x, ts[k]? = some x := ⟨_, List.getElem?_eq_getElem h4⟩
          obtain ⟨g, o, e0, hgl, c0'⟩ := (hE.below hbw).at h4
          have c0 : _ = some (Value.int .i64 x) := c0'.trans (by congr 2; exact (List.getElem?_eq_some_iff.1 hx).2)
          subst e0
          have f0 : ∀ z : Held wr.heap.size wr, z.w.cell? ⟨g, o + k, none⟩ = some (.int .i64 x) := fun z => z.cell hgl c0
          have htl : (ts.take k).length = k := by simp; omega
          have CI : ∀ z : Held wr.heap.size wr, Calls Try.prog 17 #[.slice (some ⟨g, o, none⟩) k f, .int .i64 x] z.w fun e w' => e = .returned (.bool ((ts.take k).contains x)) ∧ z.w = w' := fun z => by
            have := in29_any (some ⟨g, o, none⟩) f (ts.take k) x z.w (by omega) (nums_take ((hE.below hbw).below z.ok) k)
            rw [htl] at this
            exact this
          have s1 : k ≤ f := by omega
          have s2 : (k : Int) ≤ (f : Int) := by omega
          clear c0' htl
          by_cases y1 : x < 0
          · have z1 : decide (x < 0) = true := by simpa using y1
            clear hx y1 CI
            go_wp2_with fail
            refine wp_region_held wr.heap.size wr (Below.refl _ _) (by kernel_rfl) (by kernel_rfl) ?_
            repeat (go_big_quiet_step (fail))
            refine wpQuiet_nil ?_
            rintro w5 ⟨⟨_, b5⟩, rfl⟩
            clear f0
            go_wp2_with fail
            go_ret
            exact ⟨rfl, hbw.trans (b5.mono hbw.size)⟩
          have z1 : decide (x < 0) = false := by simpa using y1
          by_cases y2 : 1000 < x
          · have z2 : decide ((1000 : Int) < x) = true := by simpa using y2
            clear hx y1 y2 CI
            go_wp2_with fail
            refine wp_region_held wr.heap.size wr (Below.refl _ _) (by kernel_rfl) (by kernel_rfl) ?_
            repeat (go_big_quiet_step (fail))
            refine wpQuiet_nil ?_
            rintro w5 ⟨⟨_, b5⟩, rfl⟩
            clear f0
            go_wp2_with fail
            go_ret
            exact ⟨rfl, hbw.trans (b5.mono hbw.size)⟩
          have z2 : decide ((1000 : Int) < x) = false := by simpa using y2
          cases hc : (ts.take k).contains x with
          | true =>
            rw [hc] at CI
            have HCI := Lib.hid CI
            clear hx y1 y2 CI hc
            go_wp2_with fail
            refine wp_region_held wr.heap.size wr (Below.refl _ _) (by kernel_rfl) (by kernel_rfl) ?_
            repeat (go_big_quiet_step ((go_at_call 17; exact held_same _ (HCI.out _))))
            refine wpQuiet_nil ?_
            rintro w5 ⟨⟨_, b5⟩, rfl⟩
            clear f0
            go_wp2_with fail
            go_ret
            exact ⟨rfl, hbw.trans (b5.mono hbw.size)⟩
          | false =>
            have HT2 := Lib.hid (all_snoc (p := fun x => 0 ≤ x ∧ x ≤ 1000) HT.out hx ⟨by omega, by omega⟩)
            have HN2 := Lib.hid (nodup_snoc HND.out hx hc)
            rw [hc] at CI
            have HCI := Lib.hid CI
            clear hx y1 y2 CI hc
            go_wp2_with fail
            refine wp_region_held wr.heap.size wr (Below.refl _ _) (by kernel_rfl) (by kernel_rfl) ?_
            repeat (go_big_quiet_step ((go_at_call 17; exact held_same _ (HCI.out _))))
            refine wpQuiet_nil ?_
            rintro w5 ⟨⟨_, b5⟩, rfl⟩
            clear f0
            go_wp2_with fail
            go_roundw
            case rel => exact ⟨k + 1, by omega, HT2, HN2, by go_num, hbw.trans (b5.mono hbw.size)⟩
            case measure => simp [intOf]; omega
        have d4 : decide ((k : Int) < (ts.length : Int)) = false := by simp; omega
        have HTP := Lib.hid (show ∀ x ∈ ts, 0 ≤ x from fun x hx => by
          obtain ⟨j, hj⟩ := List.mem_iff_getElem?.1 hx
          exact (HT.out j (by have := (List.getElem?_eq_some_iff.1 hj).1; omega) x hj).1)
        clear HT HND
        go_wp2_with fail
        refine (cheapest_any A c l _ B d ws _ (by omega) hF (hA.below hbw) (by omega) (hB.below hbw)).mono ?_
        rintro e w9 ⟨vw, rfl, s9, b9⟩
        replace hbw := hbw.trans (b9.mono hbw.size)
        clear b9
        rcases HCC.out ws HWK.out with ⟨hfew, hne, hc0, hs0, hw0⟩ | ⟨hfew, he0, hc0⟩ | ⟨hfew, hc0⟩
        · have hbm := best_mem (ws := ws) hne
          rw [hc0, hw0]
          rw [hs0] at s9
          have hSl := HFV.out _ hbm
          have HSI := Lib.hid (HFI.out _ hbm)
          have HSE := Lib.hid (HFT.out _ hbm)
          have HNE := Lib.hid hne
          have HFEW := Lib.hid hfew
          obtain ⟨V, hV⟩ : ∃ V, wsum ws (best ws (fam l i)) = V := ⟨_, rfl⟩
          have HVE := Lib.hid hV
          have HLV := Lib.hid (show Cx.eval l (i : Int) ts = true → V ≤ wsum ws ts from fun h => by rw [← hV]; exact HLE.out HWK.out h)
          obtain ⟨S, hS⟩ : ∃ S, best ws (fam l i) = S := ⟨_, rfl⟩
          rw [hS] at hSl HSI HSE s9 HVE
          simp only [hV]
          clear hV hS hbm hne hc0 hs0 hw0 hfew
          obtain ⟨Cb, cb, rfl, p1, p2, p3, p4⟩ := s9
          have q1 : (V != V) = false := by simp
          have u1 : decide ((40 : Int) < (S.length : Int)) = false := by simp; omega
          have u1' : decide (40 < S.length) = false := by simp; omega
          go_wp2_with fail
          refine (eval_any A c l _ Cb cb S _ hg hF (by omega) (by omega) (fun t ht => (HSI.out t ht).1) (hA.below hbw) p4).mono ?_
          rintro e wa ⟨rfl, ba⟩
          rw [HSE.out]
          replace hbw := hbw.trans (ba.mono hbw.size)
          replace p4 := p4.below ba
          clear ba
          go_wp2_with fail
          go_loopw [17] (fun j wr => ∃ k : Nat, k ≤ S.length ∧ j = .int .i64 k ∧ wr = wa) (fun j _ => S.length - (intOf j).toNat)
          case atStart => exact ⟨0, by omega, rfl, rfl⟩
          case round =>
            obtain ⟨k, hk, rfl, e0⟩ := hrel
            subst e0
            by_cases h5 : k < S.length
            · have d5 : decide ((k : Int) < (S.length : Int)) = true := by simp; omega
              have i0 : (0 : Int) ≤ (k : Int) := by omega
              have i1 : (k : Int) < (S.length : Int) := by omega
              obtain ⟨x, hx⟩ : ∃ x, S[k]? = some x := ⟨_, List.getElem?_eq_getElem h5⟩
              obtain ⟨g, o, e0, hgl, c0'⟩ := p4.at h5
              have c0 : _ = some (Value.int .i64 x) := c0'.trans (by congr 2; exact (List.getElem?_eq_some_iff.1 hx).2)
              have hx0 := (HSI.out x (List.mem_of_getElem? hx)).2
              have z1 : decide (x < 0) = false := by simp; omega
              subst e0
              clear c0' hx hx0
              go_wp2_with fail
              go_roundw
              case rel => exact ⟨k + 1, by omega, by go_num, by first | rfl | trivial⟩
              case measure => simp [intOf]; omega
            have d5 : decide ((k : Int) < (S.length : Int)) = false := by simp; omega
            have HWT := Lib.hid (weight_any Cb cb S B d ws wr (by omega) (by omega) (fun x hx => (HSI.out x hx).2) HWK.out p4 (hB.below hbw))
            go_wp2_with fail
            refine HWT.out.mono ?_
            rintro e wb ⟨rfl, rfl⟩
            rw [HVE.out]
            go_wp2_with fail
            refine (eval_any A c l _ E f ts _ hg hF (by omega) (by omega) hJ (hA.below hbw) (hE.below hbw)).mono ?_
            rintro e wc ⟨rfl, bc⟩
            replace hbw := hbw.trans (bc.mono hbw.size)
            clear bc HWT p4
            cases hev : Cx.eval l (i : Int) ts with
            | false =>
              clear hev
              go_wp2_with fail
              go_ret
              exact ⟨rfl, hbw⟩
            | true =>
              have HEV := Lib.hid hev
              obtain ⟨WT, hWT⟩ : ∃ WT, wsum ws ts = WT := ⟨_, rfl⟩
              have hVle := HLV.out hev
              rw [hWT] at hVle
              have HWTE := Lib.hid hWT
              have q2 : decide (V ≤ WT) = true := by simpa using hVle
              obtain ⟨M, hM⟩ : ∃ M, lastP l = M := ⟨_, rfl⟩
              have HM := Lib.hid hM
              have hM0 := HLG.out.1
              have hM1 := HLI.out
              rw [hM] at hM0 hM1
              have hbc := hbw
              obtain ⟨in0, hi0, hz0, hz1, hz2⟩ := info_parts int_info
              clear hev hWT hVle hM
              go_wp2_with fail
              go_loopw [18, 19] (fun v j wr => ∃ k : Nat, k ≤ 1001 ∧ (k : Int) ≤ M + 1 ∧ j = .int .i64 k ∧ wr.ownsRow wc.heap.size 3 1 v k (icells (List.replicate k ((r : Int) + 1))) ∧ Below wc.heap.size wc wr) (fun _ j _ => 1002 - (intOf j).toNat)
              case atStart => exact ⟨0, by omega, by omega, rfl, World.ownsRow_nil _ _ _ _, Below.refl _ _⟩
              case round =>
                obtain ⟨k, hk, hkM, rfl, ho, hb3⟩ := hrel
                obtain ⟨va, vc, rfl⟩ := own_len ho
                have bk := hbc.trans (hb3.mono hbc.size)
                by_cases h6 : k ≤ 1000
                · have d6 : decide ((k : Int) ≤ 1000) = true := by simp; omega
                  have d6' : decide (k ≤ 1000) = true := by simp; omega
                  have HLA := Lib.hid (last_any A c l wr (by omega) (hA.circ.below bk))
                  by_cases h7 : (k : Int) ≤ M
                  · have d7 : decide ((k : Int) ≤ M) = true := by simpa using h7
                    have r1 : IntKind.i64.wrap (r : Int) = (r : Int) := by rw [IntKind.wrap_i64]; omega
                    have r2 : IntKind.i64.wrap ((r : Int) + 1) = (r : Int) + 1 := by rw [IntKind.wrap_i64]; omega
                    have HIR := Lib.hid (icells_rep k ((r : Int) + 1))
                    go_wp2_with fail
                    refine HLA.out.mono ?_
                    rintro e w4 ⟨rfl, b4⟩
                    rw [HM.out]
                    have o4 := own_below ho b4
                    have hb4 := hb3.trans (b4.mono hb3.size)
                    have hs4 := hb4.size
                    go_wp2_with (first
                      | (at_builtin; go_loud (refine wpList_append_from rfl (.tmp 157) (.tmp 161) 24 rfl wc.heap.size 3 in0 _ 1 8 Try.underlying24 hi0 hz0 hz1 hz2 rfl (by omega) (.slice va k vc) k (icells (List.replicate k ((r : Int) + 1))) rfl (own_alloc o4 _) (some ⟨w4.heap.size, 0, none⟩) 1 1 [.int .i64 ((r : Int) + 1)] rfl rfl (fun h => by cases h) (fun ad h => by obtain rfl := Option.some.inj h; exact At.news (At.new _ _ _)) (one1 rfl) (by unfold maxLen; omega) (by omega) (by simp; omega) ?_); intro v2 w5 o2 g2))
                    have bw5 : Below wc.heap.size wc w5 := (hb4.alloc hs4 _).grown g2 (by simp; omega) (fun q hq => (own_lt ho hq).1)
                    go_roundw
                    case rel => exact ⟨k + 1, by omega, by omega, by go_num, by rw [HIR.out]; exact o2, bw5⟩
                    case measure => simp [intOf]; omega
                  have d7 : decide ((k : Int) ≤ M) = false := by simpa using h7
                  have HKM := Lib.hid (show M ≤ 1000 → M < (k : Int) from fun _ => by omega)
                  go_wp2_with fail
                  refine HLA.out.mono ?_
                  rintro e w4 ⟨rfl, b4⟩
                  rw [HM.out]
                  have o4 := own_below ho b4
                  replace bk := bk.trans (b4.mono bk.size)
                  clear ho b4 HLA
                  obtain ⟨Xs, hXs⟩ : ∃ Xs, List.replicate k ((r : Int) + 1) = Xs := ⟨_, rfl⟩
                  have hXl : Xs.length = k := by rw [← hXs]; simp
                  have HXS := Lib.hid hXs
                  rw [hXs] at o4
                  have hkl : k = Xs.length := hXl.symm
                  obtain ⟨X0, xc, e4, hxn⟩ := ns_of_own (l := Xs) (by rw [← hkl]; exact o4)
                  rw [← hkl] at e4
                  rw [e4]
                  have HWX := Lib.hid (show WOk Xs by rw [← hXs]; exact wok_same k ⟨by omega, by omega⟩)
                  have hch := cheapest_any A c l (i : Int) X0 xc Xs w4 (by omega) hF (hA.below bk) (by omega) hxn.nums
                  rw [← hkl] at hch
                  have HCH := Lib.hid hch
                  clear o4 hXs hxn hch e4 hXl hkl
                  go_wp2_with fail
                  refine HCH.out.mono ?_
                  rintro e w6 ⟨vx, rfl, s6, b6⟩
                  replace bk := bk.trans (b6.mono bk.size)
                  clear b6
                  rcases HCC.out Xs HWX.out with ⟨hfew, hne, hc0, hs0, hw0⟩ | ⟨_, he0, _⟩ | ⟨hfew, hc0⟩
                  · rw [hc0]
                    rw [hs0] at s6
                    obtain ⟨Zs, hZs⟩ : ∃ Zs, best Xs (fam l i) = Zs := ⟨_, rfl⟩
                    have hZl : M ≤ 1000 → Zs.length ≤ ts.length := fun h => by
                      have := HFW.out k ((r : Int) + 1) ⟨by omega, by omega⟩ (by rw [HM.out]; exact HKM.out h) HEV.out
                      rw [HXS.out, hZs] at this
                      exact this
                    rw [hZs] at s6
                    obtain ⟨Cz, cz, rfl, z1, z2, z3, z4⟩ := s6
                    have HWT2 := Lib.hid (weight_any E f ts B d ws w6 (by omega) (by omega) HTP.out HWK.out (hE.below bk) (hB.below bk))
                    generalize cweight l (i : Int) Xs = cw at *
                    clear z1 z2 z3 z4 hZs hc0 hs0 hw0 hne hfew HFW
                    by_cases h8 : 1000 < M
                    · have d8 : decide ((1000 : Int) < M) = true := by simpa using h8
                      clear hZl
                      go_wp2_with fail
                      refine HWT2.out.mono ?_
                      rintro e w7 ⟨rfl, rfl⟩
                      rw [HWTE.out]
                      have HLB := Lib.hid (last_any A c l w6 (by omega) (hA.circ.below bk))
                      go_wp2_with fail
                      refine HLB.out.mono ?_
                      rintro e w8 ⟨rfl, b8⟩
                      rw [HM.out]
                      go_wp2_with fail
                      go_ret
                      exact ⟨rfl, bk.trans (b8.mono bk.size)⟩
                    · have d8 : decide ((1000 : Int) < M) = false := by simpa using h8
                      have hz9 := hZl (by omega)
                      have d9 : decide ((Zs.length : Int) ≤ (ts.length : Int)) = true := by simp; omega
                      have d9' : decide (Zs.length ≤ ts.length) = true := by simp; omega
                      clear hZl
                      go_wp2_with fail
                      refine HWT2.out.mono ?_
                      rintro e w7 ⟨rfl, rfl⟩
                      rw [HWTE.out]
                      have HLB := Lib.hid (last_any A c l w6 (by omega) (hA.circ.below bk))
                      go_wp2_with fail
                      refine HLB.out.mono ?_
                      rintro e w8 ⟨rfl, b8⟩
                      rw [HM.out]
                      go_wp2_with fail
                      go_ret
                      exact ⟨rfl, bk.trans (b8.mono bk.size)⟩
                  · exact absurd he0 HNE.out
                  · exact absurd HFEW.out hfew
                have d6 : decide ((k : Int) ≤ 1000) = false := by simp; omega
                have d6' : decide (k ≤ 1000) = false := by simp; omega
                have HKM := Lib.hid (show M ≤ 1000 → M < (k : Int) from fun _ => by omega)
                have o4 := ho
                clear ho
                go_wp2_with fail
                obtain ⟨Xs, hXs⟩ : ∃ Xs, List.replicate k ((r : Int) + 1) = Xs := ⟨_, rfl⟩
                have hXl : Xs.length = k := by rw [← hXs]; simp
                have HXS := Lib.hid hXs
                rw [hXs] at o4
                have hkl : k = Xs.length := hXl.symm
                obtain ⟨X0, xc, e4, hxn⟩ := ns_of_own (l := Xs) (by rw [← hkl]; exact o4)
                rw [← hkl] at e4
                rw [e4]
                have HWX := Lib.hid (show WOk Xs by rw [← hXs]; exact wok_same k ⟨by omega, by omega⟩)
                have hch := cheapest_any A c l (i : Int) X0 xc Xs wr (by omega) hF (hA.below bk) (by omega) hxn.nums
                rw [← hkl] at hch
                have HCH := Lib.hid hch
                clear o4 hXs hxn hch e4 hXl hkl
                go_wp2_with fail
                refine HCH.out.mono ?_
                rintro e w6 ⟨vx, rfl, s6, b6⟩
                replace bk := bk.trans (b6.mono bk.size)
                clear b6
                rcases HCC.out Xs HWX.out with ⟨hfew, hne, hc0, hs0, hw0⟩ | ⟨_, he0, _⟩ | ⟨hfew, hc0⟩
                · rw [hc0]
                  rw [hs0] at s6
                  obtain ⟨Zs, hZs⟩ : ∃ Zs, best Xs (fam l i) = Zs := ⟨_, rfl⟩
                  have hZl : M ≤ 1000 → Zs.length ≤ ts.length := fun h => by
                    have := HFW.out k ((r : Int) + 1) ⟨by omega, by omega⟩ (by rw [HM.out]; exact HKM.out h) HEV.out
                    rw [HXS.out, hZs] at this
                    exact this
                  rw [hZs] at s6
                  obtain ⟨Cz, cz, rfl, z1, z2, z3, z4⟩ := s6
                  have HWT2 := Lib.hid (weight_any E f ts B d ws w6 (by omega) (by omega) HTP.out HWK.out (hE.below bk) (hB.below bk))
                  generalize cweight l (i : Int) Xs = cw at *
                  clear z1 z2 z3 z4 hZs hc0 hs0 hw0 hne hfew HFW
                  by_cases h8 : 1000 < M
                  · have d8 : decide ((1000 : Int) < M) = true := by simpa using h8
                    clear hZl
                    go_wp2_with fail
                    refine HWT2.out.mono ?_
                    rintro e w7 ⟨rfl, rfl⟩
                    rw [HWTE.out]
                    have HLB := Lib.hid (last_any A c l w6 (by omega) (hA.circ.below bk))
                    go_wp2_with fail
                    refine HLB.out.mono ?_
                    rintro e w8 ⟨rfl, b8⟩
                    rw [HM.out]
                    go_wp2_with fail
                    go_ret
                    exact ⟨rfl, bk.trans (b8.mono bk.size)⟩
                  · have d8 : decide ((1000 : Int) < M) = false := by simpa using h8
                    have hz9 := hZl (by omega)
                    have d9 : decide ((Zs.length : Int) ≤ (ts.length : Int)) = true := by simp; omega
                    have d9' : decide (Zs.length ≤ ts.length) = true := by simp; omega
                    clear hZl
                    go_wp2_with fail
                    refine HWT2.out.mono ?_
                    rintro e w7 ⟨rfl, rfl⟩
                    rw [HWTE.out]
                    have HLB := Lib.hid (last_any A c l w6 (by omega) (hA.circ.below bk))
                    go_wp2_with fail
                    refine HLB.out.mono ?_
                    rintro e w8 ⟨rfl, b8⟩
                    rw [HM.out]
                    go_wp2_with fail
                    go_ret
                    exact ⟨rfl, bk.trans (b8.mono bk.size)⟩
                · exact absurd he0 HNE.out
                · exact absurd HFEW.out hfew
        · rw [hc0]
          have HE0 := Lib.hid (show Cx.eval l (i : Int) (Cx.vars l (i : Int)) = false by rw [HNV.out, decide_eq_false (by simp [he0])])
          obtain ⟨vs, hvs⟩ : ∃ vs, Cx.vars l (i : Int) = vs := ⟨_, rfl⟩
          have HV := Lib.hid hvs
          rw [hvs] at HE0 hvl HVI
          generalize cweight l (i : Int) ws = cw at *
          obtain ⟨Cz, cz, rfl, z1, z2, z3, z4⟩ := s9
          clear hvs z1 z2 z3 z4
          generalize (cset l (i : Int) ws).length = czl at *
          go_wp2_with fail
          refine (cvars_own A c l _ _ hg (by omega) (hA.circ.below hbw)).mono ?_
          rintro e w5 ⟨vv, rfl, ov, b5⟩
          rw [HV.out] at ov
          obtain ⟨V, vc', rfl, hvn⟩ := ns_of_own ov
          replace hbw := hbw.trans (b5.mono hbw.size)
          clear ov b5
          go_wp2_with fail
          refine (eval_any A c l _ V vc' vs _ hg hF (by omega) (by omega) (fun t ht => (HVI.out t ht).1) (hA.below hbw) hvn.nums).mono ?_
          rintro e w6 ⟨rfl, b6⟩
          rw [HE0.out]
          replace hbw := hbw.trans (b6.mono hbw.size)
          clear b6 hvn
          go_wp2_with fail
          go_ret
          exact ⟨rfl, hbw⟩
        · rw [hc0]
          generalize cweight l (i : Int) ws = cw at *
          obtain ⟨Cz, cz, rfl, z1, z2, z3, z4⟩ := s9
          clear z1 z2 z3 z4
          generalize (cset l (i : Int) ws).length = czl at *
          go_wp2_with fail
          go_ret
          exact ⟨rfl, hbw⟩
end Go.Proofs.Ytphmicbpkljmfaa
