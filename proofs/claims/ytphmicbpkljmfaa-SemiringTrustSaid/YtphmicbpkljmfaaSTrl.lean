/- The walk of the law SemiringTrust. -/
import Derived.Test.YtphmicbpkljmfaaSLaw0
namespace Go.Proofs.Ytphmicbpkljmfaa
set_option linter.unusedVariables false
set_option linter.unusedSimpArgs false
open Go.RowKit
open Cx (N fam Few)
theorem nopar {A : Option Addr} {c : Nat} {l : List Int} (h : A = none → l.length = 0 ∧ c = 0) : A = none → l.length = 0 ∧ c = 0 := h
theorem all_more {F : List (List Int)} {p : List Int → Bool} {k : Nat} {s : List Int} (h : F[k]? = some s) : (F.take (k + 1)).all p = ((F.take k).all p && p s) := by
  rw [take_more h]; simp
theorem any_more {F : List (List Int)} {p : List Int → Bool} {k : Nat} {s : List Int} (h : F[k]? = some s) : (F.take (k + 1)).any p = ((F.take k).any p || p s) := by
  rw [take_more h]; simp
set_option maxHeartbeats 4000000 in
set_option maxRecDepth 100000 in
theorem trust_law (A : Option Addr) (c : Nat) (l : List N) (n : Int) (B : Option Addr) (d : Nat) (ts : List Int) (E : Option Addr) (f : Nat) (ms : List Int) (w : World) (hl : l.length ≤ 140737488351232) (hF : ∀ n ∈ l, NGood n) (hA : Cir w A c l)
    (hts : ts.length ≤ 140737488351232) (hI : ∀ t ∈ ts, I64 t) (hB : Nums w B ts) (hnB : B = none → ts.length = 0 ∧ d = 0) (hms : ms.length ≤ 140737488351232) (hJ : ∀ t ∈ ms, I64 t) (hE : Nums w E ms) (hnE : E = none → ms.length = 0 ∧ f = 0) :
    Calls Try.prog 3 #[.slice A l.length c, .int .i64 n, .slice B ts.length d, .slice E ms.length f] w fun e w' => e = .returned (.bool true) ∧ Below w.heap.size w w' := by
  obtain ⟨in0, hi0, hz0, hz1, hz2⟩ := info_parts int_info
  cases hf : fineP l n with
  | false =>
    go_enter Try.func3, Try.ntmps3
    go_wp2_with fail
    refine (head_any w).mono ?_
    rintro e w0 ⟨rfl, bw⟩
    go_wp2_with fail
    refine (fine_any A c l n _ (by omega) hF (hA.circ.below bw)).mono ?_
    rintro e w1 ⟨rfl, b1⟩
    rw [hf]
    go_wp2_with fail
    go_ret
    exact ⟨rfl, bw.trans (b1.mono bw.size)⟩
  | true =>
    obtain ⟨i, rfl, hi, h40, hv⟩ := fineP_true hf
    have hg := Cx.valid_good hv
    by_cases h1 : 60 < ts.length
    · have d1 : decide ((60 : Int) < (ts.length : Int)) = true := by simp; omega
      have d1' : decide (60 < ts.length) = true := by simp; omega
      go_enter Try.func3, Try.ntmps3
      go_wp2_with fail
      refine (head_any w).mono ?_
      rintro e w0 ⟨rfl, bw⟩
      go_wp2_with fail
      refine (fine_any A c l _ _ (by omega) hF (hA.circ.below bw)).mono ?_
      rintro e w1 ⟨rfl, b1⟩
      rw [hf]
      go_wp2_with fail
      go_ret
      exact ⟨rfl, bw.trans (b1.mono bw.size)⟩
    have d1 : decide ((60 : Int) < (ts.length : Int)) = false := by simp; omega
    have d1' : decide (60 < ts.length) = false := by simp; omega
    by_cases h2 : 60 < ms.length
    · have d2 : decide ((60 : Int) < (ms.length : Int)) = true := by simp; omega
      have d2' : decide (60 < ms.length) = true := by simp; omega
      go_enter Try.func3, Try.ntmps3
      go_wp2_with fail
      refine (head_any w).mono ?_
      rintro e w0 ⟨rfl, bw⟩
      go_wp2_with fail
      refine (fine_any A c l _ _ (by omega) hF (hA.circ.below bw)).mono ?_
      rintro e w1 ⟨rfl, b1⟩
      rw [hf]
      go_wp2_with fail
      go_ret
      exact ⟨rfl, bw.trans (b1.mono bw.size)⟩
    have d2 : decide ((60 : Int) < (ms.length : Int)) = false := by simp; omega
    have d2' : decide (60 < ms.length) = false := by simp; omega
    have key : ∀ b b2 : Bool, trustP l (i : Int) ts = b → trustP l (i : Int) (ts ++ ms) = b2 → (b2 && !b) = false → Calls Try.prog 3 #[.slice A l.length c, .int .i64 i, .slice B ts.length d, .slice E ms.length f] w fun e w' => e = .returned (.bool true) ∧ Below w.heap.size w w' := by
      intro b b2 hb hb2 hbb
      have HTM := Lib.hid (trust_meets hv hi ts)
      have HTR := Lib.hid (trust_rest hv hi ts)
      have HVI := Lib.hid (vars_i64 hg hF hi)
      have hvl := vars_length hg i hi
      have HH := Lib.hid hb
      have HH2 := Lib.hid hb2
      have HFN := Lib.hid hf
      have HWC := Lib.hid (wcode_in hv hi)
      have HFV := Lib.hid (show ∀ s ∈ fam l i, s.length ≤ 40 from fun s hs => Nat.le_trans (fam_len hg hi hs) h40)
      have LLT := Lib.hid (icells_len ts)
      have LLM := Lib.hid (icells_len ms)
      clear hb hb2 hf
      cases b <;> cases b2 <;> first | (exact absurd hbb (by decide)) | skip
      all_goals
        clear hbb
        go_enter Try.func3, Try.ntmps3
        go_wp2_with fail
        refine (head_any w).mono ?_
        rintro e w0 ⟨rfl, bw⟩
        go_wp2_with fail
        refine (fine_any A c l _ _ (by omega) hF (hA.circ.below bw)).mono ?_
        rintro e w1 ⟨rfl, b1⟩
        rw [HFN.out]
        replace bw := bw.trans (b1.mono bw.size)
        clear b1
        go_wp2_with fail
        refine (trust_any A c l _ B d ts _ (by omega) hF (hA.below bw) (by omega) hI (hB.below bw)).mono ?_
        rintro e w2 ⟨rfl, b2⟩
        rw [HH.out]
        replace bw := bw.trans (b2.mono bw.size)
        clear b2
        have o0 := own_empty w2 3 1 w2.heap.size (Nat.le_refl _)
        have hB2 := (hB.below bw).below (below1 w2 (.cells #[] 3))
        go_wp2_with (first
          | (at_builtin; refine wpList_append_from rfl (.tmp 38) (.tmp 39) 24 rfl w2.heap.size 3 in0 _ 1 8 Try.underlying24 hi0 hz0 hz1 hz2 rfl (by omega) (.slice va ts.length vc) ts.length (icells ts) rfl o3 E ms.length f (icells ms) rfl (by rw [LLM.out]; omega) hnE (nums_news hE3) (icells_one _) (by unfold maxLen; omega) (by omega) (by exact b3.size) ?_; intro v4 w4 o4 g4)
          | (at_builtin; go_loud (refine wpList_append_from rfl (.tmp 36) (.tmp 37) 24 rfl w2.heap.size 3 in0 _ 1 8 Try.underlying24 hi0 hz0 hz1 hz2 rfl (by omega) (.slice (some ⟨w2.heap.size, 0, none⟩) 0 0) 0 [] rfl o0 B ts.length d (icells ts) rfl (by rw [LLT.out]; omega) hnB (nums_news hB2) (icells_one _) (by unfold maxLen; omega) (by omega) (by simp) ?_); intro v3 w3 o3 g3; have b3 : Below w2.heap.size w2 w3 := (below1 w2 _).grown g3 (by simp) (fun q hq => (own_lt o0 hq).1); rw [Nat.zero_add, List.nil_append] at o3; obtain ⟨va, vc, rfl⟩ := own_len o3; have hE3 := (hE.below bw).below b3))
        have b4 : Below w2.heap.size w2 w4 := b3.grown g4 b3.size (fun q hq => (own_lt o3 hq).1)
        obtain ⟨XY, hXY⟩ : ∃ XY, ts ++ ms = XY := ⟨_, rfl⟩
        obtain ⟨T2, t2, rfl, hn2⟩ := ns_of_own (l := XY) (by rw [← hXY, icells_app, List.length_append]; exact o4)
        rw [hXY] at HH2
        have xyl : XY.length ≤ 120 := by rw [← hXY, List.length_append]; omega
        have HXI := Lib.hid (show ∀ t ∈ XY, I64 t from fun t ht => by rw [← hXY] at ht; rcases List.mem_append.1 ht with h | h; exact hI t h; exact hJ t h)
        replace bw := bw.trans (b4.mono bw.size)
        clear o0 o3 o4 g3 g4 b3 b4 hB2 hE3 hXY
        go_wp2_with fail
        refine (cvars_own A c l _ _ hg (by omega) (hA.circ.below bw)).mono ?_
        rintro e w5 ⟨vv, rfl, ov, b5⟩
        obtain ⟨V, vc', rfl, hvn⟩ := ns_of_own ov
        replace bw := bw.trans (b5.mono bw.size)
        replace hn2 := hn2.below b5
        clear ov b5
        go_wp2_with fail
        refine (rest_any V vc' (Cx.vars l (i : Int)) B d ts _ (by omega) (by omega) hvn.nums (hB.below bw)).mono ?_
        rintro e w6 ⟨vv, rfl, ov, b6⟩
        obtain ⟨R, rc, rfl, hrn⟩ := ns_of_own ov
        have hrl := restL_len (Cx.vars l (i : Int)) ts
        have HRI := Lib.hid (show ∀ t ∈ restL (Cx.vars l (i : Int)) ts, I64 t from fun t ht => (HVI.out t (mem_restL.1 ht).1).1)
        replace bw := bw.trans (b6.mono bw.size)
        replace hn2 := hn2.below b6
        clear ov b6 hvn
        obtain ⟨rs, hrs⟩ : ∃ rs, restL (Cx.vars l (i : Int)) ts = rs := ⟨_, rfl⟩
        rw [hrs] at hrn hrl HRI HTR
        simp only [hrs]
        clear hrs
        go_wp2_with fail
        refine (eval_any A c l _ R rc rs _ hg hF (by omega) (by omega) HRI.out (hA.below bw) hrn.nums).mono ?_
        rintro e w7 ⟨rfl, b7⟩
        rw [← HTR.out, HH.out]
        replace bw := bw.trans (b7.mono bw.size)
        replace hn2 := hn2.below b7
        clear b7 hrn
        go_wp2_with fail
        refine (trust_any A c l _ T2 t2 XY _ (by omega) hF (hA.below bw) (by omega) HXI.out hn2.nums).mono ?_
        rintro e w8 ⟨rfl, b8⟩
        rw [HH2.out]
        replace bw := bw.trans (b8.mono bw.size)
        clear b8 hn2
        go_wp2_with fail
        refine (cWitnesses_any A c l _ _ (by omega) hF (hA.below bw)).mono ?_
        rintro e w9 ⟨vw, rfl, s9, b9⟩
        replace bw := bw.trans (b9.mono bw.size)
        clear b9
        rcases HWC.out with ⟨hfew, hc0, hw0⟩ | ⟨hfew, hc0, hw0⟩
        · rw [hc0]
          rw [hw0] at s9
          obtain ⟨⟨V1, k1, rfl, p1, p2, _, p4⟩, _, _⟩ := s9
          have HFL := Lib.hid (few_len hfew)
          have hFL : (fam l i).length ≤ 200 := HFL.out
          obtain ⟨F, hFF⟩ : ∃ F, fam l i = F := ⟨_, rfl⟩
          rw [hFF] at p1 p4 hFL HFV HTM ⊢
          clear hFF hc0 hw0 hfew HWC
          go_wp2_with fail
          go_loopw [14, 15] (fun h j wr => ∃ (k : Nat) (x : Bool), k ≤ F.length ∧ Hid (x = (F.take k).all fun s => meetsP s ts) ∧ h = .bool x ∧ j = .int .i64 k ∧ Below w.heap.size w wr ∧ Below w9.heap.size w9 wr) (fun _ j _ => F.length - (intOf j).toNat)
          case atStart => exact ⟨0, true, by omega, Lib.hid (by simp), rfl, rfl, bw, Below.refl _ _⟩
          case round =>
            obtain ⟨k, x, hk, HX, rfl, rfl, hbw, hb9⟩ := hrel
            by_cases h3 : k < F.length
            · have d3 : decide ((k : Int) < (F.length : Int)) = true := by simp; omega
              have i0 : (0 : Int) ≤ (k : Int) := by omega
              have i1 : (k : Int) < (F.length : Int) := by omega
              obtain ⟨s, hs⟩ : ∃ s, F[k]? = some s := ⟨_, List.getElem?_eq_getElem h3⟩
              have hE3 := all_more (p := fun s => meetsP s ts) hs
              rw [← HX.out] at hE3
              have hsl := HFV.out s (List.mem_of_getElem? hs)
              cases x with
              | false =>
                have HE := Lib.hid (show false = (F.take (k + 1)).all fun s => meetsP s ts by rw [hE3]; rfl)
                clear hE3
                go_wp2_with fail
                go_roundw
                case rel => exact ⟨k + 1, false, by omega, HE, rfl, by go_num, hbw, hb9⟩
                case measure => simp [intOf]; omega
              | true =>
                have HE := Lib.hid (show meetsP s ts = (F.take (k + 1)).all fun s => meetsP s ts by rw [hE3]; rfl)
                obtain ⟨g, o, C, cc, rfl, hgl, c0, x1, x2, x3, x4⟩ := (p4.below hb9).at hs
                clear hE3 hs
                go_wp2_with fail
                refine (meets_any C cc s B d ts _ (by omega) (by omega) x4 (hB.below hbw)).mono ?_
                rintro e wm ⟨rfl, bm⟩
                go_wp2_with fail
                go_roundw
                case rel => exact ⟨k + 1, _, by omega, HE, rfl, by go_num, hbw.trans (bm.mono hbw.size), hb9.trans (bm.mono hb9.size)⟩
                case measure => simp [intOf]; omega
            · have d3 : decide ((k : Int) < (F.length : Int)) = false := by simp; omega
              have hx : x = !(trustP l (i : Int) ts) := by rw [HTM.out, HX.out, List.take_of_length_le (by omega)]; simp
              rw [HH.out] at hx
              subst hx
              go_wp2_with fail
              go_ret
              exact ⟨rfl, hbw⟩
        · rw [hc0]
          go_wp2_with fail
          go_ret
          exact ⟨rfl, bw⟩
    refine key _ _ rfl rfl ?_
    cases h3 : trustP l (i : Int) (ts ++ ms) with
    | false => rfl
    | true => rw [trust_mono hv hi ts ms h3]; rfl
end Go.Proofs.Ytphmicbpkljmfaa
