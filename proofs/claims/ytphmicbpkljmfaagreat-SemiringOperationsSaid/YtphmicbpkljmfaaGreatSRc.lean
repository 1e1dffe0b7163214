/- The walks of the reference's Times and order. -/
import Derived.Test.YtphmicbpkljmfaaGreatSRb
namespace Go.Proofs.YtphmicbpkljmfaaGreat
set_option linter.unusedVariables false
set_option linter.unusedSimpArgs false
open Go.RowKit
open Cx (N)
theorem prods_more {F G : List (List Int)} {i : Nat} {x : List Int} (hx : F[i]? = some x) : Fm.prods (F.take (i + 1)) G = Fm.prods (F.take i) G ++ G.map (Fm.uni x) := by
  unfold Fm.prods; rw [take_more hx, List.flatMap_append]; simp
theorem adds_app (l L M : List (List Int)) : Fm.adds l (L ++ M) = Fm.adds (Fm.adds l L) M := by simp [Fm.adds]
def SetP (q : Option Nat) (z : List Int) : Value → World → Prop := fun x w => ∃ R rc, x = .slice R z.length rc ∧ SetV w x z ∧ Sv q x
def FamP (q : Option Nat) (K : List (List Int)) : Value → World → Prop := fun x w => ∃ R rc, x = .slice R K.length rc ∧ FamA q w x K
theorem lasting_setP {J : World → Prop} (q : Option Nat) (z : List Int) : Lasting J Onward (SetP q z) := fun x w w' _ hb ⟨R, rc, e, h, h'⟩ => ⟨R, rc, e, h.below hb, h'⟩
theorem lasting_famP {J : World → Prop} (q : Option Nat) (K : List (List Int)) : Lasting J Onward (FamP q K) := fun x w w' _ hb ⟨R, rc, e, h⟩ => ⟨R, rc, e, h.below hb⟩
theorem SetV.hdr {w : World} {v : Value} {s : List Int} (h : SetV w v s) : ∃ R rc, v = .slice R s.length rc := by obtain ⟨R, rc, e, _⟩ := h; exact ⟨R, rc, e⟩
set_option maxHeartbeats 1000000 in
set_option maxRecDepth 100000 in
theorem times29_any (q : Option Nat) (A : Option Addr) (c : Nat) (F : List (List Int)) (B : Option Addr) (d : Nat) (G : List (List Int)) (w : World) (hlF : F.length ≤ 400) (hlG : G.length ≤ 400) (hiF : ∀ s ∈ F, s.length ≤ 100000 ∧ Fm.Inc s) (hiG : ∀ s ∈ G, s.length ≤ 100000 ∧ Fm.Inc s) (hq : Lo q w.heap.size) (hF : FamA q w (.slice A F.length c) F) (hG : FamA q w (.slice B G.length d) G) :
    Calls Tryz.prog 22 #[.slice A F.length c, .slice B G.length d] w (FamOut q (Fm.adds [] (Fm.prods F G)) w) := by
  have hA : Sets w A F := by obtain ⟨A', c', e, _, _, _, h⟩ := hF.1; injection e with e1 e2 e3; subst e1; exact h
  have hB : Sets w B G := by obtain ⟨A', c', e, _, _, _, h⟩ := hG.1; injection e with e1 e2 e3; subst e1; exact h
  have HIF := Lib.hid hiF
  have HIG := Lib.hid hiG
  have HLQ := Lib.hid hq
  clear hF hG hiF hiG hq
  go_enter Tryz.func22, Tryz.ntmps22
  go_wp2_with fail
  go_loopw [5, 6] (fun v i wr => ∃ (k : Nat) (K : List (List Int)), k ≤ F.length ∧ K.length ≤ k * 400 ∧ Hid (K = Fm.adds [] (Fm.prods (F.take k) G)) ∧ i = .int .i64 k ∧ FamA q wr v K ∧ Below w.heap.size w wr) (fun _ i _ => F.length - (intOf i).toNat)
  case atStart => exact ⟨0, [], by omega, by simp, Lib.hid (by simp [Fm.adds, Fm.prods]), rfl, famA_nil _ _, Below.refl _ _⟩
  case round =>
    obtain ⟨i, K0, hi, hKi, HK0, rfl, hv, hbw⟩ := hrel
    by_cases h1 : i < F.length
    · have d1 : decide ((i : Int) < (F.length : Int)) = true := by simp; omega
      obtain ⟨x, hx⟩ : ∃ x, F[i]? = some x := ⟨_, List.getElem?_eq_getElem h1⟩
      obtain ⟨hxl, hxi⟩ := HIF.out x (List.mem_of_getElem? hx)
      obtain ⟨g, o, C, cc, rfl, hg, c0', q1', q2', q3', q4'⟩ := hA.at hx
      have HX := Lib.hid (SetV.mk q1' q2' q3' q4')
      have i0 : (0 : Int) ≤ (i : Int) := by omega
      have i1 : (i : Int) < (F.length : Int) := by omega
      have HXI := Lib.hid hxi
      have HP := Lib.hid (prods_more (G := G) hx)
      clear hx hxi q1' q2' q3' q4'
      go_wp2_with fail
      go_loopw [5, 7] (fun v j wr => ∃ (k : Nat) (Y : List (List Int)), k ≤ G.length ∧ Y.length ≤ i * 400 + k ∧ Hid (Y = Fm.adds K0 ((G.take k).map (Fm.uni x))) ∧ j = .int .i64 k ∧ FamA q wr v Y ∧ Below w.heap.size w wr) (fun _ j _ => G.length - (intOf j).toNat)
      case atStart => exact ⟨0, K0, by omega, by omega, Lib.hid (by simp [Fm.adds]), rfl, hv, hbw⟩
      case round =>
        clear hbw hv hKi d1
        obtain ⟨k, Y, hk, hKk, HKK, rfl, hv, hbw⟩ := hrel
        obtain ⟨Ak, ck, rfl, _, hv⟩ := hv.open
        by_cases h2 : k < G.length
        · have d1 : decide ((k : Int) < (G.length : Int)) = true := by simp; omega
          obtain ⟨y, hy⟩ : ∃ y, G[k]? = some y := ⟨_, List.getElem?_eq_getElem h2⟩
          obtain ⟨hyl, hyi⟩ := HIG.out y (List.mem_of_getElem? hy)
          obtain ⟨g', o', C', cc', rfl, hg', c1', p1, p2, p3, p4⟩ := hB.at hy
          have c0 := (hbw.cell hg).trans c0'
          have c1 := (hbw.cell hg').trans c1'
          have j0 : (0 : Int) ≤ (k : Int) := by omega
          have j1 : (k : Int) < (G.length : Int) := by omega
          have hE : Fm.adds K0 ((G.take (k + 1)).map (Fm.uni x)) = Fm.add Y (Fm.uni x y) := by rw [take_more hy, List.map_append, adds_app, ← HKK.out]; rfl
          have HE := Lib.hid hE.symm
          have hal := Fm.add_len Y (Fm.uni x y)
          obtain ⟨z, hz⟩ : ∃ z, Fm.uni x y = z := ⟨_, rfl⟩
          have HUN := Lib.hid (show ∀ W, Below wr.heap.size wr W → Calls Tryz.prog 47 #[.slice C x.length cc, .slice C' y.length cc'] W (SetOut z W) from fun W hW => by
            rw [← hz]
            have hW' := hbw.trans (hW.mono hbw.size)
            exact union29_any C cc x C' cc' y W hxl hyl (HX.out.below hW') ((SetV.mk p1 p2 p3 p4).below hW') HXI.out hyi)
          have HAD := Lib.hid (show ∀ (R : Option Addr) (rc : Nat) W, Below wr.heap.size wr W → SetV W (.slice R z.length rc) z → Sv q (.slice R z.length rc) → Calls Tryz.prog 46 #[.slice Ak Y.length ck, .slice R z.length rc] W (FamOut q (Fm.add Y z) W) from fun R rc W hW hS hv' =>
            add29_any q Ak ck Y R rc z W (by omega) (HLQ.out.mono (Nat.le_trans hbw.size hW.size)) (hv.below hW) hS hv')
          have HBD := Lib.hid (show ∀ W, Below wr.heap.size wr W → W.cell? ⟨g, o + i, none⟩ = some (.slice C x.length cc) ∧ W.cell? ⟨g', o' + k, none⟩ = some (.slice C' y.length cc') from fun W hW =>
            ⟨(hW.cell (Nat.lt_of_lt_of_le hg hbw.size)).trans c0, (hW.cell (Nat.lt_of_lt_of_le hg' hbw.size)).trans c1⟩)
          rw [hz] at HE hal
          clear hy hE p1 p2 p3 p4 hyi c0' c1' hv HKK hz c0 c1
          go_wp2_with fail
          refine' wp_region_each _ (Below wr.heap.size wr) (Onward) (Vl :: Vl :: Vl :: Vl :: Vl :: Vl :: Vl :: Vl :: Vl :: SetP q z :: FamP q (Fm.add Y z) :: FamP q (Fm.add Y z) :: []) ?hF (by kernel_rfl) (by kernel_rfl) (by kernel_rfl) ((Below.refl _ _).drew) (lasting_cons (lasting_vl) (lasting_cons (lasting_vl) (lasting_cons (lasting_vl) (lasting_cons (lasting_vl) (lasting_cons (lasting_vl) (lasting_cons (lasting_vl) (lasting_cons (lasting_vl) (lasting_cons (lasting_vl) (lasting_cons (lasting_vl) (lasting_cons (lasting_setP _ _) (lasting_cons (lasting_famP _ _) (lasting_cons (lasting_famP _ _) (lasting_none))))))))))))) ?hops ?hend
          case hF => (intro v; simp only [over, Act.put, List.setIfInBounds_toArray, List.set_cons_zero, List.set_cons_succ, Nat.zero_add, Nat.reduceAdd]; exact rfl)
          case hops =>
            refine ⟨?_, ?_⟩
            · intro v w' hj hd hs K hK
              have s11 : v 11 = .slice Ak Y.length ck := hs.out 11 (by kernel_rfl)
              have hk := hK.out
              simp only [s11, Act.put, List.setIfInBounds_toArray, List.set_cons_zero, List.set_cons_succ] at hk
              have HK := Lib.hid hk
              clear hd hs hk hK
              go_simp
              exact HK.out _ _ hj.out (Below.refl _ _) (show _ = _ from rfl)
            refine ⟨?_, ?_⟩
            · intro v w' hj hd hs K hK
              have hk := hK.out
              simp only [Act.put, List.setIfInBounds_toArray, List.set_cons_zero, List.set_cons_succ] at hk
              have HK := Lib.hid hk
              clear hd hs hk hK
              go_simp
              exact HK.out _ _ hj.out (Below.refl _ _) (show _ = _ from rfl)
            refine ⟨?_, ?_⟩
            · intro v w' hj hd hs K hK
              have hk := hK.out
              simp only [Act.put, List.setIfInBounds_toArray, List.set_cons_zero, List.set_cons_succ] at hk
              have HK := Lib.hid hk
              clear hd hs hk hK
              go_simp
              exact HK.out _ _ hj.out (Below.refl _ _) (show _ = _ from rfl)
            refine ⟨?_, ?_⟩
            · intro v w' hj hd hs K hK
              have t1 : v 1 = _ := hd.out 1 (by kernel_rfl)
              have t2 : v 2 = _ := hd.out 2 (by kernel_rfl)
              obtain ⟨x1, x2⟩ := HBD.out _ hj.out
              have hk := hK.out
              simp only [t1, t2, Act.put, List.setIfInBounds_toArray, List.set_cons_zero, List.set_cons_succ] at hk
              have HK := Lib.hid hk
              clear hd hs hk hK
              go_simp
              exact HK.out _ _ hj.out (Below.refl _ _) (show _ = _ from rfl)
            refine ⟨?_, ?_⟩
            · intro v w' hj hd hs K hK
              have t3 : v 3 = _ := hd.out 3 (by kernel_rfl)
              obtain ⟨x1, x2⟩ := HBD.out _ hj.out
              have hk := hK.out
              simp only [t3, Act.put, List.setIfInBounds_toArray, List.set_cons_zero, List.set_cons_succ] at hk
              have HK := Lib.hid hk
              clear hd hs hk hK
              go_simp
              exact HK.out _ _ hj.out (Below.refl _ _) (show _ = _ from rfl)
            refine ⟨?_, ?_⟩
            · intro v w' hj hd hs K hK
              have hk := hK.out
              simp only [Act.put, List.setIfInBounds_toArray, List.set_cons_zero, List.set_cons_succ] at hk
              have HK := Lib.hid hk
              clear hd hs hk hK
              go_simp
              exact HK.out _ _ hj.out (Below.refl _ _) (show _ = _ from rfl)
            refine ⟨?_, ?_⟩
            · intro v w' hj hd hs K hK
              have hk := hK.out
              simp only [Act.put, List.setIfInBounds_toArray, List.set_cons_zero, List.set_cons_succ] at hk
              have HK := Lib.hid hk
              clear hd hs hk hK
              go_simp
              exact HK.out _ _ hj.out (Below.refl _ _) (show _ = _ from rfl)
            refine ⟨?_, ?_⟩
            · intro v w' hj hd hs K hK
              have t5 : v 5 = _ := hd.out 5 (by kernel_rfl)
              have t6 : v 6 = _ := hd.out 6 (by kernel_rfl)
              obtain ⟨x1, x2⟩ := HBD.out _ hj.out
              have hk := hK.out
              simp only [t5, t6, Act.put, List.setIfInBounds_toArray, List.set_cons_zero, List.set_cons_succ] at hk
              have HK := Lib.hid hk
              clear hd hs hk hK
              go_simp
              exact HK.out _ _ hj.out (Below.refl _ _) (show _ = _ from rfl)
            refine ⟨?_, ?_⟩
            · intro v w' hj hd hs K hK
              have t7 : v 7 = _ := hd.out 7 (by kernel_rfl)
              obtain ⟨x1, x2⟩ := HBD.out _ hj.out
              have hk := hK.out
              simp only [t7, Act.put, List.setIfInBounds_toArray, List.set_cons_zero, List.set_cons_succ] at hk
              have HK := Lib.hid hk
              clear hd hs hk hK
              go_simp
              exact HK.out _ _ hj.out (Below.refl _ _) (show _ = _ from rfl)
            refine ⟨?_, ?_⟩
            · intro v w' hj hd hs K hK
              have t4 : v 4 = _ := hd.out 4 (by kernel_rfl)
              have t8 : v 8 = _ := hd.out 8 (by kernel_rfl)
              have hk := hK.out
              simp only [t4, t8, Act.put, List.setIfInBounds_toArray, List.set_cons_zero, List.set_cons_succ] at hk
              have HK := Lib.hid hk
              clear hd hs hk hK
              go_simp
              refine (HUN.out _ hj.out).mono ?_
              rintro e w3 ⟨v1, rfl, s1, hf, b1⟩
              obtain ⟨Bz, dz, rfl⟩ := s1.hdr
              exact HK.out _ _ (hj.out.trans (b1.mono hj.out.size)) b1 ⟨Bz, dz, rfl, s1, sv_new ((HLQ.out.mono hbw.size).mono hj.out.size) hf⟩
            refine ⟨?_, ?_⟩
            · intro v w' hj hd hs K hK
              have t0 : v 0 = _ := hd.out 0 (by kernel_rfl)
              obtain ⟨R9, rc9, t9, q9, s9⟩ : SetP q z (v 9) w' := hd.out 9 (by kernel_rfl); rw [t9] at q9 s9
              have hk := hK.out
              simp only [t0, t9, Act.put, List.setIfInBounds_toArray, List.set_cons_zero, List.set_cons_succ] at hk
              have HK := Lib.hid hk
              clear hd hs hk hK
              go_simp
              refine (HAD.out _ _ _ hj.out q9 s9).mono ?_
              rintro e w3 ⟨v1, rfl, s1, b1⟩
              obtain ⟨Bz, dz, rfl, _, s1⟩ := s1.open
              exact HK.out _ _ (hj.out.trans (b1.mono hj.out.size)) b1 ⟨Bz, dz, rfl, s1⟩
            refine ⟨?_, ?_⟩
            · intro v w' hj hd hs K hK
              obtain ⟨R10, rc10, t10, q10⟩ : FamP q (Fm.add Y z) (v 10) w' := hd.out 10 (by kernel_rfl); rw [t10] at q10
              have hk := hK.out
              simp only [t10, Act.put, List.setIfInBounds_toArray, List.set_cons_zero, List.set_cons_succ] at hk
              have HK := Lib.hid hk
              clear hd hs hk hK
              go_simp
              exact HK.out _ _ hj.out (Below.refl _ _) ⟨R10, rc10, rfl, q10⟩
            trivial
          case hend =>
            intro vv w2 hj hd
            obtain ⟨A2, c2, t11, h2⟩ : FamP q (Fm.add Y z) (vv 11) w2 := hd.out 11 (of_decide_eq_true (by kernel_rfl))
            rw [t11] at h2
            simp only [t11]
            have b2 := hj.out
            clear hd hj t11
            go_wp2_with fail
            go_roundw
            case rel => exact ⟨k + 1, _, by omega, by omega, HE, by go_num, h2, hbw.trans (b2.mono hbw.size)⟩
            case measure => simp [intOf]; omega
        · have d1 : decide ((k : Int) < (G.length : Int)) = false := by simp; omega
          have HR := Lib.hid (show Y = Fm.adds [] (Fm.prods (F.take (i + 1)) G) by
            have := HKK.out
            rw [List.take_of_length_le (by omega)] at this
            rw [HP.out, adds_app, ← HK0.out, this])
          go_wp2_with fail
          go_roundw
          case rel => exact ⟨i + 1, Y, by omega, by omega, HR, by go_num, hv, hbw⟩
          case measure => simp [intOf]; omega
    · have d1 : decide ((i : Int) < (F.length : Int)) = false := by simp; omega
      have HR := Lib.hid (show K0 = Fm.adds [] (Fm.prods F G) by have := HK0.out; rwa [List.take_of_length_le (by omega)] at this)
      obtain ⟨Ak, ck, rfl, _, hv⟩ := hv.open
      go_wp2_with fail
      go_ret
      exact ⟨_, rfl, by rw [← HR.out]; exact hv, hbw⟩
theorem FamV.vals {w : World} {A : Option Addr} {c : Nat} {F : List (List Int)} (h : FamV w (.slice A F.length c) F) : ∃ vs, Hdrs w vs F ∧ (A = none → F.length = 0 ∧ c = 0) ∧ ∀ ad, A = some ad → ∀ (j : Nat) (u : Value), vs[j]? = some u → w.cell? (ad.add j) = some u := by
  obtain ⟨A', c', e, _, _, ⟨h3, _⟩, h⟩ := h
  injection e with e1 e2 e3
  subst e1; subst e3
  by_cases hn : F = []
  · subst hn
    exact ⟨[], hdrs_nil _, h3, fun ad _ j u hu => by simp at hu⟩
  · obtain ⟨g, o, vs, e, hg, hd, hc⟩ := h hn
    refine ⟨vs, hd, h3, fun ad ha j u hu => ?_⟩
    rw [e] at ha
    obtain rfl := Option.some.inj ha
    rw [add_at]; exact hc j u hu
theorem Hdrs.put {w : World} {vs : List Value} {F : List (List Int)} (h : Hdrs w vs F) (i : Nat) {v : Value} {s : List Int} (hs : SetV w v s) : Hdrs w (vs.set i v) (F.set i s) := by
  refine ⟨by simp [h.1], fun k v' s' h1 h2 => ?_⟩
  by_cases e : i = k
  · subst e
    rw [List.getElem?_set_self'] at h1 h2
    cases hv : vs[i]? <;> rw [hv] at h1 <;> simp at h1
    cases hf : F[i]? <;> rw [hf] at h2 <;> simp at h2
    subst h1; subst h2; exact hs
  · rw [List.getElem?_set_ne e] at h1 h2
    exact h.2 k v' s' h1 h2
set_option maxHeartbeats 2000000 in
set_option maxRecDepth 100000 in
theorem order29_any (A : Option Addr) (c : Nat) (F : List (List Int)) (w : World) (hl : F.length ≤ 1000000) (hF : FamV w (.slice A F.length c) F) :
    Calls Tryz.prog 35 #[.slice A F.length c] w fun e w' => ∃ v M, e = .returned v ∧ M.Perm F ∧ M.Pairwise (fun a b => Fm.lt b a = false) ∧ FamV w' v M ∧ Below w.heap.size w w' := by
  obtain ⟨in0, hi0, hz0, hz1, hz2⟩ := info_parts ints_info
  obtain ⟨vs, hvs, hn, hcl⟩ := hF.vals
  clear hF
  have LL := Lib.hid hvs.1
  have o0 := own_empty w 24 1 w.heap.size (Nat.le_refl _)
  have hcl1 : ∀ ad, A = some ad → ∀ (j : Nat) (u : Value), vs[j]? = some u → (w.alloc (.cells #[] 24)).cell? (ad.add j) = some u := fun ad ha j u hu => ((below1 w _).cell (cell_lt (hcl ad ha j u hu))).trans (hcl ad ha j u hu)
  have hone := hvs.one
  go_enter Tryz.func35, Tryz.ntmps35
  go_wp2_with (first
    | (at_builtin; go_loud (refine wpList_append_from rfl (.tmp 6) (.tmp 7) 30 rfl w.heap.size 24 in0 _ 1 24 Tryz.underlying30 hi0 hz0 hz1 hz2 rfl (by omega) (.slice (some ⟨w.heap.size, 0, none⟩) 0 0) 0 [] rfl o0 A F.length c vs rfl (by rw [LL.out]; omega) hn hcl1 hone (by unfold maxLen; omega) (by omega) (by simp) ?_); intro v1 w1 o1 g1; simp only [Nat.zero_add, List.nil_append] at o1; obtain ⟨a1, c1, rfl⟩ := own_len o1))
  have b1 : Below w.heap.size w w1 := (below1 w _).grown g1 (by simp) (fun q hq => by simp [Value.ownBlock] at hq; omega)
  clear o0 g1 hcl1 hcl hone
  rcases Nat.lt_or_ge 1 F.length with h1 | h1
  · obtain ⟨g, rfl⟩ : ∃ g, a1 = some ⟨g, 0, none⟩ := by
      obtain ⟨A', c', e, _, _, q3⟩ := own_cells o1
      injection e with e1 e2 e3
      rcases q3 with q3 | ⟨g, e4, _⟩
      · omega
      · exact ⟨g, by rw [e1, e4]⟩
    obtain ⟨_, hg, hc1, hc2, hR⟩ := row_own o1
    clear o1
    go_wp2_with fail
    go_loopw [4] (fun i wr => ∃ (k : Nat) (dk : List (List Int)) (vk : List Value), 1 ≤ k ∧ k ≤ F.length ∧ dk.length = F.length ∧ Hid (Ins.Out Fm.lt F k dk) ∧ i = .int .i64 k ∧ Row wr g 24 vk ∧ Hdrs w vk dk ∧ Below w.heap.size w wr) (fun i _ => F.length - (intOf i).toNat)
    case atStart => exact ⟨1, F, vs, Nat.le_refl _, by omega, rfl, Lib.hid (Ins.out0 F), rfl, hR, hvs, b1⟩
    case round =>
      clear b1 hR hvs LL
      obtain ⟨k, dk, vk, hk1, hk, hdl, HO, rfl, hr, hd, hbw⟩ := hrel
      by_cases h2 : k < F.length
      · have d1 : decide ((k : Int) < (F.length : Int)) = true := by simp; omega
        have HI := Lib.hid (HO.out.start (by omega))
        clear HO
        go_wp2_with fail
        go_loopw [5] (fun j wr => ∃ (q : Nat) (dq : List (List Int)) (vq : List Value), q ≤ k ∧ dq.length = F.length ∧ Hid (Ins.In Fm.lt F k q dq) ∧ j = .int .i64 q ∧ Row wr g 24 vq ∧ Hdrs w vq dq ∧ Below w.heap.size w wr) (fun j _ => (intOf j).toNat)
        case atStart => exact ⟨k, dk, vk, Nat.le_refl _, hdl, HI, rfl, hr, hd, hbw⟩
        case round =>
          clear hr hbw HI hdl hd
          obtain ⟨q, dq, vq, hq, hdl, HI, rfl, hr, hd, hbw⟩ := hrel
          rcases Nat.eq_zero_or_pos q with hq0 | hq0
          · have z1 : decide ((0 : Int) < (q : Int)) = false := decide_eq_false (by omega)
            have z1' : decide (0 < q) = false := decide_eq_false (by omega)
            have HE := Lib.hid (show Ins.Out Fm.lt F (k + 1) dq by have := HI.out; rw [hq0] at this; exact this.stop0 Fm.lt_asymm)
            clear HI hq0 d1
            go_wp2_with fail
            refine wp_region_held wr.heap.size wr (Below.refl _ _) (by kernel_rfl) (by kernel_rfl) ?_
            repeat (go_big_quiet_step (fail))
            refine wpQuiet_nil ?_
            rintro wt ⟨⟨_, bt⟩, rfl⟩
            go_wp2_with fail
            go_roundw
            case rel => exact ⟨k + 1, dq, vq, by omega, by omega, hdl, HE, by go_num, hr.next bt, hd, hbw.trans (bt.mono hbw.size)⟩
            case measure => simp [intOf]; omega
          · obtain ⟨p, hp⟩ : ∃ p, q = p + 1 := ⟨q - 1, by omega⟩
            obtain ⟨x, hx⟩ : ∃ x, dq[q]? = some x := ⟨_, List.getElem?_eq_getElem (by omega)⟩
            obtain ⟨y, hy⟩ : ∃ y, dq[p]? = some y := ⟨_, List.getElem?_eq_getElem (by omega)⟩
            obtain ⟨vx, hvx⟩ : ∃ v, vq[q]? = some v := ⟨_, List.getElem?_eq_getElem (by rw [hd.1]; omega)⟩
            obtain ⟨vy, hvy⟩ : ∃ v, vq[p]? = some v := ⟨_, List.getElem?_eq_getElem (by rw [hd.1]; omega)⟩
            have sx := hd.2 q vx x hvx hx
            have sy := hd.2 p vy y hvy hy
            have HSX := Lib.hid sx
            have HSY := Lib.hid sy
            obtain ⟨Bx, ex, rfl, x1, x2, x3, x4⟩ := sx
            obtain ⟨By, ey, rfl, y1, y2, y3, y4⟩ := sy
            have cx := hr.cell hvx
            have cy := hr.cell hvy
            have hgl := hr.lt
            have u1 : x.length ≤ 9223372036854775807 := by unfold maxLen at x2; omega
            have u2 : y.length ≤ 9223372036854775807 := by unfold maxLen at y2; omega
            have fx : ∀ z : Held wr.heap.size wr, z.w.cell? ⟨g, q, none⟩ = some (.slice Bx x.length ex) := fun z => z.cell hgl cx
            have fy : ∀ z : Held wr.heap.size wr, z.w.cell? ⟨g, p, none⟩ = some (.slice By y.length ey) := fun z => z.cell hgl cy
            have CL : ∀ z : Held wr.heap.size wr, Calls Tryz.prog 55 #[.slice Bx x.length ex, .slice By y.length ey] z.w fun e w' => e = .returned (.bool (Fm.lt x y)) ∧ Below z.w.heap.size z.w w' := fun z => by
              have hbz : Below w.heap.size w z.w := hbw.trans (z.ok.mono hbw.size)
              refine (less_any Bx ex x By ey y z.w u1 u2 (x4.below hbz) (y4.below hbz)).mono ?_
              rintro e wz ⟨rfl, n, rfl⟩
              exact ⟨rfl, below_drewN (Below.refl _ _) _⟩
            have z1 : decide ((0 : Int) < (q : Int)) = true := decide_eq_true (by omega)
            have z1' : decide (0 < q) = true := decide_eq_true (by omega)
            have z2 : (0 : Int) < (q : Int) := by omega
            have n0 : (q : Int) - 1 = (p : Int) := by omega
            have n1 : IntKind.i64.wrap ((q : Int) - 1) = (p : Int) := by rw [IntKind.wrap_i64]; omega
            have j0 : (0 : Int) ≤ (q : Int) := by omega
            have j1 : (q : Int) < (F.length : Int) := by omega
            have j2 : (0 : Int) ≤ (p : Int) := by omega
            have j3 : (p : Int) < (F.length : Int) := by omega
            cases hlt : Fm.lt x y
            · have HE := Lib.hid (show Ins.Out Fm.lt F (k + 1) dq by
                have := HI.out; subst hp; exact this.stop1 Fm.lt_asymm Fm.lt_ntrans hx hy hlt)
              rw [hlt] at CL
              have HCL := Lib.hid CL
              clear HI hx hy hp hlt d1 CL x1 x2 x3 x4 y1 y2 y3 y4 u1 u2 hvx hvy
              go_wp2_with fail
              refine wp_region_held wr.heap.size wr (Below.refl _ _) (by kernel_rfl) (by kernel_rfl) ?_
              repeat (go_big_quiet_step ((go_at_call 55; exact held_call _ (Nat.le_refl _) (HCL.out _))))
              refine wpQuiet_nil ?_
              rintro wt ⟨⟨_, bt⟩, rfl⟩
              clear fx fy
              go_wp2_with fail
              go_roundw
              case rel => exact ⟨k + 1, dq, vq, by omega, by omega, hdl, HE, by go_num, hr.next bt, hd, hbw.trans (bt.mono hbw.size)⟩
              case measure => simp [intOf]; omega
            · have HE := Lib.hid (show Ins.In Fm.lt F k p ((dq.set q y).set p x) by
                have := HI.out; subst hp; exact this.swap hx hy hlt)
              have hpq : p ≤ k := by omega
              have hm1 : p < q := by omega
              rw [hlt] at CL
              have HCL := Lib.hid CL
              clear HI hx hy hp hlt d1 CL x1 x2 x3 x4 y1 y2 y3 y4 u1 u2 hvx hvy
              go_wp2_with fail
              refine wp_region_held wr.heap.size wr (Below.refl _ _) (by kernel_rfl) (by kernel_rfl) ?_
              repeat (go_big_quiet_step ((go_at_call 55; exact held_call _ (Nat.le_refl _) (HCL.out _))))
              refine wpQuiet_nil ?_
              rintro wt ⟨⟨_, bt⟩, rfl⟩
              have cx2 := (bt.cell hgl).trans cx
              have cy2 := (bt.cell hgl).trans cy
              have hr2 := hr.next bt
              have hbw2 := hbw.trans (bt.mono hbw.size)
              have fz1 := hr2.frozen q
              have fz2 := hr2.frozen p
              clear fx fy cx cy hr hbw bt HCL
              go_wp2_with fail
              go_region
              go_wp2_with fail
              go_roundw
              case rel => exact ⟨p, _, _, by omega, by simpa using hdl, HE, by go_num, ((hr2.put q _).put p _), (hd.put q HSY.out).put p HSX.out, by first | exact ((hbw2.setCell hg _).setCell hg _).drew | exact ((hbw2.setCell hg _).setCell hg _)⟩
              case measure => simp [intOf]; omega
      · have d1 : decide ((k : Int) < (F.length : Int)) = false := by simp; omega
        have HE := Lib.hid (HO.out.done (by omega))
        clear HO
        go_wp2_with fail
        go_ret
        refine ⟨_, dk, rfl, HE.out.2, HE.out.1, ⟨some ⟨g, 0, none⟩, c1, by rw [hdl]; rfl, by omega, hc2, ⟨(fun h => by cases h), fun ad h => by injection h with h; subst h; rfl⟩, fun _ => ⟨g, 0, vk, rfl, hr.lt, hd.below hbw, fun j v hj => by rw [Nat.zero_add]; exact hr.cell hj⟩⟩, hbw⟩
  · have d1 : decide ((1 : Int) < (F.length : Int)) = false := by simp; omega
    have HS : FamV w1 (.slice a1 F.length c1) F := own_fam o1 (hvs.below b1)
    go_wp2_with fail
    refine wp_loop_rounds 1 ?_
    rw [rounds_succ]
    go_wp2_with fail
    go_ret
    refine ⟨_, F, rfl, List.Perm.refl _, ?_, HS, b1⟩
    match F, h1 with
    | [], _ => simp
    | [a], _ => simp
end Go.Proofs.YtphmicbpkljmfaaGreat
