/- The walks of contains and minimal. -/
import Derived.Test.YtphmicbpkljmfaaGreatSFSort
import Derived.Test.YtphmicbpkljmfaaGreatSApart
namespace Go.Proofs.YtphmicbpkljmfaaGreat
set_option linter.unusedVariables false
set_option linter.unusedSimpArgs false
open Go.RowKit Go.Sort
theorem bsearch_nil (A : Option Addr) (c : Nat) (x : Int) (w : World) : Calls Tryz.prog 125 #[.slice A 0 c, .int .i64 x] w fun e w' => e = .returned (.tuple #[.int .i64 0, .bool false]) ∧ w = w' := by
  go_enter Tryz.func125, Tryz.ntmps125
  go_wp2
  go_loop [7, 8] (fun s7 s8 => s7 = .int .i64 0 ∧ s8 = .int .i64 0) (fun _ _ => 0)
  case atStart => exact ⟨rfl, rfl⟩
  case round =>
    obtain ⟨rfl, rfl⟩ := hrel
    go_wp2
    go_ret2
    exact ⟨rfl, rfl⟩
theorem bsearch_any (A : Option Addr) (c : Nat) (a : List Int) (x : Int) (w : World) (ha : a.length ≤ 1000000) (hi : Fm.Inc a) (hA : Nums w A a) :
    Calls Tryz.prog 125 #[.slice A a.length c, .int .i64 x] w fun e w' => (∃ r : Int, e = .returned (.tuple #[.int .i64 r, .bool (a.contains x)])) ∧ ∃ q, w' = w.drewN q := by
  cases a with
  | nil => exact (bsearch_nil A c x w).mono fun e w' ⟨h1, h2⟩ => ⟨⟨0, h1⟩, 0, h2.symm⟩
  | cons y r =>
    obtain ⟨g, o, rfl, hg, hc⟩ := hA (by simp)
    generalize y :: r = a at *
    have h := AnyG.slices_BinarySearch_int Tryz.laysBS g o a.length c a x w (Nat.le_refl _) (by omega) (fun j hj => by
      have := hc j _ (List.getElem?_eq_getElem hj)
      rw [this, List.getD_eq_getElem?_getD, List.getElem?_eq_getElem hj]; rfl) (by rw [List.take_length]; exact hi.imp fun h => by omega)
    rw [List.take_length] at h
    exact h.mono fun e w' ⟨h1, h2⟩ => ⟨⟨_, h1⟩, h2⟩
set_option maxHeartbeats 1000000 in
theorem contains29_any (A : Option Addr) (c : Nat) (a : List Int) (B : Option Addr) (d : Nat) (b : List Int) (w : World) (ha : a.length ≤ 1000000) (hb : b.length ≤ 9223372036854775807) (hi : Fm.Inc a) (hA : Nums w A a) (hB : Nums w B b) :
    Calls Tryz.prog 121 #[.slice A a.length c, .slice B b.length d] w fun e w' => e = .returned (.bool (Fm.sub b a)) ∧ ∃ q, w' = w.drewN q := by
  obtain ⟨R, hR⟩ : ∃ R, R = Fm.sub b a := ⟨_, rfl⟩
  rw [← hR]
  have HR := Lib.hid (show R = Fm.sub (b.drop 0) a from hR)
  clear hR
  go_enter Tryz.func121, Tryz.ntmps121
  go_wp2_with fail
  go_loopw [11] (fun i wr => ∃ k q : Nat, k ≤ b.length ∧ Hid (R = Fm.sub (b.drop k) a) ∧ i = .int .i64 k ∧ wr = w.drewN q) (fun i _ => b.length - (intOf i).toNat)
  case atStart => exact ⟨0, 0, by omega, HR, rfl, rfl⟩
  case round =>
    obtain ⟨k, q, hk, HK, rfl, rfl⟩ := hrel
    by_cases h1 : k < b.length
    · have d1 : decide ((k : Int) < (b.length : Int)) = true := by simp; omega
      obtain ⟨g, o, rfl, hg, c1⟩ := hB.at h1
      have hE := sub_more HK.out (getElem_of h1)
      generalize b[k] = x at *
      have i0 : (0 : Int) ≤ (k : Int) := by omega
      have i1 : (k : Int) < (b.length : Int) := by omega
      have hAq : Nums (w.drewN q) A a := hA
      have HC := Lib.hid (bsearch_any A c a x _ ha hi hAq)
      cases hz : a.contains x
      · have HE := Lib.hid (show R = false by rw [hE, hz]; rfl)
        have HZ := Lib.hid hz
        clear hE hz
        go_wp2_with fail
        refine HC.out.mono ?_
        rintro e w1 ⟨⟨r, rfl⟩, q2, rfl⟩
        rw [HZ.out]
        go_wp2_with fail
        go_ret
        exact ⟨by rw [HE.out]; rfl, _, rfl⟩
      · have HE := Lib.hid (show R = Fm.sub (b.drop (k + 1)) a by rw [hE, hz]; rfl)
        have HZ := Lib.hid hz
        clear hE hz
        go_wp2_with fail
        refine HC.out.mono ?_
        rintro e w1 ⟨⟨r, rfl⟩, q2, rfl⟩
        rw [HZ.out]
        go_wp2_with fail
        go_roundw
        case rel => exact ⟨k + 1, _, by omega, HE, by go_num, rfl⟩
        case measure => simp [intOf]; omega
    · have d1 : decide ((k : Int) < (b.length : Int)) = false := by simp; omega
      have HE := Lib.hid (show R = true by rw [HK.out, List.drop_eq_nil_of_le (by omega)]; rfl)
      go_wp2_with fail
      go_ret
      exact ⟨by rw [HE.out]; rfl, _, rfl⟩
/-- The closure that asks whether set s, which stands in a cell, holds y. -/
theorem closure_min {w : World} {p : Nat} {t : TypeId} {A : Option Addr} {c : Nat} {s : List Int} (hp : At w p t #[.slice A s.length c]) (ha : s.length ≤ 1000000) (hi : Fm.Inc s) (hA : Nums w A s) :
    PredAt Tryz.prog 120 #[.pointer (some ⟨p, 0, none⟩)] (hv (w := w)) (fun y => Fm.sub (hs y) s) w := by
  intro W y hb
  obtain ⟨B', c', e, b1, b2, _, b4⟩ := y.2.below hb
  have hpW := hp.below hb hp.lt
  have c0 := hpW.cell 0
  simp at c0
  have h := contains29_any A c s B' c' (hs y) W ha (by unfold maxLen at b2; simp only [hs]; omega) hi (hA.below hb) b4
  have HC := Lib.hid h
  show FnGives Tryz.prog 120 #[.pointer (some ⟨p, 0, none⟩)] #[hv y] (.bool (Fm.sub (hs y) s)) W
  rw [show hv y = _ from e]
  obtain ⟨R, hR⟩ : ∃ R, Fm.sub (hs y) s = R := ⟨_, rfl⟩
  rw [hR] at HC ⊢
  simp only [hs] at HC
  clear h hR
  unfold FnGives
  show Calls Tryz.prog 120 #[.slice B' y.1.2.length c', .pointer (some ⟨p, 0, none⟩)] W _
  generalize y.1.2.length = m at *
  go_enter Tryz.func120, Tryz.ntmps120
  go_wp2_with fail
  refine HC.out.mono ?_
  rintro e w1 ⟨rfl, q2, rfl⟩
  go_wp2_with fail
  go_ret
  exact ⟨rfl, _, rfl⟩
end Go.Proofs.YtphmicbpkljmfaaGreat
namespace Go.Proofs.YtphmicbpkljmfaaGreat
set_option linter.unusedVariables false
set_option linter.unusedSimpArgs false
open Go.RowKit Go.Sort
theorem set_info : (Tryz.prog.info? 53).map (fun i => (i.zero, i.size, i.bytes)) = some (some (.slice none 0 0), 1, 24) := by kernel_rfl
theorem own_drewN {w : World} {B n size : Nat} {e : TypeId} {v : Value} {xs : List Value} (h : w.ownsRow B e size v n xs) (q : Nat) : (w.drewN q).ownsRow B e size v n xs := h
theorem getBang {α : Type} [Inhabited α] (l : List α) (j : Nat) (h : j < l.length) : l[j]! = l[j] := getElem!_pos l j h
theorem containsfn_any {w : World} {B p : Nat} {t : TypeId} {A : Option Addr} {c : Nat} {s : List Int} {v : Value} {vs : List Value} {K : List (List Int)} (ho : w.ownsRow B 53 1 v K.length vs) (hd : Hdrs w vs K) (hp : At w p t #[.slice A s.length c]) (ha : s.length ≤ 1000000) (hk : K.length ≤ 1000000) (hi : Fm.Inc s) (hA : Nums w A s) :
    Calls Tryz.prog 119 #[v, .func (.func 120) #[] #[.pointer (some ⟨p, 0, none⟩)]] w fun e w' => e = .returned (.bool (K.any fun y => Fm.sub y s)) ∧ ∃ q, w' = w.drewN q := by
  obtain ⟨A', c', rfl, _, _, h3⟩ := own_cells ho
  rcases h3 with h0 | ⟨g, rfl, _, _, hc⟩
  · have : K = [] := List.eq_nil_of_length_eq_zero h0
    subst this
    exact (AnyE.slices_ContainsFunc_empty Tryz.laysCF A' c' _ w).mono fun e w' ⟨h1, h2⟩ => ⟨h1, 0, h2⟩
  · obtain ⟨D, rfl, rfl⟩ := hd.list
    have eg : ∀ args w, (callFunc 120 args).run Tryz.prog w = .ok (.enter 120 args) w := enters_of Tryz.func120 (by kernel_rfl) rfl
    have h := AnyE.slices_ContainsFunc Tryz.laysCF (hv (w := w)) (fun y => Fm.sub (hs y) s) 120 #[.pointer (some ⟨p, 0, none⟩)] eg g 0 (D.map hs).length c' D w (closure_min hp ha hi hA) (by simp) (by omega) (fun j hj => by
      rw [Nat.zero_add, getBang D j hj]
      exact hc j _ (by simp [hj]))
    rw [List.length_map, List.take_length] at h
    rw [List.length_map, List.any_map]
    exact h
/-- What minimal leaves. -/
def MinOut (B bf : Nat) (fl : Bool) (F : List (List Int)) (w : World) (e : Ending) (w' : World) : Prop :=
  ∃ v' K fl', e = .returned v' ∧ FamV w' v' K ∧ K.length ≤ 200 ∧ (∀ s ∈ K, s ∈ F) ∧ At w' bf 82 #[.bool fl'] ∧ (fl = true → fl' = true) ∧ (fl' = false → Fm.Fam K ∧ ∀ ts, Fm.Up K ts ↔ Fm.Up F ts) ∧ (fl' = true → fl = true ∨ ∃ L, Fm.Fam L ∧ (∀ ts, Fm.Up L ts ↔ Fm.Up F ts) ∧ 200 < L.length) ∧ Apart B [bf] w w'
theorem keep_more {G : List (List Int)} {k : Nat} {x : List Int} {K : List (List Int)} (h : K = Fm.keep (G.take k)) (hx : G[k]? = some x) : Fm.keep (G.take (k + 1)) = if (K.any fun y => Fm.sub y x) = true then K else K ++ [x] := by
  rw [take_more hx, Fm.keep_snoc, ← h]; rfl
set_option maxHeartbeats 2000000 in
set_option maxRecDepth 100000 in
theorem minimal_any (B bf : Nat) (fl : Bool) (v : Value) (vs : List Value) (F : List (List Int)) (w : World) (ho : w.ownsRow B 53 1 v F.length vs) (hd : Hdrs w vs F) (hI : ∀ s ∈ F, Fm.Inc s) (hS : ∀ s ∈ F, s.length ≤ 1000000) (hB : B ≤ w.heap.size) (hl : F.length ≤ 1000000) (hf : At w bf 82 #[.bool fl]) :
    Calls Tryz.prog 112 #[.pointer (some ⟨bf, 0, none⟩), v] w (MinOut B bf fl F w) := by
  obtain ⟨in0, hi0, hz0, hz1, hz2⟩ := info_parts set_info
  have HC := Lib.hid (sortfam_own B v vs F w ho hd hB hl)
  have hfar := own_far ho hf (by decide)
  obtain ⟨A0, c0, rfl, _, _, _⟩ := own_cells ho
  clear ho hd
  go_enter Tryz.func112, Tryz.ntmps112
  go_wp2_with fail
  refine HC.out.mono ?_
  rintro e w1 ⟨rfl, vs1, G, hp, hpw, ho, hd, bw1, g1⟩
  have hf1 := hf.grown g1 hfar
  have hlG := hp.length_eq
  have HM := Lib.hid (Fm.mins F G hp hI hpw)
  have hG : ∀ s ∈ G, Fm.Inc s ∧ s.length ≤ 1000000 := fun s hs => ⟨hI s (hp.mem_iff.1 hs), hS s (hp.mem_iff.1 hs)⟩
  have HG := Lib.hid hG
  clear hG hp hpw hI hS hf HC
  rw [← hlG] at hl
  have hlF : (F.length : Int) = (G.length : Int) := by omega
  obtain ⟨A0, c0, he0, _, _, hcell⟩ := own_cells ho
  injection he0 with he1 he2 he3
  subst he1; subst he3
  clear he2
  have hfB : bf < w1.heap.size := hf1.lt
  have HB := Lib.hid (Nat.le_trans hB bw1.size)
  have BW1 := Lib.hid bw1
  clear ho g1 hfar bw1 hB
  have HLF := Lib.hid hlF
  clear hlF
  go_wp2_with fail
  go_loopw [5, 12] (fun out i wr => ∃ (k : Nat) (K : List (List Int)) (vk : List Value), k ≤ G.length ∧ Hid (K = Fm.keep (G.take k)) ∧ K.length ≤ k ∧ i = .int .i64 k ∧ wr.ownsRow w1.heap.size 53 1 out K.length vk ∧ Hdrs w1 vk K ∧ Below w1.heap.size w1 wr) (fun _ i _ => G.length - (intOf i).toNat)
  case atStart => exact ⟨0, [], [], by omega, Lib.hid (by simp [Fm.keep]), by simp, rfl, World.ownsRow_nil _ _ _ _, hdrs_nil _, Below.refl _ _⟩
  case round =>
    obtain ⟨k, K, vk, hk, HK, hKk, rfl, hok, hdk, hbw⟩ := hrel
    obtain ⟨va, vc, rfl⟩ := own_len hok
    by_cases h1 : k < G.length
    · have d1 : decide ((k : Int) < (F.length : Int)) = true := by have := HLF.out; simp; omega
      rcases hcell with h0 | ⟨g, rfl, _, hg, hc⟩
      · omega
      obtain ⟨hx, hvk⟩ : ∃ hx, vs1[k]? = some hx := ⟨_, List.getElem?_eq_getElem (show k < vs1.length by rw [hd.1]; exact h1)⟩
      obtain ⟨x, hxk⟩ : ∃ x, G[k]? = some x := ⟨_, List.getElem?_eq_getElem h1⟩
      have hck := (hbw.cell (p := ⟨g, k, none⟩) hg).trans (hc k _ hvk)
      have HSV := Lib.hid (hd.2 k _ _ hvk hxk)
      have hsv := HSV.out.below hbw
      have hGk := HG.out _ (List.mem_of_getElem? hxk)
      have hkm := keep_more HK.out hxk
      clear hvk hxk
      obtain ⟨C, cc, rfl, x1, x2, x3, x4⟩ := hsv
      have i0 : (0 : Int) ≤ (k : Int) := by omega
      have i1 : (k : Int) < (F.length : Int) := by have := HLF.out; omega
      have hp1 : At (wr.alloc (.cells #[.slice C x.length cc] 53)) wr.heap.size 53 #[.slice C x.length cc] := At.new _ _ _
      have b1 : Below wr.heap.size wr (wr.alloc (.cells #[.slice C x.length cc] 53)) := below1 _ _
      have HCF := Lib.hid (containsfn_any (hok.alloc (.cells #[.slice C x.length cc] 53)) ((hdk.below hbw).below b1) hp1 hGk.2 (by omega) hGk.1 (x4.below b1))
      clear hp1 b1
      cases hz : (K.any fun y => Fm.sub y x)
      · rw [hz, if_neg (by decide)] at hkm
        have HE := Lib.hid hkm.symm
        have HZ := Lib.hid hz
        have HX4 := Lib.hid x4
        clear hkm hz x4
        go_wp2_with fail
        refine HCF.out.mono ?_
        rintro e w2 ⟨rfl, q, rfl⟩
        rw [HZ.out]
        go_wp2_with (first
          | (at_builtin; go_loud (refine wpList_append_from rfl (.tmp 20) (.tmp 22) 50 rfl w1.heap.size 53 in0 _ 1 24 Tryz.underlying50 hi0 hz0 hz1 hz2 rfl (by omega) (.slice va K.length vc) K.length vk rfl ((own_drewN (hok.alloc _) q).alloc _) (some ⟨wr.heap.size + 1, 0, none⟩) 1 1 [.slice C x.length cc] rfl rfl (fun h => by cases h) (fun ad h => by obtain rfl := Option.some.inj h; exact At.news (At.newAt (by simp) _ _)) (one1 rfl) (by unfold maxLen; omega) (by omega) (by have := hbw.size; simp; omega) ?_); intro v2 w3 o2 g2))
        have bw2 : Below w1.heap.size w1 w3 := ((below_drewN (hbw.alloc hbw.size _) q).alloc (by have := hbw.size; simp; omega) _).grown g2 (by have := hbw.size; simp; omega) (fun z hz => (own_lt hok hz).1)
        go_roundw
        case rel => exact ⟨k + 1, K ++ [x], _, by omega, HE, by simp; omega, by go_num, by rw [List.length_append]; exact o2, hdk.snoc HSV.out, bw2⟩
        case measure => simp [intOf]; omega
      · rw [hz, if_pos rfl] at hkm
        have HE := Lib.hid hkm.symm
        have HZ := Lib.hid hz
        clear hkm hz x4
        go_wp2_with fail
        refine HCF.out.mono ?_
        rintro e w2 ⟨rfl, q, rfl⟩
        rw [HZ.out]
        go_wp2_with fail
        go_roundw
        case rel => exact ⟨k + 1, K, vk, by omega, HE, by omega, by go_num, own_drewN (hok.alloc _) q, hdk, below_drewN (hbw.alloc hbw.size _) q⟩
        case measure => simp [intOf]; omega
    · have d1 : decide ((k : Int) < (F.length : Int)) = false := by have := HLF.out; simp; omega
      have hK : K = Fm.keep G := by rw [HK.out, List.take_of_length_le (by omega)]
      obtain ⟨m1, m2, m3⟩ := HM.out
      rw [← hK] at m1 m2 m3
      have M1 := Lib.hid m1; have M2 := Lib.hid m2; have M3 := Lib.hid m3
      have hfw := hf1.below hbw hfB
      have f0 := hfw.cell 0
      have hfl := hfw.lt
      simp at f0
      have fz := hfw.frozen 0
      have hdw := hdk.below hbw
      have bw := BW1.out.trans (hbw.mono HB.out)
      clear m1 m2 m3 hK hd hcell hdk
      by_cases h2 : 200 < K.length
      · have d2 : decide ((200 : Int) < (K.length : Int)) = true := by simp; omega
        have d2' : decide (200 < K.length) = true := by simp; omega
        go_wp2_with fail
        go_ret
        refine ⟨_, [], true, rfl, famV_nil _, by simp, (fun s hs => by cases hs), ?_, fun _ => rfl, (fun h => by cases h), fun _ => Or.inr ⟨K, M1.out, M2.out, h2⟩, (apart_of_below bw _).trans (apart_setCell B wr ⟨bf, 0, none⟩ _)⟩
        exact hfw.put 0 _
      · have d2 : decide ((200 : Int) < (K.length : Int)) = false := by simp; omega
        have d2' : decide (200 < K.length) = false := by simp; omega
        go_wp2_with fail
        go_ret
        exact ⟨_, K, fl, rfl, own_fam hok hdw, by omega, M3.out, hfw, fun h => h, fun _ => ⟨M1.out, M2.out⟩, fun h => Or.inl h, apart_of_below bw _⟩
end Go.Proofs.YtphmicbpkljmfaaGreat
