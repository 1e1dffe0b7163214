/- The walk of CostBound. -/
import Derived.Test.YtoficnfpoeaccaaDoorKGate
namespace Go.Proofs.YtoficnfpoeaccaaDoor
set_option linter.unusedVariables false
set_option linter.unusedSimpArgs false
open Go.RowKit
theorem ncs_one (l : List ByteArray) : ∀ u ∈ ncs l, u.oneCell' = true := by
  intro u hu; obtain ⟨x, _, rfl⟩ := List.mem_map.1 hu; rfl
theorem own_nil {w : World} {B n : Nat} {e : TypeId} {A : Option Addr} {c : Nat} {xs : List Value} (h : w.ownsRow B e 1 (.slice A n c) n xs) : A = none → c = 0 := by
  rcases h.2 with ⟨h1, _⟩ | ⟨g, cap, cur, h1, _⟩
  · injection h1 with e1 e2 e3; exact fun _ => e3
  · injection h1 with e1 e2 e3; exact fun e => by rw [e] at e1; cases e1
set_option maxHeartbeats 1000000 in
set_option maxRecDepth 100000 in
theorem bound_law (SA : Option Addr) (sc : Nat) (ss : List Sta) (r : Rl) (A : Option Addr) (c : Nat) (bd : List ByteArray) (A2 : Option Addr) (c2 : Nat) (more : List ByteArray) (O : Option Addr) (oc : Nat) (order : List Int) (w : World) (hT : Tabs w)
    (hX : Ar w SA ss r A c bd O order) (hA2 : NmAt w A2 more) (hnil2 : A2 = none → c2 = 0) (hz2 : ∀ s ∈ more, FitS s) (hl : bd.length ≤ 2000000) (hl2 : more.length ≤ 2000000) :
    Calls Tryd.prog 6 #[.slice SA ss.length sc, r.v, .slice A bd.length c, .slice A2 more.length c2, .slice O order.length oc] w fun e w' => e = .returned (.bool true) ∧ Below w.heap.size w w' := by
  have HX := Lib.hid (fun W (h : Below w.heap.size w W) => hX.below h)
  have HN2 := Lib.hid (fun W (h : Below w.heap.size w W) => hA2.below h)
  have HH := Lib.hid (fun W (h : Below w.heap.size w W) => head_any W (hT.next h))
  have HZ2 := Lib.hid hz2
  have HNL := Lib.hid hX.nil
  have HNL2 := Lib.hid hnil2
  obtain ⟨iI, hi0, hi1, hi2, hi3⟩ := info_parts s_info
  have hw0 : Below w.heap.size w (w.alloc (.cells #[.string r.name, .int .i64 r.pred, .slice r.args.a r.args.n r.args.c, .int .i64 r.ek, .string r.en, .string r.ev, .int .i64 r.ei, .slice r.ba r.body.length r.bc, .int .i64 r.pos] 38)) := below1 _ _
  have hat := At.new w 38 #[.string r.name, .int .i64 r.pred, .slice r.args.a r.args.n r.args.c, .int .i64 r.ek, .string r.en, .string r.ev, .int .i64 r.ei, .slice r.ba r.body.length r.bc, .int .i64 r.pos]
  have HMO := Lib.hid (@eval_more r bd more order)
  have HCM := Lib.hid (cost_more ss r bd more order)
  have HCL := Lib.hid (cost_le ss r bd order)
  have HEO := Lib.hid (fun b => @est_ok ss r b order)
  clear hX hA2 hT hz2 hnil2
  unfold Rl.v
  go_enter Tryd.func6, Tryd.ntmps6
  go_wp2_with first | (at_builtin; refine wpList_append_from rfl _ _ 39 rfl w.heap.size 9 iI (.string ⟨#[]⟩) 1 16 Tryd.underlying39 hi0 hi1 hi2 hi3 rfl (by decide) _ _ _ rfl (own_empty w2 9 1 w.heap.size hw2.size) A bd.length c (ncs bd) rfl (by simp) ?c1 ?c2 ?c3 ?c4 ?c5 ?c6 ?_) | (go_at_call 10; refine (HH.out _ hw0).mono ?_; rintro e w2 ⟨rfl, hb2⟩; have hat2 := hat.next hb2; have hw2 : Below w.heap.size w w2 := hw0.trans (hb2.mono hw0.size))
  case c1 => exact ((HX.out w (Below.refl _ _)).nm).none HNL.out
  case c2 => exact ((HX.out _ (hw2.alloc hw2.size (.cells #[] 9))).nm).news
  case c3 => exact ncs_one bd
  case c4 => simp [maxLen]; omega
  case c5 => omega
  case c6 => have := hw2.size; simp; omega
  intro v3 w3 o3 g3
  have hsz2 := hw2.size
  have hfar3 : ∀ q, (Value.slice (some ⟨w2.heap.size, 0, none⟩) 0 0).ownBlock = some q → w.heap.size ≤ q := fun q hq => (own_lt (own_empty w2 9 1 w.heap.size hw2.size) hq).1
  have hw3 : Below w.heap.size w w3 := (hw2.alloc hw2.size (.cells #[] 9)).grown g3 (by simp; omega) hfar3
  have hat3 := (hat2.alloc (.cells #[] 9)).grown g3 (own_far (own_empty w2 9 1 w.heap.size hw2.size) (hat2.alloc (.cells #[] 9)) (by decide))
  clear g3 hfar3
  go_wp2_with (at_builtin; refine wpList_append_from rfl _ _ 39 rfl w.heap.size 9 iI (.string ⟨#[]⟩) 1 16 Tryd.underlying39 hi0 hi1 hi2 hi3 rfl (by decide) _ _ _ rfl o3 A2 more.length c2 (ncs more) rfl (by simp) ?c1 ?c2 ?c3 ?c4 ?c5 ?c6 ?_)
  case c1 => exact (HN2.out w (Below.refl _ _)).none HNL2.out
  case c2 => exact (HN2.out _ hw3).news
  case c3 => exact ncs_one more
  case c4 => simp [maxLen]; omega
  case c5 => omega
  case c6 => exact hw3.size
  intro v4 w4 o4 g4
  have hw4 : Below w.heap.size w w4 := hw3.grown g4 hw3.size fun q hq => (own_lt o3 hq).1
  have hat4 := hat3.grown g4 (own_far o3 hat3 (by decide))
  replace o4 : w4.ownsRow w.heap.size 9 1 v4 (bd ++ more).length (ncs (bd ++ more)) := by
    rw [show (bd ++ more).length = bd.length + more.length by simp, show ncs (bd ++ more) = ncs bd ++ ncs more by simp [ncs]]
    simpa using o4
  obtain ⟨A4, c4, rfl⟩ := own_len o4
  have HN4 := Lib.hid (own_names o4)
  have HC4 := Lib.hid (own_nil o4)
  have HXA := Lib.hid (show Ar w4 SA ss r A4 c4 (bd ++ more) O order from ⟨(HX.out _ hw4).env, (HX.out _ hw4).rl, HN4.out, HC4.out, (HX.out _ hw4).od, fun s hs => by
    rcases List.mem_append.1 hs with h | h
    · exact (HX.out _ hw4).zb s h
    · exact HZ2.out s h, (HX.out _ hw4).zt⟩)
  obtain ⟨all, hall⟩ : ∃ all, bd ++ more = all := ⟨_, rfl⟩
  have HLN := Lib.hid (show bd.length ≤ all.length by rw [← hall]; simp)
  rw [hall] at HMO HCM HXA ⊢
  clear g4 o4 hall HN4 HC4 o3 hat3 hw3 hat2 hb2
  have HFEW := Lib.hid (fun W (h : Below w.heap.size w W) => (HX.out W h).few (sc := sc) (oc := oc) A4 all.length c4)
  have HFIT := Lib.hid (fun W (h : Below w.heap.size w W) => @Ar.fits W SA sc ss r A c bd O order (HX.out W h) all.length)
  have HEVA := Lib.hid (fun W (h : Below w.heap.size w W) => @Ar.eval W SA ss r A c bd O oc order (HX.out W h))
  have HES := Lib.hid (fun W (h : Below w.heap.size w W) => @Ar.est W SA sc ss r A c bd O oc order (HX.out W h))
  have HESA := Lib.hid (fun W (h : Below w4.heap.size w4 W) => @Ar.est W SA sc ss r A4 c4 all O oc order (HXA.out.below h))
  unfold Rl.v at HFEW HFIT HEVA HES HESA
  have e0 := (hat4).cell 0; have e1 := (hat4).cell 1; have e2 := (hat4).cell 2; have e3 := (hat4).cell 3; have e4 := (hat4).cell 4; have e5 := (hat4).cell 5; have e6 := (hat4).cell 6; have e7 := (hat4).cell 7; have e8 := (hat4).cell 8; simp only [List.getElem?_toArray, List.getElem?_cons_zero, List.getElem?_cons_succ] at e0 e1 e2 e3 e4 e5 e6 e7 e8
  cases hf : fewB ss r all.length order.length
  · rw [hf] at HFEW
    clear hf
    go_wp2_with (go_at_call 12; refine (HFEW.out _ hw4).mono ?_; rintro e w5 ⟨rfl, hb5⟩)
    go_ret
    exact ⟨rfl, hw4.trans (hb5.mono hw4.size)⟩
  · have HF := Lib.hid hf
    rw [hf] at HFEW
    cases hg : Ko.fits ss r.body
    · have HFI := Lib.hid (fun W h => (HFIT.out W h hf))
      rw [hg] at HFI
      clear hf hg
      go_wp2_with first | (go_at_call 18; refine (HFI.out _ hw5).mono ?_; rintro e w6 ⟨rfl, hb6⟩; have hw6 : Below w.heap.size w w6 := hw5.trans (hb6.mono hw5.size); have hat6 := hat5.next hb6; clear e0 e1 e2 e3 e4 e5 e6 e7 e8; have e0 := (hat6).cell 0; have e1 := (hat6).cell 1; have e2 := (hat6).cell 2; have e3 := (hat6).cell 3; have e4 := (hat6).cell 4; have e5 := (hat6).cell 5; have e6 := (hat6).cell 6; have e7 := (hat6).cell 7; have e8 := (hat6).cell 8; simp only [List.getElem?_toArray, List.getElem?_cons_zero, List.getElem?_cons_succ] at e0 e1 e2 e3 e4 e5 e6 e7 e8) | (go_at_call 12; refine (HFEW.out _ hw4).mono ?_; rintro e w5 ⟨rfl, hb5⟩; have hw5 : Below w.heap.size w w5 := hw4.trans (hb5.mono hw4.size); have hat5 := hat4.next hb5; clear e0 e1 e2 e3 e4 e5 e6 e7 e8; have e0 := (hat5).cell 0; have e1 := (hat5).cell 1; have e2 := (hat5).cell 2; have e3 := (hat5).cell 3; have e4 := (hat5).cell 4; have e5 := (hat5).cell 5; have e6 := (hat5).cell 6; have e7 := (hat5).cell 7; have e8 := (hat5).cell 8; simp only [List.getElem?_toArray, List.getElem?_cons_zero, List.getElem?_cons_succ] at e0 e1 e2 e3 e4 e5 e6 e7 e8)
      go_ret
      exact ⟨rfl, hw6⟩
    · have HFI := Lib.hid (fun W h => (HFIT.out W h hf))
      rw [hg] at HFI
      have HG := Lib.hid hg
      have HLF := Lib.hid (few_less hf HLN.out)
      have HEV := Lib.hid (fun W h => HEVA.out W h HLF.out)
      cases he : Ko.evaluable r.body bd order
      · rw [he] at HEV
        clear hf hg he
        go_wp2_with first | (go_at_call 19; refine (HEV.out _ hw6).mono ?_; rintro e w7 ⟨rfl, hb7⟩; have hw7 : Below w.heap.size w w7 := hw6.trans (hb7.mono hw6.size); have hat7 := hat6.next hb7; clear e0 e1 e2 e3 e4 e5 e6 e7 e8; have e0 := (hat7).cell 0; have e1 := (hat7).cell 1; have e2 := (hat7).cell 2; have e3 := (hat7).cell 3; have e4 := (hat7).cell 4; have e5 := (hat7).cell 5; have e6 := (hat7).cell 6; have e7 := (hat7).cell 7; have e8 := (hat7).cell 8; simp only [List.getElem?_toArray, List.getElem?_cons_zero, List.getElem?_cons_succ] at e0 e1 e2 e3 e4 e5 e6 e7 e8) | (go_at_call 18; refine (HFI.out _ hw5).mono ?_; rintro e w6 ⟨rfl, hb6⟩; have hw6 : Below w.heap.size w w6 := hw5.trans (hb6.mono hw5.size); have hat6 := hat5.next hb6; clear e0 e1 e2 e3 e4 e5 e6 e7 e8; have e0 := (hat6).cell 0; have e1 := (hat6).cell 1; have e2 := (hat6).cell 2; have e3 := (hat6).cell 3; have e4 := (hat6).cell 4; have e5 := (hat6).cell 5; have e6 := (hat6).cell 6; have e7 := (hat6).cell 7; have e8 := (hat6).cell 8; simp only [List.getElem?_toArray, List.getElem?_cons_zero, List.getElem?_cons_succ] at e0 e1 e2 e3 e4 e5 e6 e7 e8) | (go_at_call 12; refine (HFEW.out _ hw4).mono ?_; rintro e w5 ⟨rfl, hb5⟩; have hw5 : Below w.heap.size w w5 := hw4.trans (hb5.mono hw4.size); have hat5 := hat4.next hb5; clear e0 e1 e2 e3 e4 e5 e6 e7 e8; have e0 := (hat5).cell 0; have e1 := (hat5).cell 1; have e2 := (hat5).cell 2; have e3 := (hat5).cell 3; have e4 := (hat5).cell 4; have e5 := (hat5).cell 5; have e6 := (hat5).cell 6; have e7 := (hat5).cell 7; have e8 := (hat5).cell 8; simp only [List.getElem?_toArray, List.getElem?_cons_zero, List.getElem?_cons_succ] at e0 e1 e2 e3 e4 e5 e6 e7 e8)
        go_ret
        exact ⟨rfl, hw7⟩
      · rw [he] at HEV
        have HE1 := Lib.hid (fun W h => HES.out W h HLF.out)
        have HE2 := Lib.hid (fun W h => HESA.out W h hf)
        have hea := HMO.out he
        rw [HEO.out bd hg he] at HE1
        rw [HEO.out all hg hea] at HE2
        obtain ⟨a, ha⟩ : ∃ a, costN ss r bd order = a := ⟨_, rfl⟩
        obtain ⟨b, hb⟩ : ∃ b, costN ss r all order = b := ⟨_, rfl⟩
        have hle : b ≤ a := by rw [← ha, ← hb]; exact HCM.out
        have hal : a ≤ 1000000000 := by rw [← ha]; exact HCL.out
        rw [ha] at HE1
        rw [hb] at HE2
        have d1 : decide ((0 : Int) ≤ (a : Int)) = true := decide_eq_true (by omega)
        have d2 : decide ((0 : Int) ≤ (b : Int)) = true := decide_eq_true (by omega)
        have d3 : decide ((b : Int) ≤ (a : Int)) = true := decide_eq_true (by omega)
        have n3 : decide (b ≤ a) = true := decide_eq_true hle
        clear hf hg he ha hb hea
        go_wp2_with first | (go_at_call 16; refine (HE2.out _ ((((hb5.trans (hb6.mono hb5.size)).trans (hb7.mono (Nat.le_trans hb5.size hb6.size))).trans (hb8.mono (Nat.le_trans hb5.size (Nat.le_trans hb6.size hb7.size)))))).mono ?_; rintro e w9 ⟨rfl, hb9⟩) | (go_at_call 16; refine (HE1.out _ hw7).mono ?_; rintro e w8 ⟨rfl, hb8⟩; have hw8 : Below w.heap.size w w8 := hw7.trans (hb8.mono hw7.size); have hat8 := hat7.next hb8; clear e0 e1 e2 e3 e4 e5 e6 e7 e8; have e0 := (hat8).cell 0; have e1 := (hat8).cell 1; have e2 := (hat8).cell 2; have e3 := (hat8).cell 3; have e4 := (hat8).cell 4; have e5 := (hat8).cell 5; have e6 := (hat8).cell 6; have e7 := (hat8).cell 7; have e8 := (hat8).cell 8; simp only [List.getElem?_toArray, List.getElem?_cons_zero, List.getElem?_cons_succ] at e0 e1 e2 e3 e4 e5 e6 e7 e8) | (go_at_call 19; refine (HEV.out _ hw6).mono ?_; rintro e w7 ⟨rfl, hb7⟩; have hw7 : Below w.heap.size w w7 := hw6.trans (hb7.mono hw6.size); have hat7 := hat6.next hb7; clear e0 e1 e2 e3 e4 e5 e6 e7 e8; have e0 := (hat7).cell 0; have e1 := (hat7).cell 1; have e2 := (hat7).cell 2; have e3 := (hat7).cell 3; have e4 := (hat7).cell 4; have e5 := (hat7).cell 5; have e6 := (hat7).cell 6; have e7 := (hat7).cell 7; have e8 := (hat7).cell 8; simp only [List.getElem?_toArray, List.getElem?_cons_zero, List.getElem?_cons_succ] at e0 e1 e2 e3 e4 e5 e6 e7 e8) | (go_at_call 18; refine (HFI.out _ hw5).mono ?_; rintro e w6 ⟨rfl, hb6⟩; have hw6 : Below w.heap.size w w6 := hw5.trans (hb6.mono hw5.size); have hat6 := hat5.next hb6; clear e0 e1 e2 e3 e4 e5 e6 e7 e8; have e0 := (hat6).cell 0; have e1 := (hat6).cell 1; have e2 := (hat6).cell 2; have e3 := (hat6).cell 3; have e4 := (hat6).cell 4; have e5 := (hat6).cell 5; have e6 := (hat6).cell 6; have e7 := (hat6).cell 7; have e8 := (hat6).cell 8; simp only [List.getElem?_toArray, List.getElem?_cons_zero, List.getElem?_cons_succ] at e0 e1 e2 e3 e4 e5 e6 e7 e8) | (go_at_call 12; refine (HFEW.out _ hw4).mono ?_; rintro e w5 ⟨rfl, hb5⟩; have hw5 : Below w.heap.size w w5 := hw4.trans (hb5.mono hw4.size); have hat5 := hat4.next hb5; clear e0 e1 e2 e3 e4 e5 e6 e7 e8; have e0 := (hat5).cell 0; have e1 := (hat5).cell 1; have e2 := (hat5).cell 2; have e3 := (hat5).cell 3; have e4 := (hat5).cell 4; have e5 := (hat5).cell 5; have e6 := (hat5).cell 6; have e7 := (hat5).cell 7; have e8 := (hat5).cell 8; simp only [List.getElem?_toArray, List.getElem?_cons_zero, List.getElem?_cons_succ] at e0 e1 e2 e3 e4 e5 e6 e7 e8)
        go_ret
        exact ⟨rfl, hw8.trans (hb9.mono hw8.size)⟩
end Go.Proofs.YtoficnfpoeaccaaDoor
