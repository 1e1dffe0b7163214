/- The walk of the program's Estimate. -/
import Derived.Test.YtoficnfpoeaccaaDoorKCost2
import Derived.Test.YtoficnfpoeaccaaDoorKSafe2
namespace Go.Proofs.YtoficnfpoeaccaaDoor
set_option linter.unusedVariables false
set_option linter.unusedSimpArgs false
open Go.RowKit
theorem est_step {ss : List Sta} {body : List Lt} {order : List Int} {k j : Nat} {B : Ko.Bd} {e : Ko.E} {l : Lt} (h : order[k]? = some (j : Int)) (hj : body[j]? = some l) : Ko.est ss body (order.drop k) B e = Ko.est ss body (order.drop (k + 1)) (Ko.bindL B l.args) (Ko.stepE ss l B e) := by
  rw [drop_at h]
  conv => lhs; unfold Ko.est
  rw [Int.toNat_natCast, hj]
theorem stepE_pos {ss : List Sta} {l : Lt} {B : Ko.Bd} {N C p : Nat} {s : Sta} (h : l.kind = 1 ∨ l.kind = 3) (hp : l.pred = (p : Int)) (hs : ss[p]? = some s) : Ko.stepE ss l B ⟨N, C⟩ = ⟨Ko.prod N (Ko.scan s l.args 0 B s.rows.toNat), min (C + Ko.prod N (max (Ko.scan s l.args 0 B s.rows.toNat) 1)) Ko.most⟩ := by
  unfold Ko.stepE
  rw [if_pos h, hp, Int.toNat_natCast, List.getD_eq_getElem?_getD, hs]
  rfl
theorem stepE_all {ss : List Sta} {l : Lt} {B : Ko.Bd} {N C : Nat} (h : ¬(l.kind = 1 ∨ l.kind = 3)) (ha : l.args.all (Ko.known B) = true) : Ko.stepE ss l B ⟨N, C⟩ = ⟨Ko.up N 2, min (C + N) Ko.most⟩ := by
  unfold Ko.stepE
  rw [if_neg h, if_pos ha]
theorem stepE_bind {ss : List Sta} {l : Lt} {B : Ko.Bd} {N C : Nat} (h : ¬(l.kind = 1 ∨ l.kind = 3)) (ha : ¬ l.args.all (Ko.known B) = true) : Ko.stepE ss l B ⟨N, C⟩ = ⟨N, min (C + N) Ko.most⟩ := by
  unfold Ko.stepE
  rw [if_neg h, if_neg ha]
theorem runs_range {body : List Lt} : ∀ {o : List Int} {d : List Nat} {B : Ko.Bd}, Ko.runs body o d B = true → ∀ x ∈ o, ∃ j : Nat, x = (j : Int) ∧ j < body.length
  | [], _, _, _, x, hx => by cases hx
  | i :: o, d, B, h, x, hx => by
    unfold Ko.runs at h
    cases hl : body[i.toNat]? with
    | none => rw [hl] at h; cases h
    | some l =>
      rw [hl] at h
      simp only [Bool.and_eq_true, decide_eq_true_eq] at h
      rcases List.mem_cons.1 hx with rfl | hx
      · exact ⟨x.toNat, by omega, (List.getElem?_eq_some_iff.1 hl).1⟩
      · exact runs_range h.2 x hx
theorem fitsL_in {ss : List Sta} {l : Lt} (h : Ko.fitsL ss l = true) (h5 : l.kind = 1 ∨ l.kind = 3) : ∃ (p : Nat) (s : Sta), l.pred = (p : Int) ∧ ss[p]? = some s ∧ Ko.formed s = true ∧ s.dist.length = l.args.length := by
  have h5' : l.kind ≠ 5 := by omega
  rw [fitsL_not h5'] at h
  cases hs : ss[l.pred.toNat]? with
  | none => rw [hs] at h; cases h
  | some s =>
    rw [hs] at h
    simp only [Bool.and_eq_true, decide_eq_true_eq] at h
    exact ⟨l.pred.toNat, s, by omega, hs, h.1.2, h.2⟩
theorem BSet.sameAll {w : World} {b n : Nat} : ∀ {ts : List Tm} {B : Ko.Bd}, BSet w b n B → ts.all (Ko.known B) = true → BSet w b n (Ko.bindL B ts)
  | [], B, h, _ => h
  | t :: ts, B, h, ha => by
    rw [List.all_cons, Bool.and_eq_true] at ha
    refine BSet.sameAll (B := Ko.bindT B t) (h.same ha.1) ?_
    rw [List.all_eq_true] at ha ⊢
    intro x hx
    have := ha.2 x hx
    unfold Ko.known at this ⊢
    unfold Ko.bindT
    cases hx1 : Ko.isVar x
    · rfl
    · rw [hx1] at this
      simp at this
      simp [this]
theorem BSet.name {w' : World} {b n n' : Nat} {l : List ByteArray} {k : Nat} {f : ByteArray → Option Bool} {x : ByteArray} (hx : l[k]? = some x) (hf : ∀ x : ByteArray, x.data.toList ≠ [] → (f x).getD false = bdN (l.take k) x) (h : BMap w' b n' (fun y => if y = x then some true else f y)) (hn : n' ≤ n) : BSet w' b n (bdN (l.take (k + 1))) := by
  refine ⟨_, h.mono hn, fun y hy => ?_⟩
  show _ = hasN (l.take (k + 1)) y
  rw [hasN_more hx, show hasN (l.take k) y = (f y).getD false from (hf y hy).symm]
  by_cases e : y = x
  · subst e; simp
  · simp [e, Ne.symm e]
theorem free_fn {sb b n N C : Nat} {B : Ko.Bd} {ts : List Tm} {w : World} (h : StAt w sb b n N C B) (hz : ∀ x ∈ ts, FitS x.v) : FnOk 32 (.pointer (some ⟨sb, 0, none⟩)) (fun x => !Ko.known B x) ts w :=
  fun W x hx hb => free_any sb b n N C B x W (h.next hb) (hz x hx)
theorem free_enters : ∀ args w, (callFunc 32 args).run Tryd.prog w = .ok (.enter 32 args) w := enters_of Tryd.func32 (by kernel_rfl) rfl
theorem up_two (a : Nat) (w : World) (ha : a ≤ 10000000000) : Calls Tryd.prog 36 #[.int .i64 (a : Int), .int .i64 2] w fun e w' => e = .returned (.int .i64 ((Ko.up a 2 : Nat) : Int)) ∧ w = w' := up_any a 2 w ha (by omega)
set_option maxHeartbeats 2000000 in
set_option maxRecDepth 100000 in
theorem estimate_any (SA : Option Addr) (sc : Nat) (ss : List Sta) (r : Rl) (A : Option Addr) (c : Nat) (bd : List ByteArray) (O : Option Addr) (oc : Nat) (order : List Int) (w : World)
    (hr : RlOk w r) (hS : Str w SA 2 (ss.map Sta.fs)) (hSo : ∀ s ∈ ss, StaOk w s) (hA : NmAt w A bd) (hO : Str w O 1 (order.map fun x => [.int .i64 x]))
    (h8 : ∀ l ∈ r.body, l.args.length ≤ 8) (hb8 : r.body.length ≤ 8) (hs8 : ∀ s ∈ ss, s.dist.length ≤ 8) (hsl : ss.length ≤ 30) (hbd : bd.length ≤ 20) (hol : order.length ≤ 10)
    (hzb : ∀ s ∈ bd, FitS s) (hzt : ∀ l ∈ r.body, ∀ t ∈ l.args, FitS t.v) :
    Calls Tryd.prog 16 #[.slice SA ss.length sc, r.v, .slice A bd.length c, .slice O order.length oc] w fun e w' => e = .returned (.int .i64 (Ko.estimate ss r bd order)) ∧ Below w.heap.size w w' := by
  have HR0 := Lib.hid (fun W (h : Below w.heap.size w W) => hr.below h)
  have HSS := Lib.hid (fun W (h : Below w.heap.size w W) i x (hi : ss[i]? = some x) => sta_cells (hS.below h) hi)
  have HSO := Lib.hid (fun W (h : Below w.heap.size w W) s (hs : s ∈ ss) => (hSo s hs).below h)
  have HO := Lib.hid (fun W (h : Below w.heap.size w W) i x (hi : order[i]? = some x) => int_cells (hO.below h) hi)
  have HA := Lib.hid (fun W (h : Below w.heap.size w W) => hA.below h)
  have HEV := Lib.hid (fun W (h : Below w.heap.size w W) => evaluable_any r A c bd O oc order W (hr.below h) (hA.below h) (hO.below h) h8 hb8 hbd hzb hzt)
  have HFI := Lib.hid (fun W (h : Below w.heap.size w W) => fits_any SA sc ss r W (hr.below h) (hS.below h) (fun s hs => (hSo s hs).below h) h8 hb8 hs8 hsl)
  have H8 := Lib.hid h8
  have H9 := Lib.hid hs8
  have HZB := Lib.hid hzb
  have HZT := Lib.hid hzt
  obtain ⟨name, pred, ⟨ga, gn, gc⟩, ek, en, ev, ei, da, dc, body, pos⟩ := r
  unfold Ko.estimate
  unfold Rl.v at HEV HFI ⊢
  dsimp only at *
  clear hr hS hSo hA hO h8 hs8 hzb hzt
  have eg := free_enters
  have hmm := @run_makeMap Tryd.prog
  have HAT := Lib.hid (At.new w 38 #[.string name, .int .i64 pred, .slice ga gn gc, .int .i64 ek, .string en, .string ev, .int .i64 ei, .slice da body.length dc, .int .i64 pos])
  have hw0 : Below w.heap.size w (w.alloc (.cells #[.string name, .int .i64 pred, .slice ga gn gc, .int .i64 ek, .string en, .string ev, .int .i64 ei, .slice da body.length dc, .int .i64 pos] 38)) := below1 _ _
  cases hev : Ko.evaluable body bd order
  · rw [hev] at HEV
    rw [Bool.false_and]
    clear hev
    go_enter Tryd.func16, Tryd.ntmps16
    go_wp2_with (go_at_call 30; refine (HEV.out _ hw0).mono ?_; rintro e w2 ⟨rfl, hb2⟩)
    go_ret
    exact ⟨rfl, hw0.trans (hb2.mono hw0.size)⟩
  · rw [hev] at HEV
    rw [Bool.true_and]
    cases hfi : Ko.fits ss body
    · rw [hfi] at HFI
      clear hfi hev
      go_enter Tryd.func16, Tryd.ntmps16
      go_wp2_with first
        | (go_at_call 31; refine (HFI.out _ hw2).mono ?_; rintro e w3 ⟨rfl, hb3⟩)
        | (go_at_call 30; refine (HEV.out _ hw0).mono ?_; rintro e w2 ⟨rfl, hb2⟩; have hat2 := HAT.out.next hb2; have hw2 : Below w.heap.size w w2 := hw0.trans (hb2.mono hw0.size); have e0 := hat2.cell 0; have e1 := hat2.cell 1; have e2 := hat2.cell 2; have e3 := hat2.cell 3; have e4 := hat2.cell 4; have e5 := hat2.cell 5; have e6 := hat2.cell 6; have e7 := hat2.cell 7; have e8 := hat2.cell 8; simp only [List.getElem?_toArray, List.getElem?_cons_zero, List.getElem?_cons_succ] at e0 e1 e2 e3 e4 e5 e6 e7 e8)
      go_ret
      exact ⟨rfl, hw2.trans (hb3.mono hw2.size)⟩
    · rw [hfi] at HFI
      have HRG := Lib.hid (show ∀ x ∈ order, ∃ j : Nat, x = (j : Int) ∧ j < body.length by
        unfold Ko.evaluable at hev
        rw [Bool.and_eq_true] at hev
        exact runs_range hev.2)
      have HFL := Lib.hid (show ∀ l ∈ body, Ko.fitsL ss l = true by
        unfold Ko.fits at hfi
        exact List.all_eq_true.1 hfi)
      obtain ⟨R, hR⟩ : ∃ R, Ko.est ss body order (fun x => bd.contains x) ⟨1, 0⟩ = R := ⟨_, rfl⟩
      rw [if_pos rfl, hR]
      replace hR : Ko.est ss body (order.drop 0) (bdN bd) ⟨1, 0⟩ = R := by
        rw [← hR]
        congr 1
        funext x
        exact hasN_contains bd x
      have HRR := Lib.hid hR
      clear hfi hev hR
      go_enter Tryd.func16, Tryd.ntmps16
      go_wp2_with first
        | (go_at_call 31; refine (HFI.out _ hw2).mono ?_; rintro e w3 ⟨rfl, hb3⟩)
        | (go_at_call 30; refine (HEV.out _ hw0).mono ?_; rintro e w2 ⟨rfl, hb2⟩; have hat2 := HAT.out.next hb2; have hw2 : Below w.heap.size w w2 := hw0.trans (hb2.mono hw0.size); have e0 := hat2.cell 0; have e1 := hat2.cell 1; have e2 := hat2.cell 2; have e3 := hat2.cell 3; have e4 := hat2.cell 4; have e5 := hat2.cell 5; have e6 := hat2.cell 6; have e7 := hat2.cell 7; have e8 := hat2.cell 8; simp only [List.getElem?_toArray, List.getElem?_cons_zero, List.getElem?_cons_succ] at e0 e1 e2 e3 e4 e5 e6 e7 e8)
      have hw3 : Below w.heap.size w w3 := hw2.trans (hb3.mono hw2.size)
      have hat3 := hat2.next hb3
      have hlt3 := hat3.lt
      clear e0 e1 e2 e3 e4 e5 e6 e7 e8 hb2 hb3 hat2 hw2
      have hst0 : StAt ((w3.alloc (.map #[] 0)).alloc (.cells #[.int .i64 1, .int .i64 0, .map (some w3.heap.size)] 91)) (w3.heap.size + 1) w3.heap.size 0 1 0 (bdN (bd.take 0)) := by
        refine ⟨At.newAt (by simp) _ _, ⟨_, (FMap.made w3 Tryd.prog 9 (plainElem Tryd.prog 4) Value.string bdat).alloc _, fun x _ => rfl⟩⟩
      go_loopw [11, 34] (fun _ i wr => ∃ k : Nat, k ≤ bd.length ∧ i = .int .i64 k ∧ StAt wr (w3.heap.size + 1) w3.heap.size k 1 0 (bdN (bd.take k)) ∧ At wr w.heap.size 38 #[.string name, .int .i64 pred, .slice ga gn gc, .int .i64 ek, .string en, .string ev, .int .i64 ei, .slice da body.length dc, .int .i64 pos] ∧ Below w.heap.size w wr) (fun _ i _ => bd.length - (intOf i).toNat)
      case atStart => exact ⟨0, by omega, rfl, hst0, (hat3.alloc _).alloc _, (hw3.alloc hw3.size _).alloc (by have := hw3.size; simp; omega) _⟩
      case round =>
        clear hst0 hat3
        obtain ⟨k, hk, rfl, h, hat, hw⟩ := hrel
        by_cases h1 : k < bd.length
        · have d1 : decide ((k : Int) < (bd.length : Int)) = true := by simp; omega
          obtain ⟨x, hx⟩ : ∃ x, bd[k]? = some x := ⟨_, List.getElem?_eq_getElem h1⟩
          obtain ⟨g, o, rfl, hg, y0⟩ := (HA.out wr hw).at hx
          have i0 : (0 : Int) ≤ (k : Int) := by omega
          have i1 : (k : Int) < (bd.length : Int) := by omega
          have hfx := HZB.out x (List.mem_of_getElem? hx)
          have HX := Lib.hid hx
          have c2 := h.c2
          obtain ⟨es, ec, hob⟩ := h.set.obj
          have HOB := Lib.hid hob
          obtain ⟨f, hm, hf⟩ := h.set
          have HFF := Lib.hid hf
          clear hx hob hf
          go_wp2_with (at_mapUpdate; refine wpList_fmap_update _ rfl _ _ _ 83 rfl hm str_enc0 bool_enc Tryd.underlying83 (by unfold maxLen; omega) rfl x rfl hfx true rfl ?_; intro w9 hk9 g9)
          go_roundw
          case rel => exact ⟨k + 1, by omega, by go_num, ⟨h.cell.grown g9 (h.cell.not_map HOB.out), BSet.name HX.out HFF.out hk9 (Nat.le_refl _)⟩, hat.grown g9 (hat.not_map HOB.out), hw.trans (below_of_grown g9 hw3.size hw.size)⟩
          case measure => simp [intOf]; omega
        · have d1 : decide ((k : Int) < (bd.length : Int)) = false := by simp; omega
          obtain rfl : k = bd.length := by omega
          rw [List.take_of_length_le (Nat.le_refl _)] at h
          go_wp2_with fail
          go_loopw [14, 15, 17, 48] (fun _ _ _ i wr => ∃ (k n N C : Nat) (B : Ko.Bd), k ≤ order.length ∧ i = .int .i64 k ∧ StAt wr (w3.heap.size + 1) w3.heap.size n N C B ∧ n ≤ 20 + 8 * k ∧ N ≤ 1000000000 ∧ C ≤ 1000000000 ∧ Hid (Ko.est ss body (order.drop k) B ⟨N, C⟩ = R) ∧ At wr w.heap.size 38 #[.string name, .int .i64 pred, .slice ga gn gc, .int .i64 ek, .string en, .string ev, .int .i64 ei, .slice da body.length dc, .int .i64 pos] ∧ Below w.heap.size w wr) (fun _ _ _ i _ => order.length - (intOf i).toNat)
          case atStart => exact ⟨0, _, 1, 0, _, by omega, rfl, h, by omega, by omega, by omega, HRR, hat, hw⟩
          case round =>
            clear h hat hw hk d1 h1
            obtain ⟨k, n, N, C, B, hk, rfl, h, hn, hN, hC, HK, hat, hw⟩ := hrel
            have c7 : wr.cell? ⟨w.heap.size, 7, none⟩ = some (.slice da body.length dc) := hat.cell 7
            have hsw := hw.size
            by_cases h1 : k < order.length
            · have d1 : decide ((k : Int) < (order.length : Int)) = true := by simp; omega
              obtain ⟨x, hx⟩ : ∃ x, order[k]? = some x := ⟨_, List.getElem?_eq_getElem h1⟩
              obtain ⟨go, oo, rfl, hgo, y0⟩ := HO.out wr hw k x hx
              obtain ⟨j, rfl, hj⟩ := HRG.out x (List.mem_of_getElem? hx)
              have i0 : (0 : Int) ≤ (k : Int) := by omega
              have i1 : (k : Int) < (order.length : Int) := by omega
              have i2 : (0 : Int) ≤ (j : Int) := by omega
              have i3 : (j : Int) < (body.length : Int) := by omega
              obtain ⟨l, hjl⟩ : ∃ l, body[j]? = some l := ⟨_, List.getElem?_eq_getElem hj⟩
              obtain ⟨gb, ob, rfl, hgb, b0, b1, b2, b3, b4, b5, b6, b7, b8⟩ := lt_cells (HR0.out wr hw).body hjl
              have hest := est_step (ss := ss) (B := B) (e := ⟨N, C⟩) hx hjl
              rw [HK.out] at hest
              have hlm := List.mem_of_getElem? hjl
              have hln := H8.out l hlm
              have HLT := Lib.hid (fun W (h : Below w.heap.size w W) => (HR0.out W h).each l hlm)
              have HFZ := Lib.hid (HZT.out l hlm)
              have hfit := HFL.out l hlm
              obtain ⟨kind, nm, pr, aa, ac, args, bi, el, le, op, at0⟩ := l
              dsimp only at *
              clear hx hjl hlm
              have hw1 : Below w.heap.size w (wr.alloc (.cells #[.int .i64 kind, .string nm, .int .i64 pr, .slice aa args.length ac, .string bi, .string el, .int .i64 le, .int .i64 op, .int .i64 at0] 60)) := hw.alloc hw.size _
              have h2 := h.alloc (.cells #[.int .i64 kind, .string nm, .int .i64 pr, .slice aa args.length ac, .string bi, .string el, .int .i64 le, .int .i64 op, .int .i64 at0] 60)
              have hla := At.new wr 60 #[.int .i64 kind, .string nm, .int .i64 pr, .slice aa args.length ac, .string bi, .string el, .int .i64 le, .int .i64 op, .int .i64 at0]
              obtain ⟨wl, hwl⟩ : ∃ wl, wl = wr.alloc (.cells #[.int .i64 kind, .string nm, .int .i64 pr, .slice aa args.length ac, .string bi, .string el, .int .i64 le, .int .i64 op, .int .i64 at0] 60) := ⟨_, rfl⟩
              have hbl : Below wr.heap.size wr wl := by rw [hwl]; exact below1 _ _
              rw [← hwl] at hw1 h2 hla
              have hat2 := hat.next hbl
              have l0 : wl.cell? ⟨wr.heap.size, 0, none⟩ = some (.int .i64 kind) := hla.cell 0
              have l1 : wl.cell? ⟨wr.heap.size, 1, none⟩ = some (.string nm) := hla.cell 1
              have l2 : wl.cell? ⟨wr.heap.size, 2, none⟩ = some (.int .i64 pr) := hla.cell 2
              have l3 : wl.cell? ⟨wr.heap.size, 3, none⟩ = some (.slice aa args.length ac) := hla.cell 3
              have l4 : wl.cell? ⟨wr.heap.size, 4, none⟩ = some (.string bi) := hla.cell 4
              have l5 : wl.cell? ⟨wr.heap.size, 5, none⟩ = some (.string el) := hla.cell 5
              have l6 : wl.cell? ⟨wr.heap.size, 6, none⟩ = some (.int .i64 le) := hla.cell 6
              have l7 : wl.cell? ⟨wr.heap.size, 7, none⟩ = some (.int .i64 op) := hla.cell 7
              have l8 : wl.cell? ⟨wr.heap.size, 8, none⟩ = some (.int .i64 at0) := hla.cell 8
              by_cases hk1 : kind = 1 ∨ kind = 3
              · obtain ⟨p, s, rfl, hs, hfo, hdl⟩ := fitsL_in hfit hk1
                dsimp only at hdl
                rw [stepE_pos hk1 rfl hs] at hest
                dsimp only at hest
                have hsm := List.mem_of_getElem? hs
                obtain ⟨gs, os, rfl, hgs, s0, s1⟩ := HSS.out wl hw1 p s hs
                have j0 : (0 : Int) ≤ (p : Int) := by omega
                have j1 : (p : Int) < (ss.length : Int) := by have := (List.getElem?_eq_some_iff.1 hs).1; omega
                have HSC := Lib.hid (scan_any (w3.heap.size + 1) w3.heap.size n N C B s ⟨kind, nm, (p : Int), aa, ac, args, bi, el, le, op, at0⟩ w.heap.size wl.drew h2.drew (HLT.out _ hw1.drew) (HSO.out _ hw1.drew s hsm) hdl hln hfo HFZ.out (by omega) hN hC (by have := hw3.size; omega) hw3.size hw1.size (fun W hb => (HLT.out _ (hw1.drew.trans hb)).args) (fun W hb => (HSO.out _ (hw1.drew.trans hb) s hsm).dist))
                dsimp only [Lt.v, Sta.v] at HSC
                obtain ⟨m, hm⟩ : ∃ m, Ko.scan s args 0 B s.rows.toNat = m := ⟨_, rfl⟩
                rw [hm] at HSC hest
                have HE := Lib.hid hest.symm
                have hp1 := prod_le N m
                have HMIN := Lib.hid (show min (C + Ko.prod N (max m 1)) Ko.most ≤ 1000000000 by unfold Ko.most; omega)
                clear hm hest hs hsm hfit hla hdl hfo
                rcases hk1 with rfl | rfl
                all_goals
                  go_wp2_with fail
                  rw [← hwl]
                  clear hwl
                  go_still_tail 7, (by kernel_rfl)
                  change wpList _ _ _ _ _ wl.drew
                  go_wp2_with (go_at_call 33; refine HSC.out.mono ?_; rintro e w4 ⟨rfl, hst4, hb4, hf4⟩)
                  go_roundw
                  case rel => exact ⟨k + 1, _, _, _, _, by omega, by go_num, hst4, by omega, hp1, HMIN.out, HE, hf4 _ _ _ (by omega) hat2.drew, hw1.drew.trans hb4⟩
                  case measure => simp [intOf]; omega
              · have k1 : (kind == 1) = false := by simpa using fun h => hk1 (.inl h)
                have k3 : (kind == 3) = false := by simpa using fun h => hk1 (.inr h)
                have HCF := Lib.hid (containsfn_any _ _ eg _ aa ac args _ (HLT.out _ hw1).args (by omega) (free_fn h2 HFZ.out))
                have HNA := Lib.hid (show args.all (Ko.known B) = !args.any fun x => !Ko.known B x by rw [List.not_any_eq_all_not]; simp)
                have hmost : min (C + N) Ko.most ≤ 1000000000 := by unfold Ko.most; omega
                cases hz : args.any fun x => !Ko.known B x
                · rw [hz] at HCF HNA
                  have hall : args.all (Ko.known B) = true := HNA.out
                  rw [stepE_all hk1 hall] at hest
                  have HE := Lib.hid hest.symm
                  have HALL := Lib.hid hall
                  clear hest hall hz hk1 hfit
                  have hup : Ko.up N 2 ≤ 1000000000 := up_le hN
                  go_wp2_with fail
                  rw [← hwl]
                  clear hwl
                  go_wp2_with first
                    | (go_at_call 36; refine (up_two N _ (by omega)).mono ?_; rintro e w6 ⟨rfl, rfl⟩)
                    | (go_at_call 35; refine (pay_any _ _ _ N C N B w4 h4 (by omega) (by omega)).mono ?_; rintro e w5 ⟨rfl, rfl⟩; have h5 := h4.putC (min (C + N) Ko.most); have c05 := h5.c0; have yf5 := h5.cell.frozen 0; have hlt5 := h5.lt)
                    | (go_at_call 34; refine HCF.out.mono ?_; rintro e w4 ⟨rfl, hb4⟩; have h4 := h2.next hb4; have c04 := h4.c0; have hat4 := hat2.next hb4; have hw4 : Below w.heap.size w w4 := hw1.trans (hb4.mono hw1.size))
                  go_roundw
                  case rel =>
                    have h6 := h5.putN (Ko.up N 2)
                    have hne6 : w.heap.size ≠ w3.heap.size + 1 := by omega
                    exact ⟨k + 1, _, _, _, _, by omega, by go_num, ⟨h6.cell, h6.set.sameAll HALL.out⟩, by omega, hup, hmost, HE, (hat4.far (p := ⟨w3.heap.size + 1, 1, none⟩) hne6 _).far (p := ⟨w3.heap.size + 1, 0, none⟩) hne6 _, (hw4.setCell (p := ⟨w3.heap.size + 1, 1, none⟩) (by simp; omega) _).setCell (p := ⟨w3.heap.size + 1, 0, none⟩) (by simp; omega) _⟩
                  case measure => simp [intOf]; omega
                · rw [hz] at HCF HNA
                  rw [stepE_bind hk1 (by rw [HNA.out]; simp)] at hest
                  have HE := Lib.hid hest.symm
                  clear hest hz hk1 hfit
                  go_wp2_with fail
                  rw [← hwl]
                  clear hwl
                  go_wp2_with first
                    | (go_at_call 35; refine (pay_any _ _ _ N C N B w4 h4 (by omega) (by omega)).mono ?_; rintro e w5 ⟨rfl, rfl⟩; have h5 := h4.putC (min (C + N) Ko.most); have m5 := (hla4.far (p := ⟨w3.heap.size + 1, 1, none⟩) hne4 (.int .i64 ((min (C + N) Ko.most : Nat) : Int))).cell 3; replace m5 : (w4.setCell ⟨w3.heap.size + 1, 1, none⟩ (.int .i64 ((min (C + N) Ko.most : Nat) : Int))).cell? ⟨wr.heap.size, 3, none⟩ = some (.slice aa args.length ac) := m5)
                    | (go_at_call 34; refine HCF.out.mono ?_; rintro e w4 ⟨rfl, hb4⟩; have h4 := h2.next hb4; have hla4 := hla.next hb4; have hne4 : wr.heap.size ≠ w3.heap.size + 1 := (by have := h.lt; omega); have c04 := h4.c0; have hat4 := hat2.next hb4; have hw4 : Below w.heap.size w w4 := hw1.trans (hb4.mono hw1.size))
                  have hne6 : w.heap.size ≠ w3.heap.size + 1 := by omega
                  have hat5 := hat4.far (p := ⟨w3.heap.size + 1, 1, none⟩) hne6 (.int .i64 ((min (C + N) Ko.most : Nat) : Int))
                  have hw5 := hw4.setCell (p := ⟨w3.heap.size + 1, 1, none⟩) (by simp; omega) (.int .i64 ((min (C + N) Ko.most : Nat) : Int))
                  clear m5 c04 h4 hla4 hat4 hw4 l0 l1 l2 l3 l4 l5 l6 l7 l8 b0 b1 b2 b3 b4 b5 b6 b7 b8
                  go_loopw [17, 102] (fun _ i wx => ∃ m : Nat, m ≤ args.length ∧ i = .int .i64 m ∧ StAt wx (w3.heap.size + 1) w3.heap.size (n + m) N (min (C + N) Ko.most) (Ko.bindL B (args.take m)) ∧ At wx w.heap.size 38 #[.string name, .int .i64 pred, .slice ga gn gc, .int .i64 ek, .string en, .string ev, .int .i64 ei, .slice (some ⟨gb, ob, none⟩) body.length dc, .int .i64 pos] ∧ Below w.heap.size w wx) (fun _ i _ => args.length - (intOf i).toNat)
                  case atStart => exact ⟨0, by omega, rfl, h5, hat5, hw5⟩
                  case round =>
                    clear h5 hat5 hw5 h h2 hat hw hat2 hw1 hla hbl hb4
                    obtain ⟨m, hm, rfl, h, hat, hw⟩ := hrel
                    have hsw := hw.size
                    by_cases h1 : m < args.length
                    · have d1 : decide ((m : Int) < (args.length : Int)) = true := by simp; omega
                      obtain ⟨x, hx⟩ : ∃ x, args[m]? = some x := ⟨_, List.getElem?_eq_getElem h1⟩
                      obtain ⟨g, o, rfl, hg, x0, x1, x2, x3⟩ := tm_cells (HLT.out wr hw).args hx
                      have i0 : (0 : Int) ≤ (m : Int) := by omega
                      have i1 : (m : Int) < (args.length : Int) := by omega
                      have hfx := HFZ.out x (List.mem_of_getElem? hx)
                      have HBM := Lib.hid (bindL_more (B := B) hx)
                      obtain ⟨wt, hwt⟩ : ∃ wt, wt = wr.alloc (.cells #[.string x.v, .int .i64 x.t, .int .i64 x.n, .string x.s] 64) := ⟨_, rfl⟩
                      have hbt : Below wr.heap.size wr wt := by rw [hwt]; exact below1 _ _
                      have z0 : wt.cell? ⟨wr.heap.size, 0, none⟩ = some (.string x.v) := by rw [hwt]; exact (At.new _ _ _).cell 0
                      have ht := (h.next hbt).drew
                      have c2 := (h.next hbt).c2
                      have hatt := (hat.next hbt).drew
                      have hwt' : Below w.heap.size w wt.drew := (hw.trans (hbt.mono hw.size)).drew
                      obtain ⟨es, ec, hob⟩ := ht.set.obj
                      have HOB := Lib.hid hob
                      obtain ⟨f, hmp, hf⟩ := ht.set
                      have HFF := Lib.hid hf
                      clear hx hob hf
                      go_wp2_with fail
                      rw [← hwt]
                      clear hwt
                      go_still_tail 6, (by kernel_rfl)
                      change wpList _ _ _ _ _ wt.drew
                      go_wp2_with (at_mapUpdate; refine wpList_fmap_update _ rfl _ _ _ 83 rfl hmp str_enc0 bool_enc Tryd.underlying83 (by unfold maxLen; omega) rfl x.v rfl hfx true rfl ?_; intro w9 hk9 g9)
                      go_roundw
                      case rel => exact ⟨m + 1, by omega, by go_num, ⟨ht.cell.grown g9 (ht.cell.not_map HOB.out), by rw [HBM.out]; exact BSet.bind HFF.out hk9 (by omega)⟩, hatt.grown g9 (hatt.not_map HOB.out), hwt'.trans (below_of_grown g9 hw3.size hwt'.size)⟩
                      case measure => simp [intOf]; omega
                    · have d1 : decide ((m : Int) < (args.length : Int)) = false := by simp; omega
                      obtain rfl : m = args.length := by omega
                      rw [List.take_of_length_le (Nat.le_refl _)] at h
                      go_wp2_with fail
                      go_roundw
                      case rel => exact ⟨k + 1, _, _, _, _, by omega, by go_num, h, by omega, hN, hmost, HE, hat, hw⟩
                      case measure => simp [intOf]; omega
            · have d1 : decide ((k : Int) < (order.length : Int)) = false := by simp; omega
              have HF := Lib.hid (show C = R by rw [← HK.out, List.drop_eq_nil_of_le (by omega)]; rfl)
              have c1 := h.c1
              go_wp2_with fail
              go_ret
              exact ⟨by rw [← HF.out]; rfl, hw⟩
end Go.Proofs.YtoficnfpoeaccaaDoor
