/- The walk of the reference's Decode. -/
import Derived.Test.YtagibdofpcbgiaaDoorVREnc
namespace Go.Proofs.YtagibdofpcbgiaaDoor
set_option linter.unusedVariables false
set_option linter.unusedSimpArgs false
open Go.RowKit Go.Shelf
theorem Bytes.at {w : World} {A : Option Addr} {xs : List UInt8} (h : Bytes w A xs) {k : Nat} (hk : k < xs.length) : ∃ g o, A = some ⟨g, o, none⟩ ∧ g < w.heap.size ∧ ∀ (k : Nat) (x : UInt8), xs[k]? = some x → w.cell? ⟨g, o + k, none⟩ = some (.int .u8 (x.toNat : Int)) :=
  h (by intro h; rw [h] at hk; simp at hk)
theorem cells_below {w w' : World} {g o : Nat} {xs : List UInt8} (hg : g < w.heap.size) (h : ∀ (k : Nat) (x : UInt8), xs[k]? = some x → w.cell? ⟨g, o + k, none⟩ = some (.int .u8 (x.toNat : Int))) (hb : Below w.heap.size w w') : ∀ (k : Nat) (x : UInt8), xs[k]? = some x → w'.cell? ⟨g, o + k, none⟩ = some (.int .u8 (x.toNat : Int)) :=
  fun k x hx => (hb.cell (p := ⟨g, o + k, none⟩) hg).trans (h k x hx)
theorem takeWhile_at {r : List UInt8} {j : Nat} (h0 : r[j]? = some 0) (hno : ∀ t, t < j → r[t]? ≠ some 0) : r.takeWhile (fun x => x != 0) = r.take j ∧ 0 ∈ r ∧ (r.dropWhile (fun x => x != 0)).drop 1 = r.drop (j + 1) := by
  have hm : 0 ∈ r := List.mem_of_getElem? h0
  have hl : (r.takeWhile (fun x => x != 0)).length = j := by
    have h := idx0_hit h0 hno
    unfold idx0 at h
    rw [if_pos hm] at h
    omega
  refine ⟨?_, hm, ?_⟩
  · have := List.takeWhile_append_dropWhile (p := fun x : UInt8 => x != 0) (l := r)
    have e : r.take j = (r.takeWhile (fun x => x != 0) ++ r.dropWhile (fun x => x != 0)).take j := by rw [this]
    rw [e, List.take_append, hl, Nat.sub_self, List.take_zero, List.append_nil, List.take_of_length_le (by omega)]
  · rw [drop_zero hm, hl]
set_option maxHeartbeats 3000000 in
set_option maxRecDepth 100000 in
theorem rdecode_any (A : Option Addr) (c : Nat) (xs : List UInt8) (w : World) (hx : xs.length ≤ 1000000) (hxc : xs.length ≤ c) (hc : c ≤ 9223372036854775807) (hA : Bytes w A xs) :
    Calls Tryd.prog 22 #[.slice A xs.length c] w fun e w' => (∃ v, e = .returned (.tuple #[v, .int .i64 (decErr xs)]) ∧ w'.ownsRow w.heap.size 23 3 v ((Vx.decode xs).getD []).length (vcells ((Vx.decode xs).getD []))) ∧ Below w.heap.size w w' := by
  obtain ⟨i0, hi, hz0, hz1, hz2⟩ := info_parts value_info
  go_enter Tryd.func22, Tryd.ntmps22
  go_wp2
  go_loopw [4, 5] (fun v i wr => ∃ (k : Nat) (ds : List Vx.V), k ≤ xs.length ∧ ds.length ≤ k ∧ Hid (DecAt xs ds (xs.drop k)) ∧ i = .int .i64 k ∧ wr.ownsRow w.heap.size 23 3 v ds.length (vcells ds) ∧ Below w.heap.size w wr) (fun _ i _ => xs.length - (intOf i).toNat)
  case atStart => exact ⟨0, [], by omega, by simp, Lib.hid (DecAt.start xs), rfl, World.ownsRow_nil _ _ _ _, Below.refl _ _⟩
  case round =>
    obtain ⟨k, ds, hk, hdl, HD, rfl, hown, hbw⟩ := hrel
    obtain ⟨wo, rfl⟩ : ∃ wo : World, wo = wr := ⟨_, rfl⟩
    by_cases h1 : k < xs.length
    · have d1 : decide ((k : Int) < (xs.length : Int)) = true := by simp; omega
      obtain ⟨g, o, rfl, hg, hcell⟩ := hA.at h1
      have HCELL := Lib.hid (fun W hb => cells_below hg hcell hb : ∀ W, Below w.heap.size w W → _)
      have hcr : xs.drop k = xs[k] :: xs.drop (k + 1) := List.drop_eq_getElem_cons h1
      have e1 := List.getElem?_eq_getElem h1
      generalize xs[k] = ch at *
      obtain ⟨r, hr⟩ : ∃ r, r = xs.drop (k + 1) := ⟨_, rfl⟩
      rw [← hr] at hcr
      have hrl : r.length = xs.length - (k + 1) := by rw [hr]; simp
      have HR := Lib.hid hr
      have HCR := Lib.hid hcr
      obtain ⟨W1, hW1⟩ : ∃ W1, W1 = wo.alloc (.cells #[.int .i64 0, .int .i64 0, .string ⟨#[]⟩] 23) := ⟨_, rfl⟩
      have hb2 : Below w.heap.size w W1 := by rw [hW1]; exact hbw.alloc hbw.size _
      have hv2 : At W1 wo.heap.size 23 #[.int .i64 0, .int .i64 0, .string ⟨#[]⟩] := by rw [hW1]; exact At.new _ _ _
      have hown2 : W1.ownsRow w.heap.size 23 3 u4 ds.length (vcells ds) := by rw [hW1]; exact hown.alloc _
      have hz2s : W1.heap.size = wo.heap.size + 1 := by rw [hW1]; simp
      have w0 : (wo.alloc (.cells #[.int .i64 0, .int .i64 0, .string ⟨#[]⟩] 23)).cell? ⟨g, o + k, none⟩ = some (.int .u8 (ch.toNat : Int)) := by rw [← hW1]; exact HCELL.out _ hb2 k ch e1
      clear hr hcr hcell hA
      by_cases hc1 : ch = 1 ∧ 2 ≤ r.length
      · obtain ⟨hc1, hc2⟩ := hc1
        subst hc1
        have hl3 : k + 2 < xs.length := by omega
        obtain ⟨z1, hz1'⟩ : ∃ z, xs[k + 1]? = some z := ⟨_, List.getElem?_eq_getElem (by omega)⟩
        obtain ⟨z2, hz2'⟩ : ∃ z, xs[k + 2]? = some z := ⟨_, List.getElem?_eq_getElem (by omega)⟩
        have d3 : decide (((k : Int) + 2) < (xs.length : Int)) = true := decide_eq_true (by omega)
        have ec : (((1 : UInt8).toNat : Nat) : Int) = 1 := rfl
        rw [ec] at w0
        have x1 : W1.cell? ⟨g, o + (k + 1), none⟩ = some (.int .u8 (z1.toNat : Int)) := HCELL.out _ hb2 _ _ hz1'
        have x2 : W1.cell? ⟨g, o + (k + 2), none⟩ = some (.int .u8 (z2.toNat : Int)) := HCELL.out _ hb2 _ _ hz2'
        have HV := Lib.hid (show Vx.take1 (1 :: r) = (⟨1, 256 * (z1.toNat : Int) + (z2.toNat : Int), []⟩, xs.drop (k + 3)) from by
          rw [show (256 * (z1.toNat : Int) + (z2.toNat : Int)) = ((256 * z1.toNat + z2.toNat : Nat) : Int) by omega]
          simp only [Vx.take1]
          rw [if_pos ⟨trivial, hc2⟩, HR.out, List.getD_eq_getElem?_getD, List.getD_eq_getElem?_getD, List.getElem?_drop, List.getElem?_drop, List.drop_drop, hz1', show k + 1 + 1 = k + 2 from rfl, hz2']
          rfl)
        have f0 := hv2.frozen 0; have f1 := hv2.frozen 1; have f2 := hv2.frozen 2
        have b0 := hv2.cell 0; have b1 := hv2.cell 1; have b2 := hv2.cell 2
        simp at b0 b1 b2
        have k0 : (0 : Int) ≤ (k : Int) + 1 := by omega
        have k1 : (k : Int) + 1 < (xs.length : Int) := by omega
        have k2 : (k : Int) + 2 < (xs.length : Int) := by omega
        have kk0 : (0 : Int) ≤ (k : Int) + 2 := by omega
        have z1b := z1.toNat_lt
        have z2b := z2.toNat_lt
        have q1 : IntKind.i64.wrap ((k : Int) + 1) = (k : Int) + 1 := IntWalk.i64_in _ (by omega)
        have q2 : IntKind.i64.wrap ((k : Int) + 2) = (k : Int) + 2 := IntWalk.i64_in _ (by omega)
        have q3 : ((k : Int) + 1).toNat = k + 1 := by omega
        have q4 : ((k : Int) + 2).toNat = k + 2 := by omega
        have q5 : IntKind.i64.wrap ((z1.toNat : Nat) : Int) = (z1.toNat : Int) := IntWalk.i64_in _ (by omega)
        have q6 : IntKind.i64.wrap ((z2.toNat : Nat) : Int) = (z2.toNat : Int) := IntWalk.i64_in _ (by omega)
        have q7 : IntKind.i64.wrap (256 * (z1.toNat : Int)) = 256 * (z1.toNat : Int) := IntWalk.i64_in _ (by omega)
        have q8 : IntKind.i64.wrap (256 * (z1.toNat : Int) + (z2.toNat : Int)) = 256 * (z1.toNat : Int) + (z2.toNat : Int) := IntWalk.i64_in _ (by omega)
        clear hc2 z1b z2b
        have HW1 := Lib.hid hW1
        clear hW1
        go_wp2_with (fail)
        rw [← HW1.out]
        clear w0
        go_region_with (first | (go_at_call 30; refine (int_any _ _).mono ?_; rintro e W2 ⟨rfl, hbq⟩
                                 have hbq' : Below W1.heap.size W1 W2 := ((Below.refl W1.heap.size W1).drew).trans hbq
                                 have hb2 : Below w.heap.size w W2 := hb2.trans (hbq'.mono hb2.size)
                                 have hv2 : At W2 wo.heap.size 23 #[.int .i64 0, .int .i64 0, .string ⟨#[]⟩] := hv2.below hbq' hv2.lt
                                 have hown2 : W2.ownsRow w.heap.size 23 3 u4 ds.length (vcells ds) := own_below hown2 hbq'
                                 have f0 := hv2.frozen 0; have f1 := hv2.frozen 1; have f2 := hv2.frozen 2
                                 have b0 := hv2.cell 0; have b1 := hv2.cell 1; have b2 := hv2.cell 2
                                 simp at b0 b1 b2))
        all_goals
          obtain ⟨n3, hn3⟩ : ∃ n3 : Int, n3 = 256 * (z1.toNat : Int) + (z2.toNat : Int) := ⟨_, rfl⟩
          rw [← hn3] at HV
          simp only [← hn3]
          clear hn3 q1 q2 q3 q4 q5 q6 q7 q8 x1 x2
          have HSF := Lib.hid (show ([] : List UInt8).length ≤ 281474976710656 from by simp)
          obtain ⟨W3, hW3⟩ : ∃ W3, W3 = (((W2.setCell ⟨wo.heap.size, 0, none⟩ (.int .i64 1)).setCell ⟨wo.heap.size, 1, none⟩ (.int .i64 n3)).setCell ⟨wo.heap.size, 2, none⟩ (.string ⟨#[]⟩)) := ⟨_, rfl⟩
          have hwb : w.heap.size ≤ wo.heap.size := hbw.size
          have hb3 : Below w.heap.size w W3 := by rw [hW3]; exact ((hb2.setCell hwb _).setCell hwb _).setCell hwb _
          have hv3 : At W3 wo.heap.size 23 #[.int .i64 1, .int .i64 n3, .string ⟨[].toArray⟩] := by rw [hW3]; exact ((hv2.put 0 _).put 1 _).put 2 _
          have hown3 : W3.ownsRow w.heap.size 23 3 u4 ds.length (vcells ds) := by
            rw [hW3]
            have hfar : some wo.heap.size ≠ Value.ownBlock u4 := fun e => by have := own_lt hown e.symm; omega
            exact own_putne (own_putne (own_putne hown2 (p := ⟨wo.heap.size, 0, none⟩) hfar _) (p := ⟨wo.heap.size, 1, none⟩) hfar _) (p := ⟨wo.heap.size, 2, none⟩) hfar _
          clear b0 b1 b2 f0 f1 f2
          have b0 := hv3.cell 0; have b1 := hv3.cell 1; have b2 := hv3.cell 2
          simp at b0 b1 b2
          have hlt3 := hv3.lt
          rw [← hW3]
          clear hW3 hv2 hown2
          obtain ⟨a4, cp4, rfl⟩ := own_len hown3
          cases hval : Vx.valid ⟨1, n3, []⟩
          · have hR := Lib.hid (show Vx.decode xs = none from by have h := HD.out; rw [HCR.out] at h; exact h.stop (by rw [HV.out]; exact hval))
            have HVAL := Lib.hid hval
            clear hval
            go_wp2_with (go_at_call 12; refine (vrvalid_any ⟨1, n3, []⟩ _ HSF.out).mono ?_; rintro e w4 ⟨rfl, hb4⟩; rw [HVAL.out])
            go_ret2
            exact ⟨⟨_, by unfold decErr; rw [hR.out]; rfl, by rw [hR.out]; exact World.ownsRow_nil _ _ _ _⟩, hb3.trans (hb4.mono hb3.size)⟩
          · have HM := Lib.hid (show DecAt xs (ds ++ [⟨1, n3, []⟩]) (xs.drop (k + 3)) from by
              have h := HD.out
              rw [HCR.out] at h
              have h' := h.more (by rw [HV.out]; exact hval)
              rw [HV.out] at h'
              exact h')
            have HVAL := Lib.hid hval
            clear hval
            have hdn : ds.length ≤ 1000000 := by omega
            go_wp2_with (first
              | (go_at_call 12; refine (vrvalid_any ⟨1, n3, []⟩ _ HSF.out).mono ?_; rintro e w4 ⟨rfl, hb4⟩; rw [HVAL.out]
                 have hv4 := hv3.below hb4 hlt3
                 have hown4 := own_below hown3 hb4
                 have hbw4 := hb3.trans (hb4.mono hb3.size)
                 have y0 := hv4.cell 0; have y1 := hv4.cell 1; have y2 := hv4.cell 2
                 simp at y0 y1 y2)
              | (at_builtin; refine wpList_append_lies _ rfl (.tmp 80) (.tmp 82) 24 rfl w.heap.size 23 i0 _ 3 32 Tryd.underlying24 hi hz0 hz1 hz2 rfl (by omega) (.slice a4 ds.length cp4) ds.length (vcells ds) rfl (hown4.alloc _) ⟨w4.heap.size, 0, none⟩ 1 1 [.int .i64 1, .int .i64 n3, .string ⟨[].toArray⟩] rfl rfl (At.news (At.new _ _ _)) (one3 rfl rfl rfl) (by omega) (by unfold maxLen; omega) (by omega) (by have := hbw4.size; have := hb4.size; simp; omega) (w4.heap.size + 1) (by simp) ?_; intro g5 cap5 w5 hown5 hgrow5 hat5 hlt5))
            have hbw5 : Below w.heap.size w w5 := (hbw4.alloc hbw4.size _).grown hgrow5 (by have := hbw4.size; simp; omega) (fun q hq => (own_lt hown4 hq).1)
            go_roundw
            case rel => exact ⟨k + 3, ds ++ [⟨1, n3, []⟩], by omega, by simp; omega, HM, by go_num, by rw [vcells_snoc, List.length_append]; exact hown5, hbw5⟩
            case measure => simp [intOf]; omega
      · by_cases hch : ch = 2
        · subst hch
          have ec : (((2 : UInt8).toNat : Nat) : Int) = 2 := rfl
          rw [ec] at w0
          have HW1 := Lib.hid hW1
          have HW0 := Lib.hid w0
          clear hW1 hc1
          go_wp2_with (fail)
          rw [← HW1.out]
          clear w0
          go_loop [7] (fun j => ∃ q : Nat, k + 1 ≤ q ∧ q ≤ xs.length ∧ Hid (∀ t, k + 1 ≤ t → t < q → xs[t]? ≠ some 0) ∧ j = .int .i64 q) (fun j => xs.length - (intOf j).toNat)
          case atStart => exact ⟨k + 1, by omega, by omega, Lib.hid (fun t h h' => by omega), by go_num⟩
          case round =>
            obtain ⟨q, hq1, hq2, HN, rfl⟩ := hrel
            by_cases hlt : q < xs.length
            · have e3 : decide ((q : Int) < (xs.length : Int)) = true := decide_eq_true (by omega)
              obtain ⟨z, hz⟩ : ∃ z, xs[q]? = some z := ⟨_, List.getElem?_eq_getElem hlt⟩
              have x1 : W1.cell? ⟨g, o + q, none⟩ = some (.int .u8 (z.toNat : Int)) := HCELL.out _ hb2 _ _ hz
              by_cases hz0 : z = 0
              · subst hz0
                have ec0 : (((0 : UInt8).toNat : Nat) : Int) = 0 := rfl
                rw [ec0] at x1
                obtain ⟨sy, hsy⟩ : ∃ sy, sy = r.take (q - (k + 1)) := ⟨_, rfl⟩
                have hsyl : sy.length = q - (k + 1) := by rw [hsy, List.length_take]; omega
                have HSYL := Lib.hid hsyl
                obtain ⟨tw1, tw2, tw3⟩ := takeWhile_at (r := r) (j := q - (k + 1)) (by rw [HR.out, List.getElem?_drop, show k + 1 + (q - (k + 1)) = q by omega]; exact hz) (fun t ht => by rw [HR.out, List.getElem?_drop]; exact HN.out _ (by omega) (by omega))
                have HV := Lib.hid (show Vx.take1 (2 :: r) = (⟨2, 0, sy⟩, xs.drop (q + 1)) from by
                  simp only [Vx.take1]
                  rw [if_neg (fun h => absurd h.1 (by decide)), if_pos ⟨trivial, tw2⟩, tw1, tw3, ← hsy, HR.out, List.drop_drop, show k + 1 + (q - (k + 1) + 1) = q + 1 by omega])
                have HSF := Lib.hid (show sy.length ≤ 281474976710656 from by omega)
                have hconv : (convert 25 9 (.slice (some ⟨g, o + (k + 1), none⟩) (q - (k + 1)) (c - (k + 1)))).run Tryd.prog W1 = .ok (.string ⟨sy.toArray⟩) W1 := by
                  rw [← HSYL.out]
                  refine str_of W1 g (o + (k + 1)) (c - (k + 1)) sy (fun t x hx => ?_)
                  have ht : t < q - (k + 1) := by
                    obtain ⟨h, _⟩ := List.getElem?_eq_some_iff.1 hx
                    omega
                  rw [show o + (k + 1) + t = o + (k + 1 + t) by omega]
                  refine HCELL.out _ hb2 _ _ ?_
                  rw [hsy, List.getElem?_take, if_pos ht, HR.out, List.getElem?_drop] at hx
                  exact hx
                have d4 : ((q : Int) == (xs.length : Int)) = false := beq_eq_false_iff_ne.2 (by omega)
                have j1 : ((k : Int) + 1).toNat = k + 1 := by omega
                have j2 : (0 : Int) ≤ (k : Int) + 1 := by omega
                have j3 : (k : Int) + 1 ≤ (q : Int) := by omega
                have j4 : (q : Int) ≤ (c : Int) := by omega
                have j5 : ¬ c = k + 1 := by omega
                clear hsyl hsy tw1 tw2 tw3
                go_wp2_with (fail)
                refine (sym_any _ _).mono ?_
                rintro e W2 ⟨rfl, hbq⟩
                have hbq' : Below W1.heap.size W1 W2 := hbq
                have hb2 : Below w.heap.size w W2 := hb2.trans (hbq'.mono hb2.size)
                have hv2 : At W2 wo.heap.size 23 #[.int .i64 0, .int .i64 0, .string ⟨#[]⟩] := hv2.below hbq' hv2.lt
                have hown2 : W2.ownsRow w.heap.size 23 3 u4 ds.length (vcells ds) := own_below hown2 hbq'
                have f0 := hv2.frozen 0; have f1 := hv2.frozen 1; have f2 := hv2.frozen 2
                have b0 := hv2.cell 0; have b1 := hv2.cell 1; have b2 := hv2.cell 2
                simp at b0 b1 b2
                clear hconv x1 j1
                go_wp2_with (fail)
                obtain ⟨W3, hW3⟩ : ∃ W3, W3 = (((W2.setCell ⟨wo.heap.size, 0, none⟩ (.int .i64 2)).setCell ⟨wo.heap.size, 1, none⟩ (.int .i64 0)).setCell ⟨wo.heap.size, 2, none⟩ (.string ⟨sy.toArray⟩)) := ⟨_, rfl⟩
                have hwb : w.heap.size ≤ wo.heap.size := hbw.size
                have hb3 : Below w.heap.size w W3 := by rw [hW3]; exact ((hb2.setCell hwb _).setCell hwb _).setCell hwb _
                have hv3 : At W3 wo.heap.size 23 #[.int .i64 2, .int .i64 0, .string ⟨sy.toArray⟩] := by rw [hW3]; exact ((hv2.put 0 _).put 1 _).put 2 _
                have hown3 : W3.ownsRow w.heap.size 23 3 u4 ds.length (vcells ds) := by
                  rw [hW3]
                  have hfar : some wo.heap.size ≠ Value.ownBlock u4 := fun e => by have := own_lt hown e.symm; omega
                  exact own_putne (own_putne (own_putne hown2 (p := ⟨wo.heap.size, 0, none⟩) hfar _) (p := ⟨wo.heap.size, 1, none⟩) hfar _) (p := ⟨wo.heap.size, 2, none⟩) hfar _
                clear b0 b1 b2 f0 f1 f2
                have b0 := hv3.cell 0; have b1 := hv3.cell 1; have b2 := hv3.cell 2
                simp at b0 b1 b2
                have hlt3 := hv3.lt
                rw [← hW3]
                clear hW3 hv2 hown2
                obtain ⟨a4, cp4, rfl⟩ := own_len hown3
                cases hval : Vx.valid ⟨2, 0, sy⟩
                · have hR := Lib.hid (show Vx.decode xs = none from by have h := HD.out; rw [HCR.out] at h; exact h.stop (by rw [HV.out]; exact hval))
                  have HVAL := Lib.hid hval
                  clear hval
                  go_wp2_with (go_at_call 12; refine (vrvalid_any ⟨2, 0, sy⟩ _ HSF.out).mono ?_; rintro e w4 ⟨rfl, hb4⟩; rw [HVAL.out])
                  go_ret2
                  exact ⟨⟨_, by unfold decErr; rw [hR.out]; rfl, by rw [hR.out]; exact World.ownsRow_nil _ _ _ _⟩, hb3.trans (hb4.mono hb3.size)⟩
                · have HM := Lib.hid (show DecAt xs (ds ++ [⟨2, 0, sy⟩]) (xs.drop (q + 1)) from by
                    have h := HD.out
                    rw [HCR.out] at h
                    have h' := h.more (by rw [HV.out]; exact hval)
                    rw [HV.out] at h'
                    exact h')
                  have HVAL := Lib.hid hval
                  clear hval
                  have hdn : ds.length ≤ 1000000 := by omega
                  go_wp2_with (first
                    | (go_at_call 12; refine (vrvalid_any ⟨2, 0, sy⟩ _ HSF.out).mono ?_; rintro e w4 ⟨rfl, hb4⟩; rw [HVAL.out]
                       have hv4 := hv3.below hb4 hlt3
                       have hown4 := own_below hown3 hb4
                       have hbw4 := hb3.trans (hb4.mono hb3.size)
                       have y0 := hv4.cell 0; have y1 := hv4.cell 1; have y2 := hv4.cell 2
                       simp at y0 y1 y2)
                    | (at_builtin; refine wpList_append_lies _ rfl (.tmp 80) (.tmp 82) 24 rfl w.heap.size 23 i0 _ 3 32 Tryd.underlying24 hi hz0 hz1 hz2 rfl (by omega) (.slice a4 ds.length cp4) ds.length (vcells ds) rfl (hown4.alloc _) ⟨w4.heap.size, 0, none⟩ 1 1 [.int .i64 2, .int .i64 0, .string ⟨sy.toArray⟩] rfl rfl (At.news (At.new _ _ _)) (one3 rfl rfl rfl) (by omega) (by unfold maxLen; omega) (by omega) (by have := hbw4.size; have := hb4.size; simp; omega) (w4.heap.size + 1) (by simp) ?_; intro g5 cap5 w5 hown5 hgrow5 hat5 hlt5))
                  have hbw5 : Below w.heap.size w w5 := (hbw4.alloc hbw4.size _).grown hgrow5 (by have := hbw4.size; simp; omega) (fun q hq => (own_lt hown4 hq).1)
                  go_roundw
                  case rel => exact ⟨q + 1, ds ++ [⟨2, 0, sy⟩], by omega, by simp; omega, HM, by go_num, by rw [vcells_snoc, List.length_append]; exact hown5, hbw5⟩
                  case measure => simp [intOf]; omega
              · have hR := Lib.hid (show ∀ t, k + 1 ≤ t → t < q + 1 → xs[t]? ≠ some 0 from fun t h h' => by
                  by_cases e : t = q
                  · rw [e, hz]; intro h; exact hz0 (Option.some.inj h)
                  · exact HN.out t h (by omega))
                have hx0 : ¬ z.toNat = 0 := fun h => hz0 (UInt8.toNat_inj.1 h)
                have d2 : (((z.toNat : Nat) : Int) != 0) = true := by simp; omega
                clear hz0 hx0
                go_wp2_with (fail)
                go_round
                case rel => exact ⟨q + 1, by omega, by omega, hR, by go_num⟩
                case measure => simp [intOf]; omega
            · have e3 : decide ((q : Int) < (xs.length : Int)) = false := decide_eq_false (by omega)
              obtain rfl : q = xs.length := by omega
              have hno : ¬ 0 ∈ r := fun h => by
                obtain ⟨t, ht, e⟩ := List.mem_iff_getElem.1 h
                have h3 := HN.out (k + 1 + t) (by omega) (by omega)
                rw [← List.getElem?_drop, ← HR.out, List.getElem?_eq_getElem ht, e] at h3
                exact h3 rfl
              have HV := Lib.hid (show (Vx.take1 (2 :: r)).1 = ⟨0, 0, []⟩ from by
                simp only [Vx.take1]
                rw [if_neg (fun h => absurd h.1 (by decide)), if_neg (fun h => hno h.2)])
              have hR := Lib.hid (show Vx.decode xs = none from by have h := HD.out; rw [HCR.out] at h; exact h.stop (by rw [HV.out]; decide))
              clear hno
              go_wp2_with (fail)
              go_ret2
              exact ⟨⟨_, by unfold decErr; rw [hR.out]; rfl, by rw [hR.out]; exact World.ownsRow_nil _ _ _ _⟩, hb2⟩
        · have HV := Lib.hid (show (Vx.take1 (ch :: r)).1 = ⟨0, 0, []⟩ from by
            simp only [Vx.take1]
            rw [if_neg hc1, if_neg (fun h => hch h.1)])
          have hR := Lib.hid (show Vx.decode xs = none from by have h := HD.out; rw [HCR.out] at h; exact h.stop (by rw [HV.out]; decide))
          have HVAL := Lib.hid (show Vx.valid ⟨0, 0, []⟩ = false from by decide)
          have tests : ∃ b1 b2 b3 : Bool, (((ch.toNat : Nat) : Int) == 1) = b1 ∧ decide (((k : Int) + 2) < (xs.length : Int)) = b2 ∧ (b1 && b2) = false ∧ (((ch.toNat : Nat) : Int) == 2) = b3 ∧ b3 = false := by
            refine ⟨_, _, _, rfl, rfl, ?_, rfl, ?_⟩
            · rw [Bool.eq_false_iff]; intro h
              simp only [Bool.and_eq_true, beq_iff_eq, decide_eq_true_eq] at h
              exact hc1 ⟨UInt8.toNat_inj.1 (by have : (1 : UInt8).toNat = 1 := rfl; omega), by omega⟩
            · rw [beq_eq_false_iff_ne]; intro h
              exact hch (UInt8.toNat_inj.1 (by have : (2 : UInt8).toNat = 2 := rfl; omega))
          obtain ⟨b1, b2, b3, t1, t2, t12, t3, t4⟩ := tests
          subst t4
          clear hc1 hch
          have HW1 := Lib.hid hW1
          rw [hW1] at hb2
          have HB2 := Lib.hid hb2
          clear hW1
          cases b1 <;> cases b2 <;> (try (exact absurd t12 (by decide)))
          all_goals
            clear t12
            go_wp2_with (go_at_call 12; refine (vrvalid_any ⟨0, 0, []⟩ _ (by simp)).mono ?_; rintro e w4 ⟨rfl, hb4⟩; rw [HVAL.out])
            go_ret2
            exact ⟨⟨_, by unfold decErr; rw [hR.out]; rfl, by rw [hR.out]; exact World.ownsRow_nil _ _ _ _⟩, HB2.out.trans (hb4.mono HB2.out.size)⟩
    · have d1 : decide ((k : Int) < (xs.length : Int)) = false := decide_eq_false (by omega)
      have hR := Lib.hid (show Vx.decode xs = some ds from by have := HD.out; rw [List.drop_eq_nil_of_le (by omega)] at this; exact this.done)
      go_wp2
      go_ret2
      exact ⟨⟨_, by unfold decErr; rw [hR.out]; rfl, by rw [hR.out]; exact hown⟩, hbw⟩
end Go.Proofs.YtagibdofpcbgiaaDoor
