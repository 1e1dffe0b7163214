/- The walk of the reference's Witnesses. -/
import Derived.Test.YtphmicbpkljmfaaGreatSRc
import Derived.Test.YtphmicbpkljmfaaGreatSPl
import Derived.Test.YtphmicbpkljmfaaGreatInv2
namespace Go.Proofs.YtphmicbpkljmfaaGreat
set_option linter.unusedVariables false
set_option linter.unusedSimpArgs false
open Go.RowKit
open Cx (N fam Few)
theorem node29_any (A : Option Addr) (c : Nat) (l : List N) (n : Int) (w : World) (hl : l.length ≤ 20000) (hF : ∀ n ∈ l, NGood n) (hA : Circ w A l) :
    Calls Tryz.prog 28 #[.slice A l.length c, .int .i64 n] w fun e w' => e = .returned (.bool (Cx.isIn l n && Cx.valid l)) ∧ Below w.heap.size w w' := by
  have HV := Lib.hid (rvalid_any A c l w hl hF hA)
  have HI := Lib.hid (in_any A c l n w (by omega))
  cases hi : Cx.isIn l n
  · have HH := Lib.hid hi
    clear hi
    go_enter Tryz.func28, Tryz.ntmps28
    go_wp2_with fail
    refine HI.out.mono ?_
    rintro e w1 ⟨rfl, rfl⟩
    rw [HH.out]
    go_wp2_with fail
    go_ret
    exact ⟨rfl, Below.refl _ _⟩
  · have HH := Lib.hid hi
    clear hi
    go_enter Tryz.func28, Tryz.ntmps28
    go_wp2_with fail
    refine HI.out.mono ?_
    rintro e w1 ⟨rfl, rfl⟩
    rw [HH.out]
    go_wp2_with fail
    refine HV.out.mono ?_
    rintro e w1 ⟨rfl, b1⟩
    go_wp2_with fail
    go_ret
    exact ⟨by simp, b1⟩
/-- The families of the nodes before k that are below node i. -/
structure WInv (l : List N) (i g : Nat) (w : World) (k : Nat) (vs : List Value) : Prop where
  rest : ∀ (j : Nat) (v : Value), k ≤ j → vs[j]? = some v → v = .slice none 0 0
  done : ∀ (j : Nat) (v : Value), j < k → Cx.Reach l i j → vs[j]? = some v → ∃ G, FamA (some g) w v G ∧ G.Perm (fam l j) ∧ G.length ≤ 200
theorem WInv.off {l : List N} {i g : Nat} {w w' : World} {k : Nat} {vs : List Value} (h : WInv l i g w k vs) (hz : w.heap.size ≤ w'.heap.size) (ho : ∀ b, b < w.heap.size → b ≠ g → w'.heap[b]? = w.heap[b]?) : WInv l i g w' k vs :=
  ⟨h.rest, fun j v hj hr hv => by
    obtain ⟨G, h1, h2⟩ := h.done j v hj hr hv
    exact ⟨G, h1.off hz (fun b hb hne => ho b hb (fun e => hne (by rw [e]))), h2⟩⟩
theorem WInv.below {l : List N} {i g : Nat} {w w' : World} {k : Nat} {vs : List Value} (h : WInv l i g w k vs) (hb : Below w.heap.size w w') : WInv l i g w' k vs := h.off hb.size (fun b hb' _ => hb.block b hb')
theorem WInv.skip {l : List N} {i g : Nat} {w : World} {k : Nat} {vs : List Value} (h : WInv l i g w k vs) (hn : ¬ Cx.Reach l i k) : WInv l i g w (k + 1) vs :=
  ⟨fun j v hj hv => h.rest j v (by omega) hv, fun j v hj hr hv => by
    by_cases e : j = k
    · subst e; exact absurd hr hn
    · exact h.done j v (by omega) hr hv⟩
theorem WInv.zero {l : List N} {i g : Nat} {w : World} {vs : List Value} (hg : Cx.Good l) (h : WInv l i g w 0 vs) : WInv l i g w 1 vs :=
  ⟨fun j v hj hv => h.rest j v (by omega) hv, fun j v hj hr hv => by
    obtain rfl : j = 0 := by omega
    rw [h.rest 0 v (Nat.le_refl _) hv]
    exact ⟨[], famA_nil _ _, by rw [Cx.fam_zero hg], by simp⟩⟩
theorem WInv.put {l : List N} {i g : Nat} {w : World} {k : Nat} {vs : List Value} (h : WInv l i g w k vs) {v : Value} {G : List (List Int)} (hG : FamA (some g) w v G) (hp : G.Perm (fam l k)) (hl : G.length ≤ 200) : WInv l i g w (k + 1) (vs.set k v) :=
  ⟨fun j u hj hu => h.rest j u (by omega) (by rwa [List.getElem?_set_ne (by omega)] at hu), fun j u hj hr hu => by
    by_cases e : k = j
    · subst e
      rw [List.getElem?_set_self'] at hu
      cases hv : vs[k]? <;> rw [hv] at hu <;> simp at hu
      subst hu
      exact ⟨G, hG, hp, hl⟩
    · rw [List.getElem?_set_ne e] at hu
      exact h.done j u (by omega) hr hu⟩
/-- A value is stored in block g, new blocks are made. -/
theorem win_put {l : List N} {i g : Nat} {w w' : World} {k : Nat} {vs : List Value} {v : Value} {G : List (List Int)} (h : WInv l i g w k vs) (hb : Below w.heap.size w w') (hg : g < w.heap.size) (hG : FamA (some g) w' v G) : WInv l i g (w'.setCell ⟨g, k, none⟩ v) k vs ∧ FamA (some g) (w'.setCell ⟨g, k, none⟩ v) v G := by
  refine ⟨(h.below hb).off (by simp) (fun b _ hne => Below.heap_setCell w' _ v b hne), hG.off (by simp) (fun b _ hne => Below.heap_setCell w' _ v b (fun e => hne (by rw [e])))⟩
/-- What stands at a node of two operands. -/
def rTwo (o : Int) (F G : List (List Int)) : List (List Int) := if o = 3 then Fm.adds (Fm.adds [] F) G else Fm.adds [] (Fm.prods F G)
theorem rtwo_perm {l : List N} (h : Cx.Good l) {i a b : Nat} {v : N} (hv : l[i]? = some v) (h2 : v.o = 3 ∨ v.o = 4) (ha : v.a = a) (hb : v.b = b) (hai : a < i) (hbi : b < i) {F G : List (List Int)} (hF : F.Perm (fam l a)) (hG : G.Perm (fam l b)) : (rTwo v.o F G).Perm (fam l i) := by
  have hi := (List.getElem?_eq_some_iff.1 hv).1
  have fa := Cx.fam_is h (i := a) (by omega)
  have fb := Cx.fam_is h (i := b) (by omega)
  have iF : ∀ s ∈ F, Fm.Inc s := fun s hs => fa.fam.inc s (hF.mem_iff.1 hs)
  have iG : ∀ s ∈ G, Fm.Inc s := fun s hs => fb.fam.inc s (hG.mem_iff.1 hs)
  have uF : ∀ ts, Fm.Up F ts ↔ Cx.valF l a ts = true := fun ts => (Fm.up_perm hF).trans (fa.up ts).symm
  have uG : ∀ ts, Fm.Up G ts ↔ Cx.valF l b ts = true := fun ts => (Fm.up_perm hG).trans (fb.up ts).symm
  have e := fun ts => Cx.val_two hv h2 ha hb hai hbi ts
  unfold rTwo
  by_cases h3 : v.o = 3
  · rw [if_pos h3]
    obtain ⟨k1, u1⟩ := Fm.adds_all F [] Fm.anti_nil iF
    obtain ⟨k2, u2⟩ := Fm.adds_all G _ k1 iG
    refine k2.perm (Cx.fam_is h hi).fam.is_anti fun ts => ?_
    rw [u2, u1, ← (Cx.fam_is h hi).up, uF, uG]
    show _ ↔ (Cx.values ts l).getD i false = true
    rw [e ts, Cx.opV, if_pos h3, Bool.or_eq_true]
    simp only [Fm.up_nil, false_or]; exact Iff.rfl
  · rw [if_neg h3]
    obtain ⟨k1, u1⟩ := Fm.adds_all (Fm.prods F G) [] Fm.anti_nil (Fm.prods_inc iF iG)
    refine k1.perm (Cx.fam_is h hi).fam.is_anti fun ts => ?_
    rw [u1, Fm.up_prods, ← (Cx.fam_is h hi).up, uF, uG]
    show _ ↔ (Cx.values ts l).getD i false = true
    rw [e ts, Cx.opV, if_neg h3, Bool.and_eq_true]
    simp only [Fm.up_nil, false_or]; exact Iff.rfl
theorem two29_any (o : Int) (q : Option Nat) (A : Option Addr) (c : Nat) (F : List (List Int)) (B : Option Addr) (d : Nat) (G : List (List Int)) (w : World) (hlF : F.length ≤ 200) (hlG : G.length ≤ 200) (hiF : ∀ s ∈ F, s.length ≤ 100000 ∧ Fm.Inc s) (hiG : ∀ s ∈ G, s.length ≤ 100000 ∧ Fm.Inc s) (hq : Lo q w.heap.size) (hF : FamA q w (.slice A F.length c) F) (hG : FamA q w (.slice B G.length d) G) (f : FuncId) (hf : f = if o = 3 then 20 else 22) :
    Calls Tryz.prog f #[.slice A F.length c, .slice B G.length d] w (FamOut q (rTwo o F G) w) := by
  unfold rTwo
  subst hf
  by_cases h : o = 3
  · rw [if_pos h, if_pos h]; exact plus29_any q A c F B d G w (by omega) (by omega) hq hF hG
  · rw [if_neg h, if_neg h]; exact times29_any q A c F B d G w (by omega) (by omega) hiF hiG hq hF hG
theorem famA_one {w : World} {g : Nat} (hg : g < w.heap.size) (s : List Int) (hs : s.length ≤ maxLen) (e1 e2 : TypeId) : FamA (some g) ((w.alloc (.cells (icells s).toArray e1)).alloc (.cells #[.slice (some ⟨w.heap.size, 0, none⟩) s.length s.length] e2)) (.slice (some ⟨w.heap.size + 1, 0, none⟩) 1 1) [s] := by
  have a1 : At ((w.alloc (.cells (icells s).toArray e1)).alloc (.cells #[.slice (some ⟨w.heap.size, 0, none⟩) s.length s.length] e2)) w.heap.size e1 (icells s).toArray := (At.new w e1 _).alloc _
  have a2 : At ((w.alloc (.cells (icells s).toArray e1)).alloc (.cells #[.slice (some ⟨w.heap.size, 0, none⟩) s.length s.length] e2)) (w.heap.size + 1) e2 #[.slice (some ⟨w.heap.size, 0, none⟩) s.length s.length] := At.newAt (by simp) e2 _
  have hS : SetV ((w.alloc (.cells (icells s).toArray e1)).alloc (.cells #[.slice (some ⟨w.heap.size, 0, none⟩) s.length s.length] e2)) (.slice (some ⟨w.heap.size, 0, none⟩) s.length s.length) s :=
    ⟨_, _, rfl, Nat.le_refl _, hs, (fun h => by cases h), fun _ => ⟨_, 0, rfl, a1.lt, fun k x hx => by rw [Nat.zero_add, a1.cell, List.getElem?_toArray]; exact icells_at hx⟩⟩
  refine ⟨⟨_, 1, rfl, Nat.le_refl _, by unfold maxLen; omega, ⟨(fun h => by cases h), fun ad h => by injection h with h; subst h; rfl⟩, fun _ => ⟨_, 0, [_], rfl, a2.lt, hdrs_one hS, fun k v hv => ?_⟩⟩, fun ad n c e h => ?_, fun ad n c e k u hk hu => ?_⟩
  · rw [Nat.zero_add, a2.cell]
    cases k with
    | zero => simpa using hv
    | succ k => simp at hv
  · injection e with e
    injection e with e
    subst e
    injection h with h
    simp at h
    omega
  · injection e with e
    injection e with e
    subst e
    obtain rfl : k = 0 := by simpa using hk
    rw [add_off, a2.cell] at hu
    simp at hu
    subst hu
    intro ad' n' c' e' h'
    injection e' with e'
    injection e' with e'
    subst e'
    injection h' with h'
    simp at h'
    omega
theorem fams_info : (Tryz.prog.info? 30).map (fun i => (i.zero, i.size, i.bytes)) = some (some (.slice none 0 0), 1, 24) := by kernel_rfl
theorem run_make_24 {P : Program} (w : World) {t e : TypeId} {i : TypeInfo} {z : Value} (ht : P.underlying t = some (.slice e)) (hi : P.info? e = some i) (hz : i.zero = some z) (h1 : i.size = 1) (hb : i.bytes ≤ 24) (hc : z.cells = #[z]) (n : Nat) (hn : n ≤ 1000000) :
    (Instr.makeSlice t (.int .i64 (n : Int)) (.int .i64 (n : Int))).run P w = .ok (.slice (some ⟨w.heap.size, 0, none⟩) n n) (w.alloc (.cells (List.replicate n z).toArray e)) := by
  have hbb : i.bytes * n ≤ 24 * 1000000 := Nat.mul_le_mul hb hn
  have hb' : (i.bytes : Int) * (n : Int) ≤ 281474976710656 := by
    have h : ((i.bytes * n : Nat) : Int) ≤ 281474976710656 := by omega
    rwa [Int.natCast_mul] at h
  rw [run_makeSlice w t e i z ht hi hz .i64 .i64 n n (by omega) (by omega) (by rw [h1]; simp; omega) hb' (by omega)]
  rw [h1, Int.toNat_natCast, made_one z n hc]
theorem run_make_fams (w : World) (n : Nat) (hn : n ≤ 1000000) : (Instr.makeSlice 56 (.int .i64 (n : Int)) (.int .i64 (n : Int))).run Tryz.prog w = .ok (.slice (some ⟨w.heap.size, 0, none⟩) n n) (w.alloc (.cells (List.replicate n (Value.slice none 0 0)).toArray 30)) := by
  obtain ⟨i0, hi, hz0, hz1, hz2⟩ := info_parts fams_info
  exact run_make_24 w Tryz.underlying56 hi hz0 hz1 (by rw [hz2]; decide) rfl n hn
/-- What the reference's Witnesses leaves. -/
def W29Out (l : List N) (n : Int) (w : World) (e : Ending) (w' : World) : Prop := ∃ v, e = .returned (.tuple #[v, .int .i64 (wcode l n)]) ∧ FamV w' v (wlist l n) ∧ Below w.heap.size w w'
set_option maxHeartbeats 4000000 in
set_option maxRecDepth 100000 in
theorem wit29_any (A : Option Addr) (c : Nat) (l : List N) (n : Int) (w : World) (hl : l.length ≤ 20000) (hF : ∀ n ∈ l, NGood n) (hA : Circ w A l) :
    Calls Tryz.prog 13 #[.slice A l.length c, .int .i64 n] w (W29Out l n w) := by
  have HC := Lib.hid (node29_any A c l n w hl hF hA)
  cases hh : Cx.isIn l n && Cx.valid l with
  | false =>
    have hw : wcode l n = 1 := by unfold wcode; rw [hh]; rfl
    have HL := Lib.hid (show wlist l n = [] by unfold wlist; rw [hw]; rfl)
    have HW := Lib.hid hw
    have HH := Lib.hid hh
    clear hh hw
    go_enter Tryz.func13, Tryz.ntmps13
    go_wp2_with fail
    refine HC.out.mono ?_
    rintro e w1 ⟨rfl, b1⟩
    rw [HH.out]
    go_wp2_with fail
    go_ret2
    exact ⟨_, by rw [HW.out]; rfl, by rw [HL.out]; exact famV_nil _, b1⟩
  | true =>
    have hh' := hh
    rw [Bool.and_eq_true] at hh'
    obtain ⟨i, rfl, hi⟩ := Cx.isIn_get hh'.1
    have hg := Cx.valid_good hh'.2
    have HWC := Lib.hid (show (Few l i → wcode l (i : Int) = 0) ∧ (¬ Few l i → wcode l (i : Int) = 2) by
      unfold wcode; rw [hh, if_pos rfl, Int.toNat_natCast]
      exact ⟨fun h => if_pos h, fun h => if_neg h⟩)
    have HH := Lib.hid hh
    have HFU := Lib.hid hF
    clear hh hh' hF
    go_enter Tryz.func13, Tryz.ntmps13
    go_wp2_with fail
    refine HC.out.mono ?_
    rintro e w1 ⟨rfl, b1⟩
    rw [HH.out]
    have HB := Lib.hid (below_any A c l i w1 hg hl hi (hA.below b1))
    go_wp2_with fail
    refine HB.out.mono ?_
    rintro e w2 ⟨gb, rfl, hgb, hab, b2⟩
    have hbl : (Cx.below l i).length = l.length := Cx.below_len _ _
    have HBI := Lib.hid (fun j => Cx.below_iff hg hi j)
    generalize Cx.below l i = bs at *
    rw [hbl]
    have hbw2 : Below w.heap.size w w2 := b1.trans (b2.mono b1.size)
    have hA2 := hA.below hbw2
    have hgbl := hab.lt
    have q0 := run_make_fams w2 l.length (by omega)
    have b3 : Below w2.heap.size w2 (w2.alloc (.cells (List.replicate l.length (Value.slice none 0 0)).toArray 30)) := below1 _ _
    have a3 : At (w2.alloc (.cells (List.replicate l.length (Value.slice none 0 0)).toArray 30)) w2.heap.size 30 (List.replicate l.length (Value.slice none 0 0)).toArray := At.new _ _ _
    obtain ⟨w3, hw3⟩ : ∃ w3, w3 = w2.alloc (.cells (List.replicate l.length (Value.slice none 0 0)).toArray 30) := ⟨_, rfl⟩
    rw [← hw3] at q0 b3 a3
    have i2 : (l.length : Int) ≤ 20000 := by omega
    clear hw3 HB HC b1 b2 HH
    go_wp2_with fail
    go_loopw [9] (fun x wr => ∃ (k : Nat) (vs : List Value), k ≤ i + 1 ∧ x = .int .i64 k ∧ vs.length = l.length ∧ At wr w2.heap.size 30 vs.toArray ∧ Below w2.heap.size w2 wr ∧ Hid (WInv l i w2.heap.size wr k vs)) (fun x _ => i + 1 - (intOf x).toNat)
    case atStart => exact ⟨0, _, by omega, rfl, by simp, a3, b3, Lib.hid ⟨fun j v _ hv => (List.mem_replicate.1 (List.mem_of_getElem? hv)).2, fun j v hj => by omega⟩⟩
    case round =>
      clear a3 b3 q0
      obtain ⟨k, vs, hk, rfl, hvl, hat, hbw, HI⟩ := hrel
      have hgw : w2.heap.size < wr.heap.size := hat.lt
      by_cases h1 : k ≤ i
      · have d1 : decide ((k : Int) ≤ (i : Int)) = true := by simp; omega
        have hkl : k < l.length := by omega
        have j0 : (0 : Int) ≤ (k : Int) := by omega
        have j1 : (k : Int) < (l.length : Int) := by omega
        obtain ⟨b, hb⟩ : ∃ b, bs[k]? = some b := ⟨_, List.getElem?_eq_getElem (by omega)⟩
        have x0 := (hab.below hbw hgbl).bools hb
        cases b with
        | false =>
          have HN := Lib.hid (HI.out.skip (fun hr => by have := (HBI.out k).2 hr; rw [hb] at this; cases this))
          clear hb
          go_wp2_with fail
          go_roundw
          case rel => exact ⟨k + 1, vs, by omega, by go_num, hvl, hat, hbw, HN⟩
          case measure => simp [intOf]; omega
        | true =>
          have hrk := (HBI.out k).1 hb
          have HRK := Lib.hid hrk
          clear hb
          obtain ⟨gA, o, rfl, hgA, c0', c1', c2'⟩ := hA2.at hkl
          have c0 := (hbw.cell hgA).trans c0'
          have c1 := (hbw.cell hgA).trans c1'
          have c2 := (hbw.cell hgA).trans c2'
          have e1 := getElem_of hkl
          have hvk := getElem_of (show k < vs.length by omega)
          have hkind := hg.kind hkl
          have hng := HFU.out _ (List.getElem_mem hkl)
          generalize l[k] = v at *
          generalize vs[k] = u at *
          clear c0' c1' c2' hrk
          by_cases h0 : v.o = 0
          · have hk0 : k = 0 := by
              cases hkind with
              | zero h => rfl
              | one h => rw [h] at e1; obtain rfl := Option.some.inj e1; simp [Cx.one] at h0
              | @var _ v' hv _ h _ _ => rw [e1] at hv; obtain rfl := Option.some.inj hv; omega
              | @two _ v' a b hv _ h _ _ _ _ _ => rw [e1] at hv; obtain rfl := Option.some.inj hv; omega
            have t1 : (v.o == 1) = false := by simp; omega
            have t2 : (v.o == 2) = false := by simp; omega
            have t3 : (v.o == 3) = false := by simp; omega
            have t4 : (v.o == 4) = false := by simp; omega
            have hu := HI.out.rest k u (Nat.le_refl _) hvk
            subst hu
            have xk := hat.cell k
            rw [List.getElem?_toArray, hvk] at xk
            have HN := Lib.hid (show WInv l i w2.heap.size wr (k + 1) vs by have := HI.out; subst hk0; exact this.zero hg)
            clear e1 hvk hkind h0 hng hk0
            go_wp2_with fail
            go_roundw
            case rel => exact ⟨k + 1, vs, by omega, by go_num, hvl, hat, hbw, HN⟩
            case measure => simp [intOf]; omega
          · by_cases h1' : v.o = 1
            · have hf : fam l k = [[]] := by
                cases hkind with
                | zero h => rw [h] at e1; obtain rfl := Option.some.inj e1; exact absurd rfl h0
                | one h => exact Cx.fam_one hg
                | @var _ v' hv _ h _ _ => rw [e1] at hv; obtain rfl := Option.some.inj hv; omega
                | @two _ v' a b hv _ h _ _ _ _ _ => rw [e1] at hv; obtain rfl := Option.some.inj hv; omega
              have t1 : (v.o == 1) = true := by simp; omega
              have at2 : At ((wr.alloc (.cells #[] 3)).alloc (.cells #[.slice (some ⟨wr.heap.size, 0, none⟩) 0 0] 24)) w2.heap.size 30 vs.toArray := (hat.alloc _).alloc _
              have xk0 := hat.cell k
              rw [List.getElem?_toArray, hvk] at xk0
              have fz0 := hat.frozen k
              have xk := at2.cell k
              rw [List.getElem?_toArray, hvk] at xk
              have fz := at2.frozen k
              have hsz : (wr.setCell ⟨w2.heap.size, k, none⟩ (.slice (some ⟨wr.heap.size + 1, 0, none⟩) 1 1)).heap.size = wr.heap.size := by simp
              have at3 : At (((wr.setCell ⟨w2.heap.size, k, none⟩ (.slice (some ⟨wr.heap.size + 1, 0, none⟩) 1 1)).alloc (.cells #[] 3)).alloc (.cells #[.slice (some ⟨wr.heap.size, 0, none⟩) 0 0] 24)) w2.heap.size 30 (vs.set k (.slice (some ⟨wr.heap.size + 1, 0, none⟩) 1 1)).toArray := by
                have := ((hat.put k (.slice (some ⟨wr.heap.size + 1, 0, none⟩) 1 1)).alloc (.cells #[] 3)).alloc (.cells #[.slice (some ⟨wr.heap.size, 0, none⟩) 0 0] 24)
                rw [List.setIfInBounds_toArray] at this; exact this
              have xk3 := at3.cell k
              rw [List.getElem?_toArray, List.getElem?_set_self (by omega)] at xk3
              have bS : Below (wr.setCell ⟨w2.heap.size, k, none⟩ (.slice (some ⟨wr.heap.size + 1, 0, none⟩) 1 1)).heap.size (wr.setCell ⟨w2.heap.size, k, none⟩ (.slice (some ⟨wr.heap.size + 1, 0, none⟩) 1 1)) (((wr.setCell ⟨w2.heap.size, k, none⟩ (.slice (some ⟨wr.heap.size + 1, 0, none⟩) 1 1)).alloc (.cells #[] 3)).alloc (.cells #[.slice (some ⟨wr.heap.size, 0, none⟩) 0 0] 24)) := (below1 (wr.setCell ⟨w2.heap.size, k, none⟩ (.slice (some ⟨wr.heap.size + 1, 0, none⟩) 1 1)) _).alloc (by simp) _
              have fo : FamA (some w2.heap.size) (((wr.setCell ⟨w2.heap.size, k, none⟩ (.slice (some ⟨wr.heap.size + 1, 0, none⟩) 1 1)).alloc (.cells #[] 3)).alloc (.cells #[.slice (some ⟨wr.heap.size, 0, none⟩) 0 0] 24)) (.slice (some ⟨wr.heap.size + 1, 0, none⟩) 1 1) [[]] := by
                have := famA_one (w := (wr.setCell ⟨w2.heap.size, k, none⟩ (.slice (some ⟨wr.heap.size + 1, 0, none⟩) 1 1))) (g := w2.heap.size) (by rw [hsz]; exact hgw) [] (by simp [maxLen]) 3 24
                rw [hsz] at this; exact this
              have HN := Lib.hid (show WInv l i w2.heap.size (((wr.setCell ⟨w2.heap.size, k, none⟩ (.slice (some ⟨wr.heap.size + 1, 0, none⟩) 1 1)).alloc (.cells #[] 3)).alloc (.cells #[.slice (some ⟨wr.heap.size, 0, none⟩) 0 0] 24)) (k + 1) (vs.set k (.slice (some ⟨wr.heap.size + 1, 0, none⟩) 1 1)) from (HI.out.off (by simp; omega) (fun b hb hne => (bS.block b (by rw [hsz]; exact hb)).trans (Below.heap_setCell wr _ _ b hne))).put fo (by rw [hf]) (by simp))
              have bW : Below w2.heap.size w2 (((wr.setCell ⟨w2.heap.size, k, none⟩ (.slice (some ⟨wr.heap.size + 1, 0, none⟩) 1 1)).alloc (.cells #[] 3)).alloc (.cells #[.slice (some ⟨wr.heap.size, 0, none⟩) 0 0] 24)) := (hbw.setCell (p := ⟨w2.heap.size, k, none⟩) (Nat.le_refl _) (.slice (some ⟨wr.heap.size + 1, 0, none⟩) 1 1)).trans (bS.mono (by rw [hsz]; omega))
              clear e1 hvk hkind hng fo bS hf hsz h0 h1'
              go_wp2_with fail
              go_roundw
              case rel => exact ⟨k + 1, _, by omega, by go_num, by simpa using hvl, at3, bW, HN⟩
              case measure => simp [intOf]; omega
            · by_cases h2 : v.o = 2
              · have hf : fam l k = [[v.a]] := Cx.fam_var hg e1 h2
                have t1 : (v.o == 1) = false := by simp; omega
                have t2 : (v.o == 2) = true := by simp; omega
                have at2 : At ((wr.alloc (.cells #[.int .i64 v.a] 3)).alloc (.cells #[.slice (some ⟨wr.heap.size, 0, none⟩) 1 1] 24)) w2.heap.size 30 vs.toArray := (hat.alloc _).alloc _
                have xk0 := hat.cell k
                rw [List.getElem?_toArray, hvk] at xk0
                have fz0 := hat.frozen k
                have xk := at2.cell k
                rw [List.getElem?_toArray, hvk] at xk
                have fz := at2.frozen k
                have hsz : (wr.setCell ⟨w2.heap.size, k, none⟩ (.slice (some ⟨wr.heap.size + 1, 0, none⟩) 1 1)).heap.size = wr.heap.size := by simp
                have at3 : At (((wr.setCell ⟨w2.heap.size, k, none⟩ (.slice (some ⟨wr.heap.size + 1, 0, none⟩) 1 1)).alloc (.cells #[.int .i64 v.a] 3)).alloc (.cells #[.slice (some ⟨wr.heap.size, 0, none⟩) 1 1] 24)) w2.heap.size 30 (vs.set k (.slice (some ⟨wr.heap.size + 1, 0, none⟩) 1 1)).toArray := by
                  have := ((hat.put k (.slice (some ⟨wr.heap.size + 1, 0, none⟩) 1 1)).alloc (.cells #[.int .i64 v.a] 3)).alloc (.cells #[.slice (some ⟨wr.heap.size, 0, none⟩) 1 1] 24)
                  rw [List.setIfInBounds_toArray] at this; exact this
                have xk3 := at3.cell k
                rw [List.getElem?_toArray, List.getElem?_set_self (by omega)] at xk3
                have bS : Below (wr.setCell ⟨w2.heap.size, k, none⟩ (.slice (some ⟨wr.heap.size + 1, 0, none⟩) 1 1)).heap.size (wr.setCell ⟨w2.heap.size, k, none⟩ (.slice (some ⟨wr.heap.size + 1, 0, none⟩) 1 1)) (((wr.setCell ⟨w2.heap.size, k, none⟩ (.slice (some ⟨wr.heap.size + 1, 0, none⟩) 1 1)).alloc (.cells #[.int .i64 v.a] 3)).alloc (.cells #[.slice (some ⟨wr.heap.size, 0, none⟩) 1 1] 24)) := (below1 (wr.setCell ⟨w2.heap.size, k, none⟩ (.slice (some ⟨wr.heap.size + 1, 0, none⟩) 1 1)) _).alloc (by simp) _
                have fo : FamA (some w2.heap.size) (((wr.setCell ⟨w2.heap.size, k, none⟩ (.slice (some ⟨wr.heap.size + 1, 0, none⟩) 1 1)).alloc (.cells #[.int .i64 v.a] 3)).alloc (.cells #[.slice (some ⟨wr.heap.size, 0, none⟩) 1 1] 24)) (.slice (some ⟨wr.heap.size + 1, 0, none⟩) 1 1) [[v.a]] := by
                  have := famA_one (w := (wr.setCell ⟨w2.heap.size, k, none⟩ (.slice (some ⟨wr.heap.size + 1, 0, none⟩) 1 1))) (g := w2.heap.size) (by rw [hsz]; exact hgw) [v.a] (by simp [maxLen]) 3 24
                  rw [hsz] at this; exact this
                have HN := Lib.hid (show WInv l i w2.heap.size (((wr.setCell ⟨w2.heap.size, k, none⟩ (.slice (some ⟨wr.heap.size + 1, 0, none⟩) 1 1)).alloc (.cells #[.int .i64 v.a] 3)).alloc (.cells #[.slice (some ⟨wr.heap.size, 0, none⟩) 1 1] 24)) (k + 1) (vs.set k (.slice (some ⟨wr.heap.size + 1, 0, none⟩) 1 1)) from (HI.out.off (by simp; omega) (fun b hb hne => (bS.block b (by rw [hsz]; exact hb)).trans (Below.heap_setCell wr _ _ b hne))).put fo (by rw [hf]) (by simp))
                have bW : Below w2.heap.size w2 (((wr.setCell ⟨w2.heap.size, k, none⟩ (.slice (some ⟨wr.heap.size + 1, 0, none⟩) 1 1)).alloc (.cells #[.int .i64 v.a] 3)).alloc (.cells #[.slice (some ⟨wr.heap.size, 0, none⟩) 1 1] 24)) := (hbw.setCell (p := ⟨w2.heap.size, k, none⟩) (Nat.le_refl _) (.slice (some ⟨wr.heap.size + 1, 0, none⟩) 1 1)).trans (bS.mono (by rw [hsz]; omega))
                clear e1 hvk hkind hng fo bS hf hsz h0 h1' h2
                go_wp2_with fail
                go_roundw
                case rel => exact ⟨k + 1, _, by omega, by go_num, by simpa using hvl, at3, bW, HN⟩
                case measure => simp [intOf]; omega
              · have h34 : v.o = 3 ∨ v.o = 4 := by
                  cases hkind with
                  | zero h => rw [h] at e1; obtain rfl := Option.some.inj e1; exact absurd rfl h0
                  | one h => rw [h] at e1; obtain rfl := Option.some.inj e1; exact absurd rfl h1'
                  | @var _ v' hv _ h _ _ => rw [e1] at hv; obtain rfl := Option.some.inj hv; exact absurd h h2
                  | @two _ v' a b hv _ h _ _ _ _ _ => rw [e1] at hv; obtain rfl := Option.some.inj hv; exact h
                obtain ⟨a, b, ea, eb, hak, hbk⟩ : ∃ a b : Nat, v.a = a ∧ v.b = b ∧ a < k ∧ b < k := by
                  cases hkind with
                  | zero h => rw [h] at e1; obtain rfl := Option.some.inj e1; exact absurd rfl h0
                  | one h => rw [h] at e1; obtain rfl := Option.some.inj e1; exact absurd rfl h1'
                  | @var _ v' hv _ h _ _ => rw [e1] at hv; obtain rfl := Option.some.inj hv; exact absurd h h2
                  | @two _ v' a b hv _ h ha hb _ _ _ => rw [e1] at hv; obtain rfl := Option.some.inj hv; exact ⟨a, b, ha, hb, by omega, by omega⟩
                have ra : Cx.Reach l i a := by have := HRK.out.left e1 h34; rwa [ea, Int.toNat_natCast] at this
                have rb : Cx.Reach l i b := by have := HRK.out.right e1 h34; rwa [eb, Int.toNat_natCast] at this
                obtain ⟨ua, hua⟩ : ∃ u, vs[a]? = some u := ⟨_, List.getElem?_eq_getElem (by omega)⟩
                obtain ⟨ub, hub⟩ : ∃ u, vs[b]? = some u := ⟨_, List.getElem?_eq_getElem (by omega)⟩
                obtain ⟨Ga, fa, pa, la⟩ := HI.out.done a ua hak ra hua
                obtain ⟨Gb, fb, pb, lb⟩ := HI.out.done b ub hbk rb hub
                obtain ⟨Aa, ca, rfl, _, fa⟩ := fa.open
                obtain ⟨Ab, cb, rfl, _, fb⟩ := fb.open
                have iGa : ∀ s ∈ Ga, s.length ≤ 100000 ∧ Fm.Inc s := fun s hs => ⟨Nat.le_trans (fam_len hg (n := a) (by omega) (pa.mem_iff.1 hs)) (by omega), (Cx.fam_is hg (i := a) (by omega)).fam.inc s (pa.mem_iff.1 hs)⟩
                have iGb : ∀ s ∈ Gb, s.length ≤ 100000 ∧ Fm.Inc s := fun s hs => ⟨Nat.le_trans (fam_len hg (n := b) (by omega) (pb.mem_iff.1 hs)) (by omega), (Cx.fam_is hg (i := b) (by omega)).fam.inc s (pb.mem_iff.1 hs)⟩
                have HPM := Lib.hid (rtwo_perm hg e1 h34 ea eb hak hbk pa pb)
                have HTW := Lib.hid (show ∀ W, Below wr.heap.size wr W → Calls Tryz.prog (if v.o = 3 then 20 else 22) #[.slice Aa Ga.length ca, .slice Ab Gb.length cb] W (FamOut (some w2.heap.size) (rTwo v.o Ga Gb) W) from fun W hW =>
                  two29_any v.o (some w2.heap.size) Aa ca Ga Ab cb Gb W la lb iGa iGb (fun b h => by injection h with h; subst h; exact Nat.lt_of_lt_of_le hgw hW.size) (fa.below hW) (fb.below hW) _ rfl)
                generalize rTwo v.o Ga Gb = H at *
                have HNX := Lib.hid (show ∀ (W : World) (u : Value), WInv l i w2.heap.size W k vs ∧ FamA (some w2.heap.size) W u H → H.length ≤ 200 → WInv l i w2.heap.size W (k + 1) (vs.set k u) from fun W u h hl => h.1.put h.2 HPM.out hl)
                have HAT := Lib.hid (show ∀ W, Below wr.heap.size wr W → At W w2.heap.size 30 vs.toArray from fun W hW => hat.next hW)
                have HG := Lib.hid hgw
                have HVK := Lib.hid hvk
                rw [ea] at c1
                rw [eb] at c2
                have xa := hat.cell a
                rw [List.getElem?_toArray, hua] at xa
                have xb := hat.cell b
                rw [List.getElem?_toArray, hub] at xb
                have HBD := Lib.hid (show ∀ W, Below wr.heap.size wr W → W.cell? ⟨gA, o + k * 3 + 1, none⟩ = some (.int .i64 a) ∧ W.cell? ⟨gA, o + k * 3 + 2, none⟩ = some (.int .i64 b) ∧ W.cell? ⟨w2.heap.size, a, none⟩ = some (.slice Aa Ga.length ca) ∧ W.cell? ⟨w2.heap.size, b, none⟩ = some (.slice Ab Gb.length cb) from fun W hW =>
                  ⟨(hW.cell (Nat.lt_of_lt_of_le hgA hbw.size)).trans c1, (hW.cell (Nat.lt_of_lt_of_le hgA hbw.size)).trans c2, (hW.cell hgw).trans xa, (hW.cell hgw).trans xb⟩)
                have a0 : (0 : Int) ≤ (a : Int) := by omega
                have a1 : (a : Int) < (l.length : Int) := by omega
                have b0 : (0 : Int) ≤ (b : Int) := by omega
                have b1 : (b : Int) < (l.length : Int) := by omega
                have t1 : (v.o == 1) = false := by simp; omega
                have t2 : (v.o == 2) = false := by simp; omega
                have HNF := Lib.hid (show 200 < H.length → ¬ Few l i from fun h hf => by have := hf k HRK.out; rw [← HPM.out.length_eq] at this; omega)
                clear hua hub fa fb pa pb iGa iGb xa xb c1 c2 e1 hvk hkind ea eb ra rb h0 h1' h2 hng
                by_cases h3 : v.o = 3
                · have t3 : (v.o == 3) = true := by simp; omega
                  rw [if_pos h3] at HTW
                  clear h3 h34
                  go_wp2_with fail
                  refine' wp_region_last 20 _ _ (Below wr.heap.size wr) (Onward) (Vl :: Vl :: Vl :: Vl :: Vl :: Vl :: Vl :: Vl :: Vl :: Vl :: Vl :: Vl :: Vl :: Vl :: Vl :: Vl :: Vl :: Vl :: FamP (some w2.heap.size) H :: Vl :: []) ?hF (by kernel_rfl) (by kernel_rfl) (by kernel_rfl) (by rfl) (by rfl) (by rfl) (by kernel_rfl) ((Below.refl _ _).drew) (lasting_cons (lasting_vl) (lasting_cons (lasting_vl) (lasting_cons (lasting_vl) (lasting_cons (lasting_vl) (lasting_cons (lasting_vl) (lasting_cons (lasting_vl) (lasting_cons (lasting_vl) (lasting_cons (lasting_vl) (lasting_cons (lasting_vl) (lasting_cons (lasting_vl) (lasting_cons (lasting_vl) (lasting_cons (lasting_vl) (lasting_cons (lasting_vl) (lasting_cons (lasting_vl) (lasting_cons (lasting_vl) (lasting_cons (lasting_vl) (lasting_cons (lasting_vl) (lasting_cons (lasting_vl) (lasting_cons (lasting_famP _ _) (lasting_cons (lasting_vl) (lasting_none))))))))))))))))))))) ?hops ?hlast
                  case hF => (intro v; simp only [over, Act.put, List.setIfInBounds_toArray, List.set_cons_zero, List.set_cons_succ, Nat.zero_add, Nat.reduceAdd]; exact rfl)
                  case hops =>
                    refine ⟨?_, ?_⟩
                    · intro v w' hj hd hs K hK
                      have hk := hK.out
                      simp only [Act.put, List.setIfInBounds_toArray, List.set_cons_zero, List.set_cons_succ] at hk
                      have HK := Lib.hid hk
                      clear hd hs hk hK
                      go_simp
                      exact HK.out _ _ hj.out (Below.refl _ _) (show _ = _ from rfl)
                    refine ⟨?_, ?_⟩
                    · intro v w' hj hd hs K hK
                      have hk := hK.out
                      simp only [Act.put, List.setIfInBounds_toArray, List.set_cons_zero, List.set_cons_succ] at hk
                      have HK := Lib.hid hk
                      clear hd hs hk hK
                      go_simp
                      exact HK.out _ _ hj.out (Below.refl _ _) (show _ = _ from rfl)
                    refine ⟨?_, ?_⟩
                    · intro v w' hj hd hs K hK
                      have hk := hK.out
                      simp only [Act.put, List.setIfInBounds_toArray, List.set_cons_zero, List.set_cons_succ] at hk
                      have HK := Lib.hid hk
                      clear hd hs hk hK
                      go_simp
                      exact HK.out _ _ hj.out (Below.refl _ _) (show _ = _ from rfl)
                    refine ⟨?_, ?_⟩
                    · intro v w' hj hd hs K hK
                      have hk := hK.out
                      simp only [Act.put, List.setIfInBounds_toArray, List.set_cons_zero, List.set_cons_succ] at hk
                      have HK := Lib.hid hk
                      clear hd hs hk hK
                      go_simp
                      exact HK.out _ _ hj.out (Below.refl _ _) (show _ = _ from rfl)
                    refine ⟨?_, ?_⟩
                    · intro v w' hj hd hs K hK
                      have hk := hK.out
                      simp only [Act.put, List.setIfInBounds_toArray, List.set_cons_zero, List.set_cons_succ] at hk
                      have HK := Lib.hid hk
                      clear hd hs hk hK
                      go_simp
                      exact HK.out _ _ hj.out (Below.refl _ _) (show _ = _ from rfl)
                    refine ⟨?_, ?_⟩
                    · intro v w' hj hd hs K hK
                      have t3 : v 3 = _ := hd.out 3 (by kernel_rfl)
                      have t4 : v 4 = _ := hd.out 4 (by kernel_rfl)
                      obtain ⟨x1, x2, x3, x4⟩ := HBD.out _ hj.out
                      have hk := hK.out
                      simp only [t3, t4, Act.put, List.setIfInBounds_toArray, List.set_cons_zero, List.set_cons_succ] at hk
                      have HK := Lib.hid hk
                      clear hd hs hk hK
                      go_simp
                      exact HK.out _ _ hj.out (Below.refl _ _) (show _ = _ from rfl)
                    refine ⟨?_, ?_⟩
                    · intro v w' hj hd hs K hK
                      have t5 : v 5 = _ := hd.out 5 (by kernel_rfl)
                      obtain ⟨x1, x2, x3, x4⟩ := HBD.out _ hj.out
                      have hk := hK.out
                      simp only [t5, Act.put, List.setIfInBounds_toArray, List.set_cons_zero, List.set_cons_succ] at hk
                      have HK := Lib.hid hk
                      clear hd hs hk hK
                      go_simp
                      exact HK.out _ _ hj.out (Below.refl _ _) (show _ = _ from rfl)
                    refine ⟨?_, ?_⟩
                    · intro v w' hj hd hs K hK
                      have t6 : v 6 = _ := hd.out 6 (by kernel_rfl)
                      obtain ⟨x1, x2, x3, x4⟩ := HBD.out _ hj.out
                      have hk := hK.out
                      simp only [t6, Act.put, List.setIfInBounds_toArray, List.set_cons_zero, List.set_cons_succ] at hk
                      have HK := Lib.hid hk
                      clear hd hs hk hK
                      go_simp
                      exact HK.out _ _ hj.out (Below.refl _ _) (show _ = _ from rfl)
                    refine ⟨?_, ?_⟩
                    · intro v w' hj hd hs K hK
                      have t2 : v 2 = _ := hd.out 2 (by kernel_rfl)
                      have t7 : v 7 = _ := hd.out 7 (by kernel_rfl)
                      obtain ⟨x1, x2, x3, x4⟩ := HBD.out _ hj.out
                      have hk := hK.out
                      simp only [t2, t7, Act.put, List.setIfInBounds_toArray, List.set_cons_zero, List.set_cons_succ] at hk
                      have HK := Lib.hid hk
                      clear hd hs hk hK
                      go_simp
                      exact HK.out _ _ hj.out (Below.refl _ _) (show _ = _ from rfl)
                    refine ⟨?_, ?_⟩
                    · intro v w' hj hd hs K hK
                      have t8 : v 8 = _ := hd.out 8 (by kernel_rfl)
                      obtain ⟨x1, x2, x3, x4⟩ := HBD.out _ hj.out
                      have hk := hK.out
                      simp only [t8, Act.put, List.setIfInBounds_toArray, List.set_cons_zero, List.set_cons_succ] at hk
                      have HK := Lib.hid hk
                      clear hd hs hk hK
                      go_simp
                      exact HK.out _ _ hj.out (Below.refl _ _) (show _ = _ from rfl)
                    refine ⟨?_, ?_⟩
                    · intro v w' hj hd hs K hK
                      have hk := hK.out
                      simp only [Act.put, List.setIfInBounds_toArray, List.set_cons_zero, List.set_cons_succ] at hk
                      have HK := Lib.hid hk
                      clear hd hs hk hK
                      go_simp
                      exact HK.out _ _ hj.out (Below.refl _ _) (show _ = _ from rfl)
                    refine ⟨?_, ?_⟩
                    · intro v w' hj hd hs K hK
                      have hk := hK.out
                      simp only [Act.put, List.setIfInBounds_toArray, List.set_cons_zero, List.set_cons_succ] at hk
                      have HK := Lib.hid hk
                      clear hd hs hk hK
                      go_simp
                      exact HK.out _ _ hj.out (Below.refl _ _) (show _ = _ from rfl)
                    refine ⟨?_, ?_⟩
                    · intro v w' hj hd hs K hK
                      have hk := hK.out
                      simp only [Act.put, List.setIfInBounds_toArray, List.set_cons_zero, List.set_cons_succ] at hk
                      have HK := Lib.hid hk
                      clear hd hs hk hK
                      go_simp
                      exact HK.out _ _ hj.out (Below.refl _ _) (show _ = _ from rfl)
                    refine ⟨?_, ?_⟩
                    · intro v w' hj hd hs K hK
                      have t11 : v 11 = _ := hd.out 11 (by kernel_rfl)
                      have t12 : v 12 = _ := hd.out 12 (by kernel_rfl)
                      obtain ⟨x1, x2, x3, x4⟩ := HBD.out _ hj.out
                      have hk := hK.out
                      simp only [t11, t12, Act.put, List.setIfInBounds_toArray, List.set_cons_zero, List.set_cons_succ] at hk
                      have HK := Lib.hid hk
                      clear hd hs hk hK
                      go_simp
                      exact HK.out _ _ hj.out (Below.refl _ _) (show _ = _ from rfl)
                    refine ⟨?_, ?_⟩
                    · intro v w' hj hd hs K hK
                      have t13 : v 13 = _ := hd.out 13 (by kernel_rfl)
                      obtain ⟨x1, x2, x3, x4⟩ := HBD.out _ hj.out
                      have hk := hK.out
                      simp only [t13, Act.put, List.setIfInBounds_toArray, List.set_cons_zero, List.set_cons_succ] at hk
                      have HK := Lib.hid hk
                      clear hd hs hk hK
                      go_simp
                      exact HK.out _ _ hj.out (Below.refl _ _) (show _ = _ from rfl)
                    refine ⟨?_, ?_⟩
                    · intro v w' hj hd hs K hK
                      have t14 : v 14 = _ := hd.out 14 (by kernel_rfl)
                      obtain ⟨x1, x2, x3, x4⟩ := HBD.out _ hj.out
                      have hk := hK.out
                      simp only [t14, Act.put, List.setIfInBounds_toArray, List.set_cons_zero, List.set_cons_succ] at hk
                      have HK := Lib.hid hk
                      clear hd hs hk hK
                      go_simp
                      exact HK.out _ _ hj.out (Below.refl _ _) (show _ = _ from rfl)
                    refine ⟨?_, ?_⟩
                    · intro v w' hj hd hs K hK
                      have t10 : v 10 = _ := hd.out 10 (by kernel_rfl)
                      have t15 : v 15 = _ := hd.out 15 (by kernel_rfl)
                      obtain ⟨x1, x2, x3, x4⟩ := HBD.out _ hj.out
                      have hk := hK.out
                      simp only [t10, t15, Act.put, List.setIfInBounds_toArray, List.set_cons_zero, List.set_cons_succ] at hk
                      have HK := Lib.hid hk
                      clear hd hs hk hK
                      go_simp
                      exact HK.out _ _ hj.out (Below.refl _ _) (show _ = _ from rfl)
                    refine ⟨?_, ?_⟩
                    · intro v w' hj hd hs K hK
                      have t16 : v 16 = _ := hd.out 16 (by kernel_rfl)
                      obtain ⟨x1, x2, x3, x4⟩ := HBD.out _ hj.out
                      have hk := hK.out
                      simp only [t16, Act.put, List.setIfInBounds_toArray, List.set_cons_zero, List.set_cons_succ] at hk
                      have HK := Lib.hid hk
                      clear hd hs hk hK
                      go_simp
                      exact HK.out _ _ hj.out (Below.refl _ _) (show _ = _ from rfl)
                    refine ⟨?_, ?_⟩
                    · intro v w' hj hd hs K hK
                      have t9 : v 9 = _ := hd.out 9 (by kernel_rfl)
                      have t17 : v 17 = _ := hd.out 17 (by kernel_rfl)
                      have hk := hK.out
                      simp only [t9, t17, Act.put, List.setIfInBounds_toArray, List.set_cons_zero, List.set_cons_succ] at hk
                      have HK := Lib.hid hk
                      clear hd hs hk hK
                      go_simp
                      refine (HTW.out _ hj.out).mono ?_
                      rintro e w3 ⟨v1, rfl, s1, b1⟩
                      obtain ⟨Bz, dz, rfl, _, s1⟩ := s1.open
                      exact HK.out _ _ (hj.out.trans (b1.mono hj.out.size)) b1 ⟨Bz, dz, rfl, s1⟩
                    refine ⟨?_, ?_⟩
                    · intro v w' hj hd hs K hK
                      have t0 : v 0 = _ := hd.out 0 (by kernel_rfl)
                      have t1 : v 1 = _ := hd.out 1 (by kernel_rfl)
                      obtain ⟨x1, x2, x3, x4⟩ := HBD.out _ hj.out
                      have hk := hK.out
                      simp only [t0, t1, Act.put, List.setIfInBounds_toArray, List.set_cons_zero, List.set_cons_succ] at hk
                      have HK := Lib.hid hk
                      clear hd hs hk hK
                      go_simp
                      exact HK.out _ _ hj.out (Below.refl _ _) (show _ = _ from rfl)
                    trivial
                  case hlast =>
                    intro v w' hj hd K hK
                    obtain ⟨R18, rc18, t18, q18⟩ : FamP (some w2.heap.size) H (v 18) w' := hd.out 18 (of_decide_eq_true (by kernel_rfl)); rw [t18] at q18
                    have t19 : v 19 = _ := hd.out 19 (of_decide_eq_true (by kernel_rfl))
                    have hat := HAT.out _ hj.out
                    have hfr := hat.frozen k
                    have xk0 := hat.cell k
                    rw [List.getElem?_toArray, HVK.out] at xk0
                    have hk := hK.out
                    simp only [t18, t19, Act.put, List.setIfInBounds_toArray, List.set_cons_zero, List.set_cons_succ] at hk
                    have HK := Lib.hid hk
                    clear hd hk hK
                    go_simp
                    refine HK.out _ ?_
                    obtain ⟨W, hW⟩ : ∃ W, W = w'.setCell ⟨w2.heap.size, k, none⟩ (.slice R18 H.length rc18) := ⟨_, rfl⟩
                    have hput := hat.put k (.slice R18 H.length rc18)
                    rw [List.setIfInBounds_toArray, ← hW] at hput
                    have hcell := hput.cell k
                    rw [List.getElem?_toArray, List.getElem?_set_self (by omega)] at hcell
                    have hbz : Below wr.heap.size wr w' := hj.out
                    have hbW : Below w2.heap.size w2 W := by rw [hW]; exact (hbw.trans (hbz.mono hbw.size)).setCell (Nat.le_refl _) _
                    have HIV := Lib.hid (HNX.out W (.slice R18 H.length rc18) (by rw [hW]; exact win_put HI.out hbz HG.out q18))
                    rw [← hW]
                    clear hW hat hj q18
                    by_cases hlim : 200 < H.length
                    · have d2 : decide ((200 : Int) < (H.length : Int)) = true := by simp; omega
                      have d2' : decide (200 < H.length) = true := by simp; omega
                      have hw := HWC.out.2 (HNF.out hlim)
                      have HL := Lib.hid (show wlist l (i : Int) = [] by unfold wlist; rw [hw]; rfl)
                      have HW := Lib.hid hw
                      clear hw hlim
                      go_wp2_with fail
                      go_ret2
                      exact ⟨_, by rw [HW.out]; rfl, by rw [HL.out]; exact famV_nil _, hbw2.trans (hbW.mono hbw2.size)⟩
                    · have d2 : decide ((200 : Int) < (H.length : Int)) = false := by simp; omega
                      have d2' : decide (200 < H.length) = false := by simp; omega
                      have HIW := Lib.hid (HIV.out (by omega))
                      clear hlim
                      go_wp2_with fail
                      go_roundw
                      case rel => exact ⟨k + 1, _, by omega, by go_num, by simpa using hvl, hput, hbW, HIW⟩
                      case measure => simp [intOf]; omega
                · have t3 : (v.o == 3) = false := by simp; omega
                  have t4 : (v.o == 4) = true := by simp; omega
                  rw [if_neg h3] at HTW
                  clear h3 h34
                  go_wp2_with fail
                  refine' wp_region_last 20 _ _ (Below wr.heap.size wr) (Onward) (Vl :: Vl :: Vl :: Vl :: Vl :: Vl :: Vl :: Vl :: Vl :: Vl :: Vl :: Vl :: Vl :: Vl :: Vl :: Vl :: Vl :: Vl :: FamP (some w2.heap.size) H :: Vl :: []) ?hF (by kernel_rfl) (by kernel_rfl) (by kernel_rfl) (by rfl) (by rfl) (by rfl) (by kernel_rfl) ((Below.refl _ _).drew) (lasting_cons (lasting_vl) (lasting_cons (lasting_vl) (lasting_cons (lasting_vl) (lasting_cons (lasting_vl) (lasting_cons (lasting_vl) (lasting_cons (lasting_vl) (lasting_cons (lasting_vl) (lasting_cons (lasting_vl) (lasting_cons (lasting_vl) (lasting_cons (lasting_vl) (lasting_cons (lasting_vl) (lasting_cons (lasting_vl) (lasting_cons (lasting_vl) (lasting_cons (lasting_vl) (lasting_cons (lasting_vl) (lasting_cons (lasting_vl) (lasting_cons (lasting_vl) (lasting_cons (lasting_vl) (lasting_cons (lasting_famP _ _) (lasting_cons (lasting_vl) (lasting_none))))))))))))))))))))) ?hops ?hlast
                  case hF => (intro v; simp only [over, Act.put, List.setIfInBounds_toArray, List.set_cons_zero, List.set_cons_succ, Nat.zero_add, Nat.reduceAdd]; exact rfl)
                  case hops =>
                    refine ⟨?_, ?_⟩
                    · intro v w' hj hd hs K hK
                      have hk := hK.out
                      simp only [Act.put, List.setIfInBounds_toArray, List.set_cons_zero, List.set_cons_succ] at hk
                      have HK := Lib.hid hk
                      clear hd hs hk hK
                      go_simp
                      exact HK.out _ _ hj.out (Below.refl _ _) (show _ = _ from rfl)
                    refine ⟨?_, ?_⟩
                    · intro v w' hj hd hs K hK
                      have hk := hK.out
                      simp only [Act.put, List.setIfInBounds_toArray, List.set_cons_zero, List.set_cons_succ] at hk
                      have HK := Lib.hid hk
                      clear hd hs hk hK
                      go_simp
                      exact HK.out _ _ hj.out (Below.refl _ _) (show _ = _ from rfl)
                    refine ⟨?_, ?_⟩
                    · intro v w' hj hd hs K hK
                      have hk := hK.out
                      simp only [Act.put, List.setIfInBounds_toArray, List.set_cons_zero, List.set_cons_succ] at hk
                      have HK := Lib.hid hk
                      clear hd hs hk hK
                      go_simp
                      exact HK.out _ _ hj.out (Below.refl _ _) (show _ = _ from rfl)
                    refine ⟨?_, ?_⟩
                    · intro v w' hj hd hs K hK
                      have hk := hK.out
                      simp only [Act.put, List.setIfInBounds_toArray, List.set_cons_zero, List.set_cons_succ] at hk
                      have HK := Lib.hid hk
                      clear hd hs hk hK
                      go_simp
                      exact HK.out _ _ hj.out (Below.refl _ _) (show _ = _ from rfl)
                    refine ⟨?_, ?_⟩
                    · intro v w' hj hd hs K hK
                      have hk := hK.out
                      simp only [Act.put, List.setIfInBounds_toArray, List.set_cons_zero, List.set_cons_succ] at hk
                      have HK := Lib.hid hk
                      clear hd hs hk hK
                      go_simp
                      exact HK.out _ _ hj.out (Below.refl _ _) (show _ = _ from rfl)
                    refine ⟨?_, ?_⟩
                    · intro v w' hj hd hs K hK
                      have t3 : v 3 = _ := hd.out 3 (by kernel_rfl)
                      have t4 : v 4 = _ := hd.out 4 (by kernel_rfl)
                      obtain ⟨x1, x2, x3, x4⟩ := HBD.out _ hj.out
                      have hk := hK.out
                      simp only [t3, t4, Act.put, List.setIfInBounds_toArray, List.set_cons_zero, List.set_cons_succ] at hk
                      have HK := Lib.hid hk
                      clear hd hs hk hK
                      go_simp
                      exact HK.out _ _ hj.out (Below.refl _ _) (show _ = _ from rfl)
                    refine ⟨?_, ?_⟩
                    · intro v w' hj hd hs K hK
                      have t5 : v 5 = _ := hd.out 5 (by kernel_rfl)
                      obtain ⟨x1, x2, x3, x4⟩ := HBD.out _ hj.out
                      have hk := hK.out
                      simp only [t5, Act.put, List.setIfInBounds_toArray, List.set_cons_zero, List.set_cons_succ] at hk
                      have HK := Lib.hid hk
                      clear hd hs hk hK
                      go_simp
                      exact HK.out _ _ hj.out (Below.refl _ _) (show _ = _ from rfl)
                    refine ⟨?_, ?_⟩
                    · intro v w' hj hd hs K hK
                      have t6 : v 6 = _ := hd.out 6 (by kernel_rfl)
                      obtain ⟨x1, x2, x3, x4⟩ := HBD.out _ hj.out
                      have hk := hK.out
                      simp only [t6, Act.put, List.setIfInBounds_toArray, List.set_cons_zero, List.set_cons_succ] at hk
                      have HK := Lib.hid hk
                      clear hd hs hk hK
                      go_simp
                      exact HK.out _ _ hj.out (Below.refl _ _) (show _ = _ from rfl)
                    refine ⟨?_, ?_⟩
                    · intro v w' hj hd hs K hK
                      have t2 : v 2 = _ := hd.out 2 (by kernel_rfl)
                      have t7 : v 7 = _ := hd.out 7 (by kernel_rfl)
                      obtain ⟨x1, x2, x3, x4⟩ := HBD.out _ hj.out
                      have hk := hK.out
                      simp only [t2, t7, Act.put, List.setIfInBounds_toArray, List.set_cons_zero, List.set_cons_succ] at hk
                      have HK := Lib.hid hk
                      clear hd hs hk hK
                      go_simp
                      exact HK.out _ _ hj.out (Below.refl _ _) (show _ = _ from rfl)
                    refine ⟨?_, ?_⟩
                    · intro v w' hj hd hs K hK
                      have t8 : v 8 = _ := hd.out 8 (by kernel_rfl)
                      obtain ⟨x1, x2, x3, x4⟩ := HBD.out _ hj.out
                      have hk := hK.out
                      simp only [t8, Act.put, List.setIfInBounds_toArray, List.set_cons_zero, List.set_cons_succ] at hk
                      have HK := Lib.hid hk
                      clear hd hs hk hK
                      go_simp
                      exact HK.out _ _ hj.out (Below.refl _ _) (show _ = _ from rfl)
                    refine ⟨?_, ?_⟩
                    · intro v w' hj hd hs K hK
                      have hk := hK.out
                      simp only [Act.put, List.setIfInBounds_toArray, List.set_cons_zero, List.set_cons_succ] at hk
                      have HK := Lib.hid hk
                      clear hd hs hk hK
                      go_simp
                      exact HK.out _ _ hj.out (Below.refl _ _) (show _ = _ from rfl)
                    refine ⟨?_, ?_⟩
                    · intro v w' hj hd hs K hK
                      have hk := hK.out
                      simp only [Act.put, List.setIfInBounds_toArray, List.set_cons_zero, List.set_cons_succ] at hk
                      have HK := Lib.hid hk
                      clear hd hs hk hK
                      go_simp
                      exact HK.out _ _ hj.out (Below.refl _ _) (show _ = _ from rfl)
                    refine ⟨?_, ?_⟩
                    · intro v w' hj hd hs K hK
                      have hk := hK.out
                      simp only [Act.put, List.setIfInBounds_toArray, List.set_cons_zero, List.set_cons_succ] at hk
                      have HK := Lib.hid hk
                      clear hd hs hk hK
                      go_simp
                      exact HK.out _ _ hj.out (Below.refl _ _) (show _ = _ from rfl)
                    refine ⟨?_, ?_⟩
                    · intro v w' hj hd hs K hK
                      have t11 : v 11 = _ := hd.out 11 (by kernel_rfl)
                      have t12 : v 12 = _ := hd.out 12 (by kernel_rfl)
                      obtain ⟨x1, x2, x3, x4⟩ := HBD.out _ hj.out
                      have hk := hK.out
                      simp only [t11, t12, Act.put, List.setIfInBounds_toArray, List.set_cons_zero, List.set_cons_succ] at hk
                      have HK := Lib.hid hk
                      clear hd hs hk hK
                      go_simp
                      exact HK.out _ _ hj.out (Below.refl _ _) (show _ = _ from rfl)
                    refine ⟨?_, ?_⟩
                    · intro v w' hj hd hs K hK
                      have t13 : v 13 = _ := hd.out 13 (by kernel_rfl)
                      obtain ⟨x1, x2, x3, x4⟩ := HBD.out _ hj.out
                      have hk := hK.out
                      simp only [t13, Act.put, List.setIfInBounds_toArray, List.set_cons_zero, List.set_cons_succ] at hk
                      have HK := Lib.hid hk
                      clear hd hs hk hK
                      go_simp
                      exact HK.out _ _ hj.out (Below.refl _ _) (show _ = _ from rfl)
                    refine ⟨?_, ?_⟩
                    · intro v w' hj hd hs K hK
                      have t14 : v 14 = _ := hd.out 14 (by kernel_rfl)
                      obtain ⟨x1, x2, x3, x4⟩ := HBD.out _ hj.out
                      have hk := hK.out
                      simp only [t14, Act.put, List.setIfInBounds_toArray, List.set_cons_zero, List.set_cons_succ] at hk
                      have HK := Lib.hid hk
                      clear hd hs hk hK
                      go_simp
                      exact HK.out _ _ hj.out (Below.refl _ _) (show _ = _ from rfl)
                    refine ⟨?_, ?_⟩
                    · intro v w' hj hd hs K hK
                      have t10 : v 10 = _ := hd.out 10 (by kernel_rfl)
                      have t15 : v 15 = _ := hd.out 15 (by kernel_rfl)
                      obtain ⟨x1, x2, x3, x4⟩ := HBD.out _ hj.out
                      have hk := hK.out
                      simp only [t10, t15, Act.put, List.setIfInBounds_toArray, List.set_cons_zero, List.set_cons_succ] at hk
                      have HK := Lib.hid hk
                      clear hd hs hk hK
                      go_simp
                      exact HK.out _ _ hj.out (Below.refl _ _) (show _ = _ from rfl)
                    refine ⟨?_, ?_⟩
                    · intro v w' hj hd hs K hK
                      have t16 : v 16 = _ := hd.out 16 (by kernel_rfl)
                      obtain ⟨x1, x2, x3, x4⟩ := HBD.out _ hj.out
                      have hk := hK.out
                      simp only [t16, Act.put, List.setIfInBounds_toArray, List.set_cons_zero, List.set_cons_succ] at hk
                      have HK := Lib.hid hk
                      clear hd hs hk hK
                      go_simp
                      exact HK.out _ _ hj.out (Below.refl _ _) (show _ = _ from rfl)
                    refine ⟨?_, ?_⟩
                    · intro v w' hj hd hs K hK
                      have t9 : v 9 = _ := hd.out 9 (by kernel_rfl)
                      have t17 : v 17 = _ := hd.out 17 (by kernel_rfl)
                      have hk := hK.out
                      simp only [t9, t17, Act.put, List.setIfInBounds_toArray, List.set_cons_zero, List.set_cons_succ] at hk
                      have HK := Lib.hid hk
                      clear hd hs hk hK
                      go_simp
                      refine (HTW.out _ hj.out).mono ?_
                      rintro e w3 ⟨v1, rfl, s1, b1⟩
                      obtain ⟨Bz, dz, rfl, _, s1⟩ := s1.open
                      exact HK.out _ _ (hj.out.trans (b1.mono hj.out.size)) b1 ⟨Bz, dz, rfl, s1⟩
                    refine ⟨?_, ?_⟩
                    · intro v w' hj hd hs K hK
                      have t0 : v 0 = _ := hd.out 0 (by kernel_rfl)
                      have t1 : v 1 = _ := hd.out 1 (by kernel_rfl)
                      obtain ⟨x1, x2, x3, x4⟩ := HBD.out _ hj.out
                      have hk := hK.out
                      simp only [t0, t1, Act.put, List.setIfInBounds_toArray, List.set_cons_zero, List.set_cons_succ] at hk
                      have HK := Lib.hid hk
                      clear hd hs hk hK
                      go_simp
                      exact HK.out _ _ hj.out (Below.refl _ _) (show _ = _ from rfl)
                    trivial
                  case hlast =>
                    intro v w' hj hd K hK
                    obtain ⟨R18, rc18, t18, q18⟩ : FamP (some w2.heap.size) H (v 18) w' := hd.out 18 (of_decide_eq_true (by kernel_rfl)); rw [t18] at q18
                    have t19 : v 19 = _ := hd.out 19 (of_decide_eq_true (by kernel_rfl))
                    have hat := HAT.out _ hj.out
                    have hfr := hat.frozen k
                    have xk0 := hat.cell k
                    rw [List.getElem?_toArray, HVK.out] at xk0
                    have hk := hK.out
                    simp only [t18, t19, Act.put, List.setIfInBounds_toArray, List.set_cons_zero, List.set_cons_succ] at hk
                    have HK := Lib.hid hk
                    clear hd hk hK
                    go_simp
                    refine HK.out _ ?_
                    obtain ⟨W, hW⟩ : ∃ W, W = w'.setCell ⟨w2.heap.size, k, none⟩ (.slice R18 H.length rc18) := ⟨_, rfl⟩
                    have hput := hat.put k (.slice R18 H.length rc18)
                    rw [List.setIfInBounds_toArray, ← hW] at hput
                    have hcell := hput.cell k
                    rw [List.getElem?_toArray, List.getElem?_set_self (by omega)] at hcell
                    have hbz : Below wr.heap.size wr w' := hj.out
                    have hbW : Below w2.heap.size w2 W := by rw [hW]; exact (hbw.trans (hbz.mono hbw.size)).setCell (Nat.le_refl _) _
                    have HIV := Lib.hid (HNX.out W (.slice R18 H.length rc18) (by rw [hW]; exact win_put HI.out hbz HG.out q18))
                    rw [← hW]
                    clear hW hat hj q18
                    by_cases hlim : 200 < H.length
                    · have d2 : decide ((200 : Int) < (H.length : Int)) = true := by simp; omega
                      have d2' : decide (200 < H.length) = true := by simp; omega
                      have hw := HWC.out.2 (HNF.out hlim)
                      have HL := Lib.hid (show wlist l (i : Int) = [] by unfold wlist; rw [hw]; rfl)
                      have HW := Lib.hid hw
                      clear hw hlim
                      go_wp2_with fail
                      go_ret2
                      exact ⟨_, by rw [HW.out]; rfl, by rw [HL.out]; exact famV_nil _, hbw2.trans (hbW.mono hbw2.size)⟩
                    · have d2 : decide ((200 : Int) < (H.length : Int)) = false := by simp; omega
                      have d2' : decide (200 < H.length) = false := by simp; omega
                      have HIW := Lib.hid (HIV.out (by omega))
                      clear hlim
                      go_wp2_with fail
                      go_roundw
                      case rel => exact ⟨k + 1, _, by omega, by go_num, by simpa using hvl, hput, hbW, HIW⟩
                      case measure => simp [intOf]; omega
      · have d1 : decide ((k : Int) ≤ (i : Int)) = false := by simp; omega
        obtain rfl : k = i + 1 := by omega
        have hfew : Few l i := fun j hr => by
          have hj : j ≤ i := hr.lt hg hi
          obtain ⟨G, _, hp, hl'⟩ := HI.out.done j vs[j] (by omega) hr (List.getElem?_eq_getElem (by omega))
          rw [← hp.length_eq]; exact hl'
        have hw := HWC.out.1 hfew
        have HL := Lib.hid (show wlist l (i : Int) = fam l i by unfold wlist; rw [hw]; rfl)
        have HW := Lib.hid hw
        obtain ⟨u, hu⟩ : ∃ u, vs[i]? = some u := ⟨_, List.getElem?_eq_getElem (by omega)⟩
        obtain ⟨G, fG, pG, lG⟩ := HI.out.done i u (by omega) Cx.Reach.refl hu
        obtain ⟨AG, cG, rfl, _, fG⟩ := fG.open
        have xi := hat.cell i
        rw [List.getElem?_toArray, hu] at xi
        have i0 : (0 : Int) ≤ (i : Int) := by omega
        have i1 : (i : Int) < (l.length : Int) := by omega
        have HO := Lib.hid (order29_any AG cG G wr (by omega) fG.1)
        have HFI := Lib.hid (show ∀ M : List (List Int), M.Perm G → M.Pairwise (fun a b => Fm.lt b a = false) → M = fam l i from fun M h1 h2 =>
          (((Cx.fam_is hg hi).fam.is_anti).fam (h1.trans pG) h2).eq (Cx.fam_is hg hi).fam (fun ts => Fm.up_perm (h1.trans pG)))
        clear hfew hw hu fG pG
        go_wp2_with fail
        refine HO.out.mono ?_
        rintro e w5 ⟨vM, M, rfl, m1, m2, m3, b5⟩
        have hM := HFI.out M m1 m2
        subst hM
        go_wp2_with fail
        go_ret2
        exact ⟨_, by rw [HW.out]; rfl, by rw [HL.out]; exact m3, hbw2.trans ((hbw.trans (b5.mono hbw.size)).mono hbw2.size)⟩
end Go.Proofs.YtphmicbpkljmfaaGreat
