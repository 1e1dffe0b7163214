/- The walks of has, Trust, witnesses. -/
import Derived.Test.YtphmicbpkljmfaaGreatSFEval
import Derived.Test.YtphmicbpkljmfaaGreatCEval2
namespace Go.Proofs.YtphmicbpkljmfaaGreat
set_option linter.unusedVariables false
set_option linter.unusedSimpArgs false
open Go.RowKit
open Cx (N fam Few)
theorem Apart.low {B B' : Nat} {S : List Nat} {a b : World} (h : Apart B S a b) (hB : B' ≤ B) (hS : ∀ g ∈ S, B' ≤ g) : Below B' a b :=
  ⟨h.os, h.tape, h.output, h.size, fun i hi => h.block i (by omega) (fun hs => by have := hS i hs; omega)⟩
theorem shas_any (A : Option Addr) (c : Nat) (l : List N) (n : Int) (w : World) (hl : l.length ≤ 20000) (hF : ∀ n ∈ l, NGood n) (hA : Cir w A c l) :
    Calls Tryz.prog 26 #[.slice A l.length c, .int .i64 n] w fun e w' => e = .returned (.bool (Cx.isIn l n && Cx.valid l)) ∧ Below w.heap.size w w' := by
  by_cases h1 : 0 ≤ n
  · have d1 : decide (0 ≤ n) = true := by simpa using h1
    by_cases h2 : n < l.length
    · have d2 : decide (n < (l.length : Int)) = true := by simpa using h2
      have HR := Lib.hid (show (Cx.isIn l n && Cx.valid l) = Cx.valid l by unfold Cx.isIn; rw [d1, d2]; rfl)
      go_enter Tryz.func26, Tryz.ntmps26
      go_wp2_with fail
      refine (valid_any A c l _ hl hF hA).mono ?_
      rintro e w' ⟨rfl, hb⟩
      go_wp2_with fail
      go_ret
      exact ⟨by rw [HR.out]; rfl, hb⟩
    · have d2 : decide (n < (l.length : Int)) = false := by simpa using h2
      have HR := Lib.hid (show (Cx.isIn l n && Cx.valid l) = false by unfold Cx.isIn; rw [d1, d2]; rfl)
      go_enter Tryz.func26, Tryz.ntmps26
      go_wp2_with fail
      go_ret
      exact ⟨by rw [HR.out]; rfl, Below.refl _ _⟩
  · have d1 : decide (0 ≤ n) = false := by simpa using h1
    have HR := Lib.hid (show (Cx.isIn l n && Cx.valid l) = false by unfold Cx.isIn; rw [d1]; rfl)
    go_enter Tryz.func26, Tryz.ntmps26
    go_wp2_with fail
    go_ret
    exact ⟨by rw [HR.out]; rfl, Below.refl _ _⟩
set_option maxRecDepth 100000 in
theorem evalb_any (A : Option Addr) (c : Nat) (l : List N) (without : List Int) (bs ns : Nat) (fs : Int → Option Unit) (i : Nat) (w : World) (hg : Cx.Good l) (hF : ∀ n ∈ l, NGood n) (hl : l.length ≤ 20000) (hi : i < l.length) (hA : Circ w A l) (hs : USet w bs ns fs) (hset : ∀ x, (fs x).isSome = without.contains x) :
    Calls Tryz.prog 27 #[.slice A l.length c, .int .i64 (i : Int), .iface 45 (.map (some bs))] w fun e w' => e = .returned (.bool ((Cx.values (trusted l without) l).getD i false)) ∧ Below w.heap.size w w' := by
  obtain ⟨w1, hw1⟩ : ∃ w1, w1 = (((w.alloc (.cells #[.slice A l.length c] 23)).alloc (.cells #[.iface 45 (.map (some bs))] 76)).alloc (.map #[] 0)).alloc (.cells #[.map (some (w.heap.size + 1 + 1))] 73) := ⟨_, rfl⟩
  have b1 : Below w.heap.size w w1 := by rw [hw1]; exact (((below1 w _).alloc (by simp) _).alloc (by simp; omega) _).alloc (by simp; omega) _
  have z1 : w.heap.size + 1 + 1 + 1 + 1 = w1.heap.size := by rw [hw1]; simp
  have ac : At w1 w.heap.size 23 #[.slice A l.length c] := by rw [hw1]; exact (((At.new _ _ _).alloc _).alloc _).alloc _
  have ar : At w1 (w.heap.size + 1) 76 #[.iface 45 (.map (some bs))] := by rw [hw1]; exact ((At.newAt (by simp) _ _).alloc _).alloc _
  have ak : At w1 (w.heap.size + 1 + 1 + 1) 73 #[.map (some (w.heap.size + 1 + 1))] := by rw [hw1]; exact At.newAt (by simp) _ _
  have fk : IMap w1 (w.heap.size + 1 + 1) 0 (fun _ => none) := by rw [hw1]; exact FMap.alloc (FMap.madeAt (by simp) _ _ _ _ _) _
  obtain ⟨w2, hw2⟩ : ∃ w2, w2 = w1.alloc (.cells #[.func (.func 51) #[] #[.pointer (some ⟨w.heap.size + 1 + 1 + 1, 0, none⟩), .pointer (some ⟨w.heap.size + 1, 0, none⟩), .pointer (some ⟨w.heap.size, 0, none⟩), .pointer (some ⟨w1.heap.size, 0, none⟩)]] 61) := ⟨_, rfl⟩
  have b2 : Below w1.heap.size w1 w2 := by rw [hw2]; exact below1 w1 _
  have hM : TMem w2 (w.heap.size + 1 + 1 + 1) (w.heap.size + 1) w.heap.size w1.heap.size (w.heap.size + 1 + 1) bs A c l without ns fs := by
    refine ⟨ak.next b2, ar.next b2, ac.next b2, ?_, (hs.next b1).next b2, ?_, (hA.below b1).below b2, hset⟩
    · rw [hw2]; exact At.new _ _ _
    · have := hs.lt; omega
  have C := tvalue_any _ _ _ _ _ _ _ _ l without ns fs hg hF hl i 0 _ w2 hi hM (fk.next b2) ⟨fun j b h => (by cases h), Nat.zero_le _⟩
  have HC := Lib.hid C
  have HB := Lib.hid (b1.trans (b2.mono b1.size))
  have HW1 := Lib.hid hw1
  have HW2 := Lib.hid hw2
  have hmm := @run_makeMap Tryz.prog
  have HZ := Lib.hid z1
  have HK0 := Lib.hid (hM.v.cell 0)
  clear C hM fk b1 b2 ac ar ak hw1 hw2 hA hs hset z1
  go_enter Tryz.func27, Tryz.ntmps27
  go_wp2_with fail
  rw [← HW1.out, HZ.out]
  go_wp2_with fail
  rw [← HW2.out]
  refine HC.out.mono ?_
  rintro e w5 ⟨rfl, hT⟩
  have HT := Lib.hid hT.ap
  clear hT
  go_wp2_with fail
  go_ret
  refine ⟨rfl, ?_⟩
  have h1 := HT.out.low (B' := w.heap.size) HB.out.size (fun g hg => by simp at hg; omega)
  exact HB.out.trans h1
/-- The set of the first k numbers. -/
def SetU (ts : List Int) (k : Nat) (fs : Int → Option Unit) : Prop := ∀ x, (fs x).isSome = (ts.take k).contains x
theorem SetU.more {ts : List Int} {k : Nat} {fs : Int → Option Unit} {x : Int} (h : SetU ts k fs) (hx : ts[k]? = some x) : SetU ts (k + 1) (fun y => if y = x then some () else fs y) := by
  intro y
  show (if y = x then some () else fs y).isSome = _
  rw [take_more hx, List.contains_eq_any_beq, List.any_append]
  by_cases e : y = x
  · subst e; simp
  · rw [if_neg e, h y, List.contains_eq_any_beq]; simp [e]
/-- What Trust says. -/
def trustP (l : List N) (n : Int) (without : List Int) : Bool := (Cx.isIn l n && Cx.valid l) && Cx.eval l n (trusted l without)
set_option maxHeartbeats 1000000 in
set_option maxRecDepth 100000 in
theorem trust_any (A : Option Addr) (c : Nat) (l : List N) (n : Int) (B : Option Addr) (d : Nat) (ts : List Int) (w : World) (hl : l.length ≤ 20000) (hF : ∀ n ∈ l, NGood n) (hA : Cir w A c l) (hts : ts.length ≤ 1000000) (hI : ∀ t ∈ ts, I64 t) (hB : Nums w B ts) :
    Calls Tryz.prog 7 #[.slice A l.length c, .int .i64 n, .slice B ts.length d] w fun e w' => e = .returned (.bool (trustP l n ts)) ∧ Below w.heap.size w w' := by
  have HC := Lib.hid (shas_any A c l n w hl hF hA)
  cases hh : Cx.isIn l n && Cx.valid l with
  | false =>
    have HR := Lib.hid (show trustP l n ts = false by unfold trustP; rw [hh]; rfl)
    have HH := Lib.hid hh
    clear hh
    go_enter Tryz.func7, Tryz.ntmps7
    go_wp2_with fail
    refine HC.out.mono ?_
    rintro e w1 ⟨rfl, b1⟩
    rw [HH.out]
    go_wp2_with fail
    go_ret
    exact ⟨by rw [HR.out]; rfl, b1⟩
  | true =>
    have hh' := hh
    rw [Bool.and_eq_true] at hh'
    obtain ⟨i, rfl, hi⟩ := Cx.isIn_get hh'.1
    have hg := Cx.valid_good hh'.2
    have HR := Lib.hid (show trustP l (i : Int) ts = (Cx.values (trusted l ts) l).getD i false by unfold trustP; rw [hh, Cx.eval_in hi]; rfl)
    have HH := Lib.hid hh
    have hmm := @run_makeMap Tryz.prog
    clear hh hh'
    go_enter Tryz.func7, Tryz.ntmps7
    go_wp2_with fail
    refine HC.out.mono ?_
    rintro e w1 ⟨rfl, b1⟩
    rw [HH.out]
    have f0 := FMap.made w1 Tryz.prog 3 unitElem ival udat
    have hz := b1.size
    go_wp2_with fail
    go_loopw [17] (fun v wr => ∃ (k ns : Nat) (fs : Int → Option Unit), k ≤ ts.length ∧ ns ≤ k ∧ v = .int .i64 k ∧ USet wr w1.heap.size ns fs ∧ Hid (SetU ts k fs) ∧ Below w.heap.size w wr) (fun v _ => ts.length - (intOf v).toNat)
    case atStart => exact ⟨0, 0, _, by omega, by omega, rfl, f0, Lib.hid (fun x => by simp), b1.alloc (by omega) _⟩
    case round =>
      obtain ⟨k, ns, fs, hk, hns, rfl, hm, HS, hbw⟩ := hrel
      clear f0
      by_cases h1 : k < ts.length
      · have d3 : decide ((k : Int) < (ts.length : Int)) = true := by simp; omega
        obtain ⟨g, o, rfl, hgl, x0⟩ := (hB.below hbw).at h1
        have e1 := getElem_of h1
        have hIx := hI _ (List.getElem_mem h1)
        generalize ts[k] = x at *
        have HN := Lib.hid (HS.out.more e1)
        have i0 : (0 : Int) ≤ (k : Int) := by omega
        have i1 : (k : Int) < (ts.length : Int) := by omega
        clear e1
        go_wp2_with (first | (at_mapUpdate; refine wpList_fmap_update _ rfl _ _ _ 45 rfl hm int_enc eenc_unit Tryz.underlying45 (by unfold maxLen; omega) rfl x rfl hIx () rfl ?_; intro w9 hk9 g9))
        go_roundw
        case rel => exact ⟨k + 1, ns + 1, _, by omega, by omega, by go_num, hk9, HN, hbw.trans (below_of_grown g9 (by omega) hbw.size)⟩
        case measure => simp [intOf]; omega
      · have d3 : decide ((k : Int) < (ts.length : Int)) = false := by simp; omega
        have hset : ∀ x, (fs x).isSome = ts.contains x := fun x => by rw [HS.out x, List.take_of_length_le (by omega)]
        have HE := Lib.hid (evalb_any A c l ts w1.heap.size ns fs i wr hg hF hl hi (hA.circ.below hbw) hm hset)
        go_wp2_with fail
        refine HE.out.mono ?_
        rintro e w3 ⟨rfl, b3⟩
        go_wp2_with fail
        go_ret
        exact ⟨by rw [HR.out]; rfl, hbw.trans (b3.mono hbw.size)⟩
end Go.Proofs.YtphmicbpkljmfaaGreat
namespace Go.Proofs.YtphmicbpkljmfaaGreat
set_option linter.unusedVariables false
set_option linter.unusedSimpArgs false
open Go.RowKit
open Cx (N fam Few)
theorem Apart.less {B B' : Nat} {S T : List Nat} {a b : World} (h : Apart B S a b) (hB : B' ≤ B) (hS : ∀ g ∈ S, g ∈ T ∨ B' ≤ g) : Apart B' T a b :=
  ⟨h.os, h.tape, h.output, h.size, fun i hi hT => h.block i (by omega) (fun hs => by
    rcases hS i hs with h | h
    · exact hT h
    · omega)⟩
/-- What the evaluation of a node's family leaves. -/
def EvfOut (bf : Nat) (l : List N) (i : Nat) (w : World) (e : Ending) (w' : World) : Prop :=
  ∃ v F fl, e = .returned v ∧ FamS w' v F (allVars l) ∧ At w' bf 82 #[.bool fl] ∧ (fl = false → F = fam l i ∧ Few l i) ∧ (fl = true → ¬ Few l i) ∧ Apart w.heap.size [bf] w w'
set_option maxRecDepth 100000 in
theorem evalf_any (A : Option Addr) (c : Nat) (l : List N) (bf : Nat) (i : Nat) (w : World) (hg : Cx.Good l) (hF : ∀ n ∈ l, NGood n) (hl : l.length ≤ 20000) (hi : i < l.length) (hA : Circ w A l) (hf : At w bf 82 #[.bool false]) :
    Calls Tryz.prog 54 #[.slice A l.length c, .int .i64 (i : Int), .iface 80 (.pointer (some ⟨bf, 0, none⟩))] w (EvfOut bf l i w) := by
  obtain ⟨w1, hw1⟩ : ∃ w1, w1 = (((w.alloc (.cells #[.slice A l.length c] 23)).alloc (.cells #[.iface 80 (.pointer (some ⟨bf, 0, none⟩))] 93)).alloc (.map #[] 0)).alloc (.cells #[.map (some (w.heap.size + 1 + 1))] 94) := ⟨_, rfl⟩
  have b1 : Below w.heap.size w w1 := by rw [hw1]; exact (((below1 w _).alloc (by simp) _).alloc (by simp; omega) _).alloc (by simp; omega) _
  have z1 : w.heap.size + 1 + 1 + 1 + 1 = w1.heap.size := by rw [hw1]; simp
  have ac : At w1 w.heap.size 23 #[.slice A l.length c] := by rw [hw1]; exact (((At.new _ _ _).alloc _).alloc _).alloc _
  have ar : At w1 (w.heap.size + 1) 93 #[.iface 80 (.pointer (some ⟨bf, 0, none⟩))] := by rw [hw1]; exact ((At.newAt (by simp) _ _).alloc _).alloc _
  have ak : At w1 (w.heap.size + 1 + 1 + 1) 94 #[.map (some (w.heap.size + 1 + 1))] := by rw [hw1]; exact At.newAt (by simp) _ _
  have fk : HMap w1 (w.heap.size + 1 + 1) 0 (fun _ => none) := by rw [hw1]; exact FMap.alloc (FMap.madeAt (by simp) _ _ _ _ _) _
  obtain ⟨w2, hw2⟩ : ∃ w2, w2 = w1.alloc (.cells #[.func (.func 66) #[] #[.pointer (some ⟨w.heap.size + 1 + 1 + 1, 0, none⟩), .pointer (some ⟨w.heap.size + 1, 0, none⟩), .pointer (some ⟨w.heap.size, 0, none⟩), .pointer (some ⟨w1.heap.size, 0, none⟩)]] 95) := ⟨_, rfl⟩
  have b2 : Below w1.heap.size w1 w2 := by rw [hw2]; exact below1 w1 _
  have hM : FMem w2 (w.heap.size + 1 + 1 + 1) (w.heap.size + 1) w.heap.size w1.heap.size (w.heap.size + 1 + 1) bf A c l :=
    ⟨ak.next b2, ar.next b2, ac.next b2, by rw [hw2]; exact At.new _ _ _, (hA.below b1).below b2⟩
  have hf2 := (hf.next b1).next b2
  have C := fvalue_any _ _ _ _ _ _ _ _ l (allVars l) rfl hg hF hl i false 0 _ w2 hi hM hf2 (fk.next b2) ⟨fun j b h => (by cases h), Nat.zero_le _⟩
  have HC := Lib.hid C
  have HB := Lib.hid (b1.trans (b2.mono b1.size))
  have HW1 := Lib.hid hw1
  have HW2 := Lib.hid hw2
  have hmm := @run_makeMap Tryz.prog
  have HZ := Lib.hid z1
  clear C hM fk b1 b2 ac ar ak hw1 hw2 hA z1 hf hf2
  go_enter Tryz.func54, Tryz.ntmps54
  go_wp2_with fail
  rw [← HW1.out, HZ.out]
  go_wp2_with fail
  rw [← HW2.out]
  refine HC.out.mono ?_
  rintro e w5 ⟨x, rfl, hT, hx⟩
  have HT := Lib.hid hT
  have HX := Lib.hid hx
  clear hT hx
  go_wp2_with fail
  go_ret
  obtain ⟨h, F, fl, rfl, h1, h2, h3⟩ := HX.out
  obtain ⟨_, ap, fl', _, _, h4, _, _, _, _, h5⟩ := HT.out
  obtain rfl := flag_one h1 h4
  refine ⟨_, F, fl', rfl, h2, h1, h3, fun h => ?_, ?_⟩
  · rcases h5 h with h | h
    · cases h
    · exact h
  · exact (apart_of_below HB.out _).trans (ap.less HB.out.size (fun g hg => by
      simp at hg
      rcases hg with rfl | rfl
      · right; omega
      · left; simp))
open Classical in
/-- The code of Witnesses. -/
noncomputable def wcode (l : List N) (n : Int) : Int := if (Cx.isIn l n && Cx.valid l) = true then (if Few l n.toNat then 0 else 2) else 1
noncomputable def wlist (l : List N) (n : Int) : List (List Int) := if wcode l n = 0 then fam l n.toNat else []
/-- What witnesses leaves. -/
def WitOut (l : List N) (n : Int) (w : World) (e : Ending) (w' : World) : Prop := ∃ v, e = .returned (.tuple #[v, .int .i64 (wcode l n)]) ∧ FamS w' v (wlist l n) (allVars l) ∧ Below w.heap.size w w'
theorem famS_nil (w : World) (X : List Int) : FamS w (.slice none 0 0) [] X := ⟨famV_nil w, by simp, fun s hs => by cases hs⟩
set_option maxRecDepth 100000 in
theorem witnesses_any (A : Option Addr) (c : Nat) (l : List N) (n : Int) (w : World) (hl : l.length ≤ 20000) (hF : ∀ n ∈ l, NGood n) (hA : Cir w A c l) :
    Calls Tryz.prog 33 #[.slice A l.length c, .int .i64 n] w (WitOut l n w) := by
  have HC := Lib.hid (shas_any A c l n w hl hF hA)
  cases hh : Cx.isIn l n && Cx.valid l with
  | false =>
    have hw : wcode l n = 1 := by unfold wcode; rw [hh]; rfl
    have HW := Lib.hid hw
    have HL := Lib.hid (show wlist l n = [] by unfold wlist; rw [hw]; rfl)
    have HH := Lib.hid hh
    clear hh hw
    go_enter Tryz.func33, Tryz.ntmps33
    go_wp2_with fail
    refine HC.out.mono ?_
    rintro e w1 ⟨rfl, b1⟩
    rw [HH.out]
    go_wp2_with fail
    go_ret2
    exact ⟨_, by rw [HW.out]; rfl, by rw [HL.out]; exact famS_nil _ _, b1⟩
  | true =>
    have hh' := hh
    rw [Bool.and_eq_true] at hh'
    obtain ⟨i, rfl, hi⟩ := Cx.isIn_get hh'.1
    have hg := Cx.valid_good hh'.2
    have HWC := Lib.hid (show (Few l i → wcode l (i : Int) = 0) ∧ (¬ Few l i → wcode l (i : Int) = 2) by
      unfold wcode; rw [hh, if_pos rfl, Int.toNat_natCast]
      exact ⟨fun h => if_pos h, fun h => if_neg h⟩)
    have HH := Lib.hid hh
    clear hh hh'
    go_enter Tryz.func33, Tryz.ntmps33
    go_wp2_with fail
    refine HC.out.mono ?_
    rintro e w1 ⟨rfl, b1⟩
    rw [HH.out]
    have hz := b1.size
    have hA2 := (hA.circ.below b1).below (below1 w1 (.cells #[.bool false] 82))
    have HE := Lib.hid (evalf_any A c l w1.heap.size i _ hg hF hl hi hA2 (At.new _ _ _))
    clear hA2
    go_wp2_with fail
    refine HE.out.mono ?_
    rintro e w3 ⟨v, F, fl, rfl, h2, h3, h4, h5, ap⟩
    have hfl := h3.lt
    have f0 := h3.cell 0
    simp at f0
    have hbw : Below w.heap.size w w3 := (b1.alloc hz _).trans (ap.low (by simp; omega) (fun g hg => by simp at hg; omega))
    have H2 := Lib.hid h2
    have H4 := Lib.hid h4
    have H5 := Lib.hid h5
    clear h2 h3 h4 h5 ap
    cases fl with
    | true =>
      have hw := HWC.out.2 (H5.out rfl)
      have HL := Lib.hid (show wlist l (i : Int) = [] by unfold wlist; rw [hw]; rfl)
      have HW := Lib.hid hw
      clear hw
      go_wp2_with fail
      go_ret2
      exact ⟨_, by rw [HW.out]; rfl, by rw [HL.out]; exact famS_nil _ _, hbw⟩
    | false =>
      obtain ⟨e1, e2⟩ := H4.out rfl
      have hw := HWC.out.1 e2
      have HL := Lib.hid (show wlist l (i : Int) = F by unfold wlist; rw [hw, Int.toNat_natCast, e1]; rfl)
      have HW := Lib.hid hw
      clear hw e1 e2
      go_wp2_with fail
      go_ret2
      exact ⟨_, by rw [HW.out]; rfl, by rw [HL.out]; exact H2.out, hbw⟩
theorem ints_info : (Tryz.prog.info? 24).map (fun i => (i.zero, i.size, i.bytes)) = some (some (.slice none 0 0), 1, 24) := by kernel_rfl
theorem oks_inc {l : List N} {F : List (List Int)} (h : ∀ s ∈ F, Ok (allVars l) s) (hl : l.length ≤ 20000) : ∀ s ∈ F, s.length ≤ 20000 := fun s hs => by
  have h1 := (h s hs).len
  have h2 := allVars_len l
  omega
set_option maxHeartbeats 1000000 in
set_option maxRecDepth 100000 in
theorem cWitnesses_any (A : Option Addr) (c : Nat) (l : List N) (n : Int) (w : World) (hl : l.length ≤ 20000) (hF : ∀ n ∈ l, NGood n) (hA : Cir w A c l) :
    Calls Tryz.prog 12 #[.slice A l.length c, .int .i64 n] w (WitOut l n w) := by
  obtain ⟨in0, hi0, hz0, hz1, hz2⟩ := info_parts ints_info
  have HC := Lib.hid (witnesses_any A c l n w hl hF hA)
  go_enter Tryz.func12, Tryz.ntmps12
  go_wp2_with fail
  refine HC.out.mono ?_
  rintro e w1 ⟨v, rfl, hS, b1⟩
  have HS := Lib.hid hS
  obtain ⟨⟨V, vc, rfl, v1, v2, _, hsets⟩, hfew, _⟩ := hS
  obtain ⟨G, hG⟩ : ∃ G, wlist l n = G := ⟨_, rfl⟩
  rw [hG] at HS v1 hsets hfew
  simp only [hG]
  have HG := Lib.hid hG
  have HB := Lib.hid b1
  have hz := b1.size
  clear hG b1
  go_wp2_with fail
  go_loopw [8, 19] (fun out i wr => ∃ (k : Nat) (vk : List Value), k ≤ G.length ∧ i = .int .i64 k ∧ wr.ownsRow w1.heap.size 24 1 out k vk ∧ Hid (Hdrs w1 vk (G.take k)) ∧ Below w1.heap.size w1 wr) (fun _ i _ => G.length - (intOf i).toNat)
  case atStart => exact ⟨0, [], by omega, rfl, World.ownsRow_nil _ _ _ _, Lib.hid (by simpa using hdrs_nil w1), Below.refl _ _⟩
  case round =>
    obtain ⟨k, vk, hk, rfl, hok, HD, hbw⟩ := hrel
    obtain ⟨va, vc', rfl⟩ := own_len hok
    by_cases h1 : k < G.length
    · have d1 : decide ((k : Int) < (G.length : Int)) = true := by simp; omega
      obtain ⟨x, hx⟩ : ∃ x, G[k]? = some x := ⟨_, List.getElem?_eq_getElem h1⟩
      obtain ⟨g, o, C, cc, rfl, hg, c0, x1, x2, x3, x4⟩ := hsets.at hx
      have c0w := (hbw.cell hg).trans c0
      have i0 : (0 : Int) ≤ (k : Int) := by omega
      have i1 : (k : Int) < (G.length : Int) := by omega
      have HT := Lib.hid (take_more hx)
      have HX := Lib.hid (show SetV w1 (.slice C x.length cc) x from ⟨C, cc, rfl, x1, x2, x3, x4⟩)
      clear c0 hx x4
      go_wp2_with (first
        | (at_builtin; go_loud (refine wpList_append_from rfl (.tmp 23) (.tmp 25) 30 rfl w1.heap.size 24 in0 _ 1 24 Tryz.underlying30 hi0 hz0 hz1 hz2 rfl (by omega) (.slice va k vc') k vk rfl (hok.alloc _) (some ⟨wr.heap.size, 0, none⟩) 1 1 [.slice C x.length cc] rfl rfl (fun h => by cases h) (fun ad h => by obtain rfl := Option.some.inj h; exact At.news (At.new _ _ _)) (one1 rfl) (by unfold maxLen; omega) (by omega) (by have := hbw.size; simp; omega) ?_); intro v2' w2 o2 g2))
      have bw2 : Below w1.heap.size w1 w2 := (hbw.alloc hbw.size _).grown g2 (by have := hbw.size; simp; omega) (fun q hq => (own_lt hok hq).1)
      go_roundw
      case rel => exact ⟨k + 1, _, by omega, by go_num, o2, Lib.hid (by rw [HT.out]; exact HD.out.snoc HX.out), bw2⟩
      case measure => simp [intOf]; omega
    · have d1 : decide ((k : Int) < (G.length : Int)) = false := by simp; omega
      have hall : G.take k = G := List.take_of_length_le (by omega)
      rw [hall] at HD
      have hkl : k = G.length := by omega
      subst hkl
      have hfv := own_fam hok (HD.out.below hbw)
      have HFV := Lib.hid hfv
      clear hfv
      go_wp2_with fail
      go_ret2
      exact ⟨_, rfl, by rw [HG.out]; exact ⟨HFV.out, hfew, HS.out.ok⟩, HB.out.trans (hbw.mono hz)⟩
end Go.Proofs.YtphmicbpkljmfaaGreat
