/- The reader's table of items, by their first words. -/
import Derived.Test.YtpcmlkpnjimbiaaDoorPLit
import Derived.Test.YtpcmlkpnjimbiaaDoorPRow0
import Derived.Test.YtpcmlkpnjimbiaaDoorPTry
import Derived.Test.YtpcmlkpnjimbiaaDoorPItem0
import Derived.Test.YtpcmlkpnjimbiaaDoorHead
import Derived.Test.YtpcmlkpnjimbiaaDoorPlain6
namespace Go.Proofs.YtpcmlkpnjimbiaaDoor
set_option linter.unusedVariables false
set_option linter.unusedSimpArgs false
open Go.RowKit
/-- The methods that read items; 0: none. -/
def fmkN (rb : Nat) : Nat → Value
 | 1 => .func (.func 51) #[.pointer (some ⟨rb, 0, none⟩)] #[]
 | 2 => .func (.func 52) #[.pointer (some ⟨rb, 0, none⟩)] #[]
 | 3 => .func (.func 53) #[.pointer (some ⟨rb, 0, none⟩)] #[]
 | _ => .nilFunc
def fmk (rb : Nat) (a : Fin 4) : Value := fmkN rb a.val
def fdat (a : Fin 4) : DataW Unit := .lit (.int .i64 (a.val : Int))
theorem fmk_inj (rb : Nat) : ∀ a b : Fin 4, fmk rb a = fmk rb b → a = b
 | 0, 0, h => rfl
 | 0, 1, h => absurd (show fmkN rb 0 = fmkN rb 1 from h) (by simp [fmkN])
 | 0, 2, h => absurd (show fmkN rb 0 = fmkN rb 2 from h) (by simp [fmkN])
 | 0, 3, h => absurd (show fmkN rb 0 = fmkN rb 3 from h) (by simp [fmkN])
 | 1, 0, h => absurd (show fmkN rb 1 = fmkN rb 0 from h) (by simp [fmkN])
 | 1, 1, h => rfl
 | 1, 2, h => absurd (show fmkN rb 1 = fmkN rb 2 from h) (by simp [fmkN])
 | 1, 3, h => absurd (show fmkN rb 1 = fmkN rb 3 from h) (by simp [fmkN])
 | 2, 0, h => absurd (show fmkN rb 2 = fmkN rb 0 from h) (by simp [fmkN])
 | 2, 1, h => absurd (show fmkN rb 2 = fmkN rb 1 from h) (by simp [fmkN])
 | 2, 2, h => rfl
 | 2, 3, h => absurd (show fmkN rb 2 = fmkN rb 3 from h) (by simp [fmkN])
 | 3, 0, h => absurd (show fmkN rb 3 = fmkN rb 0 from h) (by simp [fmkN])
 | 3, 1, h => absurd (show fmkN rb 3 = fmkN rb 1 from h) (by simp [fmkN])
 | 3, 2, h => absurd (show fmkN rb 3 = fmkN rb 2 from h) (by simp [fmkN])
 | 3, 3, h => rfl
theorem fdat_inj (a b : Fin 4) (h : fdat a = fdat b) : a = b := by
 unfold fdat at h
 injection h with h
 injection h with _ h
 exact Fin.ext (by omega)
open Classical in
noncomputable def frd (rb : Nat) (v : Value) : Option (DataW Unit × List MemPlace) := if h : ∃ a : Fin 4, v = fmk rb a then some (fdat (Classical.choose h), []) else none
theorem frd_mk (rb : Nat) (a : Fin 4) : frd rb (fmk rb a) = some (fdat a, []) := by
 have h : ∃ b : Fin 4, fmk rb a = fmk rb b := ⟨a, rfl⟩
 unfold frd
 rw [dif_pos h]
 have := fmk_inj rb _ _ (Classical.choose_spec h)
 rw [← this]
theorem f_enc (rb : Nat) : EEnc (frd rb) (fmk rb) fdat := by
 refine ⟨frd_mk rb, fun v a ps h => ?_⟩
 unfold frd at h
 split at h
 ·rename_i hx
  have h1 := Classical.choose_spec hx
  have h2 := Option.some.inj h
  injection h2 with h3 _
  rw [fdat_inj _ _ h3] at h1
  exact h1
 ·cases h
/-- The item that begins with a text. -/
def itemNo (s : List UInt8) : Fin 4 := if s = Px.sLattice then 1 else if s = Px.sFunction then 2 else if s = Px.sBase ∨ s = Px.sView then 3 else 0
def itemF (s : ByteArray) : Option (Fin 4) := if s = bs Px.sView then some 3 else if s = bs Px.sBase then some 3 else if s = bs Px.sFunction then some 2 else if s = bs Px.sLattice then some 1 else none
theorem itemF_at (s : List UInt8) : itemF (bs s) = if itemNo s = 0 then none else some (itemNo s) := by
 have e : ∀ a b : List UInt8, (bs a = bs b) = (a = b) := fun a b => propext ⟨bs_inj, fun h => by rw [h]⟩
 unfold itemF itemNo
 simp only [e]
 by_cases h1 : s = Px.sView
 ·subst h1; decide
 ·by_cases h2 : s = Px.sBase
  ·subst h2; decide
  ·by_cases h3 : s = Px.sFunction
   ·subst h3; decide
   ·by_cases h4 : s = Px.sLattice
    ·subst h4; decide
    ·simp [h1, h2, h3, h4]
abbrev IMap (w : World) (rb b n : Nat) (f : ByteArray → Option (Fin 4)) : Prop := FMap w Tryd.prog 9 (frd rb) Value.string fdat b n f
theorem zero_func (rb : Nat) (w : World) : (zeroValue 1).run Tryd.prog w = .ok (fmk rb 0) w := by kernel_rfl
theorem fit_word {s : List UInt8} (h : s.length ≤ 100) : FitS (bs s) := by
 have h1 : (bs s).size = s.length := by rw [← size_len]; rfl
 show _ ≤ maxLen
 unfold maxLen
 omega
set_option maxHeartbeats 1000000 in
set_option maxRecDepth 100000 in
theorem items_any (rb : Nat) (w : World) : Calls Tryd.prog 28 #[.pointer (some ⟨rb, 0, none⟩)] w fun e w' => (∃ b, e = .returned (.map (some b)) ∧ w.heap.size ≤ b ∧ IMap w' rb b 4 itemF) ∧ Below w.heap.size w w' := by
 have hmf := hmf_any
 have hmm := @run_makeMap Tryd.prog
 have h0 : IMap (w.alloc (.map #[] 0)) rb w.heap.size 0 (fun _ => none) := FMap.made w _ _ _ _ _
 have g0 : (w.alloc (.map #[] 0)).grownBy (w.alloc (.map #[] 0)) (some w.heap.size) := grown_refl _ _
 go_enter Tryd.func28, Tryd.ntmps28
 go_wp2_with first
  | (refine wpList_fmap_insert _ rfl _ _ _ 84 rfl h0 str_enc (f_enc rb) Tryd.underlying84 (by unfold maxLen; omega) rfl (bs Px.sLattice) rfl (fit_word (by decide)) 1 rfl fun w1 h1 g1 => ?_; have g1 := grown_trans g0 g1; clear h0 g0)
  | (refine wpList_fmap_insert _ rfl _ _ _ 84 rfl h1 str_enc (f_enc rb) Tryd.underlying84 (by unfold maxLen; omega) rfl (bs Px.sFunction) rfl (fit_word (by decide)) 2 rfl fun w2 h2 g2 => ?_; have g2 := grown_trans g1 g2; clear h1 g1)
  | (refine wpList_fmap_insert _ rfl _ _ _ 84 rfl h2 str_enc (f_enc rb) Tryd.underlying84 (by unfold maxLen; omega) rfl (bs Px.sBase) rfl (fit_word (by decide)) 3 rfl fun w3 h3 g3 => ?_; have g3 := grown_trans g2 g3; clear h2 g2)
  | (refine wpList_fmap_insert _ rfl _ _ _ 84 rfl h3 str_enc (f_enc rb) Tryd.underlying84 (by unfold maxLen; omega) rfl (bs Px.sView) rfl (fit_word (by decide)) 3 rfl fun w4 h4 g4 => ?_; have g4 := grown_trans g3 g4; clear h3 g3)
 go_ret
 exact ⟨⟨_, rfl, Nat.le_refl _, h4⟩, (below1 w _).trans (below_of_grown g4 (Nat.le_refl _) (by simp))⟩
end Go.Proofs.YtpcmlkpnjimbiaaDoor
namespace Go.Proofs.YtpcmlkpnjimbiaaDoor
set_option linter.unusedVariables false
set_option linter.unusedSimpArgs false
open Go.RowKit
section
variable {w : World} {rb : Nat} {TA : Option Addr} {tc : Nat} {ts : List Lx.Tok} {sz i : Nat} {o : Outs}
theorem starts_eq (s : List UInt8) : Lib.containsS ((Px.starts.map bs).take 5) (bs s) = Px.starts.contains s := by
 rw [show (Px.starts.map bs).take 5 = Px.starts.map bs from rfl, Bool.eq_iff_iff, Lib.containsS_iff, List.contains_iff_mem, List.mem_map]
 constructor
 ·rintro ⟨z, hz, e⟩
  have : z = s := by have := congrArg ByteArray.toList e; rwa [bs_list, bs_list] at this
  rw [← this]; exact hz
 ·intro h; exact ⟨s, h, rfl⟩
theorem starts_var (h : Rd w rb TA tc ts sz i o) : ∃ g og c, Hid ((∀ z : Held w.heap.size w, z.w.cell? ⟨0, 0, none⟩ = some (.slice (some ⟨g, og, none⟩) 5 c)) ∧ ∀ (s : List UInt8) (z : Held w.heap.size w), Calls Tryd.prog 60 #[.slice (some ⟨g, og, none⟩) 5 c, .string (bs s)] z.w fun e w' => e = .returned (.bool (Px.starts.contains s)) ∧ z.w = w') := by
 obtain ⟨h0, g, og, c, h1, h2, h3⟩ := h.tb.starts
 have hl := h.box.lt
 refine ⟨g, og, c, Lib.hid ⟨fun z => z.cell (Nat.lt_trans h0 hl) h1, fun s z => ?_⟩⟩
 rw [← starts_eq]
 refine (Tryd.slices_Contains_string g og 5 c (Px.starts.map bs) (bs s) _ (by decide) (by decide) (fun j hj => z.cell (Nat.lt_trans h2 hl) (h3 j (by simpa using hj)))).mono ?_
 rintro e w' ⟨rfl, rfl⟩
 exact ⟨rfl, rfl⟩
theorem skip_off {f : Nat} {ts : List Px.Kt} {i : Nat} (h : ¬(i < ts.length ∧ Px.starts.contains (Px.tx ts i) = false)) : Px.skip f ts i = i := by
 cases f with
 | zero => rfl
 | succ f => unfold Px.skip; rw [if_neg h]
set_option maxHeartbeats 2000000 in
set_option maxRecDepth 100000 in
theorem skip_any (h : Rd w rb TA tc ts sz i o) : Calls Tryd.prog 32 #[.pointer (some ⟨rb, 0, none⟩)] w fun e w' => e = .returned (.tuple #[]) ∧ Mv rb (Px.skip Px.fuel (Px.kts ts) i) w w' ∧ Rd w' rb TA tc ts sz (Px.skip Px.fuel (Px.kts ts) i) o := by
 obtain ⟨RR, hRR⟩ : ∃ RR, Px.skip Px.fuel (Px.kts ts) i = RR := ⟨_, rfl⟩
 rw [hRR]
 have HL0 := Lib.hid hRR
 have HR := Lib.hid h
 have hl := h.box.lt
 have hm0 := Mv.still h (Below.refl _ _)
 have hi := h.few.2.2
 clear hRR
 go_enter Tryd.func32, Tryd.ntmps32
 go_wp2_with fail
 go_loopw [2] (fun _ wr => ∃ (f j : Nat), ts.length + 1 ≤ f + j ∧ Hid (Px.skip f (Px.kts ts) j = RR) ∧ Mv rb j w wr ∧ Rd wr rb TA tc ts sz j o) (fun _ wr => ts.length - rdAt rb wr)
 case atStart => exact ⟨Px.fuel, i, (by have := h.few; unfold Px.fuel; omega), HL0, hm0, h⟩
 case round =>
  clear hm0 HL0 h
  obtain ⟨f, j, hfj, HL, hm, hr⟩ := hrel
  have hrd := Lib.hid (rdAt_rd hr)
  have hjl := hr.few.2.2
  have hsz := hr.few
  obtain ⟨gs, os, cs, HSG⟩ := starts_var hr
  have f2 : ∀ z : Held wr.heap.size wr, z.w.cell? ⟨0, 0, none⟩ = some (.slice (some ⟨gs, os, none⟩) 5 cs) := HSG.out.1
  have f0 : ∀ z : Held wr.heap.size wr, z.w.cell? ⟨rb, 0, none⟩ = some (.slice TA ts.length tc) := fun z => z.cell hr.box.lt hr.cells.1
  have f1 : ∀ z : Held wr.heap.size wr, z.w.cell? ⟨rb, 1, none⟩ = some (.int .i64 j) := fun z => z.cell hr.box.lt hr.cells.2.1
  have HPK := Lib.hid (fun z : Held wr.heap.size wr => peek0_any (hr.next z.ok))
  have ff := fun W => field_tok1 (tokAt ts sz j).kind 0 (tokAt ts sz j).pos (bs (tokAt ts sz j).text) W
  by_cases hlt : j < ts.length
  ·have d1 : decide ((j : Int) < (ts.length : Int)) = true := decide_eq_true (by omega)
   have n1 : decide (j < ts.length) = true := decide_eq_true hlt
   obtain ⟨z, hz⟩ : ∃ z, Px.starts.contains (tokAt ts sz j).text = z := ⟨_, rfl⟩
   have HCT := Lib.hid (fun x : Held wr.heap.size wr => by have := HSG.out.2 (tokAt ts sz j).text x; rw [hz] at this; exact this)
   rw [← tx_at ts sz] at hz
   cases z with
   | true =>
    have HE := Lib.hid ((skip_off (f := f) (fun h => by rw [hz] at h; exact absurd h.2 (by simp))).symm.trans HL.out)
    clear hz hlt HL hsz
    go_wp2_with fail
    refine wp_region_held wr.heap.size wr (Below.refl _ _) (by kernel_rfl) (by kernel_rfl) ?_
    repeat (go_big_quiet_step (first
     | (go_at_call 29; exact held_call _ (Nat.le_refl _) (HPK.out _))
     | (go_at_call 60; exact held_same _ (HCT.out _))))
    refine wpQuiet_nil ?_
    rintro wt ⟨⟨_, bt⟩, rfl⟩
    go_wp2_with fail
    go_end0
    rw [← HE.out]
    exact ⟨rfl, hm.trans hl (Mv.still hr bt), hr.next bt⟩
   | false =>
    obtain ⟨f, rfl⟩ : ∃ f2, f = f2 + 1 := ⟨f - 1, by omega⟩
    have hk := HL.out
    unfold Px.skip at hk
    rw [kts_len, if_pos ⟨hlt, hz⟩] at hk
    have HK := Lib.hid hk
    obtain ⟨m, hm1⟩ : ∃ m, j + 1 = m := ⟨_, rfl⟩
    have e0 : (j : Int) + 1 = (m : Int) := by omega
    have wm : IntKind.i64.wrap (m : Int) = (m : Int) := IntWalk.i64_in _ (by omega)
    have hml : m ≤ ts.length := by omega
    have hjm : j < m := by omega
    rw [hm1] at HK
    clear hz hlt HL hk hsz hm1
    by_cases h1 : Px.tx (Px.kts ts) j = [46]
    ·have t1 : ((bs (tokAt ts sz j).text).toList == [46]) = true := (bs_eqc _ _).trans (decide_eq_true (by rw [← tx_at ts sz]; exact h1))
     have HE := Lib.hid ((if_pos (Or.inl h1)).symm.trans HK.out)
     clear h1 HK
     go_wp2_with fail
     refine wp_region_held wr.heap.size wr (Below.refl _ _) (by kernel_rfl) (by kernel_rfl) ?_
     repeat (go_big_quiet_step (first
      | (go_at_call 29; exact held_call _ (Nat.le_refl _) (HPK.out _))
      | (go_at_call 60; exact held_same _ (HCT.out _))))
     refine wpQuiet_nil ?_
     rintro wt ⟨⟨_, bt⟩, rfl⟩
     have hrt := hr.next bt
     have HP2 := Lib.hid (peek0_any hrt)
     clear f0 f1 f2 HPK HCT
     go_wp2_with (go_at_call 29; refine HP2.out.mono ?_; rintro e w3 ⟨rfl, hb3⟩; have hr3 := hrt.next hb3; have r1 := hr3.cells.2.1; have yf := hr3.box.frozen 1; have yl := hr3.box.lt; clear HP2)
     clear r1 yf yl
     have hn := Mv.step hr3 (Below.refl _ _) m
     have hrw := hn.rd hr3 hml
     have hmw := ((hm.trans hl (Mv.still hr bt)).trans hl (Mv.still hrt hb3)).trans hl hn
     refine bodyPost_ret (results_none rfl _ _ _) rfl ?_
     rw [← HE.out]
     exact ⟨rfl, hmw, hrw⟩
    ·have t1 : ((bs (tokAt ts sz j).text).toList == [46]) = false := (bs_eqc _ _).trans (decide_eq_false (by rw [← tx_at ts sz]; exact h1))
     by_cases h2 : Px.tx (Px.kts ts) j = [125]
     ·have t2 : ((bs (tokAt ts sz j).text).toList == [125]) = true := (bs_eqc _ _).trans (decide_eq_true (by rw [← tx_at ts sz]; exact h2))
      have HE := Lib.hid ((if_pos (Or.inr h2)).symm.trans HK.out)
      clear h1 h2 HK
      go_wp2_with fail
      refine wp_region_held wr.heap.size wr (Below.refl _ _) (by kernel_rfl) (by kernel_rfl) ?_
      repeat (go_big_quiet_step (first
       | (go_at_call 29; exact held_call _ (Nat.le_refl _) (HPK.out _))
       | (go_at_call 60; exact held_same _ (HCT.out _))))
      refine wpQuiet_nil ?_
      rintro wt ⟨⟨_, bt⟩, rfl⟩
      have hrt := hr.next bt
      have HP2 := Lib.hid (peek0_any hrt)
      clear f0 f1 f2 HPK HCT
      go_wp2_with (go_at_call 29; refine HP2.out.mono ?_; rintro e w3 ⟨rfl, hb3⟩; have hr3 := hrt.next hb3; have r1 := hr3.cells.2.1; have yf := hr3.box.frozen 1; have yl := hr3.box.lt; clear HP2)
      clear r1 yf yl
      have hn := Mv.step hr3 (Below.refl _ _) m
      have hrw := hn.rd hr3 hml
      have hmw := ((hm.trans hl (Mv.still hr bt)).trans hl (Mv.still hrt hb3)).trans hl hn
      refine bodyPost_ret (results_none rfl _ _ _) rfl ?_
      rw [← HE.out]
      exact ⟨rfl, hmw, hrw⟩
     ·have t2 : ((bs (tokAt ts sz j).text).toList == [125]) = false := (bs_eqc _ _).trans (decide_eq_false (by rw [← tx_at ts sz]; exact h2))
      have HE := Lib.hid ((if_neg (fun h => h.elim h1 h2)).symm.trans HK.out)
      clear h1 h2 HK
      go_wp2_with fail
      refine wp_region_held wr.heap.size wr (Below.refl _ _) (by kernel_rfl) (by kernel_rfl) ?_
      repeat (go_big_quiet_step (first
       | (go_at_call 29; exact held_call _ (Nat.le_refl _) (HPK.out _))
       | (go_at_call 60; exact held_same _ (HCT.out _))))
      refine wpQuiet_nil ?_
      rintro wt ⟨⟨_, bt⟩, rfl⟩
      have hrt := hr.next bt
      have HP2 := Lib.hid (peek0_any hrt)
      clear f0 f1 f2 HPK HCT
      go_wp2_with (go_at_call 29; refine HP2.out.mono ?_; rintro e w3 ⟨rfl, hb3⟩; have hr3 := hrt.next hb3; have r1 := hr3.cells.2.1; have yf := hr3.box.frozen 1; have yl := hr3.box.lt; clear HP2)
      clear r1 yf yl
      have hn := Mv.step hr3 (Below.refl _ _) m
      have hrw := hn.rd hr3 hml
      have hmw := ((hm.trans hl (Mv.still hr bt)).trans hl (Mv.still hrt hb3)).trans hl hn
      go_roundw
      case rel => exact ⟨f, m, by omega, HE, hmw, hrw⟩
      case measure => rw [hrd.out, rdAt_rd hrw]; omega
  ·have d1 : decide ((j : Int) < (ts.length : Int)) = false := decide_eq_false (by omega)
   have n1 : decide (j < ts.length) = false := decide_eq_false hlt
   have HE := Lib.hid ((skip_off (f := f) (fun h => hlt (by have := h.1; rwa [kts_len] at this))).symm.trans HL.out)
   clear hlt HL hsz
   go_wp2_with fail
   refine wp_region_held wr.heap.size wr (Below.refl _ _) (by kernel_rfl) (by kernel_rfl) ?_
   repeat (go_big_quiet_step (fail))
   refine wpQuiet_nil ?_
   rintro wt ⟨⟨_, bt⟩, rfl⟩
   go_wp2_with fail
   go_end0
   rw [← HE.out]
   exact ⟨rfl, hm.trans hl (Mv.still hr bt), hr.next bt⟩
end
end Go.Proofs.YtpcmlkpnjimbiaaDoor
namespace Go.Proofs.YtpcmlkpnjimbiaaDoor
set_option linter.unusedVariables false
set_option linter.unusedSimpArgs false
open Go.RowKit
namespace Lx
theorem wkind_three {t : List UInt8} (h : wkind t = 3) : t.length ≤ 4 ∧ ∀ c ∈ t, 48 ≤ c.toNat ∧ c.toNat ≤ 57 := by
 cases t with
 | nil => simp [wkind] at h
 | cons c r =>
  by_cases h4 : ((c :: r).all digitB && decide ((c :: r).length ≤ 4) && (!(c == 48) || r.isEmpty)) = true
  ·have h5 := h4
   rw [Bool.and_eq_true, Bool.and_eq_true] at h5
   refine ⟨of_decide_eq_true h5.1.2, fun x hx => ?_⟩
   have := List.all_eq_true.1 h5.1.1 x hx
   unfold digitB at this
   simpa using this
  ·exfalso
   unfold wkind at h
   dsimp only at h
   rw [if_neg h4] at h
   split at h
   ·omega
   ·split at h
    ·omega
    ·split at h <;> omega
theorem own_kind3 {t : Tok} (h : Own t) (hk : t.kind = 3) : t.text.length ≤ 4 ∧ ∀ c ∈ t.text, 48 ≤ c.toNat ∧ c.toNat ≤ 57 := by
 obtain ⟨h1, h2, h3⟩ := h
 rcases next_len2 h1 h2 with ⟨_, h4, _⟩ | ⟨_, hn, hw⟩
 ·omega
 ·have e : t.text.takeWhile wordB = t.text := by
   have := take_tw t.text
   rw [← hn, List.take_length] at this
   exact this.symm
  rw [e, hk] at hw
  exact wkind_three hw.symm
end Lx
theorem dig_of {s : List UInt8} (h : (Lx.lex s).2.1 = 0) : Dig (Lx.lex s).1 := by
 have key : ∀ t ∈ (Lx.lex s).1, Lx.Own t := fun t ht => by
  obtain ⟨k, hk, rfl⟩ := List.mem_iff_getElem.1 ht
  exact Lx.own_of h hk
 exact ⟨fun t ht hk => Lx.own_kind3 (key t ht) hk, fun t ht => by have := (key t ht).2.2; omega⟩
theorem str_toks {w : World} {B c : Nat} {A : Option Addr} {ts : List Lx.Tok} (h : w.ownsRow B 41 3 (.slice A ts.length c) ts.length (tokCells ts)) : Str w A 3 (ts.map tkfs) := fun hn => by
 obtain ⟨A', c', e, h1, h2, h0⟩ := own_cells h
 injection e with e1 e2 e3
 subst e1; subst e3
 rcases h0 with h0 | ⟨g, rfl, _, hg, hc⟩
 ·have : ts = [] := List.eq_nil_of_length_eq_zero h0
  subst this
  exact absurd rfl hn
 ·refine ⟨g, 0, rfl, hg, fun i fs hi j v hj => ?_⟩
  rw [List.getElem?_map, Option.map_eq_some_iff] at hi
  obtain ⟨t, ht, rfl⟩ := hi
  obtain ⟨q0, q1, q2⟩ := tokCells_at ht
  rw [Nat.zero_add]
  have hj3 : j < 3 := by have := (List.getElem?_eq_some_iff.1 hj).1; simpa [tkfs] using this
  rcases (by omega : j = 0 ∨ j = 1 ∨ j = 2) with rfl | rfl | rfl
  ·exact hc _ v (by simp [tkfs] at hj; subst hj; exact q0)
  ·exact hc _ v (by simp [tkfs] at hj; subst hj; exact q1)
  ·exact hc _ v (by simp [tkfs] at hj; subst hj; exact q2)
def o0 : Outs := ⟨⟨none, 0, 0⟩, ⟨none, 0, 0⟩, ⟨none, 0, 0⟩, ⟨none, 0, 0⟩⟩
theorem outw0 (w : World) (B : Nat) : Outw w B o0 ⟨[], [], [], []⟩ := ⟨ORows.nil _ _ _ _, ORows.nil _ _ _ _, ORows.nil _ _ _ _, ORows.nil _ _ _ _⟩
/-- What open leaves. -/
def OpenPost (w : World) (s : ByteArray) (e : Ending) (w' : World) : Prop :=
 Below w.heap.size w w' ∧ if (Lx.lex s.data.toList).2.1 = 0 then
  ∃ (rb : Nat) (TA : Option Addr) (tc : Nat), e = .returned (.tuple #[.pointer (some ⟨rb, 0, none⟩), .slice none 0 0]) ∧ w.heap.size ≤ rb ∧ Rd w' rb TA tc (Lx.lex s.data.toList).1 s.size 0 o0
 else ∃ g : Nat, e = .returned (.tuple #[.pointer none, .slice (some ⟨g, 0, none⟩) 1 1]) ∧ w.heap.size ≤ g ∧ At w' g 43 #[.int .i64 (Lx.lex s.data.toList).2.1, .int .i64 (Lx.lex s.data.toList).2.2]
set_option maxHeartbeats 1000000 in
set_option maxRecDepth 100000 in
theorem open_any (s : ByteArray) (w : World) (B : Nat) (hy : Syms w) (htb : Tb B w) (hB : B ≤ w.heap.size) (hs : s.size ≤ 1000000) : Calls Tryd.prog 27 #[.string s] w (OpenPost w s) := by
 obtain ⟨L, hL⟩ : ∃ L, Lx.lex s.data.toList = L := ⟨_, rfl⟩
 obtain ⟨ts, er, po⟩ := L
 have HC0 := lex_val w hy (by omega) hL
 have HC := Lib.hid HC0
 have HLX := Lib.hid hL
 have HTB := Lib.hid htb
 have hsz : (s.size : Int) ≤ 1000000 := by omega
 clear HC0 hL htb
 by_cases h0 : er = 0
 ·subst h0
  have e1 : ((0 : Int) != 0) = false := rfl
  go_enter Tryd.func27, Tryd.ntmps27
  go_wp2_with (go_at_call 24; refine HC.out.mono ?_; rintro e w2 ⟨A, c, rfl, ho, hb⟩; clear HC)
  have hg := HLX.out
  have hok : (Lx.lex s.data.toList).2.1 = 0 := by rw [hg]
  obtain ⟨g1, g2, _⟩ := Lx.lex_get hok
  have hdig := dig_of hok
  rw [hg] at g2 hdig
  have hst := str_toks ho
  go_ret2
  unfold OpenPost
  rw [HLX.out]
  dsimp only
  refine ⟨hb.alloc hb.size _, ?_⟩
  rw [if_pos rfl]
  refine ⟨w2.heap.size, A, c, rfl, hb.size, ?_⟩
  have hb2 := below1 w2 (.cells #[.slice A ts.length c, .int .i64 0, .int .i64 s.size, .slice none 0 0, .slice none 0 0, .slice none 0 0, .slice none 0 0] 87)
  refine ⟨At.new _ _ _, hst.below hb2, ⟨g2, by omega, Nat.zero_le _⟩, ?_, hdig, fun a ha => ?_⟩
  ·exact ((HTB.out.below (hb.mono hB)).below (hb2.mono (Nat.le_trans hB hb.size))).more (Nat.le_trans hB hb.size)
  ·subst ha
   exact (own_lt ho rfl).2
 ·have e1 : (er != 0) = true := by simpa using h0
  go_enter Tryd.func27, Tryd.ntmps27
  go_wp2_with (go_at_call 24; refine HC.out.mono ?_; rintro e w2 ⟨A, c, rfl, ho, hb⟩; clear HC)
  go_ret2
  unfold OpenPost
  rw [HLX.out]
  dsimp only
  refine ⟨hb.alloc hb.size _, ?_⟩
  rw [if_neg h0]
  exact ⟨w2.heap.size, rfl, hb.size, At.new _ _ _⟩
end Go.Proofs.YtpcmlkpnjimbiaaDoor
