/- Sets of names: the walks of safety.of, lacks and add. -/
import Derived.Test.YtoficnfpoeaccaaDoorKRefA
import Derived.Test.YtoficnfpoeaccaaDoorKRef6
import Derived.Test.YtoficnfpoeaccaaDoorMap
namespace Go.Proofs.YtoficnfpoeaccaaDoor
set_option linter.unusedVariables false
set_option linter.unusedSimpArgs false
open Go.RowKit
theorem FMap.obj {κ α : Type} {w : World} {P : Program} {k : TypeId} {R : Value → Option (DataW Unit × List MemPlace)} {val : κ → Value} {dat : α → DataW Unit} {b n : Nat} {f : κ → Option α} (h : FMap w P k R val dat b n f) : ∃ es c, w.heap[b]? = some (.map es c) := by
  obtain ⟨D, ⟨es, clock, h1, h2⟩, r⟩ := h
  exact ⟨es, clock, h1⟩
theorem FMap.madeAt {κ α : Type} {w : World} {g : Nat} (hg : w.heap.size = g) (P : Program) (k : TypeId) (R : Value → Option (DataW Unit × List MemPlace)) (val : κ → Value) (dat : α → DataW Unit) : FMap (w.alloc (.map #[] 0)) P k R val dat g 0 (fun _ => none) := by
  subst hg; exact FMap.made w P k R val dat
theorem At.not_map {w : World} {g b : Nat} {t : TypeId} {cs : Array Value} {es : Array MapEntry} {k : Nat} (h : At w g t cs) (hm : w.heap[b]? = some (.map es k)) : some g ≠ some b := by
  intro e
  injection e with e
  subst e
  unfold At at h
  rw [hm] at h
  simp at h
abbrev FitS (s : ByteArray) : Prop := s.size ≤ maxLen
theorem str_enc0 : KEnc Tryd.prog 9 Value.string FitS :=
  ⟨Maps.string_keyed Tryd.underlying9, fun x h => ⟨.string x.data.toList, by simp [keyOf, Tryd.underlying9, mapKey]; exact h⟩, fun x y h => by simpa using h⟩
theorem unit_enc : EEnc unitElem (fun _ : Unit => Value.agg #[]) (fun _ => (.agg [] : DataW Unit)) := eenc_unit
theorem zero_unit (w : World) : (zeroValue 130).run Tryd.prog w = .ok (.agg #[]) w := by kernel_rfl
theorem bool_enc : EEnc (plainElem Tryd.prog 4) (fun x : Bool => .bool x) (fun x => .lit (.bool x)) := eenc_bool Tryd.underlying4
theorem zero_bool (w : World) : (zeroValue 4).run Tryd.prog w = .ok (.bool false) w := by kernel_rfl
abbrev bdat : Bool → DataW Unit := fun x => .lit (.bool x)
abbrev SMap (w : World) (b n : Nat) (f : ByteArray → Option Unit) : Prop := FMap w Tryd.prog 9 unitElem Value.string (fun _ => .agg []) b n f
/-- A set that holds just the names of B, but perhaps the empty one. -/
def SetIs (w : World) (b n : Nat) (B : Ko.Bd) : Prop := ∃ f, SMap w b n f ∧ ∀ x : ByteArray, x.data.toList ≠ [] → (f x).isSome = B x
section
variable {w w' : World} {b n : Nat} {B : Ko.Bd}
theorem SetIs.lt (h : SetIs w b n B) : b < w.heap.size := by obtain ⟨f, h, _⟩ := h; exact h.lt
theorem SetIs.next (h : SetIs w b n B) (hb : Below w.heap.size w w') : SetIs w' b n B := by
  obtain ⟨f, h, r⟩ := h; exact ⟨f, h.next hb, r⟩
theorem SetIs.setCell (h : SetIs w b n B) {a : Addr} (ha : b ≠ a.block) (u : Value) : SetIs (w.setCell a u) b n B := by
  obtain ⟨f, h, r⟩ := h; exact ⟨f, h.setCell ha u, r⟩
theorem SetIs.mono (h : SetIs w b n B) {n' : Nat} (hn : n ≤ n') : SetIs w b n' B := by
  obtain ⟨f, h, r⟩ := h; exact ⟨f, h.mono hn, r⟩
theorem SetIs.obj (h : SetIs w b n B) : ∃ es c, w.heap[b]? = some (.map es c) := by
  obtain ⟨f, h, _⟩ := h; exact h.obj
end
theorem var_of {x : ByteArray} (h : ¬ x.toList = []) : x.data.toList ≠ [] := by rwa [Lib.toList_data] at h
set_option maxRecDepth 100000 in
theorem of_any (A : Option Addr) (c : Nat) (l : List ByteArray) (w : World) (hA : NmAt w A l) (hl : l.length ≤ 1000000) (hz : ∀ s ∈ l, FitS s) :
    Calls Tryd.prog 52 #[.slice A l.length c] w fun e w' => (∃ b, e = .returned (.map (some b)) ∧ w.heap.size ≤ b ∧ SetIs w' b l.length (bdN l)) ∧ Below w.heap.size w w' := by
  have HA := Lib.hid (fun W (h : Below w.heap.size w W) => hA.below h)
  have HZ := Lib.hid hz
  clear hA hz
  have hmm := @run_makeMap Tryd.prog
  go_enter Tryd.func52, Tryd.ntmps52
  go_wp2_with fail
  go_loopw [5, 9] (fun _ i wr => ∃ k : Nat, k ≤ l.length ∧ i = .int .i64 k ∧ SMap wr w.heap.size k (fun x => if hasN (l.take k) x = true then some () else none) ∧ Below w.heap.size w wr) (fun _ i _ => l.length - (intOf i).toNat)
  case atStart => exact ⟨0, by omega, rfl, FMap.made w _ _ _ _ _, below1 _ _⟩
  case round =>
    obtain ⟨k, hk, rfl, hm, hw⟩ := hrel
    by_cases h1 : k < l.length
    · have d1 : decide ((k : Int) < (l.length : Int)) = true := by simp; omega
      obtain ⟨x, hx⟩ : ∃ x, l[k]? = some x := ⟨_, List.getElem?_eq_getElem h1⟩
      obtain ⟨g, o, rfl, hg, c0⟩ := (HA.out wr hw).at hx
      have i0 : (0 : Int) ≤ (k : Int) := by omega
      have i1 : (k : Int) < (l.length : Int) := by omega
      have HM := Lib.hid (fun s => hasN_more (s := s) hx)
      have hfx := HZ.out x (List.mem_of_getElem? hx)
      clear hx
      go_wp2_with (at_mapUpdate; refine wpList_fmap_update _ rfl _ _ _ 117 rfl hm str_enc0 unit_enc Tryd.underlying117 (by unfold maxLen; omega) rfl x rfl hfx () rfl ?_; intro w9 hk9 g9)
      go_roundw
      case rel =>
        refine ⟨k + 1, by omega, by go_num, ?_, hw.trans (below_of_grown g9 (Nat.le_refl _) hw.size)⟩
        have e : (fun y : ByteArray => if hasN (l.take (k + 1)) y = true then some () else none) = (fun y => if y = x then some () else if hasN (l.take k) y = true then some () else none) := by
          funext y
          rw [HM.out y]
          by_cases hy : y = x
          · subst hy; simp
          · simp [hy, Ne.symm hy]
        rw [e]
        exact hk9
      case measure => simp [intOf]; omega
    · have d1 : decide ((k : Int) < (l.length : Int)) = false := by simp; omega
      go_wp2_with fail
      go_ret
      have hm := hm.mono hk
      refine ⟨⟨_, rfl, Nat.le_refl _, _, hm, fun x _ => ?_⟩, hw⟩
      rw [List.take_of_length_le (by omega)]
      show (if hasN l x = true then some () else none).isSome = hasN l x
      cases hasN l x <;> rfl
set_option maxRecDepth 100000 in
theorem lacks_any (b n : Nat) (B : Ko.Bd) (t : Tm) (w : World) (h : SetIs w b n B) (hz : FitS t.v) :
    Calls Tryd.prog 68 #[.map (some b), .agg #[.string t.v, .int .i64 t.t, .int .i64 t.n, .string t.s]] w fun e w' => e = .returned (.bool (!Ko.known B t)) ∧ Below w.heap.size w w' := by
  obtain ⟨f, hm, hf⟩ := h
  have q0 := (hm.alloc (.cells #[.string t.v, .int .i64 t.t, .int .i64 t.n, .string t.s] 64)).look_ok (a0 := ()) str_enc0 unit_enc Tryd.underlying117 (zero_unit _) t.v hz
  have HF := Lib.hid (hf t.v)
  have HK := Lib.hid (known_name B t)
  have hb2 : Below w.heap.size w ((w.alloc (.cells #[.string t.v, .int .i64 t.t, .int .i64 t.n, .string t.s] 64)).alloc (.cells #[] 130)) := (below1 _ _).alloc (by simp) _
  clear hf
  obtain ⟨z, hz⟩ : ∃ z, (f t.v).isSome = z := ⟨_, rfl⟩
  rw [hz] at q0 HF
  clear hz
  by_cases hv : t.v.toList = []
  · have t1 : (t.v.toList == []) = true := by rw [hv]; rfl
    have t2 : (t.v.toList != []) = false := by rw [hv]; rfl
    have HR := Lib.hid (show (!Ko.known B t) = false by rw [HK.out, decide_eq_true hv]; rfl)
    clear hv
    go_enter Tryd.func68, Tryd.ntmps68
    go_wp2_with fail
    go_ret
    exact ⟨by rw [HR.out]; rfl, hb2⟩
  · have t1 : (t.v.toList == []) = false := by simpa using hv
    have t2 : (t.v.toList != []) = true := by simpa using hv
    have HR := Lib.hid (show (!Ko.known B t) = !z by rw [HK.out, decide_eq_false hv, ← HF.out (var_of hv)]; rfl)
    clear hv
    go_enter Tryd.func68, Tryd.ntmps68
    go_wp2_with fail
    go_ret
    exact ⟨by rw [HR.out]; rfl, hb2⟩
theorem cell_not_map {w : World} {g i b : Nat} {v : Value} {es : Array MapEntry} {k : Nat} (h : w.cell? ⟨g, i, none⟩ = some v) (hm : w.heap[b]? = some (.map es k)) : g ≠ b := by
  rintro rfl
  simp [World.cell?, hm] at h
theorem grown_cell {w w' : World} {p : Addr} {row : Option Nat} (h : w.grownBy w' row) (hp : p.block < w.heap.size) (hr : some p.block ≠ row) : w'.cell? p = w.cell? p := by
  unfold World.cell?
  rw [h.block p.block hp hr]
theorem Str.grown {w w' : World} {A : Option Addr} {k b : Nat} {xs : List (List Value)} {es : Array MapEntry} {q : Nat} (h : Str w A k xs) (hm : w.heap[b]? = some (.map es q)) (hg : w.grownBy w' (some b)) : Str w' A k xs := fun hn => by
  obtain ⟨g, o, e, hgs, hc⟩ := h hn
  refine ⟨g, o, e, Nat.lt_of_lt_of_le hgs hg.size, fun i fs hi j v hv => ?_⟩
  have := hc i fs hi j v hv
  rw [grown_cell hg hgs (fun e => cell_not_map this hm (by injection e))]
  exact this
theorem bindL_more {B : Ko.Bd} {ts : List Tm} {k : Nat} {x : Tm} (h : ts[k]? = some x) : Ko.bindL B (ts.take (k + 1)) = Ko.bindT (Ko.bindL B (ts.take k)) x := by
  unfold Ko.bindL
  rw [List.take_add_one, h, List.foldl_append]
  rfl
theorem bindT_const {B : Ko.Bd} {x : Tm} (h : x.v.toList = []) : Ko.bindT B x = B := by
  rw [Lib.toList_data] at h
  funext y
  simp [Ko.bindT, Ko.isVar, h]
theorem bindT_var {B : Ko.Bd} {x : Tm} (h : ¬ x.v.toList = []) (y : ByteArray) : Ko.bindT B x y = (B y || decide (x.v = y)) := by
  rw [Lib.toList_data] at h
  simp [Ko.bindT, Ko.isVar, h]
theorem SetIs.kept {w w' : World} {b n : Nat} {B : Ko.Bd} {row : Option Nat} (h : SetIs w b n B) (hg : w.grownBy w' row) (hne : some b ≠ row) : SetIs w' b n B := by
  obtain ⟨f, h, r⟩ := h; exact ⟨f, h.kept hg hne, r⟩
theorem SetIs.alloc {w : World} {b n : Nat} {B : Ko.Bd} (h : SetIs w b n B) (o : Obj) : SetIs (w.alloc o) b n B := by
  obtain ⟨f, h, r⟩ := h; exact ⟨f, h.alloc o, r⟩
theorem grown_alloc {w w' : World} {row : Option Nat} (h : w.grownBy w' row) (o : Obj) : w.grownBy (w'.alloc o) row := grown_trans h (grown_of_below (below1 w' o) row)
set_option maxRecDepth 100000 in
theorem addset_any (b n : Nat) (B : Ko.Bd) (t : Lt) (w : World) (h : SetIs w b n B) (hT : Str w t.aa 4 (t.args.map Tm.fs)) (hl : t.args.length ≤ 1000000) (hn : n ≤ 1000000) (hz : ∀ x ∈ t.args, FitS x.v) :
    Calls Tryd.prog 54 #[.map (some b), t.v] w fun e w' => e = .returned (.tuple #[]) ∧ SetIs w' b (n + t.args.length) (Ko.bindL B t.args) ∧ w.grownBy w' (some b) := by
  obtain ⟨kind, name, pred, aa, ac, args, bind, elem, least, op, pos⟩ := t
  have HT := Lib.hid (fun W (hg : w.grownBy W (some b)) => by
    obtain ⟨es, c, ho⟩ := h.obj
    exact hT.grown ho hg)
  have HZ := Lib.hid hz
  unfold Lt.v
  dsimp only at *
  clear hT hz
  go_enter Tryd.func54, Tryd.ntmps54
  go_wp2_with fail
  go_loopw [5, 9] (fun _ i wr => ∃ k : Nat, k ≤ args.length ∧ i = .int .i64 k ∧ SetIs wr b (n + k) (Ko.bindL B (args.take k)) ∧ w.grownBy wr (some b)) (fun _ i _ => args.length - (intOf i).toNat)
  case atStart => exact ⟨0, by omega, rfl, h.alloc _, grown_alloc (grown_refl _ _) _⟩
  case round =>
    clear h
    obtain ⟨k, hk, rfl, h, hw⟩ := hrel
    by_cases h1 : k < args.length
    · have d1 : decide ((k : Int) < (args.length : Int)) = true := by simp; omega
      obtain ⟨x, hx⟩ : ∃ x, args[k]? = some x := ⟨_, List.getElem?_eq_getElem h1⟩
      obtain ⟨g, o, rfl, hg, x0, x1, x2, x3⟩ := tm_cells (HT.out wr hw) hx
      have i0 : (0 : Int) ≤ (k : Int) := by omega
      have i1 : (k : Int) < (args.length : Int) := by omega
      have HM := Lib.hid (bindL_more (B := B) hx)
      have hfx := HZ.out x (List.mem_of_getElem? hx)
      clear hx
      by_cases hv : x.v.toList = []
      · have t1 : (x.v.toList == []) = true := by rw [hv]; rfl
        have t2 : (x.v.toList != []) = false := by rw [hv]; rfl
        have HS := Lib.hid (show SetIs wr b (n + (k + 1)) (Ko.bindL B (args.take (k + 1))) by
          rw [HM.out, bindT_const hv]
          exact h.mono (by omega))
        clear hv h
        go_wp2_with fail
        go_roundw
        case rel => exact ⟨k + 1, by omega, by go_num, HS.out.alloc _, grown_alloc hw _⟩
        case measure => simp [intOf]; omega
      · have t1 : (x.v.toList == []) = false := by simpa using hv
        have t2 : (x.v.toList != []) = true := by simpa using hv
        obtain ⟨f, hm, hf⟩ := h
        have hm1 := hm.alloc (.cells #[.string x.v, .int .i64 x.t, .int .i64 x.n, .string x.s] 64)
        have HV := Lib.hid hv
        have HF := Lib.hid hf
        clear hv hf hm
        go_wp2_with (at_mapUpdate; refine wpList_fmap_update _ rfl _ _ _ 117 rfl hm1 str_enc0 unit_enc Tryd.underlying117 (by unfold maxLen; omega) rfl x.v rfl hfx () rfl ?_; intro w9 hk9 g9)
        go_roundw
        case rel =>
          refine ⟨k + 1, by omega, by go_num, ⟨_, hk9, fun y hy => ?_⟩, grown_trans (grown_alloc hw _) g9⟩
          rw [HM.out, bindT_var HV.out, ← HF.out y hy]
          by_cases e : y = x.v
          · subst e; simp
          · simp [e, Ne.symm e]
        case measure => simp [intOf]; omega
    · have d1 : decide ((k : Int) < (args.length : Int)) = false := by simp; omega
      have HS := Lib.hid (show SetIs wr b (n + args.length) (Ko.bindL B args) by
        rw [List.take_of_length_le (by omega)] at h
        exact h.mono (by omega))
      go_wp2_with fail
      first | go_ret | go_end0
      exact ⟨rfl, HS.out, hw⟩
end Go.Proofs.YtoficnfpoeaccaaDoor
