/- The walk of Encode of value. -/
import Derived.Test.YtagibdofpcbgiaaDoorVTxt
import Derived.Test.YtagibdofpcbgiaaDoorVApp
import Derived.Deep.RegionHeldLaw
namespace Go.Proofs.YtagibdofpcbgiaaDoor
set_option linter.unusedVariables false
set_option linter.unusedSimpArgs false
open Go.RowKit Go.Shelf
theorem byte_info : (Tryd.prog.info? 5).map (fun i => (i.zero, i.size, i.bytes)) = some (some (.int .u8 0), 1, 1) := by kernel_rfl
def byteCells (l : List UInt8) : List Value := l.map fun b => .int .u8 (b.toNat : Int)
theorem byteCells_app (l r : List UInt8) : byteCells (l ++ r) = byteCells l ++ byteCells r := by simp [byteCells]
theorem byteCells_len (l : List UInt8) : (byteCells l).length = l.length := by simp [byteCells]
theorem vvalid_any (v : Vx.V) (w : World) (hw : Words w) (h : v.s.length ≤ 281474976710656) :
    Calls Tryd.prog 11 #[.agg #[.int .i64 v.t, .int .i64 v.n, .string ⟨v.s.toArray⟩]] w fun e w' => e = .returned (.bool (Vx.valid v)) ∧ Below w.heap.size w w' :=
  valid_any v.t v.n ⟨v.s.toArray⟩ w hw (by rw [size_mk]; exact h)
theorem valid_len {v : Vx.V} (h : Vx.valid v = true) : v.s.length ≤ 16 := by
  unfold Vx.valid at h
  split at h
  · simp at h; rw [h.2]; simp
  · simp [Vx.symbol] at h; omega
theorem encV_len {v : Vx.V} (h : Vx.valid v = true) : (Vx.encV v).length ≤ 18 := by
  have := valid_len h
  unfold Vx.encV; split <;> simp; omega
/-- What the first k values give, all of them being valid. -/
def EncAt (xs : List Vx.V) (k : Nat) (ds : List UInt8) : Prop := (xs.take k).all Vx.valid = true ∧ ds = (xs.take k).flatMap Vx.encV ∧ ds.length ≤ 18 * k
theorem EncAt.more {xs : List Vx.V} {k : Nat} {ds : List UInt8} {v : Vx.V} (h : EncAt xs k ds) (hv : xs[k]? = some v) (hok : Vx.valid v = true) : EncAt xs (k + 1) (ds ++ Vx.encV v) := by
  obtain ⟨h1, h2, h3⟩ := h
  have e : xs.take (k + 1) = xs.take k ++ [v] := by rw [List.take_add_one, hv]; rfl
  refine ⟨by rw [e, List.all_append, h1]; simp [hok], by rw [e, List.flatMap_append, ← h2]; simp, ?_⟩
  have := encV_len hok
  rw [List.length_append]; omega
theorem EncAt.stop {xs : List Vx.V} {k : Nat} {v : Vx.V} (hv : xs[k]? = some v) (hok : Vx.valid v = false) : Vx.encode xs = [] := by
  unfold Vx.encode
  rw [if_neg]
  intro h
  rw [List.all_eq_true] at h
  have := h v (List.mem_of_getElem? hv)
  rw [hok] at this; cases this
theorem EncAt.done {xs : List Vx.V} {ds : List UInt8} (h : EncAt xs xs.length ds) : Vx.encode xs = ds := by
  obtain ⟨h1, h2, h3⟩ := h
  rw [List.take_length] at h1 h2
  unfold Vx.encode
  rw [if_pos h1, h2]
theorem own_far {w : World} {B g : Nat} {e t : TypeId} {size n : Nat} {v : Value} {xs : List Value} {cs : Array Value} (h : w.ownsRow B e size v n xs) (ha : At w g t cs) (hne : t ≠ e) : some g ≠ v.ownBlock := by
  rcases h.2 with ⟨rfl, _⟩ | ⟨g', cap, cur, rfl, _, hh, _⟩
  · simp [Value.ownBlock]
  · intro he
    have : g = g' := by simpa [Value.ownBlock] using he
    subst this
    unfold At at ha
    rw [ha] at hh
    simp at hh
    exact hne hh.2
theorem enc_int {x : Vx.V} (ht : x.t = 1) (hn : 0 ≤ x.n ∧ x.n ≤ 9999) : (Vx.encV x).length = 3 ∧ byteCells (Vx.encV x) = [.int .u8 1, .int .u8 (x.n / 256), .int .u8 (x.n % 256)] := by
  unfold Vx.encV
  rw [if_pos ht]
  refine ⟨rfl, ?_⟩
  unfold byteCells
  simp only [List.map_cons, List.map_nil, UInt8.toNat_ofNat']
  rw [show (((x.n.toNat / 256 % 2 ^ 8 : Nat)) : Int) = x.n / 256 by omega, show (((x.n.toNat % 256 % 2 ^ 8 : Nat)) : Int) = x.n % 256 by omega]
  rfl
theorem enc_sym {x : Vx.V} {ds : List UInt8} (ht : ¬ x.t = 1) : (ds ++ Vx.encV x).length = ds.length + 1 + x.s.length + 1 ∧ byteCells (ds ++ Vx.encV x) = byteCells ds ++ [.int .u8 2] ++ Lib.strCells ⟨x.s.toArray⟩ ++ [.int .u8 0] := by
  unfold Vx.encV
  rw [if_neg ht]
  refine ⟨by simp; omega, ?_⟩
  simp [byteCells, Lib.strCells]
set_option maxHeartbeats 1500000 in
set_option maxRecDepth 100000 in
theorem encode_any (A : Option Addr) (c : Nat) (xs : List Vx.V) (w : World) (hx : xs.length ≤ 1000000) (hA : Tup w A xs) (fx : Fits xs) (hw : Words w) :
    Calls Tryd.prog 25 #[.slice A xs.length c] w fun e w' => (∃ v, e = .returned v ∧ w'.ownsRow w.heap.size 5 1 v (Vx.encode xs).length (byteCells (Vx.encode xs))) ∧ Below w.heap.size w w' := by
  obtain ⟨i0, hi, hz0, hz1, hz2⟩ := info_parts byte_info
  go_enter Tryd.func25, Tryd.ntmps25
  go_wp2
  go_loopw [3, 8] (fun v i wr => ∃ (k : Nat) (ds : List UInt8), k ≤ xs.length ∧ i = .int .i64 k ∧ Hid (EncAt xs k ds) ∧ ds.length ≤ 18 * k ∧ wr.ownsRow w.heap.size 5 1 v ds.length (byteCells ds) ∧ Below w.heap.size w wr) (fun _ i _ => xs.length - (intOf i).toNat)
  case atStart => exact ⟨0, [], by omega, rfl, Lib.hid ⟨rfl, rfl, by simp⟩, by simp, World.ownsRow_nil _ _ _ _, Below.refl _ _⟩
  case round =>
    obtain ⟨k, ds, hk, rfl, HE, hdl, hown, hbw⟩ := hrel
    by_cases h1 : k < xs.length
    · have d1 : decide ((k : Int) < (xs.length : Int)) = true := by simp; omega
      obtain ⟨g, o, rfl, hg, a0, a1, a2⟩ := (hA.below hbw).at h1
      have e1 := List.getElem?_eq_getElem h1
      have F1 := Lib.hid (fx _ (List.getElem_mem h1))
      generalize xs[k] = x at *
      have at1 := At.new wr 23 #[.int .i64 x.t, .int .i64 x.n, .string ⟨x.s.toArray⟩]
      have hb1 : Below w.heap.size w (wr.alloc (.cells #[.int .i64 x.t, .int .i64 x.n, .string ⟨x.s.toArray⟩] 23)) := hbw.alloc hbw.size _
      have hz : (wr.alloc (.cells #[.int .i64 x.t, .int .i64 x.n, .string ⟨x.s.toArray⟩] 23)).heap.size = wr.heap.size + 1 := by simp
      have hW := hw.next hb1
      obtain ⟨a, cp, rfl⟩ := own_len hown
      cases hv : Vx.valid x
      · have HV := Lib.hid hv
        have hR := Lib.hid (EncAt.stop e1 hv)
        clear hv e1
        go_wp2_with (fail)
        refine (vvalid_any x _ hW F1.out).mono ?_
        rintro e w1 ⟨rfl, hb2⟩
        rw [HV.out]
        go_wp2_with (fail)
        go_ret
        exact ⟨⟨_, rfl, by rw [hR.out]; exact World.ownsRow_nil _ _ _ _⟩, hb1.trans (hb2.mono hb1.size)⟩
      · have HV := Lib.hid hv
        have HM := Lib.hid (HE.out.more e1 hv)
        have hsl := valid_len hv
        clear e1
        by_cases ht : x.t = 1
        · have hn : 0 ≤ x.n ∧ x.n ≤ 9999 := valid_int (t := x.t) (n := x.n) (l := x.s) hv ht
          have d2 : (x.t == 1) = true := beq_iff_eq.2 ht
          have HT := Lib.hid ht
          clear hv ht
          go_wp2_with (fail)
          refine (vvalid_any x _ hW F1.out).mono ?_
          rintro e w1 ⟨rfl, hb2⟩
          rw [HV.out]
          have hbw1 := hb1.trans (hb2.mono hb1.size)
          have hown1 := own_below (own_below hown (below1 wr _)) hb2
          have at2 := at1.below hb2 (by simp)
          have c0 := at2.cell 0; have c1 := at2.cell 1; have c2 := at2.cell 2
          simp at c0 c1 c2
          clear a0 a1 a2
          go_wp2_with (first
            | (at_builtin; refine wpList_append_lies _ rfl (.tmp 18) (.tmp 26) 25 rfl w.heap.size 5 i0 _ 1 1 Tryd.underlying25 hi hz0 hz1 hz2 rfl (by omega) (.slice a ds.length cp) ds.length (byteCells ds) rfl (hown1.alloc _) ⟨w1.heap.size, 0, none⟩ 3 3 [.int .u8 1, .int .u8 (x.n / 256), .int .u8 (x.n % 256)] rfl rfl (At.news (At.new _ _ _)) (one3 rfl rfl rfl) (by omega) (by unfold maxLen; omega) (by omega) (by have := hbw1.size; simp; omega) (w1.heap.size + 1) (by simp) ?_; intro g2 cap2 w2 hown2 hgrow2 hat2 hlt2))
          have hEnc := enc_int (x := x) HT.out hn
          have hbw2 : Below w.heap.size w w2 := (hbw1.alloc hbw1.size _).grown hgrow2 (by have := hbw1.size; simp; omega) (fun q hq => (own_lt hown1 hq).1)
          go_roundw
          case rel => exact ⟨k + 1, ds ++ Vx.encV x, by omega, by go_num, HM, by have := HM.out.2.2; omega, by rw [byteCells_app, List.length_append, hEnc.1, hEnc.2]; exact hown2, hbw2⟩
          case measure => simp [intOf]; omega
        · have d2 : (x.t == 1) = false := beq_eq_false_iff_ne.2 ht
          have HT := Lib.hid ht
          clear hv ht
          go_wp2_with (fail)
          refine (vvalid_any x _ hW F1.out).mono ?_
          rintro e w1 ⟨rfl, hb2⟩
          rw [HV.out]
          have hbw1 := hb1.trans (hb2.mono hb1.size)
          have hown1 := own_below (own_below hown (below1 wr _)) hb2
          have hownd : w1.drew.ownsRow w.heap.size 5 1 (.slice a ds.length cp) ds.length (byteCells ds) := hown1
          have hsz1 : wr.heap.size < w1.heap.size := by have := hb2.size; rw [hz] at this; omega
          have hown0 := hown
          have at2 := at1.below hb2 (by simp)
          have c0 := at2.cell 0; have c1 := at2.cell 1; have c2 := at2.cell 2
          simp at c0 c1 c2
          have hws := hbw1.size
          have hfar1 := own_far hown1 at2 (by decide)
          have hss : (⟨x.s.toArray⟩ : ByteArray).size = x.s.length := size_mk _
          clear a0 a1 a2
          go_wp2_with (fail)
          go_region_held_law (fun w' => w'.cell? ⟨wr.heap.size, 2, none⟩ = some (.string ⟨x.s.toArray⟩)) (first | assumption | go_keep)
            ((first
              | (refine step_append_lies _ (by rfl) (.tmp 28) (.tmp 29) 25 (by rfl) w.heap.size 5 i0 _ 1 1 Tryd.underlying25 hi hz0 hz1 hz2 (by rfl) (by omega) (.slice a ds.length cp) ds.length (byteCells ds) (by rfl) (by first | exact hownd.alloc _ | exact (hownd.alloc _).alloc _) _ 1 1 [.int .u8 2] (by rfl) (by rfl) (by first | exact At.news (At.newAt (by simp) _ _) | exact At.news ((At.newAt (by simp) _ _).alloc _)) (by intro u hu; simp at hu; subst hu; rfl) (by omega) (by unfold maxLen; omega) (by omega) (by simp; omega) _ rfl ?_
                 intro g2 cap2 w2 hown2 hgrow2 hat2 hlt2
                 have hbw2 : Below w.heap.size w w2 := Below.grown (by first | exact (hbw1.drew.alloc (by simp; omega) _) | exact ((hbw1.drew.alloc (by simp; omega) _).alloc (by simp; omega) _)) hgrow2 (by simp; omega) (fun q hq => (own_lt hown1 hq).1)
                 have a2b : At w2 wr.heap.size 23 #[.int .i64 x.t, .int .i64 x.n, .string ⟨x.s.toArray⟩] := At.grown (by first | exact at2.drew.alloc _ | exact (at2.drew.alloc _).alloc _) hgrow2 hfar1
                 have c2b : w2.cell? ⟨wr.heap.size, 2, none⟩ = some (.string ⟨x.s.toArray⟩) := (a2b.cell 2).trans rfl
                 simp at hat2
                 first
                   | (have z2 : At w2 (w1.heap.size + 1) 5 #[.int .u8 0] := At.grown (w := (w1.drew.alloc (.cells #[.int .u8 2] 5)).alloc (.cells #[.int .u8 0] 5)) (At.newAt (by simp) _ _) hgrow2 (fun e => by have := own_lt hown1 e.symm; omega))
                   | (have z2 : At w2 w1.heap.size 5 #[.int .u8 0] := At.grown (w := (w1.drew.alloc (.cells #[.int .u8 0] 5)).alloc (.cells #[.int .u8 2] 5)) ((At.newAt (by simp) _ _).alloc _) hgrow2 (fun e => by have := own_lt hown1 e.symm; omega))
                   | skip)
              | (refine step_append_str _ (by rfl) (.tmp 30) (.tmp 32) 25 9 (by rfl) w.heap.size 5 i0 Tryd.underlying25 Tryd.underlying9 hi hz0 hz1 hz2 (.slice (some ⟨g2, 0, none⟩) (ds.length + 1) cap2) (ds.length + 1) (byteCells ds ++ [.int .u8 2]) (by rfl) (by first | exact hown2 | exact hown2.alloc _) ⟨x.s.toArray⟩ (by rfl) (by unfold maxLen; omega) (by omega) (by have := hbw2.size; simp; try omega) ?_
                 intro v3 w3 hown3 hgrow3
                 have hbw3 : Below w.heap.size w w3 := Below.grown (by first | exact hbw2 | exact hbw2.alloc hbw2.size _) hgrow3 (by have := hbw2.size; simp; try omega) (fun q hq => (own_lt hown2 hq).1)
                 have a2c : At w3 wr.heap.size 23 #[.int .i64 x.t, .int .i64 x.n, .string ⟨x.s.toArray⟩] := At.grown (by first | exact a2b | exact a2b.alloc _) hgrow3 (own_far hown2 a2b (by decide))
                 have c2c : w3.cell? ⟨wr.heap.size, 2, none⟩ = some (.string ⟨x.s.toArray⟩) := (a2c.cell 2).trans rfl
                 first
                   | (have z3 : At w3 _ 5 #[.int .u8 0] := z2.grown hgrow3 (fun e => by
                       simp [Value.ownBlock] at e
                       rcases hat2 with h | h
                       · have := own_lt hown1 h; omega
                       · omega))
                   | (have z3 : At w3 w2.heap.size 5 #[.int .u8 0] := (At.new _ _ _).grown hgrow3 (fun e => by simp [Value.ownBlock] at e; omega))
                   | skip)
              | (refine step_append_lies _ (by rfl) (.tmp 33) (.tmp 34) 25 (by rfl) w.heap.size 5 i0 _ 1 1 Tryd.underlying25 hi hz0 hz1 hz2 (by rfl) (by omega) v3 (ds.length + 1 + (⟨x.s.toArray⟩ : ByteArray).size) (byteCells ds ++ [.int .u8 2] ++ Lib.strCells ⟨x.s.toArray⟩) (by rfl) (by first | exact hown3 | exact hown3.alloc _) _ 1 1 [.int .u8 0] (by rfl) (by rfl) (by first | exact At.news z3 | exact At.news (At.new _ _ _)) (by intro u hu; simp at hu; subst hu; rfl) (by omega) (by unfold maxLen; omega) (by omega) (by have := hbw3.size; simp; try omega) _ rfl ?_
                 intro g4 cap4 w4 hown4 hgrow4 hat4 hlt4
                 have hbw4 : Below w.heap.size w w4 := Below.grown (by first | exact hbw3 | exact hbw3.alloc hbw3.size _) hgrow4 (by have := hbw3.size; simp; try omega) (fun q hq => (own_lt hown3 hq).1)
                 have a2d : At w4 wr.heap.size 23 #[.int .i64 x.t, .int .i64 x.n, .string ⟨x.s.toArray⟩] := At.grown (by first | exact a2c | exact a2c.alloc _) hgrow4 (own_far hown3 a2c (by decide))
                 have c2d : w4.cell? ⟨wr.heap.size, 2, none⟩ = some (.string ⟨x.s.toArray⟩) := (a2d.cell 2).trans rfl)))
          all_goals
            go_wp2
            go_roundw
            case rel => exact ⟨k + 1, ds ++ Vx.encV x, by omega, by go_num, HM, by have := HM.out.2.2; omega, by rw [(enc_sym (ds := ds) HT.out).1, (enc_sym (ds := ds) HT.out).2, ← hss]; exact hown4, hbw4⟩
            case measure => simp [intOf]; omega
    · have d1 : decide ((k : Int) < (xs.length : Int)) = false := by simp; omega
      obtain rfl : k = xs.length := by omega
      have hR := Lib.hid HE.out.done
      go_wp2
      go_ret
      exact ⟨⟨_, rfl, by rw [hR.out]; exact hown⟩, hbw⟩
end Go.Proofs.YtagibdofpcbgiaaDoor
