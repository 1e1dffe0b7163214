/- The tables of the library in the memory, and the walk of key. -/
import Derived.Test.YtoficnfpoeaccaaDoorKSet
import Derived.Test.YtoficnfpoeaccaaDoorKKey
import Derived.Test.YtoficnfpoeaccaaDoorShelf
import Derived.Lib.LaidPrint
namespace Go.Proofs.YtoficnfpoeaccaaDoor
set_option linter.unusedVariables false
set_option linter.unusedSimpArgs false
open Go.RowKit
theorem var_next {P : Program} {w w' : World} {n : String} {cs : Array Value} (h : w.var? P n = some cs) (hb : Below w.heap.size w w') : w'.var? P n = some cs := by
  unfold World.var? at h ⊢
  cases hg : P.globalNamed n with
  | none => simp [hg] at h
  | some g =>
    simp only [hg, Option.bind_some] at h ⊢
    have hlt : g < w.heap.size := by
      rcases Nat.lt_or_ge g w.heap.size with h' | h'
      · exact h'
      · simp [Array.getElem?_eq_none h'] at h
    rw [hb.block g hlt]
    exact h
theorem next_cell {w w' : World} {p : Addr} {v : Value} (h : w.cell? p = some v) (hb : Below w.heap.size w w') : w'.cell? p = some v := (hb.cell (cell_lt h)).trans h
theorem tabSlice_next {w w' : World} {g : Nat} {k : IntKind} {t : List Nat} (h : Lib.TabSlice g k t w) (hb : Below w.heap.size w w') : Lib.TabSlice g k t w' := by
  obtain ⟨R, o, c, h1, h2⟩ := h
  exact ⟨R, o, c, next_cell h1 hb, fun j hj => next_cell (h2 j hj) hb⟩
abbrev PT : Lib.PrintTabs := Lib.goPrintTabs
/-- What the tables of numerals, of printable runes and of UTF-8 hold. -/
structure Tabs (w : World) : Prop where
  pow : Lib.TabIs Tryd.prog w "internal/strconv.uint64pow10" .u64 Lib.pow10Tab
  prt : Lib.PrintTabsAt 4 5 6 7 PT w
  u8 : Lib.Utf8Tabs 2 3 w
theorem Tabs.next {w w' : World} (h : Tabs w) (hb : Below w.heap.size w w') : Tabs w' := by
  obtain ⟨h1, ⟨p1, p2, p3, p4, p5⟩, ⟨u1, u2⟩⟩ := h
  exact ⟨var_next h1 hb, ⟨tabSlice_next p1 hb, tabSlice_next p2 hb, tabSlice_next p3 hb, tabSlice_next p4 hb, p5⟩, ⟨fun c hc => next_cell (u1 c hc) hb, fun i hi => ⟨next_cell (u2 i hi).1 hb, next_cell (u2 i hi).2 hb⟩⟩⟩
theorem below_grows (w : World) (k : Nat) (os : Array Obj) : Below w.heap.size w (Sort.grow (w.drewN k) os) := by
  have h := below_drewN (Below.refl w.heap.size w) k
  refine h.trans ⟨rfl, rfl, rfl, by simp [Sort.grow], fun i hi => ?_⟩
  show ((w.drewN k).heap ++ os)[i]? = _
  rw [Array.getElem?_append, if_pos (Nat.lt_of_lt_of_le hi h.size)]
theorem itoa_any (n : Int) (w : World) (h0 : I64 n) (hw : Tabs w) :
    Calls Tryd.prog 46 #[.int .i64 n] w fun e w' => e = .returned (.string ⟨(Lib.itoa n).toArray⟩) ∧ Below w.heap.size w w' := by
  refine (Tryd.strconv_Itoa n h0.1 h0.2 w hw.pow).mono ?_
  rintro e w' ⟨h, k, os, rfl⟩
  exact ⟨h, below_grows _ _ _⟩
theorem quote_any (s : ByteArray) (w : World) (hs : s.size ≤ 1000000000000) (hw : Tabs w) :
    Calls Tryd.prog 47 #[.string s] w fun e w' => e = .returned (.string ⟨(Qu.quoteB PT s).toArray⟩) ∧ Below w.heap.size w w' := by
  refine (Tryd.strconv_Quote PT s w (by omega) hw.prt hw.u8).mono ?_
  rintro e w' ⟨h, hb⟩
  exact ⟨h.trans rfl, hb⟩
theorem dec_len (u : Nat) : ∀ k, u < 10 ^ (k + 1) → (Lib.decDigits u).length ≤ k + 1 := by
  induction u using Nat.strongRecOn with
  | ind u ih =>
    intro k hk
    by_cases h : u < 10
    · rw [Qu.dec_one h]; simp
    · rw [Qu.dec_more h, List.length_append]
      cases k with
      | zero => simp at hk; omega
      | succ k =>
        have := ih (u / 10) (by omega) k (by
          rw [Nat.div_lt_iff_lt_mul (by omega), ← Nat.pow_succ]; exact hk)
        simp
        omega
theorem itoa_len {n : Int} (h : I64 n) : (Lib.itoa n).length ≤ 20 := by
  unfold I64 at h
  unfold Lib.itoa
  split
  · have := dec_len n.natAbs 18 (by omega)
    rw [List.length_cons]; omega
  · have := dec_len n.toNat 18 (by omega)
    omega
theorem quoteB_len (s : ByteArray) : (Qu.quoteB PT s).length ≤ 10 * s.size + 2 := by
  unfold Qu.quoteB
  rw [List.length_map]
  exact Lib.quoteZ_length_le PT s
theorem keyB_len {v : Qu.Vl3} (h1 : I64 v.t) (h2 : I64 v.n) : (Qu.keyB PT v).length ≤ 10 * v.s.size + 43 := by
  unfold Qu.keyB
  have a := itoa_len h1
  have b := itoa_len h2
  have c := quoteB_len v.s
  simp
  omega
theorem str_app (a b : List UInt8) : (⟨a.toArray⟩ : ByteArray) ++ ⟨b.toArray⟩ = ⟨(a ++ b).toArray⟩ := ByteArray.mk_append_mk a b
set_option maxRecDepth 100000 in
theorem key_any (v : Qu.Vl3) (w : World) (h1 : I64 v.t) (h2 : I64 v.n) (hs : v.s.size ≤ 1000000000000) (hw : Tabs w) :
    Calls Tryd.prog 27 #[.agg #[.int .i64 v.t, .int .i64 v.n, .string v.s]] w fun e w' => e = .returned (.string ⟨(Qu.keyB PT v).toArray⟩) ∧ Below w.heap.size w w' := by
  obtain ⟨t, n, s⟩ := v
  dsimp only at *
  have hat := At.new w 62 #[.int .i64 t, .int .i64 n, .string s]
  have hw0 : Below w.heap.size w (w.alloc (.cells #[.int .i64 t, .int .i64 n, .string s] 62)) := below1 _ _
  have HW := Lib.hid (hw.next hw0)
  obtain ⟨wv, hwv⟩ : ∃ wv, wv = w.alloc (.cells #[.int .i64 t, .int .i64 n, .string s] 62) := ⟨_, rfl⟩
  rw [← hwv] at hat hw0 HW
  have f0 : ∀ z : Held wv.heap.size wv, z.w.cell? ⟨w.heap.size, 0, none⟩ = some (.int .i64 t) := fun z => z.cell hat.lt (hat.cell 0)
  have f1 : ∀ z : Held wv.heap.size wv, z.w.cell? ⟨w.heap.size, 1, none⟩ = some (.int .i64 n) := fun z => z.cell hat.lt (hat.cell 1)
  have f2 : ∀ z : Held wv.heap.size wv, z.w.cell? ⟨w.heap.size, 2, none⟩ = some (.string s) := fun z => z.cell hat.lt (hat.cell 2)
  have HA := Lib.hid (fun z : Held wv.heap.size wv => itoa_any t z.w h1 (HW.out.next z.ok))
  have HB := Lib.hid (fun z : Held wv.heap.size wv => itoa_any n z.w h2 (HW.out.next z.ok))
  have HQ := Lib.hid (fun z : Held wv.heap.size wv => quote_any s z.w hs (HW.out.next z.ok))
  have la := itoa_len h1
  have lb := itoa_len h2
  have lq := quoteB_len s
  have HR := Lib.hid (show (⟨(Qu.keyB PT ⟨t, n, s⟩).toArray⟩ : ByteArray) = (((⟨(Lib.itoa t).toArray⟩ : ByteArray) ++ ⟨[32].toArray⟩) ++ ⟨(Lib.itoa n).toArray⟩) ++ ⟨(Qu.quoteB PT s).toArray⟩ by
    rw [str_app, str_app, str_app]
    unfold Qu.keyB
    simp)
  rw [HR.out]
  clear hat hw h1 h2
  go_enter Tryd.func27, Tryd.ntmps27
  go_wp2_with fail
  rw [← hwv]
  clear hwv
  refine wp_region_held wv.heap.size wv (Below.refl _ _) (by kernel_rfl) (by kernel_rfl) ?_
  repeat (go_big_quiet_step (first
    | (go_at_call 46; with_reducible first
      | exact held_call _ (Nat.le_refl _) (HA.out _)
      | exact held_call _ (Nat.le_refl _) (HB.out _))
    | (go_at_call 47; exact held_call _ (Nat.le_refl _) (HQ.out _))))
  refine wpQuiet_nil ?_
  rintro wt ⟨⟨_, bt⟩, rfl⟩
  go_wp2_with fail
  go_ret
  exact ⟨rfl, hw0.trans (bt.mono hw0.size)⟩
end Go.Proofs.YtoficnfpoeaccaaDoor
