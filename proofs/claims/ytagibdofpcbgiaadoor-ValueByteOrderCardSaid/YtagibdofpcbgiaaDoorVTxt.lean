/- The walks of Valid, Text and Parse of value. -/
import Derived.Test.YtagibdofpcbgiaaDoorVSym
import Derived.Test.YtagibdofpcbgiaaDoorVTup
import Derived.Lib.LaidTab
import Derived.Lib.ItoaMem
import Derived.Laws.ResultCell
namespace Go.Proofs.YtagibdofpcbgiaaDoor
set_option linter.unusedVariables false
set_option linter.unusedSimpArgs false
open Go.RowKit Go.Shelf
theorem results_cell_row_tmp {P : Program} {fn : Func} {p u : Tmp} {ty : TypeId} (h : fn.results = #[.cell p ty, .tmp u]) (tmps : Array Value) (w : World) (g : Nat) (t : TypeId) (cs : Array Value) (fr : Nat × Nat) (d : TypeDesc)
    (hp : tmps.getD p undef = .pointer (some ⟨g, 0, none⟩)) (hg : w.heap[g]? = some (.cells cs t fr))
    (hu : P.underlying ty = some d) (hd : (match d with | .struct _ | .array _ _ => true | _ => false) = true) (hi : (P.info? ty).map (·.size) = some cs.size) :
    (results fn tmps).run P w = .ok (.tuple #[.agg cs, tmps.getD u undef]) w := by
  have hp' : tmps[p]?.getD undef = .pointer (some ⟨g, 0, none⟩) := by simpa using hp
  simp [results, h, hp', asAddr, run_loadVar_row w g t ty cs fr d hg hu hd hi]
theorem var_next {P : Program} {w w' : World} {n : String} {cs : Array Value} (h : w.var? P n = some cs) (hb : Below w.heap.size w w') : w'.var? P n = some cs := by
  unfold World.var? at h ⊢
  cases hg : P.globalNamed n with
  | none => simp [hg] at h
  | some g =>
    simp only [hg, Option.bind_some] at h ⊢
    have hlt : g < w.heap.size := by
      rcases Nat.lt_or_ge g w.heap.size with h' | h'
      · exact h'
      · simp [Array.getElem?_eq_none h'] at h
    rw [hb.block g hlt]
    exact h
/-- What the laid variables hold. -/
structure Laid (w : World) : Prop where
  words : Words w
  tab : Lib.TabIs Tryd.prog w "internal/strconv.uint64pow10" .u64 Lib.pow10Tab
  syn : ∃ tp p, w.var? Tryd.prog "strconv.ErrSyntax" = some #[.iface tp p]
  rng : ∃ tp p, w.var? Tryd.prog "strconv.ErrRange" = some #[.iface tp p]
theorem Laid.next {w w' : World} (h : Laid w) (hb : Below w.heap.size w w') : Laid w' :=
  ⟨h.words.next hb, var_next h.tab hb, by obtain ⟨a, b, c⟩ := h.syn; exact ⟨a, b, var_next c hb⟩, by obtain ⟨a, b, c⟩ := h.rng; exact ⟨a, b, var_next c hb⟩⟩
theorem below1 (w : World) (o : Obj) : Below w.heap.size w (w.alloc o) := (Below.refl _ w).alloc (Nat.le_refl _) _
theorem below_grows (w : World) (k : Nat) (os : Array Obj) : Below w.heap.size w (Sort.grow (w.drewN k) os) := by
  have h := below_drewN (Below.refl w.heap.size w) k
  refine h.trans ⟨rfl, rfl, rfl, by simp [Sort.grow], fun i hi => ?_⟩
  show ((w.drewN k).heap ++ os)[i]? = _
  rw [Array.getElem?_append, if_pos (Nat.lt_of_lt_of_le hi h.size)]
theorem itoa_any (n : Int) (w : World) (h0 : 0 ≤ n) (h1 : n ≤ 9999) (hw : Laid w) :
    Calls Tryd.prog 40 #[.int .i64 n] w fun e w' => e = .returned (.string ⟨(Lib.itoa n).toArray⟩) ∧ Below w.heap.size w w' := by
  refine (Tryd.strconv_Itoa n (by omega) (by omega) w hw.tab).mono ?_
  rintro e w' ⟨h, k, os, rfl⟩
  exact ⟨h, below_grows _ _ _⟩
theorem isEmpty_eq (s : ByteArray) : s.toList.isEmpty = s.data.toList.isEmpty := by rw [Lib.toList_data]
set_option maxHeartbeats 1000000 in
theorem valid_any (t n : Int) (s : ByteArray) (w : World) (hw : Words w) (hs : s.size ≤ 281474976710656) :
    Calls Tryd.prog 11 #[.agg #[.int .i64 t, .int .i64 n, .string s]] w fun e w' => e = .returned (.bool (Vx.valid ⟨t, n, s.data.toList⟩)) ∧ Below w.heap.size w w' := by
  have hwa : ∀ o, Words (w.alloc o) := fun o => hw.next (below1 w o)
  by_cases h1 : t = 1
  · subst h1
    have hE := Lib.hid (show Vx.valid ⟨1, n, s.data.toList⟩ = (decide (0 ≤ n) && decide (n ≤ 9999) && s.toList.isEmpty) by unfold Vx.valid; rw [if_pos rfl, isEmpty_eq])
    have d1 : ((1 : Int) == 1) = true := rfl
    cases h2 : decide (0 ≤ n) <;> cases h3 : decide (n ≤ 9999) <;> cases h4 : s.toList.isEmpty
    all_goals
      rw [h2, h3, h4] at hE
      go_enter Tryd.func11, Tryd.ntmps11
      go_wp2
      go_ret
      exact ⟨by rw [hE.out]; rfl, below1 _ _⟩
  · have d1 : (t == 1) = false := beq_eq_false_iff_ne.2 h1
    have hE := Lib.hid (show Vx.valid ⟨t, n, s.data.toList⟩ = (decide (t = 2) && decide (n = 0) && Vx.symbol s.data.toList) by unfold Vx.valid; rw [if_neg h1])
    by_cases h2 : t = 2
    · have d2 : (t == 2) = true := beq_iff_eq.2 h2
      rw [show decide (t = 2) = true by simpa using h2] at hE
      clear h1 h2
      by_cases h3 : n = 0
      · have d3 : (n == 0) = true := beq_iff_eq.2 h3
        rw [show decide (n = 0) = true by simpa using h3] at hE
        clear h3
        go_enter Tryd.func11, Tryd.ntmps11
        go_wp2_with (go_at_call 31; refine (symbol_any _ _ (hwa _) hs).mono ?_; rintro e w' ⟨rfl, hb⟩)
        go_ret
        exact ⟨by rw [hE.out]; rfl, (below1 w _).trans (hb.mono (below1 w _).size)⟩
      · have d3 : (n == 0) = false := beq_eq_false_iff_ne.2 h3
        rw [show decide (n = 0) = false by simpa using h3] at hE
        clear h3
        go_enter Tryd.func11, Tryd.ntmps11
        go_wp2
        go_ret
        exact ⟨by rw [hE.out]; rfl, below1 w _⟩
    · have d2 : (t == 2) = false := beq_eq_false_iff_ne.2 h2
      rw [show decide (t = 2) = false by simpa using h2] at hE
      clear h1 h2
      go_enter Tryd.func11, Tryd.ntmps11
      go_wp2
      go_ret
      exact ⟨by rw [hE.out]; rfl, below1 w _⟩
theorem valid_int {t n : Int} {l : List UInt8} (h : Vx.valid ⟨t, n, l⟩ = true) (ht : t = 1) : 0 ≤ n ∧ n ≤ 9999 := by
  unfold Vx.valid at h
  rw [if_pos ht] at h
  simp at h
  omega
set_option maxHeartbeats 1000000 in
theorem text_any (t n : Int) (s : ByteArray) (w : World) (hw : Laid w) (hs : s.size ≤ 281474976710656) :
    Calls Tryd.prog 17 #[.agg #[.int .i64 t, .int .i64 n, .string s]] w fun e w' => e = .returned (.string ⟨(Vx.text ⟨t, n, s.data.toList⟩).toArray⟩) ∧ Below w.heap.size w w' := by
  have hwa : ∀ o, Laid (w.alloc o) := fun o => hw.next (below1 w o)
  have cell : ∀ w', Below (w.alloc (.cells #[.int .i64 t, .int .i64 n, .string s] 23)).heap.size (w.alloc (.cells #[.int .i64 t, .int .i64 n, .string s] 23)) w' → At w' w.heap.size 23 #[.int .i64 t, .int .i64 n, .string s] := fun w' hb => (At.new w _ _).below hb (by simp)
  cases h1 : Vx.valid ⟨t, n, s.data.toList⟩
  · have hE := Lib.hid (show Vx.text ⟨t, n, s.data.toList⟩ = [] by unfold Vx.text; rw [h1]; rfl)
    have H1 := Lib.hid h1
    clear h1
    go_enter Tryd.func17, Tryd.ntmps17
    go_wp2_with (go_at_call 11; refine (valid_any _ _ _ _ (hwa _).words hs).mono ?_; rintro e w' ⟨rfl, hb⟩; rw [H1.out])
    go_ret
    exact ⟨by rw [hE.out]; rfl, (below1 w _).trans (hb.mono (below1 w _).size)⟩
  · by_cases h2 : t = 1
    · have hn := valid_int h1 h2
      have hE := Lib.hid (show Vx.text ⟨t, n, s.data.toList⟩ = Lib.itoa n by unfold Vx.text; rw [if_pos h1, if_pos h2])
      have H1 := Lib.hid h1
      have d2 : (t == 1) = true := beq_iff_eq.2 h2
      clear h1 h2
      go_enter Tryd.func17, Tryd.ntmps17
      go_wp2_with (first
        | (go_at_call 11; refine (valid_any _ _ _ _ (hwa _).words hs).mono ?_; rintro e w' ⟨rfl, hb⟩; rw [H1.out]
           have a0 := (cell _ hb).cell 0; have a1 := (cell _ hb).cell 1; have a2 := (cell _ hb).cell 2; simp at a0 a1 a2)
        | (go_at_call 40; refine (itoa_any _ _ hn.1 hn.2 ((hwa _).next hb)).mono ?_; rintro e w' ⟨rfl, hb2⟩))
      go_ret
      exact ⟨by rw [hE.out]; rfl, ((below1 w _).trans (hb.mono (below1 w _).size)).trans (hb2.mono (Nat.le_trans (below1 w _).size hb.size))⟩
    · have hE := Lib.hid (show Vx.text ⟨t, n, s.data.toList⟩ = s.data.toList by unfold Vx.text; rw [if_pos h1, if_neg h2])
      have H1 := Lib.hid h1
      have d2 : (t == 1) = false := beq_eq_false_iff_ne.2 h2
      clear h1 h2
      go_enter Tryd.func17, Tryd.ntmps17
      go_wp2_with (first
        | (go_at_call 11; refine (valid_any _ _ _ _ (hwa _).words hs).mono ?_; rintro e w' ⟨rfl, hb⟩; rw [H1.out]
           have a0 := (cell _ hb).cell 0; have a1 := (cell _ hb).cell 1; have a2 := (cell _ hb).cell 2; simp at a0 a1 a2))
      go_ret
      exact ⟨by rw [hE.out]; simp [str_mk], (below1 w _).trans (hb.mono (below1 w _).size)⟩
end Go.Proofs.YtagibdofpcbgiaaDoor
