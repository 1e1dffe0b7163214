/- The reader's lists. -/
import Derived.Test.YtpcmlkpnjimbiaaDoorPWord2
namespace Go.Proofs.YtpcmlkpnjimbiaaDoor
set_option linter.unusedVariables false
set_option linter.unusedSimpArgs false
open Go.RowKit
namespace Px
/-- What follows an element of a list. -/
def rest {α : Type} (p : P α) (f : Nat) : P (List α) := fun ts j => if tx ts j = [44] then many p f ts (j + 1) else .ok [] j
/-- A beginning and what follows it. -/
def after {α : Type} (l : List α) (r : R (List α)) : R (List α) := match r with | .ok l' k => .ok (l ++ l') k | .fail k => .fail k
theorem many_succ {α : Type} (p : P α) (f : Nat) (ts : List Kt) (i : Nat) : many p (f + 1) ts i = match p ts i with
  | .fail j => .fail j
  | .ok a j => after [a] (rest p f ts j) := by
 show (match p ts i with | R.fail j => R.fail j | R.ok a j => if tx ts j = [44] then (match many p f ts (j + 1) with | R.ok l k => R.ok (a :: l) k | R.fail k => R.fail k) else R.ok [a] j) = _
 cases p ts i with
 | fail j => rfl
 | ok a j =>
  unfold rest
  dsimp only
  by_cases h : tx ts j = [44]
  ·rw [if_pos h, if_pos h]
   cases many p f ts (j + 1) <;> rfl
  ·rw [if_neg h, if_neg h]
   rfl
theorem after_more {α : Type} (p : P α) (f : Nat) (ts : List Kt) (j : Nat) (l : List α) (h : tx ts j = [44]) : after l (rest p (f + 1) ts j) = match p ts (j + 1) with
  | .fail k => .fail k
  | .ok a k => after (l ++ [a]) (rest p f ts k) := by
 show after l (if tx ts j = [44] then many p (f + 1) ts (j + 1) else .ok [] j) = _
 rw [if_pos h, many_succ]
 cases p ts (j + 1) with
 | fail k => rfl
 | ok a k =>
  dsimp only
  cases rest p f ts k <;> simp [after]
theorem after_end {α : Type} (p : P α) (f : Nat) (ts : List Kt) (j : Nat) (l : List α) (h : tx ts j ≠ [44]) : after l (rest p f ts j) = .ok l j := by
 unfold rest
 rw [if_neg h]
 simp [after]
theorem mono_word {ts : List Kt} {k i j : Nat} {s : List UInt8} (h : word k ts i = .ok s j) : i ≤ j := by
 unfold word at h
 split at h
 ·injection h with _ h; omega
 ·cases h
theorem mono_number {ts : List Kt} {i j : Nat} {n : Int} (h : number ts i = .ok n j) : i ≤ j := by
 unfold number bind ret at h
 split at h
 ·rename_i hw
  injection h with _ h
  have := mono_word hw
  omega
 ·cases h
theorem mono_constant {ts : List Kt} {i j : Nat} {t : T} (h : constant ts i = .ok t j) : i ≤ j := by
 unfold constant bind ret at h
 split at h
 ·split at h
  ·rename_i hw
   injection h with _ h
   have := mono_number hw
   omega
  ·cases h
 ·split at h
  ·rename_i hw
   injection h with _ h
   have := mono_word hw
   omega
  ·cases h
theorem mono_term {ts : List Kt} {i j : Nat} {t : T} (h : term ts i = .ok t j) : i ≤ j := by
 unfold term bind ret at h
 split at h
 ·split at h
  ·rename_i hw
   injection h with _ h
   have := mono_word hw
   omega
  ·cases h
 ·exact mono_constant h
theorem mono_column {ts : List Kt} {i j : Nat} {n : Int} (h : column ts i = .ok n j) : i ≤ j := by
 unfold column bind take need ret at h
 by_cases hx : tx ts i = sInt
 ·simp [hx] at h; omega
 ·simp [hx] at h
  by_cases hy : tx ts i = sSym
  ·simp [hy] at h; omega
  ·simp [hy] at h
end Px
def tmFs (t : Px.T) : List Value := [.string (bs t.v), .int .i64 t.t, .int .i64 t.n, .string (bs t.s)]
def tmCells (l : List Px.T) : List Value := l.flatMap tmFs
theorem tmCells_snoc (l : List Px.T) (t : Px.T) : tmCells (l ++ [t]) = tmCells l ++ tmFs t := by simp [tmCells]
def iCells (l : List Int) : List Value := l.map (Value.int .i64)
theorem iCells_snoc (l : List Int) (t : Int) : iCells (l ++ [t]) = iCells l ++ [.int .i64 t] := by simp [iCells]
theorem own_mv {W W' : World} {rb j n size B : Nat} {e : TypeId} {v : Value} {xs : List Value} (hB : rb < B) (h : W.ownsRow B e size v n xs) (hm : Mv rb j W W') : W'.ownsRow B e size v n xs := by
 obtain ⟨h1, h2⟩ := h
 refine ⟨h1, ?_⟩
 rcases h2 with h2 | ⟨g, cap, cur, hv, hg, hh, r⟩
 ·exact Or.inl h2
 ·refine Or.inr ⟨g, cap, cur, hv, hg, ?_, r⟩
  have hl := (Array.getElem?_eq_some_iff.1 hh).1
  exact (hm.block g hl).trans ((Below.heap_setCell W ⟨rb, 1, none⟩ _ g (show g ≠ rb by omega)).trans hh)
/-- A row of the call's own, behind the reader, grows. -/
theorem Mv.grown {w w1 w2 : World} {rb j : Nat} {row : Option Nat} (h : Mv rb j w w1) (g : w1.grownBy w2 row) (hr : ∀ q, row = some q → w.heap.size ≤ q) : Mv rb j w w2 := by
 have hs := h.size
 refine ⟨g.os.trans h.os, g.tape.trans h.tape, g.output.trans h.output, by have := g.size; simp; omega, fun k hk => ?_⟩
 rw [g.block k (by omega) (fun e => by have := hr k e.symm; omega), h.block k hk]
/-- Where the reader stands. -/
def rdAt (rb : Nat) (w : World) : Nat := match w.cell? ⟨rb, 1, none⟩ with | some (.int _ n) => n.toNat | _ => 0
theorem rdAt_rd {w : World} {rb : Nat} {TA : Option Addr} {tc : Nat} {ts : List Lx.Tok} {sz i : Nat} {o : Outs} (h : Rd w rb TA tc ts sz i o) : rdAt rb w = i := by
 unfold rdAt
 rw [h.cells.2.1]
 simp
section
variable {w : World} {rb : Nat} {TA : Option Addr} {tc : Nat} {ts : List Lx.Tok} {sz i : Nat} {o : Outs}
theorem term_info : (Tryd.prog.info? 71).map (fun i => (i.zero, i.size, i.bytes)) = some (some (.agg #[.string ⟨#[]⟩, .int .i64 0, .int .i64 0, .string ⟨#[]⟩]), 4, 48) := by kernel_rfl
theorem int_info : (Tryd.prog.info? 3).map (fun i => (i.zero, i.size, i.bytes)) = some (some (.int .i64 0), 1, 8) := by kernel_rfl
theorem info_parts {t : TypeId} {a : Option Value} {b c : Nat} (h : (Tryd.prog.info? t).map (fun i => (i.zero, i.size, i.bytes)) = some (a, b, c)) : ∃ i, Tryd.prog.info? t = some i ∧ i.zero = a ∧ i.size = b ∧ i.bytes = c := by
 cases hx : Tryd.prog.info? t with
 | none => rw [hx] at h; simp at h
 | some i => rw [hx] at h; simp at h; exact ⟨i, rfl, h⟩
set_option maxRecDepth 100000 in
theorem list_term (h : Rd w rb TA tc ts sz i o) : Calls Tryd.prog 65 #[.pointer (some ⟨rb, 0, none⟩), .func (.func 41) #[.pointer (some ⟨rb, 0, none⟩)] #[]] w (Post w rb TA tc ts sz o (fun l v W => W.ownsRow w.heap.size 71 4 v l.length (tmCells l)) (Px.list Px.term (Px.kts ts) i)) := by
 have HK0 := fun W i (hr : Rd W rb TA tc ts sz i o) => term_any hr
 simp only [tmV] at HK0
 have HK := Lib.hid HK0
 clear HK0
 have HR := Lib.hid h
 have hl := h.box.lt
 have hf := h.few
 unfold Px.list
 rw [show Px.fuel = 3999 + 1 from rfl, Px.many_succ]
 have HK1 := Lib.hid (HK.out w i h)
 obtain ⟨iT, hi0, hi1, hi2, hi3⟩ := info_parts term_info
 clear h
 cases hp : Px.term (Px.kts ts) i with
 | fail j =>
  rw [hp] at HK1
  dsimp only
  clear hp
  go_enter Tryd.func65, Tryd.ntmps65
  go_wp2_with (go_at_call 41; refine HK1.out.mono ?_; rintro e w2 ⟨rfl, hm, hr⟩)
  exact ⟨rfl, rfl, hm, hr⟩
 | ok a j =>
  rw [hp] at HK1
  dsimp only
  obtain ⟨RR, hRR⟩ : ∃ RR, Px.after [a] (Px.rest Px.term 3999 (Px.kts ts) j) = RR := ⟨_, rfl⟩
  rw [hRR]
  have HRR := Lib.hid hRR
  clear hp hRR
  go_enter Tryd.func65, Tryd.ntmps65
  go_wp2_with (go_at_call 41; refine HK1.out.mono ?_; rintro e w2 ⟨⟨_, rfl, rfl⟩, hm, hr⟩)
  have hb2 := below1 w2 (.cells #[.string (bs a.v), .int .i64 a.t, .int .i64 a.n, .string (bs a.s)] 71)
  have hs2 := hm.size
  have ho2 : (w2.alloc (.cells #[.string (bs a.v), .int .i64 a.t, .int .i64 a.n, .string (bs a.s)] 71)).ownsRow w.heap.size 71 4 (.slice (some ⟨w2.heap.size, 0, none⟩) 1 1) 1 (tmCells [a]) := ⟨rfl, Or.inr ⟨w2.heap.size, 1, _, rfl, by omega, heap_alloc_new w2 _, Nat.le_refl _, by unfold maxLen; omega, rfl, rfl⟩⟩
  have hm2 := hm.trans hl (Mv.still hr hb2)
  have hr2 := hr.next hb2
  go_loopw [5] (fun v wr => ∃ (l : List Px.T) (f j : Nat), wr.ownsRow w.heap.size 71 4 v l.length (tmCells l) ∧ l.length ≤ j + 1 ∧ ts.length ≤ f + j ∧ Hid (Px.after l (Px.rest Px.term f (Px.kts ts) j) = RR) ∧ Mv rb j w wr ∧ Rd wr rb TA tc ts sz j o) (fun _ wr => ts.length - rdAt rb wr)
  case atStart => exact ⟨[a], 3999, j, ho2, by simp, by omega, HRR, hm2, hr2⟩
  case round =>
   clear hm2 hr2 ho2 hb2 hs2 hm hr HRR
   obtain ⟨l, f, q, ho, hln, hfq, HAF, hm, hr⟩ := hrel
   have hT := take_any hr [44] (by decide)
   have hqs := hr.few.2.2
   have hs0 := hm.size
   obtain ⟨A1, c1, rfl⟩ := own_len ho
   unfold Px.take at hT
   by_cases hx : Px.tx (Px.kts ts) q = [44]
   ·rw [if_pos hx] at hT
    have HT := Lib.hid hT
    have hql : q < ts.length := by
     rw [tx_at ts sz] at hx
     exact tx_in (ts := ts) (sz := sz) (by rw [hx]; decide)
    obtain ⟨f, rfl⟩ : ∃ f', f = f' + 1 := ⟨f - 1, by omega⟩
    have hmore := Px.after_more Px.term f (Px.kts ts) q l hx
    rw [HAF.out] at hmore
    have hrd := rdAt_rd hr
    clear hT hx
    cases hp2 : Px.term (Px.kts ts) (q + 1) with
    | fail k =>
     rw [hp2] at hmore
     dsimp only at hmore
     have HM := Lib.hid hmore
     have HK2 := Lib.hid (fun W (hr : Rd W rb TA tc ts sz (q + 1) o) => show Calls Tryd.prog 41 #[.pointer (some ⟨rb, 0, none⟩)] W (Post W rb TA tc ts sz o _ (.fail k)) by have := HK.out W (q + 1) hr; rw [hp2] at this; exact this)
     clear hmore hp2
     go_wp2_with first
      | (go_at_call 41; refine (HK2.out _ hr3).mono ?_; rintro e w4 ⟨rfl, hm4, hr4⟩)
      | (go_at_call 42; refine HT.out.mono ?_; rintro e w3 ⟨⟨_, rfl, rfl⟩, hm3, hr3⟩)
     have hmm := (hm.trans hl hm3).trans hl hm4
     exact ⟨rfl, by rw [HM.out]; exact ⟨rfl, hmm, hr4⟩⟩
    | ok b k =>
     rw [hp2] at hmore
     dsimp only at hmore
     have HM := Lib.hid hmore
     have hqk := Px.mono_term hp2
     have HK2 := Lib.hid (fun W (hr : Rd W rb TA tc ts sz (q + 1) o) => show Calls Tryd.prog 41 #[.pointer (some ⟨rb, 0, none⟩)] W (Post W rb TA tc ts sz o _ (.ok b k)) by have := HK.out W (q + 1) hr; rw [hp2] at this; exact this)
     clear hmore hp2
     go_wp2_with first
      | (at_builtin; refine wpList_append_own _ rfl _ _ 56 rfl w.heap.size 71 iT (.agg #[.string ⟨#[]⟩, .int .i64 0, .int .i64 0, .string ⟨#[]⟩]) 4 48 Tryd.underlying56 hi0 hi1 hi2 hi3 rfl (by decide) _ _ _ rfl ((own_mv hl (own_mv hl ho hm3) hm4).alloc _) ⟨w4.heap.size, 0, none⟩ 1 1 [.string (bs b.v), .int .i64 b.t, .int .i64 b.n, .string (bs b.s)] rfl rfl ?c1 ?c2 ?c3 ?c4 ?c5 ?_)
      | (go_at_call 41; refine (HK2.out _ hr3).mono ?_; rintro e w4 ⟨⟨_, rfl, rfl⟩, hm4, hr4⟩)
      | (go_at_call 42; refine HT.out.mono ?_; rintro e w3 ⟨⟨_, rfl, rfl⟩, hm3, hr3⟩)
     case c1 => exact At.news (xs := [.string (bs b.v), .int .i64 b.t, .int .i64 b.n, .string (bs b.s)]) (At.newAt (by simp) _ _)
     case c2 => exact (by intro u hu; simp at hu; rcases hu with rfl | rfl | rfl | rfl <;> rfl)
     case c3 => simp [maxLen]; omega
     case c4 => omega
     case c5 => have := hm3.size; have := hm4.size; simp; omega
     intro v5 w5 o5 g5 _
     obtain ⟨A5, c5, rfl⟩ := own_len o5
     have hmm := (hm.trans hl hm3).trans hl hm4
     have hb4 := below1 w4 (.cells #[.string (bs b.v), .int .i64 b.t, .int .i64 b.n, .string (bs b.s)] 71)
     have ho4 := (own_mv hl (own_mv hl ho hm3) hm4).alloc (.cells #[.string (bs b.v), .int .i64 b.t, .int .i64 b.n, .string (bs b.s)] 71)
     have hmw := (hmm.trans hl (Mv.still hr4 hb4)).grown g5 (fun q hq => (own_lt ho4 hq).1)
     have hkl2 := hr4.few.2.2
     have hr5 := hmw.rd HR.out hkl2
     go_wp2_with fail
     go_roundw
     case rel => exact ⟨l ++ [b], f, k, by rw [List.length_append, tmCells_snoc]; exact o5, by rw [List.length_append]; simp; omega, by omega, Lib.hid HM.out.symm, hmw, hr5⟩
     case measure => rw [hrd, rdAt_rd hr5]; omega
   ·rw [if_neg hx] at hT
    have HT := Lib.hid hT
    have HE := Lib.hid ((Px.after_end Px.term f (Px.kts ts) q l hx).symm.trans HAF.out)
    clear hT hx
    go_wp2_with (go_at_call 42; refine HT.out.mono ?_; rintro e w3 ⟨⟨_, rfl, rfl⟩, hm3, hr3⟩)
    go_ret
    rw [← HE.out]
    exact ⟨⟨_, rfl, own_mv hl ho hm3⟩, hm.trans hl hm3, hr3⟩
set_option maxRecDepth 100000 in
theorem list_constant (h : Rd w rb TA tc ts sz i o) : Calls Tryd.prog 65 #[.pointer (some ⟨rb, 0, none⟩), .func (.func 45) #[.pointer (some ⟨rb, 0, none⟩)] #[]] w (Post w rb TA tc ts sz o (fun l v W => W.ownsRow w.heap.size 71 4 v l.length (tmCells l)) (Px.list Px.constant (Px.kts ts) i)) := by
 have HK0 := fun W i (hr : Rd W rb TA tc ts sz i o) => constant_any hr
 simp only [tmV] at HK0
 have HK := Lib.hid HK0
 clear HK0
 have HR := Lib.hid h
 have hl := h.box.lt
 have hf := h.few
 unfold Px.list
 rw [show Px.fuel = 3999 + 1 from rfl, Px.many_succ]
 have HK1 := Lib.hid (HK.out w i h)
 obtain ⟨iT, hi0, hi1, hi2, hi3⟩ := info_parts term_info
 clear h
 cases hp : Px.constant (Px.kts ts) i with
 | fail j =>
  rw [hp] at HK1
  dsimp only
  clear hp
  go_enter Tryd.func65, Tryd.ntmps65
  go_wp2_with (go_at_call 45; refine HK1.out.mono ?_; rintro e w2 ⟨rfl, hm, hr⟩)
  exact ⟨rfl, rfl, hm, hr⟩
 | ok a j =>
  rw [hp] at HK1
  dsimp only
  obtain ⟨RR, hRR⟩ : ∃ RR, Px.after [a] (Px.rest Px.constant 3999 (Px.kts ts) j) = RR := ⟨_, rfl⟩
  rw [hRR]
  have HRR := Lib.hid hRR
  clear hp hRR
  go_enter Tryd.func65, Tryd.ntmps65
  go_wp2_with (go_at_call 45; refine HK1.out.mono ?_; rintro e w2 ⟨⟨_, rfl, rfl⟩, hm, hr⟩)
  have hb2 := below1 w2 (.cells #[.string (bs a.v), .int .i64 a.t, .int .i64 a.n, .string (bs a.s)] 71)
  have hs2 := hm.size
  have ho2 : (w2.alloc (.cells #[.string (bs a.v), .int .i64 a.t, .int .i64 a.n, .string (bs a.s)] 71)).ownsRow w.heap.size 71 4 (.slice (some ⟨w2.heap.size, 0, none⟩) 1 1) 1 (tmCells [a]) := ⟨rfl, Or.inr ⟨w2.heap.size, 1, _, rfl, by omega, heap_alloc_new w2 _, Nat.le_refl _, by unfold maxLen; omega, rfl, rfl⟩⟩
  have hm2 := hm.trans hl (Mv.still hr hb2)
  have hr2 := hr.next hb2
  go_loopw [5] (fun v wr => ∃ (l : List Px.T) (f j : Nat), wr.ownsRow w.heap.size 71 4 v l.length (tmCells l) ∧ l.length ≤ j + 1 ∧ ts.length ≤ f + j ∧ Hid (Px.after l (Px.rest Px.constant f (Px.kts ts) j) = RR) ∧ Mv rb j w wr ∧ Rd wr rb TA tc ts sz j o) (fun _ wr => ts.length - rdAt rb wr)
  case atStart => exact ⟨[a], 3999, j, ho2, by simp, by omega, HRR, hm2, hr2⟩
  case round =>
   clear hm2 hr2 ho2 hb2 hs2 hm hr HRR
   obtain ⟨l, f, q, ho, hln, hfq, HAF, hm, hr⟩ := hrel
   have hT := take_any hr [44] (by decide)
   have hqs := hr.few.2.2
   have hs0 := hm.size
   obtain ⟨A1, c1, rfl⟩ := own_len ho
   unfold Px.take at hT
   by_cases hx : Px.tx (Px.kts ts) q = [44]
   ·rw [if_pos hx] at hT
    have HT := Lib.hid hT
    have hql : q < ts.length := by
     rw [tx_at ts sz] at hx
     exact tx_in (ts := ts) (sz := sz) (by rw [hx]; decide)
    obtain ⟨f, rfl⟩ : ∃ f', f = f' + 1 := ⟨f - 1, by omega⟩
    have hmore := Px.after_more Px.constant f (Px.kts ts) q l hx
    rw [HAF.out] at hmore
    have hrd := rdAt_rd hr
    clear hT hx
    cases hp2 : Px.constant (Px.kts ts) (q + 1) with
    | fail k =>
     rw [hp2] at hmore
     dsimp only at hmore
     have HM := Lib.hid hmore
     have HK2 := Lib.hid (fun W (hr : Rd W rb TA tc ts sz (q + 1) o) => show Calls Tryd.prog 45 #[.pointer (some ⟨rb, 0, none⟩)] W (Post W rb TA tc ts sz o _ (.fail k)) by have := HK.out W (q + 1) hr; rw [hp2] at this; exact this)
     clear hmore hp2
     go_wp2_with first
      | (go_at_call 45; refine (HK2.out _ hr3).mono ?_; rintro e w4 ⟨rfl, hm4, hr4⟩)
      | (go_at_call 42; refine HT.out.mono ?_; rintro e w3 ⟨⟨_, rfl, rfl⟩, hm3, hr3⟩)
     have hmm := (hm.trans hl hm3).trans hl hm4
     exact ⟨rfl, by rw [HM.out]; exact ⟨rfl, hmm, hr4⟩⟩
    | ok b k =>
     rw [hp2] at hmore
     dsimp only at hmore
     have HM := Lib.hid hmore
     have hqk := Px.mono_constant hp2
     have HK2 := Lib.hid (fun W (hr : Rd W rb TA tc ts sz (q + 1) o) => show Calls Tryd.prog 45 #[.pointer (some ⟨rb, 0, none⟩)] W (Post W rb TA tc ts sz o _ (.ok b k)) by have := HK.out W (q + 1) hr; rw [hp2] at this; exact this)
     clear hmore hp2
     go_wp2_with first
      | (at_builtin; refine wpList_append_own _ rfl _ _ 56 rfl w.heap.size 71 iT (.agg #[.string ⟨#[]⟩, .int .i64 0, .int .i64 0, .string ⟨#[]⟩]) 4 48 Tryd.underlying56 hi0 hi1 hi2 hi3 rfl (by decide) _ _ _ rfl ((own_mv hl (own_mv hl ho hm3) hm4).alloc _) ⟨w4.heap.size, 0, none⟩ 1 1 [.string (bs b.v), .int .i64 b.t, .int .i64 b.n, .string (bs b.s)] rfl rfl ?c1 ?c2 ?c3 ?c4 ?c5 ?_)
      | (go_at_call 45; refine (HK2.out _ hr3).mono ?_; rintro e w4 ⟨⟨_, rfl, rfl⟩, hm4, hr4⟩)
      | (go_at_call 42; refine HT.out.mono ?_; rintro e w3 ⟨⟨_, rfl, rfl⟩, hm3, hr3⟩)
     case c1 => exact At.news (xs := [.string (bs b.v), .int .i64 b.t, .int .i64 b.n, .string (bs b.s)]) (At.newAt (by simp) _ _)
     case c2 => exact (by intro u hu; simp at hu; rcases hu with rfl | rfl | rfl | rfl <;> rfl)
     case c3 => simp [maxLen]; omega
     case c4 => omega
     case c5 => have := hm3.size; have := hm4.size; simp; omega
     intro v5 w5 o5 g5 _
     obtain ⟨A5, c5, rfl⟩ := own_len o5
     have hmm := (hm.trans hl hm3).trans hl hm4
     have hb4 := below1 w4 (.cells #[.string (bs b.v), .int .i64 b.t, .int .i64 b.n, .string (bs b.s)] 71)
     have ho4 := (own_mv hl (own_mv hl ho hm3) hm4).alloc (.cells #[.string (bs b.v), .int .i64 b.t, .int .i64 b.n, .string (bs b.s)] 71)
     have hmw := (hmm.trans hl (Mv.still hr4 hb4)).grown g5 (fun q hq => (own_lt ho4 hq).1)
     have hkl2 := hr4.few.2.2
     have hr5 := hmw.rd HR.out hkl2
     go_wp2_with fail
     go_roundw
     case rel => exact ⟨l ++ [b], f, k, by rw [List.length_append, tmCells_snoc]; exact o5, by rw [List.length_append]; simp; omega, by omega, Lib.hid HM.out.symm, hmw, hr5⟩
     case measure => rw [hrd, rdAt_rd hr5]; omega
   ·rw [if_neg hx] at hT
    have HT := Lib.hid hT
    have HE := Lib.hid ((Px.after_end Px.constant f (Px.kts ts) q l hx).symm.trans HAF.out)
    clear hT hx
    go_wp2_with (go_at_call 42; refine HT.out.mono ?_; rintro e w3 ⟨⟨_, rfl, rfl⟩, hm3, hr3⟩)
    go_ret
    rw [← HE.out]
    exact ⟨⟨_, rfl, own_mv hl ho hm3⟩, hm.trans hl hm3, hr3⟩
set_option maxRecDepth 100000 in
theorem list_column (h : Rd w rb TA tc ts sz i o) : Calls Tryd.prog 80 #[.pointer (some ⟨rb, 0, none⟩), .func (.func 81) #[.pointer (some ⟨rb, 0, none⟩)] #[]] w (Post w rb TA tc ts sz o (fun l v W => W.ownsRow w.heap.size 3 1 v l.length (iCells l)) (Px.list Px.column (Px.kts ts) i)) := by
 have HK0 := fun W i (hr : Rd W rb TA tc ts sz i o) => column_any hr
 skip
 have HK := Lib.hid HK0
 clear HK0
 have HR := Lib.hid h
 have hl := h.box.lt
 have hf := h.few
 unfold Px.list
 rw [show Px.fuel = 3999 + 1 from rfl, Px.many_succ]
 have HK1 := Lib.hid (HK.out w i h)
 obtain ⟨iT, hi0, hi1, hi2, hi3⟩ := info_parts int_info
 clear h
 cases hp : Px.column (Px.kts ts) i with
 | fail j =>
  rw [hp] at HK1
  dsimp only
  clear hp
  go_enter Tryd.func80, Tryd.ntmps80
  go_wp2_with (go_at_call 81; refine HK1.out.mono ?_; rintro e w2 ⟨rfl, hm, hr⟩)
  exact ⟨rfl, rfl, hm, hr⟩
 | ok a j =>
  rw [hp] at HK1
  dsimp only
  obtain ⟨RR, hRR⟩ : ∃ RR, Px.after [a] (Px.rest Px.column 3999 (Px.kts ts) j) = RR := ⟨_, rfl⟩
  rw [hRR]
  have HRR := Lib.hid hRR
  clear hp hRR
  go_enter Tryd.func80, Tryd.ntmps80
  go_wp2_with (go_at_call 81; refine HK1.out.mono ?_; rintro e w2 ⟨⟨_, rfl, rfl⟩, hm, hr⟩)
  have hb2 := below1 w2 (.cells #[.int .i64 a] 3)
  have hs2 := hm.size
  have ho2 : (w2.alloc (.cells #[.int .i64 a] 3)).ownsRow w.heap.size 3 1 (.slice (some ⟨w2.heap.size, 0, none⟩) 1 1) 1 (iCells [a]) := ⟨rfl, Or.inr ⟨w2.heap.size, 1, _, rfl, by omega, heap_alloc_new w2 _, Nat.le_refl _, by unfold maxLen; omega, rfl, rfl⟩⟩
  have hm2 := hm.trans hl (Mv.still hr hb2)
  have hr2 := hr.next hb2
  go_loopw [5] (fun v wr => ∃ (l : List Int) (f j : Nat), wr.ownsRow w.heap.size 3 1 v l.length (iCells l) ∧ l.length ≤ j + 1 ∧ ts.length ≤ f + j ∧ Hid (Px.after l (Px.rest Px.column f (Px.kts ts) j) = RR) ∧ Mv rb j w wr ∧ Rd wr rb TA tc ts sz j o) (fun _ wr => ts.length - rdAt rb wr)
  case atStart => exact ⟨[a], 3999, j, ho2, by simp, by omega, HRR, hm2, hr2⟩
  case round =>
   clear hm2 hr2 ho2 hb2 hs2 hm hr HRR
   obtain ⟨l, f, q, ho, hln, hfq, HAF, hm, hr⟩ := hrel
   have hT := take_any hr [44] (by decide)
   have hqs := hr.few.2.2
   have hs0 := hm.size
   obtain ⟨A1, c1, rfl⟩ := own_len ho
   unfold Px.take at hT
   by_cases hx : Px.tx (Px.kts ts) q = [44]
   ·rw [if_pos hx] at hT
    have HT := Lib.hid hT
    have hql : q < ts.length := by
     rw [tx_at ts sz] at hx
     exact tx_in (ts := ts) (sz := sz) (by rw [hx]; decide)
    obtain ⟨f, rfl⟩ : ∃ f', f = f' + 1 := ⟨f - 1, by omega⟩
    have hmore := Px.after_more Px.column f (Px.kts ts) q l hx
    rw [HAF.out] at hmore
    have hrd := rdAt_rd hr
    clear hT hx
    cases hp2 : Px.column (Px.kts ts) (q + 1) with
    | fail k =>
     rw [hp2] at hmore
     dsimp only at hmore
     have HM := Lib.hid hmore
     have HK2 := Lib.hid (fun W (hr : Rd W rb TA tc ts sz (q + 1) o) => show Calls Tryd.prog 81 #[.pointer (some ⟨rb, 0, none⟩)] W (Post W rb TA tc ts sz o _ (.fail k)) by have := HK.out W (q + 1) hr; rw [hp2] at this; exact this)
     clear hmore hp2
     go_wp2_with first
      | (go_at_call 81; refine (HK2.out _ hr3).mono ?_; rintro e w4 ⟨rfl, hm4, hr4⟩)
      | (go_at_call 42; refine HT.out.mono ?_; rintro e w3 ⟨⟨_, rfl, rfl⟩, hm3, hr3⟩)
     have hmm := (hm.trans hl hm3).trans hl hm4
     exact ⟨rfl, by rw [HM.out]; exact ⟨rfl, hmm, hr4⟩⟩
    | ok b k =>
     rw [hp2] at hmore
     dsimp only at hmore
     have HM := Lib.hid hmore
     have hqk := Px.mono_column hp2
     have HK2 := Lib.hid (fun W (hr : Rd W rb TA tc ts sz (q + 1) o) => show Calls Tryd.prog 81 #[.pointer (some ⟨rb, 0, none⟩)] W (Post W rb TA tc ts sz o _ (.ok b k)) by have := HK.out W (q + 1) hr; rw [hp2] at this; exact this)
     clear hmore hp2
     go_wp2_with first
      | (at_builtin; refine wpList_append_own _ rfl _ _ 50 rfl w.heap.size 3 iT (.int .i64 0) 1 8 Tryd.underlying50 hi0 hi1 hi2 hi3 rfl (by decide) _ _ _ rfl ((own_mv hl (own_mv hl ho hm3) hm4).alloc _) ⟨w4.heap.size, 0, none⟩ 1 1 [.int .i64 b] rfl rfl ?c1 ?c2 ?c3 ?c4 ?c5 ?_)
      | (go_at_call 81; refine (HK2.out _ hr3).mono ?_; rintro e w4 ⟨⟨_, rfl, rfl⟩, hm4, hr4⟩)
      | (go_at_call 42; refine HT.out.mono ?_; rintro e w3 ⟨⟨_, rfl, rfl⟩, hm3, hr3⟩)
     case c1 => exact At.news (xs := [.int .i64 b]) (At.newAt (by simp) _ _)
     case c2 => exact one1 rfl
     case c3 => simp [maxLen]; omega
     case c4 => omega
     case c5 => have := hm3.size; have := hm4.size; simp; omega
     intro v5 w5 o5 g5 _
     obtain ⟨A5, c5, rfl⟩ := own_len o5
     have hmm := (hm.trans hl hm3).trans hl hm4
     have hb4 := below1 w4 (.cells #[.int .i64 b] 3)
     have ho4 := (own_mv hl (own_mv hl ho hm3) hm4).alloc (.cells #[.int .i64 b] 3)
     have hmw := (hmm.trans hl (Mv.still hr4 hb4)).grown g5 (fun q hq => (own_lt ho4 hq).1)
     have hkl2 := hr4.few.2.2
     have hr5 := hmw.rd HR.out hkl2
     go_wp2_with fail
     go_roundw
     case rel => exact ⟨l ++ [b], f, k, by rw [List.length_append, iCells_snoc]; exact o5, by rw [List.length_append]; simp; omega, by omega, Lib.hid HM.out.symm, hmw, hr5⟩
     case measure => rw [hrd, rdAt_rd hr5]; omega
   ·rw [if_neg hx] at hT
    have HT := Lib.hid hT
    have HE := Lib.hid ((Px.after_end Px.column f (Px.kts ts) q l hx).symm.trans HAF.out)
    clear hT hx
    go_wp2_with (go_at_call 42; refine HT.out.mono ?_; rintro e w3 ⟨⟨_, rfl, rfl⟩, hm3, hr3⟩)
    go_ret
    rw [← HE.out]
    exact ⟨⟨_, rfl, own_mv hl ho hm3⟩, hm.trans hl hm3, hr3⟩
end
end Go.Proofs.YtpcmlkpnjimbiaaDoor
