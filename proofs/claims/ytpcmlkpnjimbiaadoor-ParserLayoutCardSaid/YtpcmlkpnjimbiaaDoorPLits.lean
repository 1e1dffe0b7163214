/- The reader's lists of literals. -/
import Derived.Test.YtpcmlkpnjimbiaaDoorPLit
namespace Go.Proofs.YtpcmlkpnjimbiaaDoor
set_option linter.unusedVariables false
set_option linter.unusedSimpArgs false
open Go.RowKit
namespace Px
theorem bind_inv {α β : Type} {p : P α} {f : α → P β} {ts : List Kt} {i j : Nat} {b : β} (h : bind p f ts i = .ok b j) : ∃ a k, p ts i = .ok a k ∧ f a ts k = .ok b j := by
 unfold bind at h
 split at h
 ·exact ⟨_, _, by assumption, h⟩
 ·cases h
def Up {α : Type} (p : P α) : Prop := ∀ ts i a j, p ts i = .ok a j → i ≤ j
theorem Up.bind {α β : Type} {p : P α} {f : α → P β} (hp : Up p) (hf : ∀ a, Up (f a)) : Up (bind p f) := fun ts i b j h => by
 obtain ⟨a, k, h1, h2⟩ := bind_inv h
 exact Nat.le_trans (hp ts i a k h1) (hf a ts k b j h2)
theorem Up.ret {α : Type} (a : α) : Up (ret a) := fun ts i b j h => by
 unfold Px.ret at h
 injection h with _ h
 omega
theorem Up.word (k : Nat) : Up (word k) := fun ts i b j h => mono_word h
theorem Up.need (t : List UInt8) : Up (need t) := fun ts i b j h => by
 unfold Px.need at h
 split at h
 ·injection h with _ h; omega
 ·cases h
theorem Up.take (t : List UInt8) : Up (take t) := fun ts i b j h => by
 unfold Px.take at h
 split at h <;> (injection h with _ h; omega)
theorem Up.ite {α : Type} {c : Prop} [Decidable c] {p q : P α} (hp : Up p) (hq : Up q) : Up (if c then p else q) := by split <;> assumption
theorem Up.term : Up term := fun ts i b j h => mono_term h
theorem Up.constant : Up constant := fun ts i b j h => mono_constant h
theorem Up.number : Up number := fun ts i b j h => mono_number h
theorem Up.column : Up column := fun ts i b j h => mono_column h
theorem Up.many {α : Type} {p : P α} (hp : Up p) : ∀ f, Up (many p f)
 | 0 => fun ts i b j h => by unfold Px.many stop at h; cases h
 | f + 1 => fun ts i b j h => by
  rw [many_succ] at h
  split at h
  ·cases h
  ·rename_i a k hk
   have h1 := hp _ _ _ _ hk
   unfold after rest at h
   split at h
   ·rename_i l k2 hr
    injection h with _ h
    subst h
    split at hr
    ·have := Up.many hp f _ _ _ _ hr; omega
    ·injection hr with _ hr; omega
   ·cases h
theorem Up.list {α : Type} {p : P α} (hp : Up p) : Up (list p) := fun ts i b j h => Up.many hp _ _ _ _ _ h
theorem Up.terms {p : P T} (hp : Up p) : Up (terms p) := fun ts i b j h => by
 unfold Px.terms at h
 split at h
 ·injection h with _ h; omega
 ·exact Up.list hp _ _ _ _ h
theorem Up.operator : Up operator := fun ts i b j h => by
 unfold Px.operator at h
 split at h
 ·cases h
 ·injection h with _ h; omega
theorem Up.optBind : Up optBind := (Up.take _).bind fun _ => Up.ite (Up.word _) (Up.ret _)
theorem Up.compare (p : Nat) : Up (compare p) := Up.term.bind fun _ => Up.operator.bind fun _ => Up.term.bind fun _ => Up.ret _
theorem Up.atom (n : Bool) (p : Nat) : Up (atom n p) := (Up.word _).bind fun _ => (Up.need _).bind fun _ => (Up.terms Up.term).bind fun _ => (Up.ite (Up.ret _) Up.optBind).bind fun _ => (Up.need _).bind fun _ =>
 (Up.ite (Up.take _) (Up.ret _)).bind fun _ => (Up.ite (Up.word _) (Up.ret _)).bind fun _ => Up.ret _
theorem Up.literal : Up literal := fun ts i b j h => by
 have h' : Px.bind (Px.take sNot) (fun neg => if neg then Px.atom true i else litPos i) ts i = .ok b j := h
 refine ((Up.take sNot).bind fun neg => Up.ite (Up.atom _ _) ?_) ts i b j h'
 intro ts i b j h
 unfold litPos at h
 split at h
 ·split at h
  ·exact Up.atom _ _ _ _ _ _ h
  ·exact Up.compare _ _ _ _ _ h
 ·exact Up.compare _ _ _ _ _ h
end Px
theorem RowsR.one {α : Type} {R : World → List Value → α → Prop} {w : World} {r : List Value} {x : α} (h : R w r x) : RowsR R w [r] [x] := by
 refine ⟨rfl, fun i r' x' h1 h2 => ?_⟩
 cases i with
 | zero => simp at h1 h2; subst h1; subst h2; exact h
 | succ i => simp at h1
section
variable {w : World} {rb : Nat} {TA : Option Addr} {tc : Nat} {ts : List Lx.Tok} {sz i : Nat} {o : Outs}
theorem lit_info : (Tryd.prog.info? 58).map (fun i => (i.zero, i.size, i.bytes)) = some (some (.agg #[.int .i64 0, .string ⟨#[]⟩, .int .i64 0, .slice none 0 0, .string ⟨#[]⟩, .string ⟨#[]⟩, .int .i64 0, .int .i64 0, .int .i64 0]), 9, 112) := by kernel_rfl
theorem li_one (x : Ap.Li) (aa : Value) (ha : ∃ A n c, aa = .slice A n c) : ∀ u ∈ liFs x aa, u.oneCell' = true := by
 obtain ⟨A, n, c, rfl⟩ := ha
 intro u hu
 unfold liFs at hu
 simp at hu
 rcases hu with rfl | rfl | rfl | rfl | rfl | rfl | rfl | rfl | rfl <;> rfl
set_option maxHeartbeats 1000000 in
set_option maxRecDepth 100000 in
theorem list_literal (h : Rd w rb TA tc ts sz i o) : Calls Tryd.prog 57 #[.pointer (some ⟨rb, 0, none⟩), .func (.func 58) #[.pointer (some ⟨rb, 0, none⟩)] #[]] w (Post w rb TA tc ts sz o (fun l v W => ORows LiR W w.heap.size 58 9 v (l.map (Px.L.ap (offI ts sz)))) (Px.list Px.literal (Px.kts ts) i)) := by
 have HK0 := fun W i (hr : Rd W rb TA tc ts sz i o) => literal_any hr
 simp only [liFs] at HK0
 have HK := Lib.hid HK0
 clear HK0
 have HR := Lib.hid h
 have hl := h.box.lt
 have hf := h.few
 unfold Px.list
 rw [show Px.fuel = 3999 + 1 from rfl, Px.many_succ]
 have HK1 := Lib.hid (HK.out w i h)
 obtain ⟨iT, hi0, hi1, hi2, hi3⟩ := info_parts lit_info
 clear h
 cases hp : Px.literal (Px.kts ts) i with
 | fail j =>
  rw [hp] at HK1
  dsimp only
  clear hp
  go_enter Tryd.func57, Tryd.ntmps57
  go_wp2_with (go_at_call 58; refine HK1.out.mono ?_; rintro e w2 ⟨rfl, hm, hr⟩)
  exact ⟨rfl, rfl, hm, hr⟩
 | ok a j =>
  rw [hp] at HK1
  dsimp only
  obtain ⟨RR, hRR⟩ : ∃ RR, Px.after [a] (Px.rest Px.literal 3999 (Px.kts ts) j) = RR := ⟨_, rfl⟩
  rw [hRR]
  have HRR := Lib.hid hRR
  clear hp hRR
  go_enter Tryd.func57, Tryd.ntmps57
  go_wp2_with (go_at_call 58; refine HK1.out.mono ?_; rintro e w2 ⟨⟨_, rfl, aa, rfl, hta⟩, hm, hr⟩)
  have hb2 := below1 w2 (.cells #[.int .i64 (a.ap (offI ts sz)).kind, .string (bs (a.ap (offI ts sz)).name), .int .i64 (a.ap (offI ts sz)).pred, aa, .string (bs (a.ap (offI ts sz)).bnd), .string (bs (a.ap (offI ts sz)).elem), .int .i64 (a.ap (offI ts sz)).least, .int .i64 (a.ap (offI ts sz)).op, .int .i64 (a.ap (offI ts sz)).pos] 58)
  have hs2 := hm.size
  have ho2 : (w2.alloc (.cells #[.int .i64 (a.ap (offI ts sz)).kind, .string (bs (a.ap (offI ts sz)).name), .int .i64 (a.ap (offI ts sz)).pred, aa, .string (bs (a.ap (offI ts sz)).bnd), .string (bs (a.ap (offI ts sz)).elem), .int .i64 (a.ap (offI ts sz)).least, .int .i64 (a.ap (offI ts sz)).op, .int .i64 (a.ap (offI ts sz)).pos] 58)).ownsRow w.heap.size 58 9 (.slice (some ⟨w2.heap.size, 0, none⟩) 1 1) 1 [liFs (a.ap (offI ts sz)) aa].flatten := ⟨rfl, Or.inr ⟨w2.heap.size, 1, _, rfl, by omega, heap_alloc_new w2 _, Nat.le_refl _, by unfold maxLen; omega, rfl, rfl⟩⟩
  have hR2 : RowsR LiR (w2.alloc (.cells #[.int .i64 (a.ap (offI ts sz)).kind, .string (bs (a.ap (offI ts sz)).name), .int .i64 (a.ap (offI ts sz)).pred, aa, .string (bs (a.ap (offI ts sz)).bnd), .string (bs (a.ap (offI ts sz)).elem), .int .i64 (a.ap (offI ts sz)).least, .int .i64 (a.ap (offI ts sz)).op, .int .i64 (a.ap (offI ts sz)).pos] 58)) [liFs (a.ap (offI ts sz)) aa] ([a].map (Px.L.ap (offI ts sz))) := RowsR.one ⟨aa, rfl, hta.kept (Kept.alloc _ _ _)⟩
  have hm2 := hm.trans hl (Mv.still hr hb2)
  have hr2 := hr.next hb2
  go_loopw [5] (fun v wr => ∃ (l : List Px.L) (rows : List (List Value)) (f j : Nat), wr.ownsRow w.heap.size 58 9 v l.length rows.flatten ∧ RowsR LiR wr rows (l.map (Px.L.ap (offI ts sz))) ∧ l.length ≤ j + 1 ∧ ts.length ≤ f + j ∧ Hid (Px.after l (Px.rest Px.literal f (Px.kts ts) j) = RR) ∧ Mv rb j w wr ∧ Rd wr rb TA tc ts sz j o) (fun _ wr => ts.length - rdAt rb wr)
  case atStart => exact ⟨[a], _, 3999, j, ho2, hR2, by simp, by omega, HRR, hm2, hr2⟩
  case round =>
   clear hm2 hr2 ho2 hb2 hs2 hm hr HRR hta hR2
   obtain ⟨l, rows, f, q, ho, hRw, hln, hfq, HAF, hm, hr⟩ := hrel
   have HRW := Lib.hid hRw
   clear hRw
   have hT := take_any hr [44] (by decide)
   have hqs := hr.few.2.2
   have hs0 := hm.size
   obtain ⟨A1, c1, rfl⟩ := own_len ho
   have HBX := Lib.hid hr.box
   unfold Px.take at hT
   by_cases hx : Px.tx (Px.kts ts) q = [44]
   ·rw [if_pos hx] at hT
    have HT := Lib.hid hT
    have hql : q < ts.length := by
     rw [tx_at ts sz] at hx
     exact tx_in (ts := ts) (sz := sz) (by rw [hx]; decide)
    obtain ⟨f, rfl⟩ : ∃ f', f = f' + 1 := ⟨f - 1, by omega⟩
    have hmore := Px.after_more Px.literal f (Px.kts ts) q l hx
    rw [HAF.out] at hmore
    have hrd := rdAt_rd hr
    clear hT hx
    cases hp2 : Px.literal (Px.kts ts) (q + 1) with
    | fail k =>
     rw [hp2] at hmore
     dsimp only at hmore
     have HM := Lib.hid hmore
     have HK2 := Lib.hid (fun W (hr : Rd W rb TA tc ts sz (q + 1) o) => show Calls Tryd.prog 58 #[.pointer (some ⟨rb, 0, none⟩)] W (Post W rb TA tc ts sz o _ (.fail k)) by have := HK.out W (q + 1) hr; rw [hp2] at this; exact this)
     clear hmore hp2
     go_wp2_with first
      | (go_at_call 58; refine (HK2.out _ hr3).mono ?_; rintro e w4 ⟨rfl, hm4, hr4⟩)
      | (go_at_call 42; refine HT.out.mono ?_; rintro e w3 ⟨⟨_, rfl, rfl⟩, hm3, hr3⟩)
     have hmm := (hm.trans hl hm3).trans hl hm4
     exact ⟨rfl, by rw [HM.out]; exact ⟨rfl, hmm, hr4⟩⟩
    | ok b k =>
     rw [hp2] at hmore
     dsimp only at hmore
     have HM := Lib.hid hmore
     have hqk := Px.Up.literal _ _ _ _ hp2
     have HK2 := Lib.hid (fun W (hr : Rd W rb TA tc ts sz (q + 1) o) => show Calls Tryd.prog 58 #[.pointer (some ⟨rb, 0, none⟩)] W (Post W rb TA tc ts sz o _ (.ok b k)) by have := HK.out W (q + 1) hr; rw [hp2] at this; exact this)
     clear hmore hp2
     go_wp2_with first
      | (at_builtin; refine wpList_append_own _ rfl _ _ 64 rfl w.heap.size 58 iT (.agg #[.int .i64 0, .string ⟨#[]⟩, .int .i64 0, .slice none 0 0, .string ⟨#[]⟩, .string ⟨#[]⟩, .int .i64 0, .int .i64 0, .int .i64 0]) 9 112 Tryd.underlying64 hi0 hi1 hi2 hi3 rfl (by decide) _ _ _ rfl ((own_mv hl (own_mv hl ho hm3) hm4).alloc _) ⟨w4.heap.size, 0, none⟩ 1 1 (liFs (b.ap (offI ts sz)) ba) rfl rfl ?c1 ?c2 ?c3 ?c4 ?c5 ?_)
      | (go_at_call 58; refine (HK2.out _ hr3).mono ?_; rintro e w4 ⟨⟨_, rfl, ba, rfl, htb⟩, hm4, hr4⟩)
      | (go_at_call 42; refine HT.out.mono ?_; rintro e w3 ⟨⟨_, rfl, rfl⟩, hm3, hr3⟩)
     case c1 => exact At.news (xs := liFs (b.ap (offI ts sz)) ba) (At.newAt (by simp) _ _)
     case c2 => exact li_one _ _ (by obtain ⟨A, c, e⟩ := htb.slice; exact ⟨A, _, c, e⟩)
     case c3 => simp [maxLen]; omega
     case c4 => omega
     case c5 => have := hm3.size; have := hm4.size; simp; omega
     intro v5 w5 o5 g5 _
     obtain ⟨A5, c5, rfl⟩ := own_len o5
     have hmm := (hm.trans hl hm3).trans hl hm4
     have hb4 := below1 w4 (.cells #[.int .i64 (b.ap (offI ts sz)).kind, .string (bs (b.ap (offI ts sz)).name), .int .i64 (b.ap (offI ts sz)).pred, ba, .string (bs (b.ap (offI ts sz)).bnd), .string (bs (b.ap (offI ts sz)).elem), .int .i64 (b.ap (offI ts sz)).least, .int .i64 (b.ap (offI ts sz)).op, .int .i64 (b.ap (offI ts sz)).pos] 58)
     have ho4 := (own_mv hl (own_mv hl ho hm3) hm4).alloc (.cells #[.int .i64 (b.ap (offI ts sz)).kind, .string (bs (b.ap (offI ts sz)).name), .int .i64 (b.ap (offI ts sz)).pred, ba, .string (bs (b.ap (offI ts sz)).bnd), .string (bs (b.ap (offI ts sz)).elem), .int .i64 (b.ap (offI ts sz)).least, .int .i64 (b.ap (offI ts sz)).op, .int .i64 (b.ap (offI ts sz)).pos] 58)
     have hmw := (hmm.trans hl (Mv.still hr4 hb4)).grown g5 (fun q hq => (own_lt ho4 hq).1)
     have hkl2 := hr4.few.2.2
     have hr5 := hmw.rd HR.out hkl2
     have hk4 := (Kept.alloc w4 (.cells #[.int .i64 (b.ap (offI ts sz)).kind, .string (bs (b.ap (offI ts sz)).name), .int .i64 (b.ap (offI ts sz)).pred, ba, .string (bs (b.ap (offI ts sz)).bnd), .string (bs (b.ap (offI ts sz)).elem), .int .i64 (b.ap (offI ts sz)).least, .int .i64 (b.ap (offI ts sz)).op, .int .i64 (b.ap (offI ts sz)).pos] 58) 71).trans (Kept.grown ho4 g5 (by decide))
     have hk3 := ((Kept.mv HBX.out hm3 (by decide)).trans (Kept.mv hr3.box hm4 (by decide))).trans hk4
     have hR5 : RowsR LiR w5 (rows ++ [liFs (b.ap (offI ts sz)) ba]) ((l ++ [b]).map (Px.L.ap (offI ts sz))) := by
      rw [List.map_append]
      exact (HRW.out.kept (LiR.kept hk3)).push (show LiR _ _ (b.ap (offI ts sz)) from ⟨ba, rfl, htb.kept hk4⟩)
     have HR5 := Lib.hid hR5
     clear hR5 hk3 hk4 htb
     go_wp2_with fail
     go_roundw
     case rel => exact ⟨l ++ [b], _, f, k, by rw [List.length_append, List.flatten_append]; simpa using o5, HR5.out, by rw [List.length_append]; simp; omega, by omega, Lib.hid HM.out.symm, hmw, hr5⟩
     case measure => rw [hrd, rdAt_rd hr5]; omega
   ·rw [if_neg hx] at hT
    have HT := Lib.hid hT
    have HE := Lib.hid ((Px.after_end Px.literal f (Px.kts ts) q l hx).symm.trans HAF.out)
    clear hT hx
    go_wp2_with (go_at_call 42; refine HT.out.mono ?_; rintro e w3 ⟨⟨_, rfl, rfl⟩, hm3, hr3⟩)
    go_ret
    rw [← HE.out]
    exact ⟨⟨_, rfl, rows, by rw [List.length_map]; exact own_mv hl ho hm3, HRW.out.kept (LiR.kept (Kept.mv HBX.out hm3 (by decide)))⟩, hm.trans hl hm3, hr3⟩
end
end Go.Proofs.YtpcmlkpnjimbiaaDoor
