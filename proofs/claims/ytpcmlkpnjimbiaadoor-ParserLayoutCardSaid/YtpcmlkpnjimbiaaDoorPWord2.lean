/- The reader's word, number, constant, term, column. -/
import Derived.Test.YtpcmlkpnjimbiaaDoorPWord
import Derived.Laws.RangeString
import Derived.Laws.RangeAny
import Derived.Laws.Runes
namespace Go.Proofs.YtpcmlkpnjimbiaaDoor
set_option linter.unusedVariables false
set_option linter.unusedSimpArgs false
open Go.RowKit
section
variable {w : World} {rb : Nat} {TA : Option Addr} {tc : Nat} {ts : List Lx.Tok} {sz i : Nat} {o : Outs}
theorem isK_in {ts : List Lx.Tok} {k i : Nat} (hk : 0 < k) (h : Px.isK k (Px.kts ts) i = true) : i < ts.length := by
 unfold Px.isK at h
 rw [Bool.and_eq_true] at h
 have h1 := of_decide_eq_true h.1
 rw [kd_at ts 0] at h1
 exact kd_in (ts := ts) (sz := 0) (by omega)
set_option maxRecDepth 100000 in
theorem pword_any (h : Rd w rb TA tc ts sz i o) (k : Nat) (hk : 0 < k ∧ k ≤ 4) : Calls Tryd.prog 43 #[.pointer (some ⟨rb, 0, none⟩), .int .i64 k] w (Post w rb TA tc ts sz o (fun s v _ => v = .string (bs s)) (Px.word k (Px.kts ts) i)) := by
 have HI := Lib.hid (is_any h k hk)
 have HR := Lib.hid h
 have hl := h.box.lt
 have hf := h.few
 unfold Px.word
 rw [tx_at ts sz]
 clear h
 cases hz : Px.isK k (Px.kts ts) i
 ·rw [hz] at HI
  rw [if_neg (by simp)]
  clear hz
  go_enter Tryd.func43, Tryd.ntmps43
  go_wp2_with first
   | (go_at_call 64; refine (fail_any (HR.out.next hb)).mono ?_; rintro e w3 ⟨rfl, hb3⟩)
   | (go_at_call 66; refine HI.out.mono ?_; rintro e w2 ⟨rfl, hb⟩)
  have hbb := hb.trans (hb3.mono hb.size)
  exact ⟨rfl, rfl, Mv.still HR.out hbb, HR.out.next hbb⟩
 ·rw [hz] at HI
  have hi := isK_in hk.1 hz
  rw [if_pos rfl]
  obtain ⟨t, ht⟩ : ∃ t, ts[i]? = some t := ⟨_, List.getElem?_eq_getElem hi⟩
  obtain ⟨m, hm0⟩ : ∃ m, i + 1 = m := ⟨_, rfl⟩
  have e0 : (i : Int) + 1 = (m : Int) := by omega
  have e1 : (m : Int) - 1 = (i : Int) := by omega
  have wm : IntKind.i64.wrap (i : Int) = (i : Int) := IntWalk.i64_in _ (by omega)
  have wm2 : IntKind.i64.wrap (m : Int) = (m : Int) := IntWalk.i64_in _ (by omega)
  rw [hm0]
  have hml : m ≤ ts.length := by omega
  have HT := Lib.hid ht
  rw [tokAt_in ht]
  have i0 : (0 : Int) ≤ (i : Int) := by omega
  have i1 : (i : Int) < (ts.length : Int) := by omega
  clear hz ht hm0
  go_enter Tryd.func43, Tryd.ntmps43
  go_wp2_with (go_at_call 66; refine HI.out.mono ?_; rintro e w2 ⟨rfl, hb⟩; have hr2 := HR.out.next hb; have r1 := hr2.cells.2.1; have yf := hr2.box.frozen 1; have yl := hr2.box.lt)
  have hm := Mv.step HR.out hb m
  have hr3 := hm.rd HR.out hml
  generalize hw3 : w2.setCell ⟨rb, 1, none⟩ (.int .i64 (m : Int)) = w3 at hm hr3 ⊢
  obtain ⟨s0, s1, s2⟩ := hr3.cells
  obtain ⟨g, og, hA, hg, c0, c1, c2⟩ := tok_cells hr3.toks HT.out
  have hl3 := hr3.box.lt
  rw [hA] at s0
  have f0 : ∀ z : Held w3.heap.size w3, z.w.cell? ⟨rb, 0, none⟩ = some (.slice (some ⟨g, og, none⟩) ts.length tc) := fun z => z.cell hl3 s0
  have f1 : ∀ z : Held w3.heap.size w3, z.w.cell? ⟨rb, 1, none⟩ = some (.int .i64 (m : Int)) := fun z => z.cell hl3 s1
  have f2 : ∀ z : Held w3.heap.size w3, z.w.cell? ⟨g, og + i * 3 + 1, none⟩ = some (.string (bs t.text)) := fun z => z.cell hg c1
  clear hw3 s0 s1 s2 c0 c1 c2 hA r1 yf yl hb hr2
  refine wp_region_held w3.heap.size w3 (Below.refl _ _) (by kernel_rfl) (by kernel_rfl) ?_
  repeat (go_big_quiet_step (fail))
  refine wpQuiet_nil ?_
  rintro wt ⟨⟨_, bt⟩, rfl⟩
  go_wp2_with fail
  go_ret
  exact ⟨⟨_, rfl, rfl⟩, Mv.trans hl hm (Mv.still hr3 bt), hr3.next bt⟩
theorem iter_below (w : World) (s : ByteArray) (pos : Nat) : Below w.heap.size w (w.iter s pos) := below1 w _
theorem num_small : ∀ (l : List UInt8), (∀ c ∈ l, 48 ≤ c.toNat ∧ c.toNat ≤ 57) → l.length ≤ 4 → 0 ≤ Px.num l ∧ Px.num l ≤ 9999
 | [], _, _ => by simp [Px.num]
 | [a], h, _ => by
  have := h a (by simp)
  simp [Px.num]; omega
 | [a, b], h, _ => by
  have := h a (by simp); have := h b (by simp)
  simp [Px.num]; omega
 | [a, b, c], h, _ => by
  have := h a (by simp); have := h b (by simp); have := h c (by simp)
  simp [Px.num]; omega
 | [a, b, c, d], h, _ => by
  have := h a (by simp); have := h b (by simp); have := h c (by simp); have := h d (by simp)
  simp [Px.num]; omega
 | a :: b :: c :: d :: e :: l, _, h => by simp at h
theorem num_take {l : List UInt8} {k : Nat} {c : UInt8} (h : l[k]? = some c) : Px.num (l.take (k + 1)) = 10 * Px.num (l.take k) + ((c.toNat : Int) - 48) := by
 unfold Px.num
 rw [take_more h, List.foldl_append]
 rfl
set_option maxRecDepth 100000 in
theorem number_any (h : Rd w rb TA tc ts sz i o) : Calls Tryd.prog 67 #[.pointer (some ⟨rb, 0, none⟩)] w (Post w rb TA tc ts sz o (fun n v _ => v = .int .i64 n) (Px.number (Px.kts ts) i)) := by
 have HW := Lib.hid (pword_any h 3 (by omega))
 have HR := Lib.hid h
 have hl := h.box.lt
 have hd := h.dig
 unfold Px.number Px.bind Px.ret
 cases hp : Px.word 3 (Px.kts ts) i with
 | fail j =>
  rw [hp] at HW
  dsimp only
  clear h hp hd
  go_enter Tryd.func67, Tryd.ntmps67
  go_wp2_with (go_at_call 43; refine HW.out.mono ?_; rintro e w2 ⟨rfl, hm, hr⟩)
  exact ⟨rfl, rfl, hm, hr⟩
 | ok s j =>
  rw [hp] at HW
  dsimp only
  have hs : s.length ≤ 4 ∧ ∀ c ∈ s, 48 ≤ c.toNat ∧ c.toNat ≤ 57 := by
   unfold Px.word at hp
   split at hp
   ·rename_i hk
    injection hp with h1 h2
    have hi := isK_in (by omega) hk
    unfold Px.isK at hk
    rw [Bool.and_eq_true] at hk
    have h3 := of_decide_eq_true hk.1
    rw [kd_at ts 0, tokAt_in (List.getElem?_eq_getElem hi)] at h3
    rw [tx_at ts 0, tokAt_in (List.getElem?_eq_getElem hi)] at h1
    rw [← h1]
    exact hd.1 _ (List.getElem_mem hi) h3
   ·cases hp
  obtain ⟨hs4, hsd⟩ := hs
  have HSD := Lib.hid hsd
  clear h hp hd hsd
  go_enter Tryd.func67, Tryd.ntmps67
  go_wp2_with (go_at_call 43; refine HW.out.mono ?_; rintro e w2 ⟨⟨_, rfl, rfl⟩, hm, hr⟩)
  have hsz : (bs s).size = s.length := by rw [← size_len]; rfl
  go_loopw [3, 5] (fun n _ w' => ∃ (pos : Nat), pos ≤ s.length ∧ w' = w2.iter (bs s) pos ∧ n = .int .i64 (Px.num (s.take pos))) (fun _ _ w' => s.length - w'.iterPos w2.heap.size)
  case atStart => exact ⟨0, by omega, rfl, rfl⟩
  case round =>
   obtain ⟨pos, hp, rfl, rfl⟩ := hrel
   by_cases h1 : pos < s.length
   ·have hp2 : pos < (bs s).size := by omega
    obtain ⟨c, hc⟩ : ∃ c, s[pos]? = some c := ⟨_, List.getElem?_eq_getElem h1⟩
    have hcd := HSD.out c (List.mem_of_getElem? hc)
    have hcb : (bs s)[pos] = c := by
     have := byte_get (bs s) pos hp2
     have h2 : (bs s).data.toList = s := rfl
     rw [h2, hc] at this
     exact (Option.some.inj this).symm
    have hnt := num_take hc
    have hdec : Utf8.decode (bs s) pos = (c.toNat, 1) := by rw [decode_ascii (bs s) pos hp2 (by rw [hcb]; omega), hcb]
    have hnx : ∀ ty, (Instr.next (.pointer (some ⟨w2.heap.size, 0, none⟩)) true ty).run Tryd.prog (w2.iter (bs s) pos) = _ := fun ty => run_next_any w2 (bs s) pos ty hp2
    have hns := num_small (s.take pos) (fun c hc => HSD.out c (List.mem_of_mem_take hc)) (by rw [List.length_take]; omega)
    obtain ⟨a, ha⟩ : ∃ a, Px.num (s.take pos) = a := ⟨_, rfl⟩
    rw [ha] at hns hnt
    rw [ha]
    rw [hdec] at hnx
    go_wp2_with fail
    go_roundw
    case rel => exact ⟨pos + 1, by omega, rfl, by rw [hnt]⟩
    case measure => simp; omega
   ·have hnx : ∀ ty, (Instr.next (.pointer (some ⟨w2.heap.size, 0, none⟩)) true ty).run Tryd.prog (w2.iter (bs s) pos) = _ := fun ty => run_next_end w2 (bs s) pos ty (by omega)
    rw [List.take_of_length_le (by omega)]
    go_wp2_with fail
    go_ret
    have hb := iter_below w2 (bs s) pos
    exact ⟨⟨_, rfl, rfl⟩, hm.trans hl (Mv.still hr hb), hr.next hb⟩
theorem Mv.at {w w' : World} {rb j g : Nat} {t : TypeId} {cs : Array Value} (hm : Mv rb j w w') (h : At w g t cs) (hne : g ≠ rb) : At w' g t cs := (h.far (p := ⟨rb, 1, none⟩) hne _).below hm h.lt
theorem put4 (w3 : World) (B : Nat) (a b c d : Value) : Below B w3 ((((w3.setCell ⟨B, 0, none⟩ a).setCell ⟨B, 1, none⟩ b).setCell ⟨B, 2, none⟩ c).setCell ⟨B, 3, none⟩ d) :=
 ((((Below.refl B w3).setCell (p := ⟨B, 0, none⟩) (Nat.le_refl _) _).setCell (p := ⟨B, 1, none⟩) (Nat.le_refl _) _).setCell (p := ⟨B, 2, none⟩) (Nat.le_refl _) _).setCell (p := ⟨B, 3, none⟩) (Nat.le_refl _) _
/-- What turns blocks of the call's own alone changes nothing of it. -/
theorem Mv.after {w w1 w2 : World} {rb j B : Nat} (h : Mv rb j w w1) (hb : Below B w1 w2) (hB : w.heap.size ≤ B) : Mv rb j w w2 := by
 have hs := h.size
 refine ⟨hb.os.trans h.os, hb.tape.trans h.tape, hb.output.trans h.output, by have := hb.size; simp; omega, fun k hk => ?_⟩
 rw [hb.block k (by omega), h.block k hk]
def tmV (t : Px.T) : Value := .agg #[.string (bs t.v), .int .i64 t.t, .int .i64 t.n, .string (bs t.s)]
set_option maxRecDepth 100000 in
theorem constant_any (h : Rd w rb TA tc ts sz i o) : Calls Tryd.prog 45 #[.pointer (some ⟨rb, 0, none⟩)] w (Post w rb TA tc ts sz o (fun t v _ => v = tmV t) (Px.constant (Px.kts ts) i)) := by
 have hb0 := below1 w (.cells #[.string ⟨#[]⟩, .int .i64 0, .int .i64 0, .string ⟨#[]⟩] 71)
 have hat0 := At.new w 71 #[.string ⟨#[]⟩, .int .i64 0, .int .i64 0, .string ⟨#[]⟩]
 have hr0 := h.next hb0
 have HI := Lib.hid (is_any hr0 3 (by omega))
 have HR := Lib.hid h
 have HR0 := Lib.hid hr0
 have hl := h.box.lt
 have hne : w.heap.size ≠ rb := by omega
 have HNU := Lib.hid (fun W (hr : Rd W rb TA tc ts sz i o) => number_any hr)
 have HWD := Lib.hid (fun W (hr : Rd W rb TA tc ts sz i o) => pword_any hr 1 (by omega))
 unfold Px.constant Px.bind Px.ret
 clear h hr0
 cases hz : Px.isK 3 (Px.kts ts) i
 ·rw [hz] at HI
  rw [if_neg (by simp)]
  cases hp : Px.word 1 (Px.kts ts) i with
  | fail j =>
   rw [hp] at HWD
   dsimp only
   clear hz hp
   go_enter Tryd.func45, Tryd.ntmps45
   go_wp2_with first
    | (go_at_call 43; refine (HWD.out _ (HR0.out.next hb)).mono ?_; rintro e w3 ⟨rfl, hm, hr⟩)
    | (go_at_call 66; refine HI.out.mono ?_; rintro e w2 ⟨rfl, hb⟩)
   exact ⟨rfl, rfl, (Mv.still HR.out (hb0.trans (hb.mono hb0.size))).trans hl hm, hr⟩
  | ok s j =>
   rw [hp] at HWD
   dsimp only
   clear hz hp
   go_enter Tryd.func45, Tryd.ntmps45
   go_wp2_with first | (go_at_call 43; refine (HWD.out _ (HR0.out.next hb)).mono ?_; rintro e w3 ⟨⟨_, rfl, rfl⟩, hm, hr⟩; have hat3 := hm.at (hat0.next hb) hne; have y0 := hat3.cell 0; have y1 := hat3.cell 1; have y2 := hat3.cell 2; have y3 := hat3.cell 3; have f0 := hat3.frozen 0; have f1 := hat3.frozen 1; have f2 := hat3.frozen 2; have f3 := hat3.frozen 3; have yl := hat3.lt; simp only [List.getElem?_toArray, List.getElem?_cons_zero, List.getElem?_cons_succ] at y0 y1 y2 y3) | (go_at_call 66; refine HI.out.mono ?_; rintro e w2 ⟨rfl, hb⟩)
   refine bodyPost_ret (results_cell_row rfl _ _ w.heap.size 71 _ (0, 0) _ rfl ((((hat3.put 0 (.string ⟨#[]⟩)).put 1 (.int .i64 2)).put 2 (.int .i64 0)).put 3 (.string (bs s))) Tryd.underlying71 rfl (by kernel_rfl)) rfl ?_
   have hb4 := put4 w3 w.heap.size (.string ⟨#[]⟩) (.int .i64 2) (.int .i64 0) (.string (bs s))
   have hm2 := (Mv.still HR.out (hb0.trans (hb.mono hb0.size))).trans hl hm
   have hm4 := hm2.after hb4 (Nat.le_refl _)
   exact ⟨⟨_, rfl, rfl⟩, hm4, hm4.rd HR.out hr.few.2.2⟩
 ·rw [hz] at HI
  rw [if_pos rfl]
  cases hp : Px.number (Px.kts ts) i with
  | fail j =>
   rw [hp] at HNU
   dsimp only
   clear hz hp
   go_enter Tryd.func45, Tryd.ntmps45
   go_wp2_with first
    | (go_at_call 67; refine (HNU.out _ (HR0.out.next hb)).mono ?_; rintro e w3 ⟨rfl, hm, hr⟩)
    | (go_at_call 66; refine HI.out.mono ?_; rintro e w2 ⟨rfl, hb⟩)
   exact ⟨rfl, rfl, (Mv.still HR.out (hb0.trans (hb.mono hb0.size))).trans hl hm, hr⟩
  | ok n j =>
   rw [hp] at HNU
   dsimp only
   clear hz hp
   go_enter Tryd.func45, Tryd.ntmps45
   go_wp2_with first | (go_at_call 67; refine (HNU.out _ (HR0.out.next hb)).mono ?_; rintro e w3 ⟨⟨_, rfl, rfl⟩, hm, hr⟩; have hat3 := hm.at (hat0.next hb) hne; have y0 := hat3.cell 0; have y1 := hat3.cell 1; have y2 := hat3.cell 2; have y3 := hat3.cell 3; have f0 := hat3.frozen 0; have f1 := hat3.frozen 1; have f2 := hat3.frozen 2; have f3 := hat3.frozen 3; have yl := hat3.lt; simp only [List.getElem?_toArray, List.getElem?_cons_zero, List.getElem?_cons_succ] at y0 y1 y2 y3) | (go_at_call 66; refine HI.out.mono ?_; rintro e w2 ⟨rfl, hb⟩)
   refine bodyPost_ret (results_cell_row rfl _ _ w.heap.size 71 _ (0, 0) _ rfl ((((hat3.put 0 (.string ⟨#[]⟩)).put 1 (.int .i64 1)).put 2 (.int .i64 n)).put 3 (.string ⟨#[]⟩)) Tryd.underlying71 rfl (by kernel_rfl)) rfl ?_
   have hb4 := put4 w3 w.heap.size (.string ⟨#[]⟩) (.int .i64 1) (.int .i64 n) (.string ⟨#[]⟩)
   have hm2 := (Mv.still HR.out (hb0.trans (hb.mono hb0.size))).trans hl hm
   have hm4 := hm2.after hb4 (Nat.le_refl _)
   exact ⟨⟨_, rfl, rfl⟩, hm4, hm4.rd HR.out hr.few.2.2⟩
set_option maxRecDepth 100000 in
theorem term_any (h : Rd w rb TA tc ts sz i o) : Calls Tryd.prog 41 #[.pointer (some ⟨rb, 0, none⟩)] w (Post w rb TA tc ts sz o (fun t v _ => v = tmV t) (Px.term (Px.kts ts) i)) := by
 have hb0 := below1 w (.cells #[.string ⟨#[]⟩, .int .i64 0, .int .i64 0, .string ⟨#[]⟩] 71)
 have hat0 := At.new w 71 #[.string ⟨#[]⟩, .int .i64 0, .int .i64 0, .string ⟨#[]⟩]
 have hr0 := h.next hb0
 have HI := Lib.hid (is_any hr0 2 (by omega))
 have HR := Lib.hid h
 have HR0 := Lib.hid hr0
 have hl := h.box.lt
 have hne : w.heap.size ≠ rb := by omega
 have HCO := Lib.hid (fun W (hr : Rd W rb TA tc ts sz i o) => constant_any hr)
 have HWD := Lib.hid (fun W (hr : Rd W rb TA tc ts sz i o) => pword_any hr 2 (by omega))
 unfold Px.term Px.bind Px.ret
 clear h hr0
 cases hz : Px.isK 2 (Px.kts ts) i
 ·rw [hz] at HI
  rw [if_neg (by simp)]
  cases hp : Px.constant (Px.kts ts) i with
  | fail j =>
   rw [hp] at HCO
   clear hz hp
   go_enter Tryd.func41, Tryd.ntmps41
   go_wp2_with first
    | (go_at_call 45; refine (HCO.out _ (HR0.out.next hb)).mono ?_; rintro e w3 ⟨rfl, hm, hr⟩)
    | (go_at_call 66; refine HI.out.mono ?_; rintro e w2 ⟨rfl, hb⟩)
   exact ⟨rfl, rfl, (Mv.still HR.out (hb0.trans (hb.mono hb0.size))).trans hl hm, hr⟩
  | ok t j =>
   rw [hp] at HCO
   clear hz hp
   unfold tmV at HCO
   go_enter Tryd.func41, Tryd.ntmps41
   go_wp2_with first | (go_at_call 45; refine (HCO.out _ (HR0.out.next hb)).mono ?_; rintro e w3 ⟨⟨_, rfl, rfl⟩, hm, hr⟩; have hat3 := hm.at (hat0.next hb) hne; have y0 := hat3.cell 0; have y1 := hat3.cell 1; have y2 := hat3.cell 2; have y3 := hat3.cell 3; have f0 := hat3.frozen 0; have f1 := hat3.frozen 1; have f2 := hat3.frozen 2; have f3 := hat3.frozen 3; have yl := hat3.lt; simp only [List.getElem?_toArray, List.getElem?_cons_zero, List.getElem?_cons_succ] at y0 y1 y2 y3) | (go_at_call 66; refine HI.out.mono ?_; rintro e w2 ⟨rfl, hb⟩)
   refine bodyPost_ret (results_cell_row rfl _ _ w.heap.size 71 _ (0, 0) _ rfl ((((hat3.put 0 (.string (bs t.v))).put 1 (.int .i64 t.t)).put 2 (.int .i64 t.n)).put 3 (.string (bs t.s))) Tryd.underlying71 rfl (by kernel_rfl)) rfl ?_
   have hb4 := put4 w3 w.heap.size (.string (bs t.v)) (.int .i64 t.t) (.int .i64 t.n) (.string (bs t.s))
   have hm2 := (Mv.still HR.out (hb0.trans (hb.mono hb0.size))).trans hl hm
   have hm4 := hm2.after hb4 (Nat.le_refl _)
   exact ⟨⟨_, rfl, rfl⟩, hm4, hm4.rd HR.out hr.few.2.2⟩
 ·rw [hz] at HI
  rw [if_pos rfl]
  cases hp : Px.word 2 (Px.kts ts) i with
  | fail j =>
   rw [hp] at HWD
   dsimp only
   clear hz hp
   go_enter Tryd.func41, Tryd.ntmps41
   go_wp2_with first
    | (go_at_call 43; refine (HWD.out _ (HR0.out.next hb)).mono ?_; rintro e w3 ⟨rfl, hm, hr⟩)
    | (go_at_call 66; refine HI.out.mono ?_; rintro e w2 ⟨rfl, hb⟩)
   exact ⟨rfl, rfl, (Mv.still HR.out (hb0.trans (hb.mono hb0.size))).trans hl hm, hr⟩
  | ok s j =>
   rw [hp] at HWD
   dsimp only
   clear hz hp
   go_enter Tryd.func41, Tryd.ntmps41
   go_wp2_with first | (go_at_call 43; refine (HWD.out _ (HR0.out.next hb)).mono ?_; rintro e w3 ⟨⟨_, rfl, rfl⟩, hm, hr⟩; have hat3 := hm.at (hat0.next hb) hne; have y0 := hat3.cell 0; have y1 := hat3.cell 1; have y2 := hat3.cell 2; have y3 := hat3.cell 3; have f0 := hat3.frozen 0; have f1 := hat3.frozen 1; have f2 := hat3.frozen 2; have f3 := hat3.frozen 3; have yl := hat3.lt; simp only [List.getElem?_toArray, List.getElem?_cons_zero, List.getElem?_cons_succ] at y0 y1 y2 y3) | (go_at_call 66; refine HI.out.mono ?_; rintro e w2 ⟨rfl, hb⟩)
   refine bodyPost_ret (results_cell_row rfl _ _ w.heap.size 71 _ (0, 0) _ rfl ((((hat3.put 0 (.string (bs s))).put 1 (.int .i64 0)).put 2 (.int .i64 0)).put 3 (.string ⟨#[]⟩)) Tryd.underlying71 rfl (by kernel_rfl)) rfl ?_
   have hb4 := put4 w3 w.heap.size (.string (bs s)) (.int .i64 0) (.int .i64 0) (.string ⟨#[]⟩)
   have hm2 := (Mv.still HR.out (hb0.trans (hb.mono hb0.size))).trans hl hm
   have hm4 := hm2.after hb4 (Nat.le_refl _)
   exact ⟨⟨_, rfl, rfl⟩, hm4, hm4.rd HR.out hr.few.2.2⟩
set_option maxRecDepth 100000 in
theorem column_any (h : Rd w rb TA tc ts sz i o) : Calls Tryd.prog 81 #[.pointer (some ⟨rb, 0, none⟩)] w (Post w rb TA tc ts sz o (fun n v _ => v = .int .i64 n) (Px.column (Px.kts ts) i)) := by
 have HT := Lib.hid (take_any h Px.sInt (by decide))
 have HR := Lib.hid h
 have hl := h.box.lt
 have HN := Lib.hid (fun W (hr : Rd W rb TA tc ts sz i o) => need_any hr Px.sSym (by decide))
 unfold Px.column Px.bind Px.ret
 unfold Px.take at HT ⊢
 unfold Px.need at HN ⊢
 clear h
 by_cases hx : Px.tx (Px.kts ts) i = Px.sInt
 ·rw [if_pos hx] at HT ⊢
  dsimp only
  rw [if_pos rfl]
  clear hx
  go_enter Tryd.func81, Tryd.ntmps81
  go_wp2_with (go_at_call 42; refine HT.out.mono ?_; rintro e w2 ⟨⟨_, rfl, rfl⟩, hm, hr⟩)
  go_ret
  exact ⟨⟨_, rfl, rfl⟩, hm, hr⟩
 ·rw [if_neg hx] at HT ⊢
  dsimp only
  rw [if_neg (by simp)]
  by_cases hy : Px.tx (Px.kts ts) i = Px.sSym
  ·rw [if_pos hy] at HN ⊢
   dsimp only
   clear hx hy
   go_enter Tryd.func81, Tryd.ntmps81
   go_wp2_with first
    | (go_at_call 55; refine (HN.out _ hr).mono ?_; rintro e w3 ⟨⟨_, rfl, rfl⟩, hm3, hr3⟩)
    | (go_at_call 42; refine HT.out.mono ?_; rintro e w2 ⟨⟨_, rfl, rfl⟩, hm, hr⟩)
   go_ret
   exact ⟨⟨_, rfl, rfl⟩, hm.trans hl hm3, hr3⟩
  ·rw [if_neg hy] at HN ⊢
   dsimp only
   clear hx hy
   go_enter Tryd.func81, Tryd.ntmps81
   go_wp2_with first
    | (go_at_call 55; refine (HN.out _ hr).mono ?_; rintro e w3 ⟨rfl, hm3, hr3⟩)
    | (go_at_call 42; refine HT.out.mono ?_; rintro e w2 ⟨⟨_, rfl, rfl⟩, hm, hr⟩)
   exact ⟨rfl, rfl, hm.trans hl hm3, hr3⟩
end
end Go.Proofs.YtpcmlkpnjimbiaaDoor
