/- The walks of ParseQuery and ParseFact. -/
import Derived.Test.YtpcmlkpnjimbiaaDoorPWhole
import Derived.Test.YtpcmlkpnjimbiaaDoorPParse
namespace Go.Proofs.YtpcmlkpnjimbiaaDoor
set_option linter.unusedVariables false
set_option linter.unusedSimpArgs false
open Go.RowKit
def liZ : Ap.Li := ⟨0, [], 0, [], [], [], 0, 0, 0⟩
/-- What ParseQuery and ParseFact return. -/
def parseQuery (s : List UInt8) : Ap.Li × List (Int × Int) := if (Lx.lex s).2.1 = 0 then (match Px.queryOf 0 (Px.kts (Lx.lex s).1) 0 with
  | .ok x _ => (x.ap (offI (Lx.lex s).1 s.length), [])
  | .fail j => (liZ, [dgV (Lx.lex s).1 s.length j])) else (liZ, [(((Lx.lex s).2.1), ((Lx.lex s).2.2))])
def parseFact (s : List UInt8) : Ap.Li × List (Int × Int) := if (Lx.lex s).2.1 = 0 then (match Px.factOf 0 (Px.kts (Lx.lex s).1) 0 with
  | .ok x _ => (x.ap (offI (Lx.lex s).1 s.length), [])
  | .fail j => (liZ, [dgV (Lx.lex s).1 s.length j])) else (liZ, [(((Lx.lex s).2.1), ((Lx.lex s).2.2))])
def QPost (w : World) (q : Ap.Li × List (Int × Int)) (e : Ending) (w' : World) : Prop :=
 Below w.heap.size w w' ∧ ∃ (a d : Value), e = .returned (.tuple #[.agg (liFs q.1 a).toArray, d]) ∧ TRow w' 71 4 a q.1.args.length (tmCells q.1.args) ∧ DgR w' d q.2
theorem Px.query_pos {p : Nat} {ts : List Px.Kt} {i j : Nat} {x : Px.L} (h : Px.queryOf p ts i = .ok x j) : x.pos = p := by
 unfold Px.queryOf at h
 obtain ⟨_, _, _, h⟩ := Px.bind_inv h
 obtain ⟨_, _, _, h⟩ := Px.bind_inv h
 obtain ⟨_, _, _, h⟩ := Px.bind_inv h
 obtain ⟨_, _, _, h⟩ := Px.bind_inv h
 obtain ⟨_, _, _, h⟩ := Px.bind_inv h
 unfold Px.ret at h
 injection h with h _
 rw [← h]
theorem Px.fact_pos {p : Nat} {ts : List Px.Kt} {i j : Nat} {x : Px.L} (h : Px.factOf p ts i = .ok x j) : x.pos = p := by
 unfold Px.factOf at h
 obtain ⟨_, _, _, h⟩ := Px.bind_inv h
 obtain ⟨_, _, _, h⟩ := Px.bind_inv h
 obtain ⟨_, _, _, h⟩ := Px.bind_inv h
 obtain ⟨_, _, _, h⟩ := Px.bind_inv h
 obtain ⟨_, _, _, h⟩ := Px.bind_inv h
 unfold Px.ret at h
 injection h with h _
 rw [← h]
theorem li_of (f : Nat → Int) (x : Px.L) (a : Value) (h : x.pos = 0) : liFs (x.ap f) a = [.int .i64 x.kind, .string (bs x.name), .int .i64 (-1), a, .string (bs x.bnd), .string (bs x.elem), .int .i64 (-1), .int .i64 x.op, .int .i64 (f 0)] := by
 unfold liFs Px.L.ap
 rw [h]
theorem DgR.kept {w w' : World} {v : Value} {ds : List (Int × Int)} (h : DgR w v ds) (k : Kept 43 w w') : DgR w' v ds := TRow.kept h k
section
variable {w : World} {rb : Nat} {TA : Option Addr} {tc : Nat} {ts : List Lx.Tok} {sz i i0 : Nat} {o : Outs}
/-- How try ends over the function that reads a whole text. -/
def TqPost (w : World) (rb : Nat) (ts : List Lx.Tok) (sz : Nat) (bx : Nat) (ps : Nat) (r : Px.R Px.L) (e : Ending) (w' : World) : Prop := match r with
 | .ok x j => e = .returned (.slice none 0 0) ∧ Mv rb j w w' ∧ ∃ A c, At w' bx 58 #[.int .i64 x.kind, .string (bs x.name), .int .i64 (-1), .slice A x.args.length c, .string (bs x.bnd), .string (bs x.elem), .int .i64 (-1), .int .i64 x.op, .int .i64 (ps : Int)] ∧ TRow w' 71 4 (.slice A x.args.length c) x.args.length (tmCells x.args)
 | .fail j => (∃ g, e = .returned (.slice (some ⟨g, 0, none⟩) 1 1) ∧ At w' g 43 #[.int .i64 (if j < ts.length then 50 else 51), .int .i64 (tokAt ts sz j).pos]) ∧ Mv rb j w w'
set_option maxHeartbeats 2000000 in
set_option maxRecDepth 100000 in
theorem try_query {w1 : World} {bx b6 b3 : Nat} {ps : Nat} (h : Rd w rb TA tc ts sz i0 o) (hm1 : Mv rb i w w1) (hr1 : Rd w1 rb TA tc ts sz i o) (x_1 : At w1 bx 58 #[.int .i64 1, .string ⟨#[]⟩, .int .i64 (-1), .slice none 0 0, .string ⟨#[]⟩, .string ⟨#[]⟩, .int .i64 (-1), .int .i64 0, .int .i64 (ps : Int)]) (rp_1 : At w1 b6 81 #[.pointer (some ⟨rb, 0, none⟩)]) (fp_1 : At w1 b3 103 #[.func (.func 39) #[] #[]]) (hBx : w.heap.size ≤ bx) (hbx : bx ≠ rb) (hb6 : b6 ≠ rb) (hb3 : b3 ≠ rb) (NExrp : bx ≠ b6) (NExfp : bx ≠ b3) :
  Calls Tryd.prog 31 #[.pointer (some ⟨rb, 0, none⟩), .func (.func 63) #[] #[.pointer (some ⟨b6, 0, none⟩), .pointer (some ⟨bx, 0, none⟩), .pointer (some ⟨b3, 0, none⟩)]] w1 (TqPost w rb ts sz bx ps (Px.queryOf i (Px.kts ts) i)) := by
 have hmf := hmf_any
 have hl := h.box.lt
 have hlB : rb < w.heap.size := hl
 have hb1 := below1 w1 (.cells #[.slice none 0 0] 35)
 have hp1 := At.new w1 35 #[.slice none 0 0]
 have hpr : w1.heap.size ≠ rb := by have := hr1.box.lt; omega
 have hpx : bx ≠ w1.heap.size := by have := x_1.lt; omega
 have hws := hm1.size
 have HC0 := queryOut_any h (hm1.trans hl (Mv.still hr1 hb1)) (hr1.next hb1) (x_1.alloc _) (rp_1.alloc _) (fp_1.alloc _) hp1 hBx hbx hb6 hb3 hpr NExrp NExfp hpx
 cases hp : Px.queryOf i (Px.kts ts) i with
 | ok x j =>
  rw [hp] at HC0
  have HC := Lib.hid HC0
  clear HC0 hp
  go_enter_defers Tryd.func31, Tryd.ntmps31
  go_wp2_with (go_at_call 63; refine (HC.out).mono ?_; rintro e w2 ⟨rfl, hm2, hr2, A, c, hx2, ht2, hp2⟩; have y0 := hp2.cell 0; have f0 := hp2.frozen 0; have l0 := hp2.lt; simp only [List.getElem?_toArray, List.getElem?_cons_zero, List.getElem?_cons_succ] at y0; clear HC)
  clear y0 f0 l0
  have hp3 := hp2.put 0 (.slice none 0 0)
  simp only [List.setIfInBounds_toArray, List.set_cons_zero, List.set_cons_succ] at hp3
  have q1 := hm2.after ((Below.refl w1.heap.size w2).setCell (p := ⟨w1.heap.size, 0, none⟩) (Nat.le_refl _) (.slice none 0 0)) hws
  have q2 := hx2.far (p := ⟨w1.heap.size, 0, none⟩) hpx (.slice none 0 0)
  have q3 := ht2.kept (Kept.put hp2 0 (.slice none 0 0) (by decide))
  generalize hw3 : w2.setCell ⟨w1.heap.size, 0, none⟩ (.slice none 0 0) = w3 at hp3 q1 q2 q3 ⊢
  clear hw3
  refine leaves_cons (f := 59) (args := #[.pointer (some ⟨w1.heap.size, 0, none⟩)]) (by simp) (by simp [go_sem]) ?_
  refine (catch_idle _ _).mono ?_
  rintro e u' w4 ⟨rfl, rfl, rfl⟩
  have y3 := hp3.cell 0
  simp only [List.getElem?_toArray, List.getElem?_cons_zero] at y3
  simp [Leaves, settle, results, Tryd.results31, go_sem, y3]
  exact ⟨rfl, q1, A, c, q2, q3⟩
 | fail j =>
  rw [hp] at HC0
  have HC := Lib.hid HC0
  clear HC0 hp
  go_enter_defers Tryd.func31, Tryd.ntmps31
  go_wp2_with (go_at_call 63; refine (HC.out).mono ?_; rintro e w2 ⟨rfl, hm2, hr2, hp2⟩; clear HC)
  unfold wrongC wrongV
  refine leaves_cons (f := 59) (args := #[.pointer (some ⟨w1.heap.size, 0, none⟩)]) (by simp) (by simp [go_sem]) ?_
  refine (catch_wrong _ _ _ _ hp2).mono ?_
  rintro e u' w4 ⟨rfl, rfl, g, hb4, hg4⟩
  have hb5 : Below (w2.setCell ⟨w1.heap.size, 0, none⟩ (.slice (some ⟨g, 0, none⟩) 1 1)).heap.size (w2.setCell ⟨w1.heap.size, 0, none⟩ (.slice (some ⟨g, 0, none⟩) 1 1)) w4 := hb4.mono (by simp)
  have q1 := (hm2.after ((Below.refl w1.heap.size w2).setCell (p := ⟨w1.heap.size, 0, none⟩) (Nat.le_refl _) (.slice (some ⟨g, 0, none⟩) 1 1)) hws).after hb5 (by simp; exact hm2.size)
  have hp3 := (hp2.put 0 (.slice (some ⟨g, 0, none⟩) 1 1)).next hb5
  simp only [List.setIfInBounds_toArray, List.set_cons_zero, List.set_cons_succ] at hp3
  have y3 := hp3.cell 0
  simp only [List.getElem?_toArray, List.getElem?_cons_zero] at y3
  clear hb4 hb5
  simp [Leaves, settle, results, Tryd.results31, go_sem, y3]
  exact ⟨⟨g, rfl, hg4⟩, q1⟩
set_option maxHeartbeats 2000000 in
set_option maxRecDepth 100000 in
theorem try_fact {w1 : World} {bx b6 b3 : Nat} {ps : Nat} (h : Rd w rb TA tc ts sz i0 o) (hm1 : Mv rb i w w1) (hr1 : Rd w1 rb TA tc ts sz i o) (x_1 : At w1 bx 58 #[.int .i64 1, .string ⟨#[]⟩, .int .i64 (-1), .slice none 0 0, .string ⟨#[]⟩, .string ⟨#[]⟩, .int .i64 (-1), .int .i64 0, .int .i64 (ps : Int)]) (rp_1 : At w1 b6 81 #[.pointer (some ⟨rb, 0, none⟩)]) (fp_1 : At w1 b3 103 #[.func (.func 44) #[] #[]]) (hBx : w.heap.size ≤ bx) (hbx : bx ≠ rb) (hb6 : b6 ≠ rb) (hb3 : b3 ≠ rb) (NExrp : bx ≠ b6) (NExfp : bx ≠ b3) :
  Calls Tryd.prog 31 #[.pointer (some ⟨rb, 0, none⟩), .func (.func 63) #[] #[.pointer (some ⟨b6, 0, none⟩), .pointer (some ⟨bx, 0, none⟩), .pointer (some ⟨b3, 0, none⟩)]] w1 (TqPost w rb ts sz bx ps (Px.factOf i (Px.kts ts) i)) := by
 have hmf := hmf_any
 have hl := h.box.lt
 have hlB : rb < w.heap.size := hl
 have hb1 := below1 w1 (.cells #[.slice none 0 0] 35)
 have hp1 := At.new w1 35 #[.slice none 0 0]
 have hpr : w1.heap.size ≠ rb := by have := hr1.box.lt; omega
 have hpx : bx ≠ w1.heap.size := by have := x_1.lt; omega
 have hws := hm1.size
 have HC0 := factOut_any h (hm1.trans hl (Mv.still hr1 hb1)) (hr1.next hb1) (x_1.alloc _) (rp_1.alloc _) (fp_1.alloc _) hp1 hBx hbx hb6 hb3 hpr NExrp NExfp hpx
 cases hp : Px.factOf i (Px.kts ts) i with
 | ok x j =>
  rw [hp] at HC0
  have HC := Lib.hid HC0
  clear HC0 hp
  go_enter_defers Tryd.func31, Tryd.ntmps31
  go_wp2_with (go_at_call 63; refine (HC.out).mono ?_; rintro e w2 ⟨rfl, hm2, hr2, A, c, hx2, ht2, hp2⟩; have y0 := hp2.cell 0; have f0 := hp2.frozen 0; have l0 := hp2.lt; simp only [List.getElem?_toArray, List.getElem?_cons_zero, List.getElem?_cons_succ] at y0; clear HC)
  clear y0 f0 l0
  have hp3 := hp2.put 0 (.slice none 0 0)
  simp only [List.setIfInBounds_toArray, List.set_cons_zero, List.set_cons_succ] at hp3
  have q1 := hm2.after ((Below.refl w1.heap.size w2).setCell (p := ⟨w1.heap.size, 0, none⟩) (Nat.le_refl _) (.slice none 0 0)) hws
  have q2 := hx2.far (p := ⟨w1.heap.size, 0, none⟩) hpx (.slice none 0 0)
  have q3 := ht2.kept (Kept.put hp2 0 (.slice none 0 0) (by decide))
  generalize hw3 : w2.setCell ⟨w1.heap.size, 0, none⟩ (.slice none 0 0) = w3 at hp3 q1 q2 q3 ⊢
  clear hw3
  refine leaves_cons (f := 59) (args := #[.pointer (some ⟨w1.heap.size, 0, none⟩)]) (by simp) (by simp [go_sem]) ?_
  refine (catch_idle _ _).mono ?_
  rintro e u' w4 ⟨rfl, rfl, rfl⟩
  have y3 := hp3.cell 0
  simp only [List.getElem?_toArray, List.getElem?_cons_zero] at y3
  simp [Leaves, settle, results, Tryd.results31, go_sem, y3]
  exact ⟨rfl, q1, A, c, q2, q3⟩
 | fail j =>
  rw [hp] at HC0
  have HC := Lib.hid HC0
  clear HC0 hp
  go_enter_defers Tryd.func31, Tryd.ntmps31
  go_wp2_with (go_at_call 63; refine (HC.out).mono ?_; rintro e w2 ⟨rfl, hm2, hr2, hp2⟩; clear HC)
  unfold wrongC wrongV
  refine leaves_cons (f := 59) (args := #[.pointer (some ⟨w1.heap.size, 0, none⟩)]) (by simp) (by simp [go_sem]) ?_
  refine (catch_wrong _ _ _ _ hp2).mono ?_
  rintro e u' w4 ⟨rfl, rfl, g, hb4, hg4⟩
  have hb5 : Below (w2.setCell ⟨w1.heap.size, 0, none⟩ (.slice (some ⟨g, 0, none⟩) 1 1)).heap.size (w2.setCell ⟨w1.heap.size, 0, none⟩ (.slice (some ⟨g, 0, none⟩) 1 1)) w4 := hb4.mono (by simp)
  have q1 := (hm2.after ((Below.refl w1.heap.size w2).setCell (p := ⟨w1.heap.size, 0, none⟩) (Nat.le_refl _) (.slice (some ⟨g, 0, none⟩) 1 1)) hws).after hb5 (by simp; exact hm2.size)
  have hp3 := (hp2.put 0 (.slice (some ⟨g, 0, none⟩) 1 1)).next hb5
  simp only [List.setIfInBounds_toArray, List.set_cons_zero, List.set_cons_succ] at hp3
  have y3 := hp3.cell 0
  simp only [List.getElem?_toArray, List.getElem?_cons_zero] at y3
  clear hb4 hb5
  simp [Leaves, settle, results, Tryd.results31, go_sem, y3]
  exact ⟨⟨g, rfl, hg4⟩, q1⟩
end
set_option maxHeartbeats 4000000 in
set_option maxRecDepth 100000 in
theorem whole_query (s : ByteArray) (w : World) (B : Nat) (hy : Syms w) (htb : Tb B w) (hB : B ≤ w.heap.size) (hs : s.size ≤ 1000000) : Calls Tryd.prog 38 #[.string s, .func (.func 39) #[] #[]] w (QPost w (parseQuery s.data.toList)) := by
 have hmf := hmf_any
 obtain ⟨⟨ts, er, po⟩, hL⟩ : ∃ L, Lx.lex s.data.toList = L := ⟨_, rfl⟩
 have hba := below1 w (.cells #[.func (.func 39) #[] #[]] 103)
 have hfp := At.new w 103 #[.func (.func 39) #[] #[]]
 obtain ⟨Wa, hWa⟩ : ∃ Wa, w.alloc (.cells #[.func (.func 39) #[] #[]] 103) = Wa := ⟨_, rfl⟩
 have hsa : Wa.heap.size = w.heap.size + 1 := by rw [← hWa]; simp
 have HSA := Lib.hid hsa
 rw [hWa] at hba hfp
 have hbb := below1 Wa (.cells #[.int .i64 0, .string ⟨#[]⟩, .int .i64 0, .slice none 0 0, .string ⟨#[]⟩, .string ⟨#[]⟩, .int .i64 0, .int .i64 0, .int .i64 0] 58)
 have hrs := At.new Wa 58 #[.int .i64 0, .string ⟨#[]⟩, .int .i64 0, .slice none 0 0, .string ⟨#[]⟩, .string ⟨#[]⟩, .int .i64 0, .int .i64 0, .int .i64 0]
 have hfp2 := hfp.next hbb
 have hbw := hba.trans (hbb.mono hba.size)
 obtain ⟨Wb, hWb⟩ : ∃ Wb, Wa.alloc (.cells #[.int .i64 0, .string ⟨#[]⟩, .int .i64 0, .slice none 0 0, .string ⟨#[]⟩, .string ⟨#[]⟩, .int .i64 0, .int .i64 0, .int .i64 0] 58) = Wb := ⟨_, rfl⟩
 have hsb : Wb.heap.size = w.heap.size + 2 := by rw [← hWb, ← hWa]; simp
 rw [hWb] at hbb hrs hfp2 hbw
 have hy2 := hy.below hbw hy.lt
 have htb2 := htb.below (hbw.mono hB)
 have hB2 := Nat.le_trans hB hbw.size
 have HLX := Lib.hid hL
 by_cases h0 : er = 0
 ·subst h0
  obtain ⟨sz, hsq⟩ : ∃ sz, s.size = sz := ⟨_, rfl⟩
  have HC := Lib.hid (open_ok s Wb B hy2 htb2 hB2 hs hL hsq)
  have HSQ := Lib.hid hsq
  have HBW := Lib.hid hbw
  have HFP := Lib.hid hfp2
  have HRS := Lib.hid hrs
  have HSB := Lib.hid hsb
  clear hL hy2 htb2 hB2 hy htb hB hbw hba hbb hfp hfp2 hrs hsa hsb hsq
  go_enter Tryd.func38, Tryd.ntmps38
  go_wp2_with fail
  clear hWa hWb
  go_wp2_with (go_at_call 27; refine (HC.out).mono ?_; rintro e w3 ⟨hb3, rb, TA, tc, rfl, hrb, hr3⟩; clear HC)
  have hb4 := below1 w3 (.cells #[.pointer (some ⟨rb, 0, none⟩)] 81)
  have hrp := At.new w3 81 #[.pointer (some ⟨rb, 0, none⟩)]
  have hr4 := hr3.next hb4
  have hfp4 := (HFP.out.next hb3).next hb4
  have hrs4 := (HRS.out.next hb3).next hb4
  have hbw4 := (HBW.out.trans (hb3.mono HBW.out.size)).trans (hb4.mono (Nat.le_trans HBW.out.size hb3.size))
  have hb6 : w3.heap.size ≠ rb := by have := hr3.box.lt; omega
  have hlt3 := hb3.size
  generalize hw4 : w3.alloc (.cells #[.pointer (some ⟨rb, 0, none⟩)] 81) = w4 at hb4 hrp hr4 hfp4 hrs4 hbw4 ⊢
  have HO := Lib.hid (offset_any hr4)
  have hs4 : w3.heap.size < w4.heap.size := by rw [← hw4]; simp
  have yrp := hrp.cell 0
  simp only [List.getElem?_toArray, List.getElem?_cons_zero] at yrp
  clear hw4
  go_wp2_with (go_at_call 54; refine (HO.out).mono ?_; rintro e w5 ⟨rfl, hb5⟩; have yrp5 := next_cell yrp hb5; have hlt5 := hb5.size; have hbl := Nat.lt_of_lt_of_le hs4 hb5.size; clear HO)
  obtain ⟨ps, hps⟩ : ∃ ps : Nat, (tokAt ts sz 0).pos = ps := ⟨_, rfl⟩
  rw [hps]
  have HPS := Lib.hid hps
  have hbx := below1 w5 (.cells #[.int .i64 1, .string ⟨#[]⟩, .int .i64 (-1), .slice none 0 0, .string ⟨#[]⟩, .string ⟨#[]⟩, .int .i64 (-1), .int .i64 0, .int .i64 (ps : Int)] 58)
  have hx6 := At.new w5 58 #[.int .i64 1, .string ⟨#[]⟩, .int .i64 (-1), .slice none 0 0, .string ⟨#[]⟩, .string ⟨#[]⟩, .int .i64 (-1), .int .i64 0, .int .i64 (ps : Int)]
  have hb6w := hb5.trans (hbx.mono hb5.size)
  have hrp6 := hrp.next hb6w
  have hfp6 := hfp4.next hb6w
  have hr6 := hr4.next hb6w
  have hm6 := Mv.still hr4 hb6w
  have hxr : w5.heap.size ≠ rb := by have := hr4.box.lt; omega
  have hfr : w.heap.size ≠ rb := by have := HSB.out; omega
  have hrr : Wa.heap.size ≠ rb := by have := HSB.out; have := HSA.out; omega
  have n1 : w5.heap.size ≠ w3.heap.size := by omega
  have n2 : w5.heap.size ≠ w.heap.size := by have := HSB.out; omega
  have HT0 := try_query hr4 hm6 hr6 hx6 hrp6 hfp6 hb5.size hxr hb6 hfr n1 n2
  have yrp6 := hrp6.cell 0
  simp only [List.getElem?_toArray, List.getElem?_cons_zero] at yrp6
  generalize hw6 : w5.alloc (.cells #[.int .i64 1, .string ⟨#[]⟩, .int .i64 (-1), .slice none 0 0, .string ⟨#[]⟩, .string ⟨#[]⟩, .int .i64 (-1), .int .i64 0, .int .i64 (ps : Int)] 58) = w6 at hbx hx6 hb6w hrp6 hfp6 hr6 hm6 HT0 yrp6 ⊢
  clear hw6 hps yrp yrp5
  cases hp : Px.queryOf 0 (Px.kts ts) 0 with
  | ok x j =>
   rw [hp] at HT0
   have HT := Lib.hid HT0
   have HE := Lib.hid (show parseQuery s.data.toList = (x.ap (offI ts sz), []) by unfold parseQuery; rw [HLX.out]; simp only [if_true]; rw [size_len, HSQ.out, hp])
   have HXP := Lib.hid (Px.query_pos hp)
   clear HT0 hp
   go_wp2_with (go_at_call 31; refine (HT.out).mono ?_; rintro e w7 ⟨rfl, hm7, A, c, hx7, ht7⟩; have hrs7 := hm7.at hrs4 hrr; have y0 := hrs7.cell 0; have y1 := hrs7.cell 1; have y2 := hrs7.cell 2; have y3 := hrs7.cell 3; have y4 := hrs7.cell 4; have y5 := hrs7.cell 5; have y6 := hrs7.cell 6; have y7 := hrs7.cell 7; have y8 := hrs7.cell 8; have f0 := hrs7.frozen 0; have f1 := hrs7.frozen 1; have f2 := hrs7.frozen 2; have f3 := hrs7.frozen 3; have f4 := hrs7.frozen 4; have f5 := hrs7.frozen 5; have f6 := hrs7.frozen 6; have f7 := hrs7.frozen 7; have f8 := hrs7.frozen 8; have yl := hrs7.lt; simp only [List.getElem?_toArray, List.getElem?_cons_zero, List.getElem?_cons_succ] at y0 y1 y2 y3 y4 y5 y6 y7 y8; have q0 := hx7.cell 0; have q1 := hx7.cell 1; have q2 := hx7.cell 2; have q3 := hx7.cell 3; have q4 := hx7.cell 4; have q5 := hx7.cell 5; have q6 := hx7.cell 6; have q7 := hx7.cell 7; have q8 := hx7.cell 8; have g0 := hx7.frozen 0; have g1 := hx7.frozen 1; have g2 := hx7.frozen 2; have g3 := hx7.frozen 3; have g4 := hx7.frozen 4; have g5 := hx7.frozen 5; have g6 := hx7.frozen 6; have g7 := hx7.frozen 7; have g8 := hx7.frozen 8; have ql := hx7.lt; simp only [List.getElem?_toArray, List.getElem?_cons_zero, List.getElem?_cons_succ] at q0 q1 q2 q3 q4 q5 q6 q7 q8; clear HT)
   clear y0 f0 y1 f1 y2 f2 y3 f3 y4 f4 y5 f5 y6 f6 y7 f7 y8 f8 yl
   clear q0 g0 q1 g1 q2 g2 q3 g3 q4 g4 q5 g5 q6 g6 q7 g7 q8 g8 ql
   have hfin := (((((((((hrs7.put 0 (.int .i64 x.kind)).put 1 (.string (bs x.name))).put 2 (.int .i64 (-1))).put 3 (.slice A x.args.length c)).put 4 (.string (bs x.bnd))).put 5 (.string (bs x.elem))).put 6 (.int .i64 (-1))).put 7 (.int .i64 x.op)).put 8 (.int .i64 (ps : Int)))
   have hput := ((((((((((Below.refl Wa.heap.size w7).setCell (p := ⟨Wa.heap.size, 0, none⟩) (Nat.le_refl _) (.int .i64 x.kind)).setCell (p := ⟨Wa.heap.size, 1, none⟩) (Nat.le_refl _) (.string (bs x.name))).setCell (p := ⟨Wa.heap.size, 2, none⟩) (Nat.le_refl _) (.int .i64 (-1))).setCell (p := ⟨Wa.heap.size, 3, none⟩) (Nat.le_refl _) (.slice A x.args.length c)).setCell (p := ⟨Wa.heap.size, 4, none⟩) (Nat.le_refl _) (.string (bs x.bnd))).setCell (p := ⟨Wa.heap.size, 5, none⟩) (Nat.le_refl _) (.string (bs x.elem))).setCell (p := ⟨Wa.heap.size, 6, none⟩) (Nat.le_refl _) (.int .i64 (-1))).setCell (p := ⟨Wa.heap.size, 7, none⟩) (Nat.le_refl _) (.int .i64 x.op)).setCell (p := ⟨Wa.heap.size, 8, none⟩) (Nat.le_refl _) (.int .i64 (ps : Int)))
   have hkT : Kept 71 w7 _ := (((((((((Kept.put hrs7 0 (.int .i64 x.kind) (by decide)).trans (Kept.put (hrs7.put 0 (.int .i64 x.kind)) 1 (.string (bs x.name)) (by decide))).trans (Kept.put ((hrs7.put 0 (.int .i64 x.kind)).put 1 (.string (bs x.name))) 2 (.int .i64 (-1)) (by decide))).trans (Kept.put (((hrs7.put 0 (.int .i64 x.kind)).put 1 (.string (bs x.name))).put 2 (.int .i64 (-1))) 3 (.slice A x.args.length c) (by decide))).trans (Kept.put ((((hrs7.put 0 (.int .i64 x.kind)).put 1 (.string (bs x.name))).put 2 (.int .i64 (-1))).put 3 (.slice A x.args.length c)) 4 (.string (bs x.bnd)) (by decide))).trans (Kept.put (((((hrs7.put 0 (.int .i64 x.kind)).put 1 (.string (bs x.name))).put 2 (.int .i64 (-1))).put 3 (.slice A x.args.length c)).put 4 (.string (bs x.bnd))) 5 (.string (bs x.elem)) (by decide))).trans (Kept.put ((((((hrs7.put 0 (.int .i64 x.kind)).put 1 (.string (bs x.name))).put 2 (.int .i64 (-1))).put 3 (.slice A x.args.length c)).put 4 (.string (bs x.bnd))).put 5 (.string (bs x.elem))) 6 (.int .i64 (-1)) (by decide))).trans (Kept.put (((((((hrs7.put 0 (.int .i64 x.kind)).put 1 (.string (bs x.name))).put 2 (.int .i64 (-1))).put 3 (.slice A x.args.length c)).put 4 (.string (bs x.bnd))).put 5 (.string (bs x.elem))).put 6 (.int .i64 (-1))) 7 (.int .i64 x.op) (by decide))).trans (Kept.put ((((((((hrs7.put 0 (.int .i64 x.kind)).put 1 (.string (bs x.name))).put 2 (.int .i64 (-1))).put 3 (.slice A x.args.length c)).put 4 (.string (bs x.bnd))).put 5 (.string (bs x.elem))).put 6 (.int .i64 (-1))).put 7 (.int .i64 x.op)) 8 (.int .i64 (ps : Int)) (by decide)))
   have ht8 := ht7.kept hkT
   have hfin3 := hfin
   simp only [List.setIfInBounds_toArray, List.set_cons_zero, List.set_cons_succ] at hfin3
   generalize hw8 : (((((((((w7.setCell ⟨Wa.heap.size, 0, none⟩ (.int .i64 x.kind)).setCell ⟨Wa.heap.size, 1, none⟩ (.string (bs x.name))).setCell ⟨Wa.heap.size, 2, none⟩ (.int .i64 (-1))).setCell ⟨Wa.heap.size, 3, none⟩ (.slice A x.args.length c)).setCell ⟨Wa.heap.size, 4, none⟩ (.string (bs x.bnd))).setCell ⟨Wa.heap.size, 5, none⟩ (.string (bs x.elem))).setCell ⟨Wa.heap.size, 6, none⟩ (.int .i64 (-1))).setCell ⟨Wa.heap.size, 7, none⟩ (.int .i64 x.op)).setCell ⟨Wa.heap.size, 8, none⟩ (.int .i64 (ps : Int))) = w8 at hput ht8 hfin3 ⊢
   clear hw8 hkT hfin
   refine bodyPost_ret (results_cell_row_tmp rfl _ _ Wa.heap.size 58 _ (0, 0) _ rfl hfin3 Tryd.underlying58 rfl (by kernel_rfl)) rfl ?_
   rw [HE.out]
   refine ⟨(hbw4.trans ((hm7.belowR hr4.box.lt).mono (by have := HSB.out; omega))).trans (hput.mono (by have := HSA.out; omega)), .slice A x.args.length c, .slice none 0 0, ?_, ht8, TRow.nil _ _ _⟩
   rw [li_of _ _ _ HXP.out]
   show Ending.returned (.tuple #[.agg #[.int .i64 x.kind, .string (bs x.name), .int .i64 (-1), .slice A x.args.length c, .string (bs x.bnd), .string (bs x.elem), .int .i64 (-1), .int .i64 x.op, .int .i64 (ps : Int)], .slice none 0 0]) = _
   unfold offI
   rw [HPS.out]
  | fail j =>
   rw [hp] at HT0
   have HT := Lib.hid HT0
   have HE := Lib.hid (show parseQuery s.data.toList = (liZ, [dgV ts sz j]) by unfold parseQuery; rw [HLX.out]; simp only [if_true]; rw [size_len, HSQ.out, hp])
   obtain ⟨er, her⟩ : ∃ er : Int, (if j < ts.length then (50 : Int) else 51) = er := ⟨_, rfl⟩
   have HER := Lib.hid her
   clear HT0 hp her
   go_wp2_with (go_at_call 31; refine (HT.out).mono ?_; rintro e w7 ⟨⟨g, rfl, hg7⟩, hm7⟩; rw [HER.out] at hg7; have hrs7 := hm7.at hrs4 hrr; have y0 := hrs7.cell 0; have y1 := hrs7.cell 1; have y2 := hrs7.cell 2; have y3 := hrs7.cell 3; have y4 := hrs7.cell 4; have y5 := hrs7.cell 5; have y6 := hrs7.cell 6; have y7 := hrs7.cell 7; have y8 := hrs7.cell 8; have f0 := hrs7.frozen 0; have f1 := hrs7.frozen 1; have f2 := hrs7.frozen 2; have f3 := hrs7.frozen 3; have f4 := hrs7.frozen 4; have f5 := hrs7.frozen 5; have f6 := hrs7.frozen 6; have f7 := hrs7.frozen 7; have f8 := hrs7.frozen 8; have yl := hrs7.lt; simp only [List.getElem?_toArray, List.getElem?_cons_zero, List.getElem?_cons_succ] at y0 y1 y2 y3 y4 y5 y6 y7 y8; clear HT)
   clear y0 f0 y1 f1 y2 f2 y3 f3 y4 f4 y5 f5 y6 f6 y7 f7 y8 f8 yl
   have hfin := (((((((((hrs7.put 0 (.int .i64 0)).put 1 (.string ⟨#[]⟩)).put 2 (.int .i64 0)).put 3 (.slice none 0 0)).put 4 (.string ⟨#[]⟩)).put 5 (.string ⟨#[]⟩)).put 6 (.int .i64 0)).put 7 (.int .i64 0)).put 8 (.int .i64 0))
   have hput := ((((((((((Below.refl Wa.heap.size w7).setCell (p := ⟨Wa.heap.size, 0, none⟩) (Nat.le_refl _) (.int .i64 0)).setCell (p := ⟨Wa.heap.size, 1, none⟩) (Nat.le_refl _) (.string ⟨#[]⟩)).setCell (p := ⟨Wa.heap.size, 2, none⟩) (Nat.le_refl _) (.int .i64 0)).setCell (p := ⟨Wa.heap.size, 3, none⟩) (Nat.le_refl _) (.slice none 0 0)).setCell (p := ⟨Wa.heap.size, 4, none⟩) (Nat.le_refl _) (.string ⟨#[]⟩)).setCell (p := ⟨Wa.heap.size, 5, none⟩) (Nat.le_refl _) (.string ⟨#[]⟩)).setCell (p := ⟨Wa.heap.size, 6, none⟩) (Nat.le_refl _) (.int .i64 0)).setCell (p := ⟨Wa.heap.size, 7, none⟩) (Nat.le_refl _) (.int .i64 0)).setCell (p := ⟨Wa.heap.size, 8, none⟩) (Nat.le_refl _) (.int .i64 0))
   have hgn : g ≠ Wa.heap.size := hg7.ne hrs7 (by decide)
   have hg8 := (((((((((hg7.far (p := ⟨Wa.heap.size, 0, none⟩) hgn (.int .i64 0)).far (p := ⟨Wa.heap.size, 1, none⟩) hgn (.string ⟨#[]⟩)).far (p := ⟨Wa.heap.size, 2, none⟩) hgn (.int .i64 0)).far (p := ⟨Wa.heap.size, 3, none⟩) hgn (.slice none 0 0)).far (p := ⟨Wa.heap.size, 4, none⟩) hgn (.string ⟨#[]⟩)).far (p := ⟨Wa.heap.size, 5, none⟩) hgn (.string ⟨#[]⟩)).far (p := ⟨Wa.heap.size, 6, none⟩) hgn (.int .i64 0)).far (p := ⟨Wa.heap.size, 7, none⟩) hgn (.int .i64 0)).far (p := ⟨Wa.heap.size, 8, none⟩) hgn (.int .i64 0))
   have hfin3 := hfin
   simp only [List.setIfInBounds_toArray, List.set_cons_zero, List.set_cons_succ] at hfin3
   generalize hw8 : (((((((((w7.setCell ⟨Wa.heap.size, 0, none⟩ (.int .i64 0)).setCell ⟨Wa.heap.size, 1, none⟩ (.string ⟨#[]⟩)).setCell ⟨Wa.heap.size, 2, none⟩ (.int .i64 0)).setCell ⟨Wa.heap.size, 3, none⟩ (.slice none 0 0)).setCell ⟨Wa.heap.size, 4, none⟩ (.string ⟨#[]⟩)).setCell ⟨Wa.heap.size, 5, none⟩ (.string ⟨#[]⟩)).setCell ⟨Wa.heap.size, 6, none⟩ (.int .i64 0)).setCell ⟨Wa.heap.size, 7, none⟩ (.int .i64 0)).setCell ⟨Wa.heap.size, 8, none⟩ (.int .i64 0)) = w8 at hput hg8 hfin3 ⊢
   clear hw8 hfin
   refine bodyPost_ret (results_cell_row_tmp rfl _ _ Wa.heap.size 58 _ (0, 0) _ rfl hfin3 Tryd.underlying58 rfl (by kernel_rfl)) rfl ?_
   rw [HE.out]
   refine ⟨(hbw4.trans ((hm7.belowR hr4.box.lt).mono (by have := HSB.out; omega))).trans (hput.mono (by have := HSA.out; omega)), .slice none 0 0, _, rfl, TRow.nil _ _ _, ?_⟩
   have := dg_one hg8
   rw [show [dgV ts sz j] = [(er, ((tokAt ts sz j).pos : Int))] by unfold dgV offI; rw [HER.out]]
   exact this
 ·have HC := Lib.hid (open_bad s Wb B hy2 htb2 hB2 hs hL h0)
  have HBW := Lib.hid hbw
  have HRS := Lib.hid hrs
  have HSB := Lib.hid hsb
  clear hL hy2 htb2 hB2 hy htb hB hbw hba hbb hfp hfp2 hrs hsa hsb
  go_enter Tryd.func38, Tryd.ntmps38
  go_wp2_with fail
  clear hWa hWb
  go_wp2_with (go_at_call 27; refine (HC.out).mono ?_; rintro e w3 ⟨hb3, g, rfl, hg, hat⟩; have hct := HRS.out.next hb3; have y0 := hct.cell 0; have y1 := hct.cell 1; have y2 := hct.cell 2; have y3 := hct.cell 3; have y4 := hct.cell 4; have y5 := hct.cell 5; have y6 := hct.cell 6; have y7 := hct.cell 7; have y8 := hct.cell 8; have f0 := hct.frozen 0; have f1 := hct.frozen 1; have f2 := hct.frozen 2; have f3 := hct.frozen 3; have f4 := hct.frozen 4; have f5 := hct.frozen 5; have f6 := hct.frozen 6; have f7 := hct.frozen 7; have f8 := hct.frozen 8; have yl := hct.lt; simp only [List.getElem?_toArray, List.getElem?_cons_zero, List.getElem?_cons_succ] at y0 y1 y2 y3 y4 y5 y6 y7 y8; clear HC)
  clear y0 f0 y1 f1 y2 f2 y3 f3 y4 f4 y5 f5 y6 f6 y7 f7 y8 f8 yl
  have hb4 := below1 w3 (.cells #[.pointer none] 81)
  have hput := ((((((((((Below.refl Wa.heap.size w3).setCell (p := ⟨Wa.heap.size, 0, none⟩) (Nat.le_refl _) (.int .i64 0)).setCell (p := ⟨Wa.heap.size, 1, none⟩) (Nat.le_refl _) (.string ⟨#[]⟩)).setCell (p := ⟨Wa.heap.size, 2, none⟩) (Nat.le_refl _) (.int .i64 0)).setCell (p := ⟨Wa.heap.size, 3, none⟩) (Nat.le_refl _) (.slice none 0 0)).setCell (p := ⟨Wa.heap.size, 4, none⟩) (Nat.le_refl _) (.string ⟨#[]⟩)).setCell (p := ⟨Wa.heap.size, 5, none⟩) (Nat.le_refl _) (.string ⟨#[]⟩)).setCell (p := ⟨Wa.heap.size, 6, none⟩) (Nat.le_refl _) (.int .i64 0)).setCell (p := ⟨Wa.heap.size, 7, none⟩) (Nat.le_refl _) (.int .i64 0)).setCell (p := ⟨Wa.heap.size, 8, none⟩) (Nat.le_refl _) (.int .i64 0))
  have hgn : g ≠ Wa.heap.size := by have := HSA.out; have := HSB.out; omega
  have hat4 := (((((((((hat.far (p := ⟨Wa.heap.size, 0, none⟩) hgn (.int .i64 0)).far (p := ⟨Wa.heap.size, 1, none⟩) hgn (.string ⟨#[]⟩)).far (p := ⟨Wa.heap.size, 2, none⟩) hgn (.int .i64 0)).far (p := ⟨Wa.heap.size, 3, none⟩) hgn (.slice none 0 0)).far (p := ⟨Wa.heap.size, 4, none⟩) hgn (.string ⟨#[]⟩)).far (p := ⟨Wa.heap.size, 5, none⟩) hgn (.string ⟨#[]⟩)).far (p := ⟨Wa.heap.size, 6, none⟩) hgn (.int .i64 0)).far (p := ⟨Wa.heap.size, 7, none⟩) hgn (.int .i64 0)).far (p := ⟨Wa.heap.size, 8, none⟩) hgn (.int .i64 0))
  have hfin := (((((((((hct.put 0 (.int .i64 0)).put 1 (.string ⟨#[]⟩)).put 2 (.int .i64 0)).put 3 (.slice none 0 0)).put 4 (.string ⟨#[]⟩)).put 5 (.string ⟨#[]⟩)).put 6 (.int .i64 0)).put 7 (.int .i64 0)).put 8 (.int .i64 0))
  simp only [List.setIfInBounds_toArray, List.set_cons_zero, List.set_cons_succ] at hfin
  generalize hw8 : (((((((((w3.setCell ⟨Wa.heap.size, 0, none⟩ (.int .i64 0)).setCell ⟨Wa.heap.size, 1, none⟩ (.string ⟨#[]⟩)).setCell ⟨Wa.heap.size, 2, none⟩ (.int .i64 0)).setCell ⟨Wa.heap.size, 3, none⟩ (.slice none 0 0)).setCell ⟨Wa.heap.size, 4, none⟩ (.string ⟨#[]⟩)).setCell ⟨Wa.heap.size, 5, none⟩ (.string ⟨#[]⟩)).setCell ⟨Wa.heap.size, 6, none⟩ (.int .i64 0)).setCell ⟨Wa.heap.size, 7, none⟩ (.int .i64 0)).setCell ⟨Wa.heap.size, 8, none⟩ (.int .i64 0)) = w8 at hput hat4 hfin ⊢
  clear hw8
  have hfin3 := hfin.alloc (.cells #[.pointer none] 81)
  have hat5 := hat4.alloc (.cells #[.pointer none] 81)
  have hbl5 := (HBW.out.trans (hb3.mono HBW.out.size)).trans (hput.mono (by have := HSA.out; omega))
  have hbl6 := hbl5.alloc hbl5.size (.cells #[.pointer none] 81)
  generalize hw9 : w8.alloc (.cells #[.pointer none] 81) = w9 at hfin3 hat5 hbl6 ⊢
  clear hw9
  refine bodyPost_ret (results_cell_row_tmp rfl _ _ Wa.heap.size 58 _ (0, 0) _ rfl hfin3 Tryd.underlying58 rfl (by kernel_rfl)) rfl ?_
  have : parseQuery s.data.toList = (liZ, [(er, po)]) := by unfold parseQuery; rw [HLX.out]; exact if_neg h0
  rw [this]
  exact ⟨hbl6, .slice none 0 0, _, rfl, TRow.nil _ _ _, dg_one hat5⟩
set_option maxHeartbeats 4000000 in
set_option maxRecDepth 100000 in
theorem whole_fact (s : ByteArray) (w : World) (B : Nat) (hy : Syms w) (htb : Tb B w) (hB : B ≤ w.heap.size) (hs : s.size ≤ 1000000) : Calls Tryd.prog 38 #[.string s, .func (.func 44) #[] #[]] w (QPost w (parseFact s.data.toList)) := by
 have hmf := hmf_any
 obtain ⟨⟨ts, er, po⟩, hL⟩ : ∃ L, Lx.lex s.data.toList = L := ⟨_, rfl⟩
 have hba := below1 w (.cells #[.func (.func 44) #[] #[]] 103)
 have hfp := At.new w 103 #[.func (.func 44) #[] #[]]
 obtain ⟨Wa, hWa⟩ : ∃ Wa, w.alloc (.cells #[.func (.func 44) #[] #[]] 103) = Wa := ⟨_, rfl⟩
 have hsa : Wa.heap.size = w.heap.size + 1 := by rw [← hWa]; simp
 have HSA := Lib.hid hsa
 rw [hWa] at hba hfp
 have hbb := below1 Wa (.cells #[.int .i64 0, .string ⟨#[]⟩, .int .i64 0, .slice none 0 0, .string ⟨#[]⟩, .string ⟨#[]⟩, .int .i64 0, .int .i64 0, .int .i64 0] 58)
 have hrs := At.new Wa 58 #[.int .i64 0, .string ⟨#[]⟩, .int .i64 0, .slice none 0 0, .string ⟨#[]⟩, .string ⟨#[]⟩, .int .i64 0, .int .i64 0, .int .i64 0]
 have hfp2 := hfp.next hbb
 have hbw := hba.trans (hbb.mono hba.size)
 obtain ⟨Wb, hWb⟩ : ∃ Wb, Wa.alloc (.cells #[.int .i64 0, .string ⟨#[]⟩, .int .i64 0, .slice none 0 0, .string ⟨#[]⟩, .string ⟨#[]⟩, .int .i64 0, .int .i64 0, .int .i64 0] 58) = Wb := ⟨_, rfl⟩
 have hsb : Wb.heap.size = w.heap.size + 2 := by rw [← hWb, ← hWa]; simp
 rw [hWb] at hbb hrs hfp2 hbw
 have hy2 := hy.below hbw hy.lt
 have htb2 := htb.below (hbw.mono hB)
 have hB2 := Nat.le_trans hB hbw.size
 have HLX := Lib.hid hL
 by_cases h0 : er = 0
 ·subst h0
  obtain ⟨sz, hsq⟩ : ∃ sz, s.size = sz := ⟨_, rfl⟩
  have HC := Lib.hid (open_ok s Wb B hy2 htb2 hB2 hs hL hsq)
  have HSQ := Lib.hid hsq
  have HBW := Lib.hid hbw
  have HFP := Lib.hid hfp2
  have HRS := Lib.hid hrs
  have HSB := Lib.hid hsb
  clear hL hy2 htb2 hB2 hy htb hB hbw hba hbb hfp hfp2 hrs hsa hsb hsq
  go_enter Tryd.func38, Tryd.ntmps38
  go_wp2_with fail
  clear hWa hWb
  go_wp2_with (go_at_call 27; refine (HC.out).mono ?_; rintro e w3 ⟨hb3, rb, TA, tc, rfl, hrb, hr3⟩; clear HC)
  have hb4 := below1 w3 (.cells #[.pointer (some ⟨rb, 0, none⟩)] 81)
  have hrp := At.new w3 81 #[.pointer (some ⟨rb, 0, none⟩)]
  have hr4 := hr3.next hb4
  have hfp4 := (HFP.out.next hb3).next hb4
  have hrs4 := (HRS.out.next hb3).next hb4
  have hbw4 := (HBW.out.trans (hb3.mono HBW.out.size)).trans (hb4.mono (Nat.le_trans HBW.out.size hb3.size))
  have hb6 : w3.heap.size ≠ rb := by have := hr3.box.lt; omega
  have hlt3 := hb3.size
  generalize hw4 : w3.alloc (.cells #[.pointer (some ⟨rb, 0, none⟩)] 81) = w4 at hb4 hrp hr4 hfp4 hrs4 hbw4 ⊢
  have HO := Lib.hid (offset_any hr4)
  have hs4 : w3.heap.size < w4.heap.size := by rw [← hw4]; simp
  have yrp := hrp.cell 0
  simp only [List.getElem?_toArray, List.getElem?_cons_zero] at yrp
  clear hw4
  go_wp2_with (go_at_call 54; refine (HO.out).mono ?_; rintro e w5 ⟨rfl, hb5⟩; have yrp5 := next_cell yrp hb5; have hlt5 := hb5.size; have hbl := Nat.lt_of_lt_of_le hs4 hb5.size; clear HO)
  obtain ⟨ps, hps⟩ : ∃ ps : Nat, (tokAt ts sz 0).pos = ps := ⟨_, rfl⟩
  rw [hps]
  have HPS := Lib.hid hps
  have hbx := below1 w5 (.cells #[.int .i64 1, .string ⟨#[]⟩, .int .i64 (-1), .slice none 0 0, .string ⟨#[]⟩, .string ⟨#[]⟩, .int .i64 (-1), .int .i64 0, .int .i64 (ps : Int)] 58)
  have hx6 := At.new w5 58 #[.int .i64 1, .string ⟨#[]⟩, .int .i64 (-1), .slice none 0 0, .string ⟨#[]⟩, .string ⟨#[]⟩, .int .i64 (-1), .int .i64 0, .int .i64 (ps : Int)]
  have hb6w := hb5.trans (hbx.mono hb5.size)
  have hrp6 := hrp.next hb6w
  have hfp6 := hfp4.next hb6w
  have hr6 := hr4.next hb6w
  have hm6 := Mv.still hr4 hb6w
  have hxr : w5.heap.size ≠ rb := by have := hr4.box.lt; omega
  have hfr : w.heap.size ≠ rb := by have := HSB.out; omega
  have hrr : Wa.heap.size ≠ rb := by have := HSB.out; have := HSA.out; omega
  have n1 : w5.heap.size ≠ w3.heap.size := by omega
  have n2 : w5.heap.size ≠ w.heap.size := by have := HSB.out; omega
  have HT0 := try_fact hr4 hm6 hr6 hx6 hrp6 hfp6 hb5.size hxr hb6 hfr n1 n2
  have yrp6 := hrp6.cell 0
  simp only [List.getElem?_toArray, List.getElem?_cons_zero] at yrp6
  generalize hw6 : w5.alloc (.cells #[.int .i64 1, .string ⟨#[]⟩, .int .i64 (-1), .slice none 0 0, .string ⟨#[]⟩, .string ⟨#[]⟩, .int .i64 (-1), .int .i64 0, .int .i64 (ps : Int)] 58) = w6 at hbx hx6 hb6w hrp6 hfp6 hr6 hm6 HT0 yrp6 ⊢
  clear hw6 hps yrp yrp5
  cases hp : Px.factOf 0 (Px.kts ts) 0 with
  | ok x j =>
   rw [hp] at HT0
   have HT := Lib.hid HT0
   have HE := Lib.hid (show parseFact s.data.toList = (x.ap (offI ts sz), []) by unfold parseFact; rw [HLX.out]; simp only [if_true]; rw [size_len, HSQ.out, hp])
   have HXP := Lib.hid (Px.fact_pos hp)
   clear HT0 hp
   go_wp2_with (go_at_call 31; refine (HT.out).mono ?_; rintro e w7 ⟨rfl, hm7, A, c, hx7, ht7⟩; have hrs7 := hm7.at hrs4 hrr; have y0 := hrs7.cell 0; have y1 := hrs7.cell 1; have y2 := hrs7.cell 2; have y3 := hrs7.cell 3; have y4 := hrs7.cell 4; have y5 := hrs7.cell 5; have y6 := hrs7.cell 6; have y7 := hrs7.cell 7; have y8 := hrs7.cell 8; have f0 := hrs7.frozen 0; have f1 := hrs7.frozen 1; have f2 := hrs7.frozen 2; have f3 := hrs7.frozen 3; have f4 := hrs7.frozen 4; have f5 := hrs7.frozen 5; have f6 := hrs7.frozen 6; have f7 := hrs7.frozen 7; have f8 := hrs7.frozen 8; have yl := hrs7.lt; simp only [List.getElem?_toArray, List.getElem?_cons_zero, List.getElem?_cons_succ] at y0 y1 y2 y3 y4 y5 y6 y7 y8; have q0 := hx7.cell 0; have q1 := hx7.cell 1; have q2 := hx7.cell 2; have q3 := hx7.cell 3; have q4 := hx7.cell 4; have q5 := hx7.cell 5; have q6 := hx7.cell 6; have q7 := hx7.cell 7; have q8 := hx7.cell 8; have g0 := hx7.frozen 0; have g1 := hx7.frozen 1; have g2 := hx7.frozen 2; have g3 := hx7.frozen 3; have g4 := hx7.frozen 4; have g5 := hx7.frozen 5; have g6 := hx7.frozen 6; have g7 := hx7.frozen 7; have g8 := hx7.frozen 8; have ql := hx7.lt; simp only [List.getElem?_toArray, List.getElem?_cons_zero, List.getElem?_cons_succ] at q0 q1 q2 q3 q4 q5 q6 q7 q8; clear HT)
   clear y0 f0 y1 f1 y2 f2 y3 f3 y4 f4 y5 f5 y6 f6 y7 f7 y8 f8 yl
   clear q0 g0 q1 g1 q2 g2 q3 g3 q4 g4 q5 g5 q6 g6 q7 g7 q8 g8 ql
   have hfin := (((((((((hrs7.put 0 (.int .i64 x.kind)).put 1 (.string (bs x.name))).put 2 (.int .i64 (-1))).put 3 (.slice A x.args.length c)).put 4 (.string (bs x.bnd))).put 5 (.string (bs x.elem))).put 6 (.int .i64 (-1))).put 7 (.int .i64 x.op)).put 8 (.int .i64 (ps : Int)))
   have hput := ((((((((((Below.refl Wa.heap.size w7).setCell (p := ⟨Wa.heap.size, 0, none⟩) (Nat.le_refl _) (.int .i64 x.kind)).setCell (p := ⟨Wa.heap.size, 1, none⟩) (Nat.le_refl _) (.string (bs x.name))).setCell (p := ⟨Wa.heap.size, 2, none⟩) (Nat.le_refl _) (.int .i64 (-1))).setCell (p := ⟨Wa.heap.size, 3, none⟩) (Nat.le_refl _) (.slice A x.args.length c)).setCell (p := ⟨Wa.heap.size, 4, none⟩) (Nat.le_refl _) (.string (bs x.bnd))).setCell (p := ⟨Wa.heap.size, 5, none⟩) (Nat.le_refl _) (.string (bs x.elem))).setCell (p := ⟨Wa.heap.size, 6, none⟩) (Nat.le_refl _) (.int .i64 (-1))).setCell (p := ⟨Wa.heap.size, 7, none⟩) (Nat.le_refl _) (.int .i64 x.op)).setCell (p := ⟨Wa.heap.size, 8, none⟩) (Nat.le_refl _) (.int .i64 (ps : Int)))
   have hkT : Kept 71 w7 _ := (((((((((Kept.put hrs7 0 (.int .i64 x.kind) (by decide)).trans (Kept.put (hrs7.put 0 (.int .i64 x.kind)) 1 (.string (bs x.name)) (by decide))).trans (Kept.put ((hrs7.put 0 (.int .i64 x.kind)).put 1 (.string (bs x.name))) 2 (.int .i64 (-1)) (by decide))).trans (Kept.put (((hrs7.put 0 (.int .i64 x.kind)).put 1 (.string (bs x.name))).put 2 (.int .i64 (-1))) 3 (.slice A x.args.length c) (by decide))).trans (Kept.put ((((hrs7.put 0 (.int .i64 x.kind)).put 1 (.string (bs x.name))).put 2 (.int .i64 (-1))).put 3 (.slice A x.args.length c)) 4 (.string (bs x.bnd)) (by decide))).trans (Kept.put (((((hrs7.put 0 (.int .i64 x.kind)).put 1 (.string (bs x.name))).put 2 (.int .i64 (-1))).put 3 (.slice A x.args.length c)).put 4 (.string (bs x.bnd))) 5 (.string (bs x.elem)) (by decide))).trans (Kept.put ((((((hrs7.put 0 (.int .i64 x.kind)).put 1 (.string (bs x.name))).put 2 (.int .i64 (-1))).put 3 (.slice A x.args.length c)).put 4 (.string (bs x.bnd))).put 5 (.string (bs x.elem))) 6 (.int .i64 (-1)) (by decide))).trans (Kept.put (((((((hrs7.put 0 (.int .i64 x.kind)).put 1 (.string (bs x.name))).put 2 (.int .i64 (-1))).put 3 (.slice A x.args.length c)).put 4 (.string (bs x.bnd))).put 5 (.string (bs x.elem))).put 6 (.int .i64 (-1))) 7 (.int .i64 x.op) (by decide))).trans (Kept.put ((((((((hrs7.put 0 (.int .i64 x.kind)).put 1 (.string (bs x.name))).put 2 (.int .i64 (-1))).put 3 (.slice A x.args.length c)).put 4 (.string (bs x.bnd))).put 5 (.string (bs x.elem))).put 6 (.int .i64 (-1))).put 7 (.int .i64 x.op)) 8 (.int .i64 (ps : Int)) (by decide)))
   have ht8 := ht7.kept hkT
   have hfin3 := hfin
   simp only [List.setIfInBounds_toArray, List.set_cons_zero, List.set_cons_succ] at hfin3
   generalize hw8 : (((((((((w7.setCell ⟨Wa.heap.size, 0, none⟩ (.int .i64 x.kind)).setCell ⟨Wa.heap.size, 1, none⟩ (.string (bs x.name))).setCell ⟨Wa.heap.size, 2, none⟩ (.int .i64 (-1))).setCell ⟨Wa.heap.size, 3, none⟩ (.slice A x.args.length c)).setCell ⟨Wa.heap.size, 4, none⟩ (.string (bs x.bnd))).setCell ⟨Wa.heap.size, 5, none⟩ (.string (bs x.elem))).setCell ⟨Wa.heap.size, 6, none⟩ (.int .i64 (-1))).setCell ⟨Wa.heap.size, 7, none⟩ (.int .i64 x.op)).setCell ⟨Wa.heap.size, 8, none⟩ (.int .i64 (ps : Int))) = w8 at hput ht8 hfin3 ⊢
   clear hw8 hkT hfin
   refine bodyPost_ret (results_cell_row_tmp rfl _ _ Wa.heap.size 58 _ (0, 0) _ rfl hfin3 Tryd.underlying58 rfl (by kernel_rfl)) rfl ?_
   rw [HE.out]
   refine ⟨(hbw4.trans ((hm7.belowR hr4.box.lt).mono (by have := HSB.out; omega))).trans (hput.mono (by have := HSA.out; omega)), .slice A x.args.length c, .slice none 0 0, ?_, ht8, TRow.nil _ _ _⟩
   rw [li_of _ _ _ HXP.out]
   show Ending.returned (.tuple #[.agg #[.int .i64 x.kind, .string (bs x.name), .int .i64 (-1), .slice A x.args.length c, .string (bs x.bnd), .string (bs x.elem), .int .i64 (-1), .int .i64 x.op, .int .i64 (ps : Int)], .slice none 0 0]) = _
   unfold offI
   rw [HPS.out]
  | fail j =>
   rw [hp] at HT0
   have HT := Lib.hid HT0
   have HE := Lib.hid (show parseFact s.data.toList = (liZ, [dgV ts sz j]) by unfold parseFact; rw [HLX.out]; simp only [if_true]; rw [size_len, HSQ.out, hp])
   obtain ⟨er, her⟩ : ∃ er : Int, (if j < ts.length then (50 : Int) else 51) = er := ⟨_, rfl⟩
   have HER := Lib.hid her
   clear HT0 hp her
   go_wp2_with (go_at_call 31; refine (HT.out).mono ?_; rintro e w7 ⟨⟨g, rfl, hg7⟩, hm7⟩; rw [HER.out] at hg7; have hrs7 := hm7.at hrs4 hrr; have y0 := hrs7.cell 0; have y1 := hrs7.cell 1; have y2 := hrs7.cell 2; have y3 := hrs7.cell 3; have y4 := hrs7.cell 4; have y5 := hrs7.cell 5; have y6 := hrs7.cell 6; have y7 := hrs7.cell 7; have y8 := hrs7.cell 8; have f0 := hrs7.frozen 0; have f1 := hrs7.frozen 1; have f2 := hrs7.frozen 2; have f3 := hrs7.frozen 3; have f4 := hrs7.frozen 4; have f5 := hrs7.frozen 5; have f6 := hrs7.frozen 6; have f7 := hrs7.frozen 7; have f8 := hrs7.frozen 8; have yl := hrs7.lt; simp only [List.getElem?_toArray, List.getElem?_cons_zero, List.getElem?_cons_succ] at y0 y1 y2 y3 y4 y5 y6 y7 y8; clear HT)
   clear y0 f0 y1 f1 y2 f2 y3 f3 y4 f4 y5 f5 y6 f6 y7 f7 y8 f8 yl
   have hfin := (((((((((hrs7.put 0 (.int .i64 0)).put 1 (.string ⟨#[]⟩)).put 2 (.int .i64 0)).put 3 (.slice none 0 0)).put 4 (.string ⟨#[]⟩)).put 5 (.string ⟨#[]⟩)).put 6 (.int .i64 0)).put 7 (.int .i64 0)).put 8 (.int .i64 0))
   have hput := ((((((((((Below.refl Wa.heap.size w7).setCell (p := ⟨Wa.heap.size, 0, none⟩) (Nat.le_refl _) (.int .i64 0)).setCell (p := ⟨Wa.heap.size, 1, none⟩) (Nat.le_refl _) (.string ⟨#[]⟩)).setCell (p := ⟨Wa.heap.size, 2, none⟩) (Nat.le_refl _) (.int .i64 0)).setCell (p := ⟨Wa.heap.size, 3, none⟩) (Nat.le_refl _) (.slice none 0 0)).setCell (p := ⟨Wa.heap.size, 4, none⟩) (Nat.le_refl _) (.string ⟨#[]⟩)).setCell (p := ⟨Wa.heap.size, 5, none⟩) (Nat.le_refl _) (.string ⟨#[]⟩)).setCell (p := ⟨Wa.heap.size, 6, none⟩) (Nat.le_refl _) (.int .i64 0)).setCell (p := ⟨Wa.heap.size, 7, none⟩) (Nat.le_refl _) (.int .i64 0)).setCell (p := ⟨Wa.heap.size, 8, none⟩) (Nat.le_refl _) (.int .i64 0))
   have hgn : g ≠ Wa.heap.size := hg7.ne hrs7 (by decide)
   have hg8 := (((((((((hg7.far (p := ⟨Wa.heap.size, 0, none⟩) hgn (.int .i64 0)).far (p := ⟨Wa.heap.size, 1, none⟩) hgn (.string ⟨#[]⟩)).far (p := ⟨Wa.heap.size, 2, none⟩) hgn (.int .i64 0)).far (p := ⟨Wa.heap.size, 3, none⟩) hgn (.slice none 0 0)).far (p := ⟨Wa.heap.size, 4, none⟩) hgn (.string ⟨#[]⟩)).far (p := ⟨Wa.heap.size, 5, none⟩) hgn (.string ⟨#[]⟩)).far (p := ⟨Wa.heap.size, 6, none⟩) hgn (.int .i64 0)).far (p := ⟨Wa.heap.size, 7, none⟩) hgn (.int .i64 0)).far (p := ⟨Wa.heap.size, 8, none⟩) hgn (.int .i64 0))
   have hfin3 := hfin
   simp only [List.setIfInBounds_toArray, List.set_cons_zero, List.set_cons_succ] at hfin3
   generalize hw8 : (((((((((w7.setCell ⟨Wa.heap.size, 0, none⟩ (.int .i64 0)).setCell ⟨Wa.heap.size, 1, none⟩ (.string ⟨#[]⟩)).setCell ⟨Wa.heap.size, 2, none⟩ (.int .i64 0)).setCell ⟨Wa.heap.size, 3, none⟩ (.slice none 0 0)).setCell ⟨Wa.heap.size, 4, none⟩ (.string ⟨#[]⟩)).setCell ⟨Wa.heap.size, 5, none⟩ (.string ⟨#[]⟩)).setCell ⟨Wa.heap.size, 6, none⟩ (.int .i64 0)).setCell ⟨Wa.heap.size, 7, none⟩ (.int .i64 0)).setCell ⟨Wa.heap.size, 8, none⟩ (.int .i64 0)) = w8 at hput hg8 hfin3 ⊢
   clear hw8 hfin
   refine bodyPost_ret (results_cell_row_tmp rfl _ _ Wa.heap.size 58 _ (0, 0) _ rfl hfin3 Tryd.underlying58 rfl (by kernel_rfl)) rfl ?_
   rw [HE.out]
   refine ⟨(hbw4.trans ((hm7.belowR hr4.box.lt).mono (by have := HSB.out; omega))).trans (hput.mono (by have := HSA.out; omega)), .slice none 0 0, _, rfl, TRow.nil _ _ _, ?_⟩
   have := dg_one hg8
   rw [show [dgV ts sz j] = [(er, ((tokAt ts sz j).pos : Int))] by unfold dgV offI; rw [HER.out]]
   exact this
 ·have HC := Lib.hid (open_bad s Wb B hy2 htb2 hB2 hs hL h0)
  have HBW := Lib.hid hbw
  have HRS := Lib.hid hrs
  have HSB := Lib.hid hsb
  clear hL hy2 htb2 hB2 hy htb hB hbw hba hbb hfp hfp2 hrs hsa hsb
  go_enter Tryd.func38, Tryd.ntmps38
  go_wp2_with fail
  clear hWa hWb
  go_wp2_with (go_at_call 27; refine (HC.out).mono ?_; rintro e w3 ⟨hb3, g, rfl, hg, hat⟩; have hct := HRS.out.next hb3; have y0 := hct.cell 0; have y1 := hct.cell 1; have y2 := hct.cell 2; have y3 := hct.cell 3; have y4 := hct.cell 4; have y5 := hct.cell 5; have y6 := hct.cell 6; have y7 := hct.cell 7; have y8 := hct.cell 8; have f0 := hct.frozen 0; have f1 := hct.frozen 1; have f2 := hct.frozen 2; have f3 := hct.frozen 3; have f4 := hct.frozen 4; have f5 := hct.frozen 5; have f6 := hct.frozen 6; have f7 := hct.frozen 7; have f8 := hct.frozen 8; have yl := hct.lt; simp only [List.getElem?_toArray, List.getElem?_cons_zero, List.getElem?_cons_succ] at y0 y1 y2 y3 y4 y5 y6 y7 y8; clear HC)
  clear y0 f0 y1 f1 y2 f2 y3 f3 y4 f4 y5 f5 y6 f6 y7 f7 y8 f8 yl
  have hb4 := below1 w3 (.cells #[.pointer none] 81)
  have hput := ((((((((((Below.refl Wa.heap.size w3).setCell (p := ⟨Wa.heap.size, 0, none⟩) (Nat.le_refl _) (.int .i64 0)).setCell (p := ⟨Wa.heap.size, 1, none⟩) (Nat.le_refl _) (.string ⟨#[]⟩)).setCell (p := ⟨Wa.heap.size, 2, none⟩) (Nat.le_refl _) (.int .i64 0)).setCell (p := ⟨Wa.heap.size, 3, none⟩) (Nat.le_refl _) (.slice none 0 0)).setCell (p := ⟨Wa.heap.size, 4, none⟩) (Nat.le_refl _) (.string ⟨#[]⟩)).setCell (p := ⟨Wa.heap.size, 5, none⟩) (Nat.le_refl _) (.string ⟨#[]⟩)).setCell (p := ⟨Wa.heap.size, 6, none⟩) (Nat.le_refl _) (.int .i64 0)).setCell (p := ⟨Wa.heap.size, 7, none⟩) (Nat.le_refl _) (.int .i64 0)).setCell (p := ⟨Wa.heap.size, 8, none⟩) (Nat.le_refl _) (.int .i64 0))
  have hgn : g ≠ Wa.heap.size := by have := HSA.out; have := HSB.out; omega
  have hat4 := (((((((((hat.far (p := ⟨Wa.heap.size, 0, none⟩) hgn (.int .i64 0)).far (p := ⟨Wa.heap.size, 1, none⟩) hgn (.string ⟨#[]⟩)).far (p := ⟨Wa.heap.size, 2, none⟩) hgn (.int .i64 0)).far (p := ⟨Wa.heap.size, 3, none⟩) hgn (.slice none 0 0)).far (p := ⟨Wa.heap.size, 4, none⟩) hgn (.string ⟨#[]⟩)).far (p := ⟨Wa.heap.size, 5, none⟩) hgn (.string ⟨#[]⟩)).far (p := ⟨Wa.heap.size, 6, none⟩) hgn (.int .i64 0)).far (p := ⟨Wa.heap.size, 7, none⟩) hgn (.int .i64 0)).far (p := ⟨Wa.heap.size, 8, none⟩) hgn (.int .i64 0))
  have hfin := (((((((((hct.put 0 (.int .i64 0)).put 1 (.string ⟨#[]⟩)).put 2 (.int .i64 0)).put 3 (.slice none 0 0)).put 4 (.string ⟨#[]⟩)).put 5 (.string ⟨#[]⟩)).put 6 (.int .i64 0)).put 7 (.int .i64 0)).put 8 (.int .i64 0))
  simp only [List.setIfInBounds_toArray, List.set_cons_zero, List.set_cons_succ] at hfin
  generalize hw8 : (((((((((w3.setCell ⟨Wa.heap.size, 0, none⟩ (.int .i64 0)).setCell ⟨Wa.heap.size, 1, none⟩ (.string ⟨#[]⟩)).setCell ⟨Wa.heap.size, 2, none⟩ (.int .i64 0)).setCell ⟨Wa.heap.size, 3, none⟩ (.slice none 0 0)).setCell ⟨Wa.heap.size, 4, none⟩ (.string ⟨#[]⟩)).setCell ⟨Wa.heap.size, 5, none⟩ (.string ⟨#[]⟩)).setCell ⟨Wa.heap.size, 6, none⟩ (.int .i64 0)).setCell ⟨Wa.heap.size, 7, none⟩ (.int .i64 0)).setCell ⟨Wa.heap.size, 8, none⟩ (.int .i64 0)) = w8 at hput hat4 hfin ⊢
  clear hw8
  have hfin3 := hfin.alloc (.cells #[.pointer none] 81)
  have hat5 := hat4.alloc (.cells #[.pointer none] 81)
  have hbl5 := (HBW.out.trans (hb3.mono HBW.out.size)).trans (hput.mono (by have := HSA.out; omega))
  have hbl6 := hbl5.alloc hbl5.size (.cells #[.pointer none] 81)
  generalize hw9 : w8.alloc (.cells #[.pointer none] 81) = w9 at hfin3 hat5 hbl6 ⊢
  clear hw9
  refine bodyPost_ret (results_cell_row_tmp rfl _ _ Wa.heap.size 58 _ (0, 0) _ rfl hfin3 Tryd.underlying58 rfl (by kernel_rfl)) rfl ?_
  have : parseFact s.data.toList = (liZ, [(er, po)]) := by unfold parseFact; rw [HLX.out]; exact if_neg h0
  rw [this]
  exact ⟨hbl6, .slice none 0 0, _, rfl, TRow.nil _ _ _, dg_one hat5⟩
set_option maxHeartbeats 1000000 in
set_option maxRecDepth 100000 in
theorem parseQuery_any (s : ByteArray) (w : World) (B : Nat) (hy : Syms w) (htb : Tb B w) (hB : B ≤ w.heap.size) (hs : s.size ≤ 1000000) : Calls Tryd.prog 20 #[.string s] w (QPost w (parseQuery s.data.toList)) := by
 have hb1 := below1 w (.cells #[.int .i64 0, .string ⟨#[]⟩, .int .i64 0, .slice none 0 0, .string ⟨#[]⟩, .string ⟨#[]⟩, .int .i64 0, .int .i64 0, .int .i64 0] 58)
 have hr1 := At.new w 58 #[.int .i64 0, .string ⟨#[]⟩, .int .i64 0, .slice none 0 0, .string ⟨#[]⟩, .string ⟨#[]⟩, .int .i64 0, .int .i64 0, .int .i64 0]
 have HC := Lib.hid (whole_query s _ B (hy.below hb1 hy.lt) (htb.below (hb1.mono hB)) (Nat.le_trans hB hb1.size) hs)
 obtain ⟨⟨x, ds⟩, hx⟩ : ∃ q, parseQuery s.data.toList = q := ⟨_, rfl⟩
 rw [hx] at HC ⊢
 clear hx hy htb hB
 go_enter Tryd.func20, Tryd.ntmps20
 go_wp2_with (go_at_call 38; refine (HC.out).mono ?_; rintro e w2 ⟨hb2, a, d, rfl, ha, hd⟩; obtain ⟨aA, aC, rfl⟩ := ha.slice; unfold liFs; have hr2 := hr1.next hb2; have y0 := hr2.cell 0; have y1 := hr2.cell 1; have y2 := hr2.cell 2; have y3 := hr2.cell 3; have y4 := hr2.cell 4; have y5 := hr2.cell 5; have y6 := hr2.cell 6; have y7 := hr2.cell 7; have y8 := hr2.cell 8; have f0 := hr2.frozen 0; have f1 := hr2.frozen 1; have f2 := hr2.frozen 2; have f3 := hr2.frozen 3; have f4 := hr2.frozen 4; have f5 := hr2.frozen 5; have f6 := hr2.frozen 6; have f7 := hr2.frozen 7; have f8 := hr2.frozen 8; have yl := hr2.lt; simp only [List.getElem?_toArray, List.getElem?_cons_zero, List.getElem?_cons_succ] at y0 y1 y2 y3 y4 y5 y6 y7 y8; clear HC)
 clear y0 f0 y1 f1 y2 f2 y3 f3 y4 f4 y5 f5 y6 f6 y7 f7 y8 f8 yl
 have hfin := (((((((((hr2.put 0 (.int .i64 x.kind)).put 1 (.string (bs x.name))).put 2 (.int .i64 x.pred)).put 3 (.slice aA x.args.length aC)).put 4 (.string (bs x.bnd))).put 5 (.string (bs x.elem))).put 6 (.int .i64 x.least)).put 7 (.int .i64 x.op)).put 8 (.int .i64 x.pos))
 have hput := ((((((((((Below.refl w.heap.size w2).setCell (p := ⟨w.heap.size, 0, none⟩) (Nat.le_refl _) (.int .i64 x.kind)).setCell (p := ⟨w.heap.size, 1, none⟩) (Nat.le_refl _) (.string (bs x.name))).setCell (p := ⟨w.heap.size, 2, none⟩) (Nat.le_refl _) (.int .i64 x.pred)).setCell (p := ⟨w.heap.size, 3, none⟩) (Nat.le_refl _) (.slice aA x.args.length aC)).setCell (p := ⟨w.heap.size, 4, none⟩) (Nat.le_refl _) (.string (bs x.bnd))).setCell (p := ⟨w.heap.size, 5, none⟩) (Nat.le_refl _) (.string (bs x.elem))).setCell (p := ⟨w.heap.size, 6, none⟩) (Nat.le_refl _) (.int .i64 x.least)).setCell (p := ⟨w.heap.size, 7, none⟩) (Nat.le_refl _) (.int .i64 x.op)).setCell (p := ⟨w.heap.size, 8, none⟩) (Nat.le_refl _) (.int .i64 x.pos))
 have hkT : Kept 71 w2 _ := (((((((((Kept.put hr2 0 (.int .i64 x.kind) (by decide)).trans (Kept.put (hr2.put 0 (.int .i64 x.kind)) 1 (.string (bs x.name)) (by decide))).trans (Kept.put ((hr2.put 0 (.int .i64 x.kind)).put 1 (.string (bs x.name))) 2 (.int .i64 x.pred) (by decide))).trans (Kept.put (((hr2.put 0 (.int .i64 x.kind)).put 1 (.string (bs x.name))).put 2 (.int .i64 x.pred)) 3 (.slice aA x.args.length aC) (by decide))).trans (Kept.put ((((hr2.put 0 (.int .i64 x.kind)).put 1 (.string (bs x.name))).put 2 (.int .i64 x.pred)).put 3 (.slice aA x.args.length aC)) 4 (.string (bs x.bnd)) (by decide))).trans (Kept.put (((((hr2.put 0 (.int .i64 x.kind)).put 1 (.string (bs x.name))).put 2 (.int .i64 x.pred)).put 3 (.slice aA x.args.length aC)).put 4 (.string (bs x.bnd))) 5 (.string (bs x.elem)) (by decide))).trans (Kept.put ((((((hr2.put 0 (.int .i64 x.kind)).put 1 (.string (bs x.name))).put 2 (.int .i64 x.pred)).put 3 (.slice aA x.args.length aC)).put 4 (.string (bs x.bnd))).put 5 (.string (bs x.elem))) 6 (.int .i64 x.least) (by decide))).trans (Kept.put (((((((hr2.put 0 (.int .i64 x.kind)).put 1 (.string (bs x.name))).put 2 (.int .i64 x.pred)).put 3 (.slice aA x.args.length aC)).put 4 (.string (bs x.bnd))).put 5 (.string (bs x.elem))).put 6 (.int .i64 x.least)) 7 (.int .i64 x.op) (by decide))).trans (Kept.put ((((((((hr2.put 0 (.int .i64 x.kind)).put 1 (.string (bs x.name))).put 2 (.int .i64 x.pred)).put 3 (.slice aA x.args.length aC)).put 4 (.string (bs x.bnd))).put 5 (.string (bs x.elem))).put 6 (.int .i64 x.least)).put 7 (.int .i64 x.op)) 8 (.int .i64 x.pos) (by decide)))
 have hkD : Kept 43 w2 _ := (((((((((Kept.put hr2 0 (.int .i64 x.kind) (by decide)).trans (Kept.put (hr2.put 0 (.int .i64 x.kind)) 1 (.string (bs x.name)) (by decide))).trans (Kept.put ((hr2.put 0 (.int .i64 x.kind)).put 1 (.string (bs x.name))) 2 (.int .i64 x.pred) (by decide))).trans (Kept.put (((hr2.put 0 (.int .i64 x.kind)).put 1 (.string (bs x.name))).put 2 (.int .i64 x.pred)) 3 (.slice aA x.args.length aC) (by decide))).trans (Kept.put ((((hr2.put 0 (.int .i64 x.kind)).put 1 (.string (bs x.name))).put 2 (.int .i64 x.pred)).put 3 (.slice aA x.args.length aC)) 4 (.string (bs x.bnd)) (by decide))).trans (Kept.put (((((hr2.put 0 (.int .i64 x.kind)).put 1 (.string (bs x.name))).put 2 (.int .i64 x.pred)).put 3 (.slice aA x.args.length aC)).put 4 (.string (bs x.bnd))) 5 (.string (bs x.elem)) (by decide))).trans (Kept.put ((((((hr2.put 0 (.int .i64 x.kind)).put 1 (.string (bs x.name))).put 2 (.int .i64 x.pred)).put 3 (.slice aA x.args.length aC)).put 4 (.string (bs x.bnd))).put 5 (.string (bs x.elem))) 6 (.int .i64 x.least) (by decide))).trans (Kept.put (((((((hr2.put 0 (.int .i64 x.kind)).put 1 (.string (bs x.name))).put 2 (.int .i64 x.pred)).put 3 (.slice aA x.args.length aC)).put 4 (.string (bs x.bnd))).put 5 (.string (bs x.elem))).put 6 (.int .i64 x.least)) 7 (.int .i64 x.op) (by decide))).trans (Kept.put ((((((((hr2.put 0 (.int .i64 x.kind)).put 1 (.string (bs x.name))).put 2 (.int .i64 x.pred)).put 3 (.slice aA x.args.length aC)).put 4 (.string (bs x.bnd))).put 5 (.string (bs x.elem))).put 6 (.int .i64 x.least)).put 7 (.int .i64 x.op)) 8 (.int .i64 x.pos) (by decide)))
 have ha3 := ha.kept hkT
 have hd3 := DgR.kept hd hkD
 have hfin3 := hfin
 simp only [List.setIfInBounds_toArray, List.set_cons_zero, List.set_cons_succ] at hfin3
 generalize hw3 : (((((((((w2.setCell ⟨w.heap.size, 0, none⟩ (.int .i64 x.kind)).setCell ⟨w.heap.size, 1, none⟩ (.string (bs x.name))).setCell ⟨w.heap.size, 2, none⟩ (.int .i64 x.pred)).setCell ⟨w.heap.size, 3, none⟩ (.slice aA x.args.length aC)).setCell ⟨w.heap.size, 4, none⟩ (.string (bs x.bnd))).setCell ⟨w.heap.size, 5, none⟩ (.string (bs x.elem))).setCell ⟨w.heap.size, 6, none⟩ (.int .i64 x.least)).setCell ⟨w.heap.size, 7, none⟩ (.int .i64 x.op)).setCell ⟨w.heap.size, 8, none⟩ (.int .i64 x.pos)) = w3 at hput ha3 hd3 hfin3 ⊢
 clear hw3 hkT hkD ha hd hfin
 refine bodyPost_ret (results_cell_row_tmp rfl _ _ w.heap.size 58 _ (0, 0) _ rfl hfin3 Tryd.underlying58 rfl (by kernel_rfl)) rfl ?_
 exact ⟨(hb1.trans (hb2.mono hb1.size)).trans hput, _, d, rfl, ha3, hd3⟩
set_option maxHeartbeats 1000000 in
set_option maxRecDepth 100000 in
theorem parseFact_any (s : ByteArray) (w : World) (B : Nat) (hy : Syms w) (htb : Tb B w) (hB : B ≤ w.heap.size) (hs : s.size ≤ 1000000) : Calls Tryd.prog 21 #[.string s] w (QPost w (parseFact s.data.toList)) := by
 have hb1 := below1 w (.cells #[.int .i64 0, .string ⟨#[]⟩, .int .i64 0, .slice none 0 0, .string ⟨#[]⟩, .string ⟨#[]⟩, .int .i64 0, .int .i64 0, .int .i64 0] 58)
 have hr1 := At.new w 58 #[.int .i64 0, .string ⟨#[]⟩, .int .i64 0, .slice none 0 0, .string ⟨#[]⟩, .string ⟨#[]⟩, .int .i64 0, .int .i64 0, .int .i64 0]
 have HC := Lib.hid (whole_fact s _ B (hy.below hb1 hy.lt) (htb.below (hb1.mono hB)) (Nat.le_trans hB hb1.size) hs)
 obtain ⟨⟨x, ds⟩, hx⟩ : ∃ q, parseFact s.data.toList = q := ⟨_, rfl⟩
 rw [hx] at HC ⊢
 clear hx hy htb hB
 go_enter Tryd.func21, Tryd.ntmps21
 go_wp2_with (go_at_call 38; refine (HC.out).mono ?_; rintro e w2 ⟨hb2, a, d, rfl, ha, hd⟩; obtain ⟨aA, aC, rfl⟩ := ha.slice; unfold liFs; have hr2 := hr1.next hb2; have y0 := hr2.cell 0; have y1 := hr2.cell 1; have y2 := hr2.cell 2; have y3 := hr2.cell 3; have y4 := hr2.cell 4; have y5 := hr2.cell 5; have y6 := hr2.cell 6; have y7 := hr2.cell 7; have y8 := hr2.cell 8; have f0 := hr2.frozen 0; have f1 := hr2.frozen 1; have f2 := hr2.frozen 2; have f3 := hr2.frozen 3; have f4 := hr2.frozen 4; have f5 := hr2.frozen 5; have f6 := hr2.frozen 6; have f7 := hr2.frozen 7; have f8 := hr2.frozen 8; have yl := hr2.lt; simp only [List.getElem?_toArray, List.getElem?_cons_zero, List.getElem?_cons_succ] at y0 y1 y2 y3 y4 y5 y6 y7 y8; clear HC)
 clear y0 f0 y1 f1 y2 f2 y3 f3 y4 f4 y5 f5 y6 f6 y7 f7 y8 f8 yl
 have hfin := (((((((((hr2.put 0 (.int .i64 x.kind)).put 1 (.string (bs x.name))).put 2 (.int .i64 x.pred)).put 3 (.slice aA x.args.length aC)).put 4 (.string (bs x.bnd))).put 5 (.string (bs x.elem))).put 6 (.int .i64 x.least)).put 7 (.int .i64 x.op)).put 8 (.int .i64 x.pos))
 have hput := ((((((((((Below.refl w.heap.size w2).setCell (p := ⟨w.heap.size, 0, none⟩) (Nat.le_refl _) (.int .i64 x.kind)).setCell (p := ⟨w.heap.size, 1, none⟩) (Nat.le_refl _) (.string (bs x.name))).setCell (p := ⟨w.heap.size, 2, none⟩) (Nat.le_refl _) (.int .i64 x.pred)).setCell (p := ⟨w.heap.size, 3, none⟩) (Nat.le_refl _) (.slice aA x.args.length aC)).setCell (p := ⟨w.heap.size, 4, none⟩) (Nat.le_refl _) (.string (bs x.bnd))).setCell (p := ⟨w.heap.size, 5, none⟩) (Nat.le_refl _) (.string (bs x.elem))).setCell (p := ⟨w.heap.size, 6, none⟩) (Nat.le_refl _) (.int .i64 x.least)).setCell (p := ⟨w.heap.size, 7, none⟩) (Nat.le_refl _) (.int .i64 x.op)).setCell (p := ⟨w.heap.size, 8, none⟩) (Nat.le_refl _) (.int .i64 x.pos))
 have hkT : Kept 71 w2 _ := (((((((((Kept.put hr2 0 (.int .i64 x.kind) (by decide)).trans (Kept.put (hr2.put 0 (.int .i64 x.kind)) 1 (.string (bs x.name)) (by decide))).trans (Kept.put ((hr2.put 0 (.int .i64 x.kind)).put 1 (.string (bs x.name))) 2 (.int .i64 x.pred) (by decide))).trans (Kept.put (((hr2.put 0 (.int .i64 x.kind)).put 1 (.string (bs x.name))).put 2 (.int .i64 x.pred)) 3 (.slice aA x.args.length aC) (by decide))).trans (Kept.put ((((hr2.put 0 (.int .i64 x.kind)).put 1 (.string (bs x.name))).put 2 (.int .i64 x.pred)).put 3 (.slice aA x.args.length aC)) 4 (.string (bs x.bnd)) (by decide))).trans (Kept.put (((((hr2.put 0 (.int .i64 x.kind)).put 1 (.string (bs x.name))).put 2 (.int .i64 x.pred)).put 3 (.slice aA x.args.length aC)).put 4 (.string (bs x.bnd))) 5 (.string (bs x.elem)) (by decide))).trans (Kept.put ((((((hr2.put 0 (.int .i64 x.kind)).put 1 (.string (bs x.name))).put 2 (.int .i64 x.pred)).put 3 (.slice aA x.args.length aC)).put 4 (.string (bs x.bnd))).put 5 (.string (bs x.elem))) 6 (.int .i64 x.least) (by decide))).trans (Kept.put (((((((hr2.put 0 (.int .i64 x.kind)).put 1 (.string (bs x.name))).put 2 (.int .i64 x.pred)).put 3 (.slice aA x.args.length aC)).put 4 (.string (bs x.bnd))).put 5 (.string (bs x.elem))).put 6 (.int .i64 x.least)) 7 (.int .i64 x.op) (by decide))).trans (Kept.put ((((((((hr2.put 0 (.int .i64 x.kind)).put 1 (.string (bs x.name))).put 2 (.int .i64 x.pred)).put 3 (.slice aA x.args.length aC)).put 4 (.string (bs x.bnd))).put 5 (.string (bs x.elem))).put 6 (.int .i64 x.least)).put 7 (.int .i64 x.op)) 8 (.int .i64 x.pos) (by decide)))
 have hkD : Kept 43 w2 _ := (((((((((Kept.put hr2 0 (.int .i64 x.kind) (by decide)).trans (Kept.put (hr2.put 0 (.int .i64 x.kind)) 1 (.string (bs x.name)) (by decide))).trans (Kept.put ((hr2.put 0 (.int .i64 x.kind)).put 1 (.string (bs x.name))) 2 (.int .i64 x.pred) (by decide))).trans (Kept.put (((hr2.put 0 (.int .i64 x.kind)).put 1 (.string (bs x.name))).put 2 (.int .i64 x.pred)) 3 (.slice aA x.args.length aC) (by decide))).trans (Kept.put ((((hr2.put 0 (.int .i64 x.kind)).put 1 (.string (bs x.name))).put 2 (.int .i64 x.pred)).put 3 (.slice aA x.args.length aC)) 4 (.string (bs x.bnd)) (by decide))).trans (Kept.put (((((hr2.put 0 (.int .i64 x.kind)).put 1 (.string (bs x.name))).put 2 (.int .i64 x.pred)).put 3 (.slice aA x.args.length aC)).put 4 (.string (bs x.bnd))) 5 (.string (bs x.elem)) (by decide))).trans (Kept.put ((((((hr2.put 0 (.int .i64 x.kind)).put 1 (.string (bs x.name))).put 2 (.int .i64 x.pred)).put 3 (.slice aA x.args.length aC)).put 4 (.string (bs x.bnd))).put 5 (.string (bs x.elem))) 6 (.int .i64 x.least) (by decide))).trans (Kept.put (((((((hr2.put 0 (.int .i64 x.kind)).put 1 (.string (bs x.name))).put 2 (.int .i64 x.pred)).put 3 (.slice aA x.args.length aC)).put 4 (.string (bs x.bnd))).put 5 (.string (bs x.elem))).put 6 (.int .i64 x.least)) 7 (.int .i64 x.op) (by decide))).trans (Kept.put ((((((((hr2.put 0 (.int .i64 x.kind)).put 1 (.string (bs x.name))).put 2 (.int .i64 x.pred)).put 3 (.slice aA x.args.length aC)).put 4 (.string (bs x.bnd))).put 5 (.string (bs x.elem))).put 6 (.int .i64 x.least)).put 7 (.int .i64 x.op)) 8 (.int .i64 x.pos) (by decide)))
 have ha3 := ha.kept hkT
 have hd3 := DgR.kept hd hkD
 have hfin3 := hfin
 simp only [List.setIfInBounds_toArray, List.set_cons_zero, List.set_cons_succ] at hfin3
 generalize hw3 : (((((((((w2.setCell ⟨w.heap.size, 0, none⟩ (.int .i64 x.kind)).setCell ⟨w.heap.size, 1, none⟩ (.string (bs x.name))).setCell ⟨w.heap.size, 2, none⟩ (.int .i64 x.pred)).setCell ⟨w.heap.size, 3, none⟩ (.slice aA x.args.length aC)).setCell ⟨w.heap.size, 4, none⟩ (.string (bs x.bnd))).setCell ⟨w.heap.size, 5, none⟩ (.string (bs x.elem))).setCell ⟨w.heap.size, 6, none⟩ (.int .i64 x.least)).setCell ⟨w.heap.size, 7, none⟩ (.int .i64 x.op)).setCell ⟨w.heap.size, 8, none⟩ (.int .i64 x.pos)) = w3 at hput ha3 hd3 hfin3 ⊢
 clear hw3 hkT hkD ha hd hfin
 refine bodyPost_ret (results_cell_row_tmp rfl _ _ w.heap.size 58 _ (0, 0) _ rfl hfin3 Tryd.underlying58 rfl (by kernel_rfl)) rfl ?_
 exact ⟨(hb1.trans (hb2.mono hb1.size)).trans hput, _, d, rfl, ha3, hd3⟩
end Go.Proofs.YtpcmlkpnjimbiaaDoor
