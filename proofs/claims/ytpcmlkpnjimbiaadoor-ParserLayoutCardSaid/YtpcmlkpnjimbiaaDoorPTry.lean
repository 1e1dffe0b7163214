/- The closure that catches a wrong token. -/
import Derived.Test.YtpcmlkpnjimbiaaDoorPItem0
import Derived.Defers
import Derived.Recover
import Derived.Test.YtpcmlkpnjimbiaaDoorPRule
import Derived.Test.YtpcmlkpnjimbiaaDoorPPred
import Derived.Test.YtpcmlkpnjimbiaaDoorPFun
import Derived.Test.YtpcmlkpnjimbiaaDoorPLat
namespace Go.Proofs.YtpcmlkpnjimbiaaDoor
set_option linter.unusedVariables false
set_option linter.unusedSimpArgs false
open Go.RowKit
theorem hmf_any : ∀ (fn : Fn) (first cap : Array Value) (w : World), (Instr.makeFunc fn first cap).run Tryd.prog w = .ok (.func fn first cap) w := fun _ _ _ _ => rfl
theorem nil_eq (w : World) : (binOp BinOp.eql 20 .nilIface .nilIface).run Tryd.prog w = .ok (.bool true) w := by kernel_rfl
theorem wrong_eq (v : Value) (w : World) : (binOp BinOp.eql 20 (.iface 113 v) .nilIface).run Tryd.prog w = .ok (.bool false) w := by kernel_rfl
theorem wrong_is (er po : Int) (w : World) : (Instr.typeAssert (.iface 113 (.agg #[.int .i64 er, .int .i64 po])) 20 113 true).run Tryd.prog w = .ok (.tuple #[.agg #[.int .i64 er, .int .i64 po], .bool true]) w := by kernel_rfl
theorem tmps_at (x y : Value) : #[x] ++ (Array.replicate 15 undef).setIfInBounds 3 y = #[x, undef, undef, undef, y, undef, undef, undef, undef, undef, undef, undef, undef, undef, undef, undef] := by rfl
set_option maxRecDepth 100000 in
theorem catch_idle (p : Nat) (w : World) : CallsD Tryd.prog 59 #[.pointer (some ⟨p, 0, none⟩)] .returning w fun e u' w' => e = .returned (.tuple #[]) ∧ u' = .returning ∧ w' = w := by
 refine callsD_of_wpS Tryd.func59 rfl fun c₀ cs hu => ?_
 apply wpS_seq
 apply wpS_region
 simp [wpOpsS, go_sem, recoverD, hu, Tryd.ntmps59, Exit.thenS]
 refine wpS_of_wp ?_
 rw [tmps_at]
 have h1 := nil_eq
 go_wp2_with fail
 cases c₀
 simp_all [bodyPostS, results, Tryd.results59]
set_option maxRecDepth 100000 in
theorem catch_wrong (p : Nat) (er po : Int) (w : World) (hat : At w p 35 #[.slice none 0 0]) :
  CallsD Tryd.prog 59 #[.pointer (some ⟨p, 0, none⟩)] (.panicking ({ v := .iface 113 (.agg #[.int .i64 er, .int .i64 po]), recovered := false } :: [])) w fun e u' w' =>
   e = .returned (.tuple #[]) ∧ u' = .panicking ({ v := .iface 113 (.agg #[.int .i64 er, .int .i64 po]), recovered := true } :: []) ∧ ∃ g, Below w.heap.size (w.setCell ⟨p, 0, none⟩ (.slice (some ⟨g, 0, none⟩) 1 1)) w' ∧ At w' g 43 #[.int .i64 er, .int .i64 po] := by
 refine callsD_of_wpS Tryd.func59 rfl fun c₀ cs hu => ?_
 apply wpS_seq
 apply wpS_region
 simp [wpOpsS, go_sem, recoverD, hu, Tryd.ntmps59, Exit.thenS]
 refine wpS_of_wp ?_
 rw [tmps_at]
 have h1 := wrong_eq (.agg #[.int .i64 er, .int .i64 po])
 have h2 := wrong_is er po
 have y0 := hat.cell 0
 have f0 := hat.frozen 0
 have l0 := hat.lt
 simp only [List.getElem?_toArray, List.getElem?_cons_zero, List.getElem?_cons_succ] at y0
 go_wp2_with fail
 clear y0 f0
 generalize hW : ((w.setCell ⟨p, 0, none⟩ (.slice (some ⟨w.heap.size + 1, 0, none⟩) 1 1)).alloc (.cells #[.int .i64 er, .int .i64 po] 113)).alloc (.cells #[.int .i64 er, .int .i64 po] 43) = W
 have hb : Below w.heap.size (w.setCell ⟨p, 0, none⟩ (.slice (some ⟨w.heap.size + 1, 0, none⟩) 1 1)) W := by
  rw [← hW]
  exact ((Below.refl _ _).alloc (by simp) _).alloc (by simp) _
 have ha : At W (w.heap.size + 1) 43 #[.int .i64 er, .int .i64 po] := by
  rw [← hW]
  exact At.newAt (by simp) _ _
 cases c₀
 simp_all [bodyPostS, results, Tryd.results59]
 exact ⟨_, hb, ha⟩
end Go.Proofs.YtpcmlkpnjimbiaaDoor
namespace Go.Proofs.YtpcmlkpnjimbiaaDoor
set_option linter.unusedVariables false
set_option linter.unusedSimpArgs false
open Go.RowKit
theorem own_all {w w' : World} {B : Nat} {o : Outs} {P : Ap.Pg} (h : Outw w B o P) (k : KeptAll w w') : Outw w' B o P := by
 obtain ⟨⟨r1, a1, b1⟩, ⟨r2, a2, b2⟩, ⟨r3, a3, b3⟩, ⟨r4, a4, b4⟩⟩ := h
 have K : ∀ e ∈ [77, 94, 73, 66, 58, 71, 9, 116, 3], Kept e w w' := k
 exact ⟨⟨r1, own_keptT a1 (K _ (by simp)), b1.kept (LaR.kept (K _ (by simp)) (K _ (by simp)))⟩, ⟨r2, own_keptT a2 (K _ (by simp)), b2.kept (FuR.kept (K _ (by simp)) (K _ (by simp)))⟩, ⟨r3, own_keptT a3 (K _ (by simp)), b3.kept (PrR.kept (K _ (by simp)))⟩, ⟨r4, own_keptT a4 (K _ (by simp)), b4.kept (RuR.kept (K _ (by simp)) (K _ (by simp)))⟩⟩
theorem Outw.kept {w w' : World} {B : Nat} {o : Outs} {P : Ap.Pg} (h : Outw w B o P) (k : KeptAll w w') : Outw w' B o P := own_all h k
theorem At.keptX {w w' : World} {g : Nat} {cs : Array Value} {t : TypeId} (h : At w g t cs) (k : KeptX w w') (ht : t ∉ [87, 77, 94, 73, 66]) : At w' g t cs := k g _ h fun e he cur fr hh => by
 injection hh with _ h2 _
 exact ht (h2 ▸ he)
section
variable {w : World} {rb : Nat} {TA : Option Addr} {tc : Nat} {ts : List Lx.Tok} {sz i : Nat} {o : Outs}
/-- How try ends. -/
def TPost {α : Type} (w : World) (rb : Nat) (TA : Option Addr) (tc : Nat) (ts : List Lx.Tok) (sz B : Nat) (P : Ap.Pg) (add : Ap.Pg → α → Ap.Pg) (r : Px.R α) (e : Ending) (w' : World) : Prop := match r with
 | .ok x j => e = .returned (.slice none 0 0) ∧ Below rb w w' ∧ KeptX w w' ∧ ∃ o', Rd w' rb TA tc ts sz j o' ∧ Outw w' B o' (add P x)
 | .fail j => (∃ g, e = .returned (.slice (some ⟨g, 0, none⟩) 1 1) ∧ At w' g 43 #[.int .i64 (if j < ts.length then 50 else 51), .int .i64 (tokAt ts sz j).pos]) ∧ Below rb w w' ∧ KeptX w w' ∧ ∃ o', Rd w' rb TA tc ts sz j o' ∧ Outw w' B o' P
theorem KeptX.past {w1 w2 w4 : World} {p : Nat} (h1 : KeptX w w1) (h2 : KeptX w1 w2) (hp : w.heap.size ≤ p) (h : ∀ g, g < w2.heap.size → g ≠ p → w4.heap[g]? = w2.heap[g]?) : KeptX w w4 := fun g ob hh hx => by
 have h3 := (h1.trans h2) g ob hh hx
 have hg := (Array.getElem?_eq_some_iff.1 hh).1
 exact (h g (Array.getElem?_eq_some_iff.1 h3).1 (by omega)).trans h3
/-- Behind a store into the variable of the diagnostics. -/
theorem past {w2 w' : World} {B j p : Nat} {o2 : Outs} {P : Ap.Pg} {cs : Array Value} (hr : Rd w2 rb TA tc ts sz j o2) (ho : Outw w2 B o2 P) (hB : rb < B) (hp : At w2 p 35 cs) (hpr : rb < p) (u : Value) (hb : Below (w2.setCell ⟨p, 0, none⟩ u).heap.size (w2.setCell ⟨p, 0, none⟩ u) w') : Rd w' rb TA tc ts sz j o2 ∧ Outw w' B o2 P ∧ Below rb w2 w' ∧ ∀ g, g < w2.heap.size → g ≠ p → w'.heap[g]? = w2.heap[g]? := by
 have hl := hr.box.lt
 have k : ∀ e, 35 ≠ e → Kept e w2 w' := fun e he => (Kept.put hp 0 u he).trans (Kept.below hb e)
 have hbl : Below rb w2 w' := ((Below.refl rb w2).setCell (p := ⟨p, 0, none⟩) (Nat.le_of_lt hpr) u).trans (hb.mono (by simp; omega))
 refine ⟨hr.turn hbl ?_ hr.few.2.2, ho.kept fun e he => k e ?_, hbl, fun g hg hne => (hb.block g (by simpa using hg)).trans (Below.heap_setCell w2 ⟨p, 0, none⟩ u g hne)⟩
 ·exact k _ (by decide) _ _ _ hr.box
 ·simp at he
  rcases he with rfl | rfl | rfl | rfl | rfl | rfl | rfl | rfl | rfl <;> decide
set_option maxHeartbeats 1000000 in
set_option maxRecDepth 100000 in
theorem try_rule {B : Nat} {P : Ap.Pg} (h : Rd w rb TA tc ts sz i o) (ho : Outw w B o P) (hB : rb < B) (hBs : B ≤ w.heap.size) (hP : P.rules.length ≤ 100000) : Calls Tryd.prog 31 #[.pointer (some ⟨rb, 0, none⟩), .func (.func 30) #[.pointer (some ⟨rb, 0, none⟩)] #[]] w (TPost w rb TA tc ts sz B P (fun P x => { P with rules := P.rules ++ [x.ap (offI ts sz)] }) (Px.rule (Px.kts ts) i)) := by
 have hmf := hmf_any
 have hb1 := below1 w (.cells #[.slice none 0 0] 35)
 have hr1 := h.next hb1
 have ho1 := ho.kept (KeptAll.below hb1)
 have hp1 := At.new w 35 #[.slice none 0 0]
 have hl := h.box.lt
 have HC0 := rule_any hr1 ho1 hB (Nat.le_trans hBs hb1.size) hP
 have hR := Lib.hid hb1
 have H := Lib.hid h
 cases hp : Px.rule (Px.kts ts) i with
 | ok x j =>
  rw [hp] at HC0
  have HC := Lib.hid HC0
  clear HC0 hp
  go_enter_defers Tryd.func31, Tryd.ntmps31
  go_wp2_with (go_at_call 30; refine (HC.out).mono ?_; rintro e w2 ⟨rfl, hb2, hk2, o2, hr2, ho2⟩; have hp2 := At.keptX hp1 hk2 (by decide); have y0 := hp2.cell 0; have f0 := hp2.frozen 0; have l0 := hp2.lt; simp only [List.getElem?_toArray, List.getElem?_cons_zero, List.getElem?_cons_succ] at y0; clear HC)
  clear y0 f0 l0
  have hp3 := hp2.put 0 (.slice none 0 0)
  simp only [List.setIfInBounds_toArray, List.set_cons_zero, List.set_cons_succ] at hp3
  have hsz := Nat.le_trans (Nat.le_of_lt hl) (Nat.le_of_lt hp2.lt)
  obtain ⟨q1, q2, q3, q4⟩ := past hr2 ho2 hB hp2 (show rb < w.heap.size from hl) (.slice none 0 0) (Below.refl _ _)
  generalize hw3 : w2.setCell ⟨w.heap.size, 0, none⟩ (.slice none 0 0) = w3 at hp3 q1 q2 q3 q4 ⊢
  clear hw3
  refine leaves_cons (f := 59) (args := #[.pointer (some ⟨w.heap.size, 0, none⟩)]) (by simp) (by simp [go_sem]) ?_
  refine (catch_idle _ _).mono ?_
  rintro e u' w4 ⟨rfl, rfl, rfl⟩
  have y3 := hp3.cell 0
  simp only [List.getElem?_toArray, List.getElem?_cons_zero] at y3
  simp [Leaves, settle, results, Tryd.results31, go_sem, y3]
  exact ⟨rfl, (hR.out.mono (Nat.le_of_lt hl)).trans (hb2.trans q3), KeptX.past (KeptX.below hR.out) hk2 (Nat.le_refl _) q4, o2, q1, q2⟩
 | fail j =>
  rw [hp] at HC0
  have HC := Lib.hid HC0
  clear HC0 hp
  go_enter_defers Tryd.func31, Tryd.ntmps31
  go_wp2_with (go_at_call 30; refine (HC.out).mono ?_; rintro e w2 ⟨rfl, hb2, hk2, o2, hr2, ho2⟩; have hp2 := At.keptX hp1 hk2 (by decide); clear HC)
  unfold wrongC wrongV
  refine leaves_cons (f := 59) (args := #[.pointer (some ⟨w.heap.size, 0, none⟩)]) (by simp) (by simp [go_sem]) ?_
  refine (catch_wrong _ _ _ _ hp2).mono ?_
  rintro e u' w4 ⟨rfl, rfl, g, hb4, hg4⟩
  have hb5 : Below (w2.setCell ⟨w.heap.size, 0, none⟩ (.slice (some ⟨g, 0, none⟩) 1 1)).heap.size (w2.setCell ⟨w.heap.size, 0, none⟩ (.slice (some ⟨g, 0, none⟩) 1 1)) w4 := hb4.mono (by simp)
  obtain ⟨q1, q2, q3, q4⟩ := past hr2 ho2 hB hp2 (show rb < w.heap.size from hl) (.slice (some ⟨g, 0, none⟩) 1 1) hb5
  have hp3 := (hp2.put 0 (.slice (some ⟨g, 0, none⟩) 1 1)).next hb5
  simp only [List.setIfInBounds_toArray, List.set_cons_zero, List.set_cons_succ] at hp3
  have y3 := hp3.cell 0
  simp only [List.getElem?_toArray, List.getElem?_cons_zero] at y3
  clear hb4 hb5
  simp [Leaves, settle, results, Tryd.results31, go_sem, y3]
  exact ⟨⟨g, rfl, hg4⟩, (hR.out.mono (Nat.le_of_lt hl)).trans (hb2.trans q3), KeptX.past (KeptX.below hR.out) hk2 (Nat.le_refl _) q4, o2, q1, q2⟩

set_option maxHeartbeats 1000000 in
set_option maxRecDepth 100000 in
theorem try_pred {B : Nat} {P : Ap.Pg} (h : Rd w rb TA tc ts sz i o) (ho : Outw w B o P) (hB : rb < B) (hBs : B ≤ w.heap.size) (hP : P.preds.length ≤ 100000) (hlt : i < ts.length) : Calls Tryd.prog 31 #[.pointer (some ⟨rb, 0, none⟩), .func (.func 53) #[.pointer (some ⟨rb, 0, none⟩)] #[]] w (TPost w rb TA tc ts sz B P (fun P x => { P with preds := P.preds ++ [x.ap (offI ts sz)] }) (Px.pred (Px.kts ts) i)) := by
 have hmf := hmf_any
 have hb1 := below1 w (.cells #[.slice none 0 0] 35)
 have hr1 := h.next hb1
 have ho1 := ho.kept (KeptAll.below hb1)
 have hp1 := At.new w 35 #[.slice none 0 0]
 have hl := h.box.lt
 have HC0 := pred_any hr1 ho1 hB (Nat.le_trans hBs hb1.size) hP hlt
 have hR := Lib.hid hb1
 have H := Lib.hid h
 cases hp : Px.pred (Px.kts ts) i with
 | ok x j =>
  rw [hp] at HC0
  have HC := Lib.hid HC0
  clear HC0 hp
  go_enter_defers Tryd.func31, Tryd.ntmps31
  go_wp2_with (go_at_call 53; refine (HC.out).mono ?_; rintro e w2 ⟨rfl, hb2, hk2, o2, hr2, ho2⟩; have hp2 := At.keptX hp1 hk2 (by decide); have y0 := hp2.cell 0; have f0 := hp2.frozen 0; have l0 := hp2.lt; simp only [List.getElem?_toArray, List.getElem?_cons_zero, List.getElem?_cons_succ] at y0; clear HC)
  clear y0 f0 l0
  have hp3 := hp2.put 0 (.slice none 0 0)
  simp only [List.setIfInBounds_toArray, List.set_cons_zero, List.set_cons_succ] at hp3
  have hsz := Nat.le_trans (Nat.le_of_lt hl) (Nat.le_of_lt hp2.lt)
  obtain ⟨q1, q2, q3, q4⟩ := past hr2 ho2 hB hp2 (show rb < w.heap.size from hl) (.slice none 0 0) (Below.refl _ _)
  generalize hw3 : w2.setCell ⟨w.heap.size, 0, none⟩ (.slice none 0 0) = w3 at hp3 q1 q2 q3 q4 ⊢
  clear hw3
  refine leaves_cons (f := 59) (args := #[.pointer (some ⟨w.heap.size, 0, none⟩)]) (by simp) (by simp [go_sem]) ?_
  refine (catch_idle _ _).mono ?_
  rintro e u' w4 ⟨rfl, rfl, rfl⟩
  have y3 := hp3.cell 0
  simp only [List.getElem?_toArray, List.getElem?_cons_zero] at y3
  simp [Leaves, settle, results, Tryd.results31, go_sem, y3]
  exact ⟨rfl, (hR.out.mono (Nat.le_of_lt hl)).trans (hb2.trans q3), KeptX.past (KeptX.below hR.out) hk2 (Nat.le_refl _) q4, o2, q1, q2⟩
 | fail j =>
  rw [hp] at HC0
  have HC := Lib.hid HC0
  clear HC0 hp
  go_enter_defers Tryd.func31, Tryd.ntmps31
  go_wp2_with (go_at_call 53; refine (HC.out).mono ?_; rintro e w2 ⟨rfl, hb2, hk2, o2, hr2, ho2⟩; have hp2 := At.keptX hp1 hk2 (by decide); clear HC)
  unfold wrongC wrongV
  refine leaves_cons (f := 59) (args := #[.pointer (some ⟨w.heap.size, 0, none⟩)]) (by simp) (by simp [go_sem]) ?_
  refine (catch_wrong _ _ _ _ hp2).mono ?_
  rintro e u' w4 ⟨rfl, rfl, g, hb4, hg4⟩
  have hb5 : Below (w2.setCell ⟨w.heap.size, 0, none⟩ (.slice (some ⟨g, 0, none⟩) 1 1)).heap.size (w2.setCell ⟨w.heap.size, 0, none⟩ (.slice (some ⟨g, 0, none⟩) 1 1)) w4 := hb4.mono (by simp)
  obtain ⟨q1, q2, q3, q4⟩ := past hr2 ho2 hB hp2 (show rb < w.heap.size from hl) (.slice (some ⟨g, 0, none⟩) 1 1) hb5
  have hp3 := (hp2.put 0 (.slice (some ⟨g, 0, none⟩) 1 1)).next hb5
  simp only [List.setIfInBounds_toArray, List.set_cons_zero, List.set_cons_succ] at hp3
  have y3 := hp3.cell 0
  simp only [List.getElem?_toArray, List.getElem?_cons_zero] at y3
  clear hb4 hb5
  simp [Leaves, settle, results, Tryd.results31, go_sem, y3]
  exact ⟨⟨g, rfl, hg4⟩, (hR.out.mono (Nat.le_of_lt hl)).trans (hb2.trans q3), KeptX.past (KeptX.below hR.out) hk2 (Nat.le_refl _) q4, o2, q1, q2⟩

set_option maxHeartbeats 1000000 in
set_option maxRecDepth 100000 in
theorem try_function {B : Nat} {P : Ap.Pg} (h : Rd w rb TA tc ts sz i o) (ho : Outw w B o P) (hB : rb < B) (hBs : B ≤ w.heap.size) (hP : P.funs.length ≤ 100000) (hlt : i < ts.length) : Calls Tryd.prog 31 #[.pointer (some ⟨rb, 0, none⟩), .func (.func 52) #[.pointer (some ⟨rb, 0, none⟩)] #[]] w (TPost w rb TA tc ts sz B P (fun P x => { P with funs := P.funs ++ [x.ap (offI ts sz)] }) (Px.function (Px.kts ts) i)) := by
 have hmf := hmf_any
 have hb1 := below1 w (.cells #[.slice none 0 0] 35)
 have hr1 := h.next hb1
 have ho1 := ho.kept (KeptAll.below hb1)
 have hp1 := At.new w 35 #[.slice none 0 0]
 have hl := h.box.lt
 have HC0 := function_any hr1 ho1 hB (Nat.le_trans hBs hb1.size) hP hlt
 have hR := Lib.hid hb1
 have H := Lib.hid h
 cases hp : Px.function (Px.kts ts) i with
 | ok x j =>
  rw [hp] at HC0
  have HC := Lib.hid HC0
  clear HC0 hp
  go_enter_defers Tryd.func31, Tryd.ntmps31
  go_wp2_with (go_at_call 52; refine (HC.out).mono ?_; rintro e w2 ⟨rfl, hb2, hk2, o2, hr2, ho2⟩; have hp2 := At.keptX hp1 hk2 (by decide); have y0 := hp2.cell 0; have f0 := hp2.frozen 0; have l0 := hp2.lt; simp only [List.getElem?_toArray, List.getElem?_cons_zero, List.getElem?_cons_succ] at y0; clear HC)
  clear y0 f0 l0
  have hp3 := hp2.put 0 (.slice none 0 0)
  simp only [List.setIfInBounds_toArray, List.set_cons_zero, List.set_cons_succ] at hp3
  have hsz := Nat.le_trans (Nat.le_of_lt hl) (Nat.le_of_lt hp2.lt)
  obtain ⟨q1, q2, q3, q4⟩ := past hr2 ho2 hB hp2 (show rb < w.heap.size from hl) (.slice none 0 0) (Below.refl _ _)
  generalize hw3 : w2.setCell ⟨w.heap.size, 0, none⟩ (.slice none 0 0) = w3 at hp3 q1 q2 q3 q4 ⊢
  clear hw3
  refine leaves_cons (f := 59) (args := #[.pointer (some ⟨w.heap.size, 0, none⟩)]) (by simp) (by simp [go_sem]) ?_
  refine (catch_idle _ _).mono ?_
  rintro e u' w4 ⟨rfl, rfl, rfl⟩
  have y3 := hp3.cell 0
  simp only [List.getElem?_toArray, List.getElem?_cons_zero] at y3
  simp [Leaves, settle, results, Tryd.results31, go_sem, y3]
  exact ⟨rfl, (hR.out.mono (Nat.le_of_lt hl)).trans (hb2.trans q3), KeptX.past (KeptX.below hR.out) hk2 (Nat.le_refl _) q4, o2, q1, q2⟩
 | fail j =>
  rw [hp] at HC0
  have HC := Lib.hid HC0
  clear HC0 hp
  go_enter_defers Tryd.func31, Tryd.ntmps31
  go_wp2_with (go_at_call 52; refine (HC.out).mono ?_; rintro e w2 ⟨rfl, hb2, hk2, o2, hr2, ho2⟩; have hp2 := At.keptX hp1 hk2 (by decide); clear HC)
  unfold wrongC wrongV
  refine leaves_cons (f := 59) (args := #[.pointer (some ⟨w.heap.size, 0, none⟩)]) (by simp) (by simp [go_sem]) ?_
  refine (catch_wrong _ _ _ _ hp2).mono ?_
  rintro e u' w4 ⟨rfl, rfl, g, hb4, hg4⟩
  have hb5 : Below (w2.setCell ⟨w.heap.size, 0, none⟩ (.slice (some ⟨g, 0, none⟩) 1 1)).heap.size (w2.setCell ⟨w.heap.size, 0, none⟩ (.slice (some ⟨g, 0, none⟩) 1 1)) w4 := hb4.mono (by simp)
  obtain ⟨q1, q2, q3, q4⟩ := past hr2 ho2 hB hp2 (show rb < w.heap.size from hl) (.slice (some ⟨g, 0, none⟩) 1 1) hb5
  have hp3 := (hp2.put 0 (.slice (some ⟨g, 0, none⟩) 1 1)).next hb5
  simp only [List.setIfInBounds_toArray, List.set_cons_zero, List.set_cons_succ] at hp3
  have y3 := hp3.cell 0
  simp only [List.getElem?_toArray, List.getElem?_cons_zero] at y3
  clear hb4 hb5
  simp [Leaves, settle, results, Tryd.results31, go_sem, y3]
  exact ⟨⟨g, rfl, hg4⟩, (hR.out.mono (Nat.le_of_lt hl)).trans (hb2.trans q3), KeptX.past (KeptX.below hR.out) hk2 (Nat.le_refl _) q4, o2, q1, q2⟩

set_option maxHeartbeats 1000000 in
set_option maxRecDepth 100000 in
theorem try_lattice {B : Nat} {P : Ap.Pg} (h : Rd w rb TA tc ts sz i o) (ho : Outw w B o P) (hB : rb < B) (hBs : B ≤ w.heap.size) (hP : P.lats.length ≤ 100000) (hlt : i < ts.length) : Calls Tryd.prog 31 #[.pointer (some ⟨rb, 0, none⟩), .func (.func 51) #[.pointer (some ⟨rb, 0, none⟩)] #[]] w (TPost w rb TA tc ts sz B P (fun P x => { P with lats := P.lats ++ [x.ap (offI ts sz)] }) (Px.lattice (Px.kts ts) i)) := by
 have hmf := hmf_any
 have hb1 := below1 w (.cells #[.slice none 0 0] 35)
 have hr1 := h.next hb1
 have ho1 := ho.kept (KeptAll.below hb1)
 have hp1 := At.new w 35 #[.slice none 0 0]
 have hl := h.box.lt
 have HC0 := lattice_any hr1 ho1 hB (Nat.le_trans hBs hb1.size) hP hlt
 have hR := Lib.hid hb1
 have H := Lib.hid h
 cases hp : Px.lattice (Px.kts ts) i with
 | ok x j =>
  rw [hp] at HC0
  have HC := Lib.hid HC0
  clear HC0 hp
  go_enter_defers Tryd.func31, Tryd.ntmps31
  go_wp2_with (go_at_call 51; refine (HC.out).mono ?_; rintro e w2 ⟨rfl, hb2, hk2, o2, hr2, ho2⟩; have hp2 := At.keptX hp1 hk2 (by decide); have y0 := hp2.cell 0; have f0 := hp2.frozen 0; have l0 := hp2.lt; simp only [List.getElem?_toArray, List.getElem?_cons_zero, List.getElem?_cons_succ] at y0; clear HC)
  clear y0 f0 l0
  have hp3 := hp2.put 0 (.slice none 0 0)
  simp only [List.setIfInBounds_toArray, List.set_cons_zero, List.set_cons_succ] at hp3
  have hsz := Nat.le_trans (Nat.le_of_lt hl) (Nat.le_of_lt hp2.lt)
  obtain ⟨q1, q2, q3, q4⟩ := past hr2 ho2 hB hp2 (show rb < w.heap.size from hl) (.slice none 0 0) (Below.refl _ _)
  generalize hw3 : w2.setCell ⟨w.heap.size, 0, none⟩ (.slice none 0 0) = w3 at hp3 q1 q2 q3 q4 ⊢
  clear hw3
  refine leaves_cons (f := 59) (args := #[.pointer (some ⟨w.heap.size, 0, none⟩)]) (by simp) (by simp [go_sem]) ?_
  refine (catch_idle _ _).mono ?_
  rintro e u' w4 ⟨rfl, rfl, rfl⟩
  have y3 := hp3.cell 0
  simp only [List.getElem?_toArray, List.getElem?_cons_zero] at y3
  simp [Leaves, settle, results, Tryd.results31, go_sem, y3]
  exact ⟨rfl, (hR.out.mono (Nat.le_of_lt hl)).trans (hb2.trans q3), KeptX.past (KeptX.below hR.out) hk2 (Nat.le_refl _) q4, o2, q1, q2⟩
 | fail j =>
  rw [hp] at HC0
  have HC := Lib.hid HC0
  clear HC0 hp
  go_enter_defers Tryd.func31, Tryd.ntmps31
  go_wp2_with (go_at_call 51; refine (HC.out).mono ?_; rintro e w2 ⟨rfl, hb2, hk2, o2, hr2, ho2⟩; have hp2 := At.keptX hp1 hk2 (by decide); clear HC)
  unfold wrongC wrongV
  refine leaves_cons (f := 59) (args := #[.pointer (some ⟨w.heap.size, 0, none⟩)]) (by simp) (by simp [go_sem]) ?_
  refine (catch_wrong _ _ _ _ hp2).mono ?_
  rintro e u' w4 ⟨rfl, rfl, g, hb4, hg4⟩
  have hb5 : Below (w2.setCell ⟨w.heap.size, 0, none⟩ (.slice (some ⟨g, 0, none⟩) 1 1)).heap.size (w2.setCell ⟨w.heap.size, 0, none⟩ (.slice (some ⟨g, 0, none⟩) 1 1)) w4 := hb4.mono (by simp)
  obtain ⟨q1, q2, q3, q4⟩ := past hr2 ho2 hB hp2 (show rb < w.heap.size from hl) (.slice (some ⟨g, 0, none⟩) 1 1) hb5
  have hp3 := (hp2.put 0 (.slice (some ⟨g, 0, none⟩) 1 1)).next hb5
  simp only [List.setIfInBounds_toArray, List.set_cons_zero, List.set_cons_succ] at hp3
  have y3 := hp3.cell 0
  simp only [List.getElem?_toArray, List.getElem?_cons_zero] at y3
  clear hb4 hb5
  simp [Leaves, settle, results, Tryd.results31, go_sem, y3]
  exact ⟨⟨g, rfl, hg4⟩, (hR.out.mono (Nat.le_of_lt hl)).trans (hb2.trans q3), KeptX.past (KeptX.below hR.out) hk2 (Nat.le_refl _) q4, o2, q1, q2⟩
end
end Go.Proofs.YtpcmlkpnjimbiaaDoor
