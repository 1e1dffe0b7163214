/- The reference's comparisons of lists: lists that hold the same are equal. -/
import Derived.Test.YtpcmlkpnjimbiaaDoorPDiags
import Derived.ChangeKeysEq
namespace Go.Proofs.YtpcmlkpnjimbiaaDoor
set_option linter.unusedVariables false
set_option linter.unusedSimpArgs false
open Go.RowKit
theorem tm_same (x : Px.T) (w : World) : (Op.equalIn 10000 71 (.agg (tmFs x).toArray) (.agg (tmFs x).toArray)).run Tryd.prog w = .ok true w := by
 unfold tmFs
 simp [go_sem, Tryd.underlying71, Tryd.underlying69, Tryd.underlying9, Tryd.underlying3]
theorem cv_same (a b : Int) (w : World) : (Op.equalIn 10000 116 (.agg #[.int .i64 a, .int .i64 b]) (.agg #[.int .i64 a, .int .i64 b])).run Tryd.prog w = .ok true w := by
 obtain ⟨i, hi⟩ : ∃ i, Tryd.prog.info? 3 = some i := Option.isSome_iff_exists.1 (by kernel_rfl)
 have h := run_equalIn_array w 9999 #[.int .i64 a, .int .i64 b] #[.int .i64 a, .int .i64 b] Tryd.underlying116 hi
 rw [show Tryd.prog.cellsOf 3 = 1 by kernel_rfl, show List.range 2 = [0, 1] from rfl] at h
 have p0 : (part 3 #[.int .i64 a, .int .i64 b] (0 * 1)).run Tryd.prog w = .ok (.int .i64 a) w := run_part_plain w (by kernel_rfl) rfl
 have p1 : (part 3 #[.int .i64 a, .int .i64 b] (1 * 1)).run Tryd.prog w = .ok (.int .i64 b) w := run_part_plain w (by kernel_rfl) rfl
 have q : ∀ z : Int, (Op.equalIn 9999 3 (.int .i64 z) (.int .i64 z)).run Tryd.prog w = .ok true w := fun z => by simp [go_sem, Tryd.underlying3]
 refine h.trans ?_
 simp only [Op.eqItems, Sem.run_bind, p0, p1, Result.andThen_ok, q, Bool.not_true, Bool.false_eq_true, if_false, Sem.run_pure]
set_option maxHeartbeats 1000000 in
set_option maxRecDepth 100000 in
theorem strs_same (v v' : Value) (l : List (List UInt8)) (w : World) (hl : l.length ≤ 1000000) (h : TRow w 9 1 v l.length (sCells l)) (h' : TRow w 9 1 v' l.length (sCells l)) :
  Calls Tryd.prog 61 #[v, v'] w fun e w' => e = .returned (.bool true) ∧ Below w.heap.size w w' := by
 obtain ⟨A, c, rfl⟩ := TRow.slice h
 obtain ⟨A', c', rfl⟩ := TRow.slice h'
 go_enter Tryd.func61, Tryd.ntmps61
 go_wp2_with fail
 go_loopw [5] (fun i wr => ∃ (k nq : Nat), k ≤ l.length ∧ i = .int .i64 k ∧ wr = w.drewN nq) (fun i _ => l.length - (intOf i).toNat)
 case atStart => exact ⟨0, 0, by omega, rfl, rfl⟩
 case round =>
  obtain ⟨k, nq, hk, rfl, rfl⟩ := hrel
  by_cases hlt : k < l.length
  ·obtain ⟨g, o, c1, e1, hg, q1⟩ := h.cells (by omega)
   obtain ⟨g', o', c1', e1', hg', q1'⟩ := h'.cells (by omega)
   have hs : (sCells l)[k]? = some (.string (bs l[k])) := by unfold sCells; rw [List.getElem?_map, List.getElem?_eq_getElem hlt]; rfl
   have c0 := q1 k _ hs
   have d0 := q1' k _ hs
   injection e1 with e1 _ e3
   injection e1' with e1' _ e3'
   subst e1; subst e1'; subst e3; subst e3'
   obtain ⟨x, hx⟩ : ∃ x, bs l[k] = x := ⟨_, rfl⟩
   rw [hx] at c0 d0
   clear h h' hs q1 q1' hx
   go_wp2_with fail
   go_quiet (fail)
   go_wp2_with fail
   go_roundw
   case rel => exact ⟨k + 1, _, by omega, by go_num, rfl⟩
   case measure => simp [intOf]; omega
  ·go_wp2_with fail
   go_ret
   exact ⟨rfl, below_drewN (Below.refl _ _) _⟩
set_option maxHeartbeats 1000000 in
set_option maxRecDepth 100000 in
theorem ints_same (v v' : Value) (l : List Int) (w : World) (hl : l.length ≤ 1000000) (h : TRow w 3 1 v l.length (iCells l)) (h' : TRow w 3 1 v' l.length (iCells l)) :
  Calls Tryd.prog 62 #[v, v'] w fun e w' => e = .returned (.bool true) ∧ Below w.heap.size w w' := by
 obtain ⟨A, c, rfl⟩ := TRow.slice h
 obtain ⟨A', c', rfl⟩ := TRow.slice h'
 go_enter Tryd.func62, Tryd.ntmps62
 go_wp2_with fail
 go_loopw [5] (fun i wr => ∃ (k nq : Nat), k ≤ l.length ∧ i = .int .i64 k ∧ wr = w.drewN nq) (fun i _ => l.length - (intOf i).toNat)
 case atStart => exact ⟨0, 0, by omega, rfl, rfl⟩
 case round =>
  obtain ⟨k, nq, hk, rfl, rfl⟩ := hrel
  by_cases hlt : k < l.length
  ·obtain ⟨g, o, c1, e1, hg, q1⟩ := h.cells (by omega)
   obtain ⟨g', o', c1', e1', hg', q1'⟩ := h'.cells (by omega)
   obtain ⟨x, hx⟩ : ∃ x, l[k] = x := ⟨_, rfl⟩
   have hs : (iCells l)[k]? = some (.int .i64 x) := by unfold iCells; rw [List.getElem?_map, List.getElem?_eq_getElem hlt, hx]; rfl
   have c0 := q1 k _ hs
   have d0 := q1' k _ hs
   injection e1 with e1 _ e3
   injection e1' with e1' _ e3'
   subst e1; subst e1'; subst e3; subst e3'
   clear h h' hs q1 q1' hx
   go_wp2_with fail
   go_quiet (fail)
   go_wp2_with fail
   go_roundw
   case rel => exact ⟨k + 1, _, by omega, by go_num, rfl⟩
   case measure => simp [intOf]; omega
  ·go_wp2_with fail
   go_ret
   exact ⟨rfl, below_drewN (Below.refl _ _) _⟩
theorem tm_flat (l : List Px.T) {k : Nat} {x : Px.T} (h : l[k]? = some x) : ∀ (j : Nat) (u : Value), (tmFs x)[j]? = some u → (tmCells l)[k * 4 + j]? = some u := by
 have e : tmCells l = (l.map tmFs).flatten := by unfold tmCells; rw [List.flatMap_def]
 rw [e]
 have hk : ∀ r ∈ l.map tmFs, r.length = 4 := fun r hr => by
  obtain ⟨x, _, rfl⟩ := List.mem_map.1 hr; rfl
 have hm : (l.map tmFs)[k]? = some (tmFs x) := by rw [List.getElem?_map, h]; rfl
 exact fun j u hj => flat_at _ hk k _ hm j u hj
set_option maxHeartbeats 1000000 in
set_option maxRecDepth 100000 in
theorem tms_same (v v' : Value) (l : List Px.T) (w : World) (hl : l.length ≤ 1000000) (h : TRow w 71 4 v l.length (tmCells l)) (h' : TRow w 71 4 v' l.length (tmCells l)) :
  Calls Tryd.prog 46 #[v, v'] w fun e w' => e = .returned (.bool true) ∧ Below w.heap.size w w' := by
 obtain ⟨A, c, rfl⟩ := TRow.slice h
 obtain ⟨A', c', rfl⟩ := TRow.slice h'
 go_enter Tryd.func46, Tryd.ntmps46
 go_wp2_with fail
 go_loopw [5] (fun i wr => ∃ (k nq : Nat), k ≤ l.length ∧ i = .int .i64 k ∧ wr = w.drewN nq) (fun i _ => l.length - (intOf i).toNat)
 case atStart => exact ⟨0, 0, by omega, rfl, rfl⟩
 case round =>
  obtain ⟨k, nq, hk, rfl, rfl⟩ := hrel
  by_cases hlt : k < l.length
  ·obtain ⟨g, o, c1, e1, hg, q1⟩ := h.cells (by omega)
   obtain ⟨g', o', c1', e1', hg', q1'⟩ := h'.cells (by omega)
   obtain ⟨x, hx⟩ : ∃ x, l[k]? = some x := ⟨_, List.getElem?_eq_getElem hlt⟩
   have hf := tm_flat l hx
   have c0 := q1 _ _ (hf 0 _ rfl)
   have c1 := q1 _ _ (hf 1 _ rfl)
   have c2 := q1 _ _ (hf 2 _ rfl)
   have c3 := q1 _ _ (hf 3 _ rfl)
   have d0 := q1' _ _ (hf 0 _ rfl)
   have d1 := q1' _ _ (hf 1 _ rfl)
   have d2 := q1' _ _ (hf 2 _ rfl)
   have d3 := q1' _ _ (hf 3 _ rfl)
   simp only [Nat.add_zero, ← Nat.add_assoc] at c0 c1 c2 c3 d0 d1 d2 d3
   injection e1 with e1 _ e3
   injection e1' with e1' _ e3'
   subst e1; subst e1'; subst e3; subst e3'
   have hq := fun W => tm_same x W
   unfold tmFs at hq
   clear h h' hf q1 q1' hx
   go_wp2_with fail
   go_quiet (fail)
   go_wp2_with fail
   go_roundw
   case rel => exact ⟨k + 1, _, by omega, by go_num, rfl⟩
   case measure => simp [intOf]; omega
  ·go_wp2_with fail
   go_ret
   exact ⟨rfl, below_drewN (Below.refl _ _) _⟩
end Go.Proofs.YtpcmlkpnjimbiaaDoor
namespace Go.Proofs.YtpcmlkpnjimbiaaDoor
set_option linter.unusedVariables false
set_option linter.unusedSimpArgs false
open Go.RowKit
theorem cv_flat (l : List (Int × Int)) {k : Nat} {x : Int × Int} (h : l[k]? = some x) : (cvCells l)[k * 2]? = some (.int .i64 x.1) ∧ (cvCells l)[k * 2 + 1]? = some (.int .i64 x.2) := by
 have e : cvCells l = (l.map fun c => [Value.int .i64 c.1, .int .i64 c.2]).flatten := by unfold cvCells; rw [List.flatMap_def]
 rw [e]
 have hk : ∀ r ∈ l.map (fun c : Int × Int => [Value.int .i64 c.1, .int .i64 c.2]), r.length = 2 := fun r hr => by
  obtain ⟨x, _, rfl⟩ := List.mem_map.1 hr; rfl
 have hm : (l.map fun c : Int × Int => [Value.int .i64 c.1, .int .i64 c.2])[k]? = some [.int .i64 x.1, .int .i64 x.2] := by rw [List.getElem?_map, h]; rfl
 exact ⟨flat_at _ hk k _ hm 0 _ rfl, flat_at _ hk k _ hm 1 _ rfl⟩
theorem el_same (x : Ap.El) (w : World) : (Op.equalIn 10000 63 (.agg #[.int .i64 x.kind, .string (bs x.name), .string (bs x.var), .int .i64 x.index]) (.agg #[.int .i64 x.kind, .string (bs x.name), .string (bs x.var), .int .i64 x.index])).run Tryd.prog w = .ok true w := by
 simp [go_sem, Tryd.underlying63, Tryd.underlying9, Tryd.underlying3]
theorem below2 (w : World) (o o' : Obj) : Below w.heap.size w ((w.alloc o).alloc o') := (below1 w o).trans ((below1 (w.alloc o) o').mono (below1 w o).size)
set_option maxHeartbeats 1000000 in
set_option maxRecDepth 100000 in
theorem li_same (x : Ap.Li) (r r' : List Value) (w : World) (hl : x.args.length ≤ 1000000) (h : LiR w r x) (h' : LiR w r' x) :
  Calls Tryd.prog 22 #[.agg r.toArray, .agg r'.toArray] w fun e w' => e = .returned (.bool true) ∧ Below w.heap.size w w' := by
 obtain ⟨a, rfl, ha⟩ := h
 obtain ⟨a', rfl, ha'⟩ := h'
 unfold liFs
 obtain ⟨A, c, rfl⟩ := TRow.slice ha
 obtain ⟨A', c', rfl⟩ := TRow.slice ha'
 have b1 := below2 w (.cells #[.int .i64 x.kind, .string (bs x.name), .int .i64 x.pred, .slice A x.args.length c, .string (bs x.bnd), .string (bs x.elem), .int .i64 x.least, .int .i64 x.op, .int .i64 x.pos] 58) (.cells #[.int .i64 x.kind, .string (bs x.name), .int .i64 x.pred, .slice A' x.args.length c', .string (bs x.bnd), .string (bs x.elem), .int .i64 x.least, .int .i64 x.op, .int .i64 x.pos] 58)
 have HC := Lib.hid (tms_same _ _ x.args _ hl (TRow.below ha b1) (TRow.below ha' b1))
 have HB := Lib.hid b1
 clear ha ha' b1
 go_enter Tryd.func22, Tryd.ntmps22
 go_wp2_with (go_at_call 46; refine (HC.out).mono ?_; rintro e w3 ⟨rfl, hb3⟩; clear HC)
 go_ret
 exact ⟨rfl, HB.out.trans (hb3.mono HB.out.size)⟩
end Go.Proofs.YtpcmlkpnjimbiaaDoor
