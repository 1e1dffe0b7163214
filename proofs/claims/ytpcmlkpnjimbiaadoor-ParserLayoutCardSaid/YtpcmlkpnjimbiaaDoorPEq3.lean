/- The reference's comparisons of lattices, functions, predicates, rules and programs: those that hold the same are equal. -/
import Derived.Test.YtpcmlkpnjimbiaaDoorPEq2
import Derived.Test.YtpcmlkpnjimbiaaDoorInv4
namespace Go.Proofs.YtpcmlkpnjimbiaaDoor
set_option linter.unusedVariables false
set_option linter.unusedSimpArgs false
open Go.RowKit
theorem alloc_size (w : World) (o : Obj) : (w.alloc o).heap.size = w.heap.size + 1 := Array.size_push _
theorem TRows.below {α : Type} {R : World → List Value → α → Prop} {w w' : World} {e : TypeId} {k : Nat} {v : Value} {xs : List α} (h : TRows R w e k v xs) (hb : Below w.heap.size w w') (hR : ∀ r x, R w r x → R w' r x) : TRows R w' e k v xs := h.kept (Kept.below hb e) hR

set_option maxHeartbeats 2000000 in
set_option maxRecDepth 100000 in
theorem fu_same (x : Ap.Fu) (r r' : List Value) (w : World) (hl : x.froms.length ≤ 1000000 ∧ x.tos.length ≤ 1000000 ∧ x.table.length ≤ 1000000) (h : FuR w r x) (h' : FuR w r' x) :
  Calls Tryd.prog 34 #[.agg r.toArray, .agg r'.toArray] w fun e w' => e = .returned (.bool true) ∧ Below w.heap.size w w' := by
 obtain ⟨a0, a1, a2, rfl, k0, k1, k2⟩ := h
 obtain ⟨a0', a1', a2', rfl, k0', k1', k2'⟩ := h'
 unfold fuFs
 obtain ⟨A0, c0, rfl⟩ := TRow.slice k0
 obtain ⟨A0', c0', rfl⟩ := TRow.slice k0'
 obtain ⟨A1, c1, rfl⟩ := TRow.slice k1
 obtain ⟨A1', c1', rfl⟩ := TRow.slice k1'
 obtain ⟨A2, c2, rfl⟩ := TRow.slice k2
 obtain ⟨A2', c2', rfl⟩ := TRow.slice k2'
 have b1 := below2 w (.cells #[.string (bs x.name), .string (bs x.lat), .int .i64 x.fof, .slice A0 x.froms.length c0, .slice A1 x.tos.length c1, .slice A2 x.table.length c2, .int .i64 x.pos] 94) (.cells #[.string (bs x.name), .string (bs x.lat), .int .i64 x.fof, .slice A0' x.froms.length c0', .slice A1' x.tos.length c1', .slice A2' x.table.length c2', .int .i64 x.pos] 94)
 have T1 := (At.new w 94 #[.string (bs x.name), .string (bs x.lat), .int .i64 x.fof, .slice A0 x.froms.length c0, .slice A1 x.tos.length c1, .slice A2 x.table.length c2, .int .i64 x.pos]).next (below1 (w.alloc (.cells #[.string (bs x.name), .string (bs x.lat), .int .i64 x.fof, .slice A0 x.froms.length c0, .slice A1 x.tos.length c1, .slice A2 x.table.length c2, .int .i64 x.pos] 94)) (.cells #[.string (bs x.name), .string (bs x.lat), .int .i64 x.fof, .slice A0' x.froms.length c0', .slice A1' x.tos.length c1', .slice A2' x.table.length c2', .int .i64 x.pos] 94))
 have T2 := At.new (w.alloc (.cells #[.string (bs x.name), .string (bs x.lat), .int .i64 x.fof, .slice A0 x.froms.length c0, .slice A1 x.tos.length c1, .slice A2 x.table.length c2, .int .i64 x.pos] 94)) 94 #[.string (bs x.name), .string (bs x.lat), .int .i64 x.fof, .slice A0' x.froms.length c0', .slice A1' x.tos.length c1', .slice A2' x.table.length c2', .int .i64 x.pos]
 rw [alloc_size] at T2
 obtain ⟨W0, hW0⟩ : ∃ W0, W0 = (w.alloc (.cells #[.string (bs x.name), .string (bs x.lat), .int .i64 x.fof, .slice A0 x.froms.length c0, .slice A1 x.tos.length c1, .slice A2 x.table.length c2, .int .i64 x.pos] 94)).alloc (.cells #[.string (bs x.name), .string (bs x.lat), .int .i64 x.fof, .slice A0' x.froms.length c0', .slice A1' x.tos.length c1', .slice A2' x.table.length c2', .int .i64 x.pos] 94) := ⟨_, rfl⟩
 rw [← hW0] at b1 T1 T2
 have HT1 := Lib.hid T1
 have HT2 := Lib.hid T2
 have HB := Lib.hid b1
 have HW := Lib.hid hW0
 have H0 := Lib.hid (fun (W : World) (hb : Below W0.heap.size W0 W) => strs_same _ _ x.froms W (by omega) (TRow.below k0 (b1.trans (hb.mono b1.size))) (TRow.below k0' (b1.trans (hb.mono b1.size))))
 have H1 := Lib.hid (fun (W : World) (hb : Below W0.heap.size W0 W) => strs_same _ _ x.tos W (by omega) (TRow.below k1 (b1.trans (hb.mono b1.size))) (TRow.below k1' (b1.trans (hb.mono b1.size))))
 have H2 := Lib.hid (fun (W : World) (hb : Below W0.heap.size W0 W) => ints_same _ _ x.table W (by omega) (TRow.below k2 (b1.trans (hb.mono b1.size))) (TRow.below k2' (b1.trans (hb.mono b1.size))))
 clear k0 k0' k1 k1' k2 k2' b1 T1 T2 hW0
 go_enter Tryd.func34, Tryd.ntmps34
 go_wp2_with (go_at_call 61; rw [← HW.out]; refine (H0.out _ (Below.refl _ _)).mono ?_; rintro e w0 ⟨rfl, hb0⟩; have bl0 := hb0; clear H0; have p4 := (HT1.out.next bl0).cell 4; have q4 := (HT2.out.next bl0).cell 4; have p5 := (HT1.out.next bl0).cell 5; have q5 := (HT2.out.next bl0).cell 5; simp only [List.getElem?_toArray, List.getElem?_cons_zero, List.getElem?_cons_succ] at p4 q4 p5 q5)
 go_wp2_with (go_at_call 61; refine (H1.out _ (bl0)).mono ?_; clear p4 q4 p5 q5; rintro e w1 ⟨rfl, hb1⟩; have bl1 := bl0.trans (hb1.mono bl0.size); clear H1; have p5 := (HT1.out.next bl1).cell 5; have q5 := (HT2.out.next bl1).cell 5; simp only [List.getElem?_toArray, List.getElem?_cons_zero, List.getElem?_cons_succ] at p5 q5)
 go_wp2_with (go_at_call 62; refine (H2.out _ (bl1)).mono ?_; clear p5 q5; rintro e w2 ⟨rfl, hb2⟩; have bl2 := bl1.trans (hb2.mono bl1.size); clear H2)
 go_ret
 exact ⟨rfl, HB.out.trans (bl2.mono HB.out.size)⟩
set_option maxHeartbeats 2000000 in
set_option maxRecDepth 100000 in
theorem pr_same (x : Ap.Pr) (r r' : List Value) (w : World) (hl : x.types.length ≤ 1000000) (h : PrR w r x) (h' : PrR w r' x) :
  Calls Tryd.prog 35 #[.agg r.toArray, .agg r'.toArray] w fun e w' => e = .returned (.bool true) ∧ Below w.heap.size w w' := by
 obtain ⟨a0, rfl, k0⟩ := h
 obtain ⟨a0', rfl, k0'⟩ := h'
 unfold prFs
 obtain ⟨A0, c0, rfl⟩ := TRow.slice k0
 obtain ⟨A0', c0', rfl⟩ := TRow.slice k0'
 have b1 := below2 w (.cells #[.string (bs x.name), .slice A0 x.types.length c0, .string (bs x.lat), .int .i64 x.pof, .bool x.base, .int .i64 x.key, .int .i64 x.pos] 73) (.cells #[.string (bs x.name), .slice A0' x.types.length c0', .string (bs x.lat), .int .i64 x.pof, .bool x.base, .int .i64 x.key, .int .i64 x.pos] 73)
 have T1 := (At.new w 73 #[.string (bs x.name), .slice A0 x.types.length c0, .string (bs x.lat), .int .i64 x.pof, .bool x.base, .int .i64 x.key, .int .i64 x.pos]).next (below1 (w.alloc (.cells #[.string (bs x.name), .slice A0 x.types.length c0, .string (bs x.lat), .int .i64 x.pof, .bool x.base, .int .i64 x.key, .int .i64 x.pos] 73)) (.cells #[.string (bs x.name), .slice A0' x.types.length c0', .string (bs x.lat), .int .i64 x.pof, .bool x.base, .int .i64 x.key, .int .i64 x.pos] 73))
 have T2 := At.new (w.alloc (.cells #[.string (bs x.name), .slice A0 x.types.length c0, .string (bs x.lat), .int .i64 x.pof, .bool x.base, .int .i64 x.key, .int .i64 x.pos] 73)) 73 #[.string (bs x.name), .slice A0' x.types.length c0', .string (bs x.lat), .int .i64 x.pof, .bool x.base, .int .i64 x.key, .int .i64 x.pos]
 rw [alloc_size] at T2
 obtain ⟨W0, hW0⟩ : ∃ W0, W0 = (w.alloc (.cells #[.string (bs x.name), .slice A0 x.types.length c0, .string (bs x.lat), .int .i64 x.pof, .bool x.base, .int .i64 x.key, .int .i64 x.pos] 73)).alloc (.cells #[.string (bs x.name), .slice A0' x.types.length c0', .string (bs x.lat), .int .i64 x.pof, .bool x.base, .int .i64 x.key, .int .i64 x.pos] 73) := ⟨_, rfl⟩
 rw [← hW0] at b1 T1 T2
 have HT1 := Lib.hid T1
 have HT2 := Lib.hid T2
 have HB := Lib.hid b1
 have HW := Lib.hid hW0
 have H0 := Lib.hid (fun (W : World) (hb : Below W0.heap.size W0 W) => ints_same _ _ x.types W (by omega) (TRow.below k0 (b1.trans (hb.mono b1.size))) (TRow.below k0' (b1.trans (hb.mono b1.size))))
 clear k0 k0' b1 T1 T2 hW0
 go_enter Tryd.func35, Tryd.ntmps35
 go_wp2_with (go_at_call 62; rw [← HW.out]; refine (H0.out _ (Below.refl _ _)).mono ?_; rintro e w0 ⟨rfl, hb0⟩; have bl0 := hb0; clear H0)
 go_ret
 exact ⟨rfl, HB.out.trans (bl0.mono HB.out.size)⟩
set_option maxHeartbeats 2000000 in
set_option maxRecDepth 100000 in
theorem la_same (x : Ap.La) (r r' : List Value) (w : World) (hl : x.elems.length ≤ 1000000 ∧ x.covers.length ≤ 1000000) (h : LaR w r x) (h' : LaR w r' x) :
  Calls Tryd.prog 33 #[.agg r.toArray, .agg r'.toArray] w fun e w' => e = .returned (.bool true) ∧ Below w.heap.size w w' := by
 obtain ⟨a0, a1, rfl, k0, k1⟩ := h
 obtain ⟨a0', a1', rfl, k0', k1'⟩ := h'
 unfold laFs
 obtain ⟨A0, c0, rfl⟩ := TRow.slice k0
 obtain ⟨A0', c0', rfl⟩ := TRow.slice k0'
 obtain ⟨A1, c1, rfl⟩ := TRow.slice k1
 obtain ⟨A1', c1', rfl⟩ := TRow.slice k1'
 have b1 := below2 w (.cells #[.string (bs x.name), .slice A0 x.elems.length c0, .slice A1 x.covers.length c1, .int .i64 x.pos] 77) (.cells #[.string (bs x.name), .slice A0' x.elems.length c0', .slice A1' x.covers.length c1', .int .i64 x.pos] 77)
 have T1 := (At.new w 77 #[.string (bs x.name), .slice A0 x.elems.length c0, .slice A1 x.covers.length c1, .int .i64 x.pos]).next (below1 (w.alloc (.cells #[.string (bs x.name), .slice A0 x.elems.length c0, .slice A1 x.covers.length c1, .int .i64 x.pos] 77)) (.cells #[.string (bs x.name), .slice A0' x.elems.length c0', .slice A1' x.covers.length c1', .int .i64 x.pos] 77))
 have T2 := At.new (w.alloc (.cells #[.string (bs x.name), .slice A0 x.elems.length c0, .slice A1 x.covers.length c1, .int .i64 x.pos] 77)) 77 #[.string (bs x.name), .slice A0' x.elems.length c0', .slice A1' x.covers.length c1', .int .i64 x.pos]
 rw [alloc_size] at T2
 obtain ⟨W0, hW0⟩ : ∃ W0, W0 = (w.alloc (.cells #[.string (bs x.name), .slice A0 x.elems.length c0, .slice A1 x.covers.length c1, .int .i64 x.pos] 77)).alloc (.cells #[.string (bs x.name), .slice A0' x.elems.length c0', .slice A1' x.covers.length c1', .int .i64 x.pos] 77) := ⟨_, rfl⟩
 rw [← hW0] at b1 T1 T2
 have HT1 := Lib.hid T1
 have HT2 := Lib.hid T2
 have HB := Lib.hid b1
 have HW := Lib.hid hW0
 have H0 := Lib.hid (fun (W : World) (hb : Below W0.heap.size W0 W) => strs_same _ _ x.elems W (by omega) (TRow.below k0 (b1.trans (hb.mono b1.size))) (TRow.below k0' (b1.trans (hb.mono b1.size))))
 have KA := Lib.hid k1
 have KB := Lib.hid k1'
 clear k0 k0' k1 k1' b1 T1 T2 hW0
 go_enter Tryd.func33, Tryd.ntmps33
 go_wp2_with (go_at_call 61; rw [← HW.out]; refine (H0.out _ (Below.refl _ _)).mono ?_; rintro e w3 ⟨rfl, hb3⟩; clear H0; have p2 := (HT1.out.next hb3).cell 2; have q2 := (HT2.out.next hb3).cell 2; simp only [List.getElem?_toArray, List.getElem?_cons_zero, List.getElem?_cons_succ] at p2 q2)
 go_loopw [5] (fun i wr => ∃ (k nq : Nat), k ≤ x.covers.length ∧ i = .int .i64 k ∧ wr = w3.drewN nq) (fun i _ => x.covers.length - (intOf i).toNat)
 case atStart => exact ⟨0, 0, by omega, rfl, rfl⟩
 case round =>
  obtain ⟨k, nq, hk, rfl, rfl⟩ := hrel
  by_cases hlt : k < x.covers.length
  ·have bw : Below w.heap.size w w3 := HB.out.trans (hb3.mono HB.out.size)
   obtain ⟨y, hy⟩ : ∃ y, x.covers[k]? = some y := ⟨_, List.getElem?_eq_getElem hlt⟩
   obtain ⟨g, o, d1, e1, hg, z1⟩ := (TRow.below KA.out bw).cells (by omega)
   obtain ⟨g', o', d1', e1', hg', z1'⟩ := (TRow.below KB.out bw).cells (by omega)
   have hf := cv_flat x.covers hy
   have u0 := z1 _ _ hf.1
   have u1 := z1 _ _ hf.2
   have v0 := z1' _ _ hf.1
   have v1 := z1' _ _ hf.2
   simp only [← Nat.add_assoc] at u0 u1 v0 v1
   injection e1 with e1 _ e3
   injection e1' with e1' _ e3'
   subst e1; subst e1'; subst e3; subst e3'
   have hq := fun W => cv_same y.1 y.2 W
   clear hf z1 z1' hy bw
   go_wp2_with fail
   go_quiet (fail)
   go_wp2_with fail
   go_roundw
   case rel => exact ⟨k + 1, _, by omega, by go_num, rfl⟩
   case measure => simp [intOf]; omega
  ·go_wp2_with fail
   go_ret
   exact ⟨rfl, below_drewN (HB.out.trans (hb3.mono HB.out.size)) _⟩
set_option maxHeartbeats 2000000 in
set_option maxRecDepth 100000 in
theorem ru_same (x : Ap.Ru) (r r' : List Value) (w : World) (hl : x.args.length ≤ 1000000 ∧ x.body.length ≤ 1000000) (hl2 : ∀ y ∈ x.body, y.args.length ≤ 1000000) (h : RuR w r x) (h' : RuR w r' x) :
  Calls Tryd.prog 36 #[.agg r.toArray, .agg r'.toArray] w fun e w' => e = .returned (.bool true) ∧ Below w.heap.size w w' := by
 obtain ⟨a0, a1, rfl, k0, k1⟩ := h
 obtain ⟨a0', a1', rfl, k0', k1'⟩ := h'
 unfold ruFs
 obtain ⟨A0, c0, rfl⟩ := TRow.slice k0
 obtain ⟨A0', c0', rfl⟩ := TRow.slice k0'
 obtain ⟨A1, c1, rfl⟩ := TRows.slice k1
 obtain ⟨A1', c1', rfl⟩ := TRows.slice k1'
 have b1 := below2 w (.cells #[.string (bs x.name), .int .i64 x.pred, .slice A0 x.args.length c0, .int .i64 x.elem.kind, .string (bs x.elem.name), .string (bs x.elem.var), .int .i64 x.elem.index, .slice A1 x.body.length c1, .int .i64 x.pos] 66) (.cells #[.string (bs x.name), .int .i64 x.pred, .slice A0' x.args.length c0', .int .i64 x.elem.kind, .string (bs x.elem.name), .string (bs x.elem.var), .int .i64 x.elem.index, .slice A1' x.body.length c1', .int .i64 x.pos] 66)
 have T1 := (At.new w 66 #[.string (bs x.name), .int .i64 x.pred, .slice A0 x.args.length c0, .int .i64 x.elem.kind, .string (bs x.elem.name), .string (bs x.elem.var), .int .i64 x.elem.index, .slice A1 x.body.length c1, .int .i64 x.pos]).next (below1 (w.alloc (.cells #[.string (bs x.name), .int .i64 x.pred, .slice A0 x.args.length c0, .int .i64 x.elem.kind, .string (bs x.elem.name), .string (bs x.elem.var), .int .i64 x.elem.index, .slice A1 x.body.length c1, .int .i64 x.pos] 66)) (.cells #[.string (bs x.name), .int .i64 x.pred, .slice A0' x.args.length c0', .int .i64 x.elem.kind, .string (bs x.elem.name), .string (bs x.elem.var), .int .i64 x.elem.index, .slice A1' x.body.length c1', .int .i64 x.pos] 66))
 have T2 := At.new (w.alloc (.cells #[.string (bs x.name), .int .i64 x.pred, .slice A0 x.args.length c0, .int .i64 x.elem.kind, .string (bs x.elem.name), .string (bs x.elem.var), .int .i64 x.elem.index, .slice A1 x.body.length c1, .int .i64 x.pos] 66)) 66 #[.string (bs x.name), .int .i64 x.pred, .slice A0' x.args.length c0', .int .i64 x.elem.kind, .string (bs x.elem.name), .string (bs x.elem.var), .int .i64 x.elem.index, .slice A1' x.body.length c1', .int .i64 x.pos]
 rw [alloc_size] at T2
 obtain ⟨W0, hW0⟩ : ∃ W0, W0 = (w.alloc (.cells #[.string (bs x.name), .int .i64 x.pred, .slice A0 x.args.length c0, .int .i64 x.elem.kind, .string (bs x.elem.name), .string (bs x.elem.var), .int .i64 x.elem.index, .slice A1 x.body.length c1, .int .i64 x.pos] 66)).alloc (.cells #[.string (bs x.name), .int .i64 x.pred, .slice A0' x.args.length c0', .int .i64 x.elem.kind, .string (bs x.elem.name), .string (bs x.elem.var), .int .i64 x.elem.index, .slice A1' x.body.length c1', .int .i64 x.pos] 66) := ⟨_, rfl⟩
 rw [← hW0] at b1 T1 T2
 have HT1 := Lib.hid T1
 have HT2 := Lib.hid T2
 have HB := Lib.hid b1
 have HW := Lib.hid hW0
 have H0 := Lib.hid (fun (W : World) (hb : Below W0.heap.size W0 W) => tms_same _ _ x.args W (by omega) (TRow.below k0 (b1.trans (hb.mono b1.size))) (TRow.below k0' (b1.trans (hb.mono b1.size))))
 have hq := fun W => el_same x.elem W
 have KA := Lib.hid k1
 have KB := Lib.hid k1'
 have HL2 := Lib.hid hl2
 clear k0 k0' k1 k1' b1 T1 T2 hW0 hl2
 go_enter Tryd.func36, Tryd.ntmps36
 go_wp2_with (go_at_call 46; rw [← HW.out]; refine (H0.out _ (Below.refl _ _)).mono ?_; rintro e w3 ⟨rfl, hb3⟩; clear H0; have p7 := (HT1.out.next hb3).cell 7; have q7 := (HT2.out.next hb3).cell 7; simp only [List.getElem?_toArray, List.getElem?_cons_zero, List.getElem?_cons_succ] at p7 q7)
 go_loopw [5, 6] (fun i _ wr => ∃ (k : Nat), k ≤ x.body.length ∧ i = .int .i64 k ∧ Below W0.heap.size W0 wr ∧ Below w3.heap.size w3 wr) (fun i _ _ => x.body.length - (intOf i).toNat)
 case atStart => exact ⟨0, by omega, rfl, hb3, Below.refl _ _⟩
 case round =>
  obtain ⟨k, hk, rfl, hbw0, hbw⟩ := hrel
  by_cases hlt : k < x.body.length
  ·have bw : Below w.heap.size w wr := HB.out.trans (hbw0.mono HB.out.size)
   obtain ⟨y, hy⟩ : ∃ y, x.body[k]? = some y := ⟨_, List.getElem?_eq_getElem hlt⟩
   obtain ⟨g, o, d1, r1, e1, hg, hr1, z1⟩ := (KA.out.below bw (LiR.kept (Kept.below bw _))).at (fun _ _ => LiR.len) hy
   obtain ⟨g', o', d1', r1', e1', hg', hr1', z1'⟩ := (KB.out.below bw (LiR.kept (Kept.below bw _))).at (fun _ _ => LiR.len) hy
   have HCL := Lib.hid (fun (W : World) (hb : Below wr.heap.size wr W) => li_same y r1 r1' W (HL2.out y (List.mem_of_getElem? hy)) (LiR.kept (Kept.below hb _) _ _ hr1) (LiR.kept (Kept.below hb _) _ _ hr1'))
   obtain ⟨s0, rfl, -⟩ := hr1
   obtain ⟨s0', rfl, -⟩ := hr1'
   have u0 := z1 0 _ rfl
   have v0 := z1' 0 _ rfl
   have u1 := z1 1 _ rfl
   have v1 := z1' 1 _ rfl
   have u2 := z1 2 _ rfl
   have v2 := z1' 2 _ rfl
   have u3 := z1 3 _ rfl
   have v3 := z1' 3 _ rfl
   have u4 := z1 4 _ rfl
   have v4 := z1' 4 _ rfl
   have u5 := z1 5 _ rfl
   have v5 := z1' 5 _ rfl
   have u6 := z1 6 _ rfl
   have v6 := z1' 6 _ rfl
   have u7 := z1 7 _ rfl
   have v7 := z1' 7 _ rfl
   have u8 := z1 8 _ rfl
   have v8 := z1' 8 _ rfl
   simp only [Nat.add_zero] at u0 v0
   injection e1 with e1 _ e3
   injection e1' with e1' _ e3'
   subst e1; subst e1'; subst e3; subst e3'
   have pp := next_cell p7 hbw
   have qq := next_cell q7 hbw
   have i0 : (0 : Int) ≤ (k : Int) := by omega
   have i1 : (k : Int) < (x.body.length : Int) := by omega
   have dk : decide ((k : Int) < (x.body.length : Int)) = true := decide_eq_true i1
   have HBW0 := Lib.hid hbw0; have HK2 := Lib.hid hk
   have HBW := Lib.hid hbw
   clear z1 z1' hy bw hk hbw hbw0
   go_wp2_with fail
   refine' wp_region_each _ (Below wr.heap.size wr) (Onward) (Vl :: Vl :: Vl :: Vl :: Vl :: Vl :: Vl :: Vl :: Vl :: Vl :: Vl :: Vl :: []) ?hF (by kernel_rfl) (by kernel_rfl) (by kernel_rfl) ((Below.refl _ _).drew) (lasting_cons (lasting_vl) (lasting_cons (lasting_vl) (lasting_cons (lasting_vl) (lasting_cons (lasting_vl) (lasting_cons (lasting_vl) (lasting_cons (lasting_vl) (lasting_cons (lasting_vl) (lasting_cons (lasting_vl) (lasting_cons (lasting_vl) (lasting_cons (lasting_vl) (lasting_cons (lasting_vl) (lasting_cons (lasting_vl) (lasting_none))))))))))))) ?hops ?hend
   case hF => (intro v; simp only [over, Act.put, List.setIfInBounds_toArray, List.set_cons_zero, List.set_cons_succ, Nat.zero_add, Nat.reduceAdd]; exact rfl)
   case hops =>
    refine ⟨?_, ?_⟩
    ·intro v w' hj hd hs K hK
     have hk := hK.out
     simp only [Act.put, List.setIfInBounds_toArray, List.set_cons_zero, List.set_cons_succ] at hk
     have HK := Lib.hid hk
     clear hd hs hk hK
     go_simp
     exact HK.out _ _ hj.out (Below.refl _ _) (show _ = _ from rfl)
    refine ⟨?_, ?_⟩
    ·intro v w' hj hd hs K hK
     have t0 : v 0 = _ := hd.out 0 (by kernel_rfl)
     have x0 := next_cell pp hj.out
     have hk := hK.out
     simp only [t0, Act.put, List.setIfInBounds_toArray, List.set_cons_zero, List.set_cons_succ] at hk
     have HK := Lib.hid hk
     clear hd hs hk hK
     go_simp
     exact HK.out _ _ hj.out (Below.refl _ _) (show _ = _ from rfl)
    refine ⟨?_, ?_⟩
    ·intro v w' hj hd hs K hK
     have hk := hK.out
     simp only [Act.put, List.setIfInBounds_toArray, List.set_cons_zero, List.set_cons_succ] at hk
     have HK := Lib.hid hk
     clear hd hs hk hK
     go_simp
     exact HK.out _ _ hj.out (Below.refl _ _) (show _ = _ from rfl)
    refine ⟨?_, ?_⟩
    ·intro v w' hj hd hs K hK
     have t1 : v 1 = _ := hd.out 1 (by kernel_rfl)
     have t2 : v 2 = _ := hd.out 2 (by kernel_rfl)
     have hk := hK.out
     simp only [t1, t2, Act.put, List.setIfInBounds_toArray, List.set_cons_zero, List.set_cons_succ] at hk
     have HK := Lib.hid hk
     clear hd hs hk hK
     go_simp
     exact HK.out _ _ hj.out (Below.refl _ _) (show _ = _ from rfl)
    refine ⟨?_, ?_⟩
    ·intro v w' hj hd hs K hK
     have t3 : v 3 = _ := hd.out 3 (by kernel_rfl)
     have x0 := next_cell u0 hj.out; have x1 := next_cell u1 hj.out; have x2 := next_cell u2 hj.out; have x3 := next_cell u3 hj.out; have x4 := next_cell u4 hj.out; have x5 := next_cell u5 hj.out; have x6 := next_cell u6 hj.out; have x7 := next_cell u7 hj.out; have x8 := next_cell u8 hj.out
     have hk := hK.out
     simp only [t3, Act.put, List.setIfInBounds_toArray, List.set_cons_zero, List.set_cons_succ] at hk
     have HK := Lib.hid hk
     clear hd hs hk hK
     go_simp
     exact HK.out _ _ hj.out (Below.refl _ _) (show _ = _ from rfl)
    refine ⟨?_, ?_⟩
    ·intro v w' hj hd hs K hK
     have hk := hK.out
     simp only [Act.put, List.setIfInBounds_toArray, List.set_cons_zero, List.set_cons_succ] at hk
     have HK := Lib.hid hk
     clear hd hs hk hK
     go_simp
     exact HK.out _ _ hj.out (Below.refl _ _) (show _ = _ from rfl)
    refine ⟨?_, ?_⟩
    ·intro v w' hj hd hs K hK
     have t5 : v 5 = _ := hd.out 5 (by kernel_rfl)
     have x0 := next_cell qq hj.out
     have hk := hK.out
     simp only [t5, Act.put, List.setIfInBounds_toArray, List.set_cons_zero, List.set_cons_succ] at hk
     have HK := Lib.hid hk
     clear hd hs hk hK
     go_simp
     exact HK.out _ _ hj.out (Below.refl _ _) (show _ = _ from rfl)
    refine ⟨?_, ?_⟩
    ·intro v w' hj hd hs K hK
     have hk := hK.out
     simp only [Act.put, List.setIfInBounds_toArray, List.set_cons_zero, List.set_cons_succ] at hk
     have HK := Lib.hid hk
     clear hd hs hk hK
     go_simp
     exact HK.out _ _ hj.out (Below.refl _ _) (show _ = _ from rfl)
    refine ⟨?_, ?_⟩
    ·intro v w' hj hd hs K hK
     have t6 : v 6 = _ := hd.out 6 (by kernel_rfl)
     have t7 : v 7 = _ := hd.out 7 (by kernel_rfl)
     have hk := hK.out
     simp only [t6, t7, Act.put, List.setIfInBounds_toArray, List.set_cons_zero, List.set_cons_succ] at hk
     have HK := Lib.hid hk
     clear hd hs hk hK
     go_simp
     exact HK.out _ _ hj.out (Below.refl _ _) (show _ = _ from rfl)
    refine ⟨?_, ?_⟩
    ·intro v w' hj hd hs K hK
     have t8 : v 8 = _ := hd.out 8 (by kernel_rfl)
     have x0 := next_cell v0 hj.out; have x1 := next_cell v1 hj.out; have x2 := next_cell v2 hj.out; have x3 := next_cell v3 hj.out; have x4 := next_cell v4 hj.out; have x5 := next_cell v5 hj.out; have x6 := next_cell v6 hj.out; have x7 := next_cell v7 hj.out; have x8 := next_cell v8 hj.out
     have hk := hK.out
     simp only [t8, Act.put, List.setIfInBounds_toArray, List.set_cons_zero, List.set_cons_succ] at hk
     have HK := Lib.hid hk
     clear hd hs hk hK
     go_simp
     exact HK.out _ _ hj.out (Below.refl _ _) (show _ = _ from rfl)
    refine ⟨?_, ?_⟩
    ·intro v w' hj hd hs K hK
     have t4 : v 4 = _ := hd.out 4 (by kernel_rfl)
     have t9 : v 9 = _ := hd.out 9 (by kernel_rfl)
     have hk := hK.out
     simp only [t4, t9, Act.put, List.setIfInBounds_toArray, List.set_cons_zero, List.set_cons_succ] at hk
     have HK := Lib.hid hk
     clear hd hs hk hK
     go_simp
     go_at_call 22
     refine (HCL.out w' hj.out).mono ?_
     rintro e w2 ⟨rfl, hb2⟩
     exact HK.out _ _ (hj.out.trans (hb2.mono hj.out.size)) hb2 (show _ = _ from rfl)
    refine ⟨?_, ?_⟩
    ·intro v w' hj hd hs K hK
     have t10 : v 10 = _ := hd.out 10 (by kernel_rfl)
     have hk := hK.out
     simp only [t10, Act.put, List.setIfInBounds_toArray, List.set_cons_zero, List.set_cons_succ] at hk
     have HK := Lib.hid hk
     clear hd hs hk hK
     go_simp
     exact HK.out _ _ hj.out (Below.refl _ _) (show _ = _ from rfl)
    trivial
   case hend =>
    intro v w7 hj hd
    have t11 : v 11 = _ := hd.out 11 (of_decide_eq_true (by kernel_rfl))
    simp only [t11]; have bl8 := hj.out
    have bl7 : Below w3.heap.size w3 w7 := HBW.out.trans (hj.out.mono HBW.out.size)
    clear hd hj pp qq u0 v0 u1 v1 u2 v2 u3 v3 u4 v4 u5 v5 u6 v6 u7 v7 u8 v8
    go_wp2_with fail
    go_roundw
    case rel => exact ⟨k + 1, by omega, by go_num, HBW0.out.trans (bl8.mono HBW0.out.size), bl7⟩
    case measure => simp [intOf]; omega
  ·have pp := next_cell p7 hbw
   have qq := next_cell q7 hbw
   have dk : decide ((k : Int) < (x.body.length : Int)) = false := decide_eq_false (by omega)
   go_wp2_with fail
   go_ret
   exact ⟨rfl, HB.out.trans (hbw0.mono HB.out.size)⟩
set_option maxHeartbeats 2000000 in
set_option maxRecDepth 100000 in
theorem pg_same (P : Ap.Pg) (l f p r l' f' p' r' : Value) (w : World) (hn : P.lats.length ≤ 1000000 ∧ P.funs.length ≤ 1000000 ∧ P.preds.length ≤ 1000000 ∧ P.rules.length ≤ 1000000)
  (hla : ∀ x ∈ P.lats, x.elems.length ≤ 1000000 ∧ x.covers.length ≤ 1000000) (hfu : ∀ x ∈ P.funs, x.froms.length ≤ 1000000 ∧ x.tos.length ≤ 1000000 ∧ x.table.length ≤ 1000000) (hpr : ∀ x ∈ P.preds, x.types.length ≤ 1000000)
  (hru : ∀ x ∈ P.rules, (x.args.length ≤ 1000000 ∧ x.body.length ≤ 1000000) ∧ ∀ y ∈ x.body, y.args.length ≤ 1000000) (h : PgR w l f p r P) (h' : PgR w l' f' p' r' P) :
  Calls Tryd.prog 12 #[.agg #[l, f, p, r], .agg #[l', f', p', r']] w fun e w' => e = .returned (.bool true) ∧ Below w.heap.size w w' := by
 obtain ⟨k0, k1, k2, k3⟩ := h
 obtain ⟨k0', k1', k2', k3'⟩ := h'
 obtain ⟨A0, c0, rfl⟩ := TRows.slice k0
 obtain ⟨A0', c0', rfl⟩ := TRows.slice k0'
 obtain ⟨A1, c1, rfl⟩ := TRows.slice k1
 obtain ⟨A1', c1', rfl⟩ := TRows.slice k1'
 obtain ⟨A2, c2, rfl⟩ := TRows.slice k2
 obtain ⟨A2', c2', rfl⟩ := TRows.slice k2'
 obtain ⟨A3, c3, rfl⟩ := TRows.slice k3
 obtain ⟨A3', c3', rfl⟩ := TRows.slice k3'
 have b1 := below2 w (.cells #[.slice A0 P.lats.length c0, .slice A1 P.funs.length c1, .slice A2 P.preds.length c2, .slice A3 P.rules.length c3] 34) (.cells #[.slice A0' P.lats.length c0', .slice A1' P.funs.length c1', .slice A2' P.preds.length c2', .slice A3' P.rules.length c3'] 34)
 have T1 := (At.new w 34 #[.slice A0 P.lats.length c0, .slice A1 P.funs.length c1, .slice A2 P.preds.length c2, .slice A3 P.rules.length c3]).next (below1 (w.alloc (.cells #[.slice A0 P.lats.length c0, .slice A1 P.funs.length c1, .slice A2 P.preds.length c2, .slice A3 P.rules.length c3] 34)) (.cells #[.slice A0' P.lats.length c0', .slice A1' P.funs.length c1', .slice A2' P.preds.length c2', .slice A3' P.rules.length c3'] 34))
 have T2 := At.new (w.alloc (.cells #[.slice A0 P.lats.length c0, .slice A1 P.funs.length c1, .slice A2 P.preds.length c2, .slice A3 P.rules.length c3] 34)) 34 #[.slice A0' P.lats.length c0', .slice A1' P.funs.length c1', .slice A2' P.preds.length c2', .slice A3' P.rules.length c3']
 rw [alloc_size] at T2
 obtain ⟨W0, hW0⟩ : ∃ W0, W0 = (w.alloc (.cells #[.slice A0 P.lats.length c0, .slice A1 P.funs.length c1, .slice A2 P.preds.length c2, .slice A3 P.rules.length c3] 34)).alloc (.cells #[.slice A0' P.lats.length c0', .slice A1' P.funs.length c1', .slice A2' P.preds.length c2', .slice A3' P.rules.length c3'] 34) := ⟨_, rfl⟩
 rw [← hW0] at b1 T1 T2
 have HT1 := Lib.hid T1
 have HT2 := Lib.hid T2
 have HB := Lib.hid b1
 have HW := Lib.hid hW0
 have KA0 := Lib.hid k0
 have KB0 := Lib.hid k0'
 have KA1 := Lib.hid k1
 have KB1 := Lib.hid k1'
 have KA2 := Lib.hid k2
 have KB2 := Lib.hid k2'
 have KA3 := Lib.hid k3
 have KB3 := Lib.hid k3'
 have HLA := Lib.hid hla; have HFU := Lib.hid hfu; have HPR := Lib.hid hpr; have HRU := Lib.hid hru
 have bb := Below.refl W0.heap.size W0
 have p0 := T1.cell 0; have q0 := T2.cell 0
 have p1 := T1.cell 1; have q1 := T2.cell 1
 have p2 := T1.cell 2; have q2 := T2.cell 2
 have p3 := T1.cell 3; have q3 := T2.cell 3
 simp only [List.getElem?_toArray, List.getElem?_cons_zero, List.getElem?_cons_succ] at p0 p1 p2 p3 q0 q1 q2 q3
 have HPQ := Lib.hid (And.intro (And.intro p0 (And.intro p1 (And.intro p2 p3))) (And.intro q0 (And.intro q1 (And.intro q2 q3))))
 clear k0 k1 k2 k3 k0' k1' k2' k3' b1 T1 T2 hW0 hla hfu hpr hru p0 p1 p2 p3 q0 q1 q2 q3
 go_enter Tryd.func12, Tryd.ntmps12
 go_wp2_with fail
 rw [← HW.out]
 go_loopw [5, 6] (fun i _ wr => ∃ (k : Nat), k ≤ P.lats.length ∧ i = .int .i64 k ∧ Below W0.heap.size W0 wr) (fun i _ _ => P.lats.length - (intOf i).toNat)
 case atStart => exact ⟨0, by omega, rfl, Below.refl _ _⟩
 case round =>
  obtain ⟨k, hk, rfl, hbw⟩ := hrel
  by_cases hlt : k < P.lats.length
  ·have bw : Below w.heap.size w wr := HB.out.trans (hbw.mono HB.out.size)
   obtain ⟨y, hy⟩ : ∃ y, P.lats[k]? = some y := ⟨_, List.getElem?_eq_getElem hlt⟩
   obtain ⟨g, o, d1, r1, e1, hg, hr1, z1⟩ := (KA0.out.below bw (LaR.kept (Kept.below bw _) (Kept.below bw _))).at (fun _ _ => LaR.len) hy
   obtain ⟨g', o', d1', r1', e1', hg', hr1', z1'⟩ := (KB0.out.below bw (LaR.kept (Kept.below bw _) (Kept.below bw _))).at (fun _ _ => LaR.len) hy
   have HCL := Lib.hid (fun (W : World) (hb : Below wr.heap.size wr W) => la_same y r1 r1' W (HLA.out y (List.mem_of_getElem? hy)) (LaR.kept (Kept.below hb _) (Kept.below hb _) _ _ hr1) (LaR.kept (Kept.below hb _) (Kept.below hb _) _ _ hr1'))
   obtain ⟨s0, s1, rfl, -⟩ := hr1
   obtain ⟨s0', s1', rfl, -⟩ := hr1'
   have u0 := z1 0 _ rfl
   have v0 := z1' 0 _ rfl
   have u1 := z1 1 _ rfl
   have v1 := z1' 1 _ rfl
   have u2 := z1 2 _ rfl
   have v2 := z1' 2 _ rfl
   have u3 := z1 3 _ rfl
   have v3 := z1' 3 _ rfl
   simp only [Nat.add_zero] at u0 v0
   injection e1 with e1 _ e3
   injection e1' with e1' _ e3'
   subst e1; subst e1'; subst e3; subst e3'
   have pp := next_cell (HPQ.out.1.1) hbw
   have qq := next_cell (HPQ.out.2.1) hbw
   have i0 : (0 : Int) ≤ (k : Int) := by omega
   have i1 : (k : Int) < (P.lats.length : Int) := by omega
   have dk : decide ((k : Int) < (P.lats.length : Int)) = true := decide_eq_true i1
   have HK2 := Lib.hid hk
   have HBW := Lib.hid hbw
   clear z1 z1' hy bw hk hbw
   go_wp2_with fail
   refine' wp_region_each _ (Below wr.heap.size wr) (Onward) (Vl :: Vl :: Vl :: Vl :: Vl :: Vl :: Vl :: Vl :: Vl :: Vl :: Vl :: Vl :: []) ?hF (by kernel_rfl) (by kernel_rfl) (by kernel_rfl) ((Below.refl _ _).drew) (lasting_cons (lasting_vl) (lasting_cons (lasting_vl) (lasting_cons (lasting_vl) (lasting_cons (lasting_vl) (lasting_cons (lasting_vl) (lasting_cons (lasting_vl) (lasting_cons (lasting_vl) (lasting_cons (lasting_vl) (lasting_cons (lasting_vl) (lasting_cons (lasting_vl) (lasting_cons (lasting_vl) (lasting_cons (lasting_vl) (lasting_none))))))))))))) ?hops ?hend
   case hF => (intro v; simp only [over, Act.put, List.setIfInBounds_toArray, List.set_cons_zero, List.set_cons_succ, Nat.zero_add, Nat.reduceAdd]; exact rfl)
   case hops =>
    refine ⟨?_, ?_⟩
    ·intro v w' hj hd hs K hK
     have hk := hK.out
     simp only [Act.put, List.setIfInBounds_toArray, List.set_cons_zero, List.set_cons_succ] at hk
     have HK := Lib.hid hk
     clear hd hs hk hK
     go_simp
     exact HK.out _ _ hj.out (Below.refl _ _) (show _ = _ from rfl)
    refine ⟨?_, ?_⟩
    ·intro v w' hj hd hs K hK
     have t0 : v 0 = _ := hd.out 0 (by kernel_rfl)
     have x0 := next_cell pp hj.out
     have hk := hK.out
     simp only [t0, Act.put, List.setIfInBounds_toArray, List.set_cons_zero, List.set_cons_succ] at hk
     have HK := Lib.hid hk
     clear hd hs hk hK
     go_simp
     exact HK.out _ _ hj.out (Below.refl _ _) (show _ = _ from rfl)
    refine ⟨?_, ?_⟩
    ·intro v w' hj hd hs K hK
     have hk := hK.out
     simp only [Act.put, List.setIfInBounds_toArray, List.set_cons_zero, List.set_cons_succ] at hk
     have HK := Lib.hid hk
     clear hd hs hk hK
     go_simp
     exact HK.out _ _ hj.out (Below.refl _ _) (show _ = _ from rfl)
    refine ⟨?_, ?_⟩
    ·intro v w' hj hd hs K hK
     have t1 : v 1 = _ := hd.out 1 (by kernel_rfl)
     have t2 : v 2 = _ := hd.out 2 (by kernel_rfl)
     have hk := hK.out
     simp only [t1, t2, Act.put, List.setIfInBounds_toArray, List.set_cons_zero, List.set_cons_succ] at hk
     have HK := Lib.hid hk
     clear hd hs hk hK
     go_simp
     exact HK.out _ _ hj.out (Below.refl _ _) (show _ = _ from rfl)
    refine ⟨?_, ?_⟩
    ·intro v w' hj hd hs K hK
     have t3 : v 3 = _ := hd.out 3 (by kernel_rfl)
     have x0 := next_cell u0 hj.out; have x1 := next_cell u1 hj.out; have x2 := next_cell u2 hj.out; have x3 := next_cell u3 hj.out
     have hk := hK.out
     simp only [t3, Act.put, List.setIfInBounds_toArray, List.set_cons_zero, List.set_cons_succ] at hk
     have HK := Lib.hid hk
     clear hd hs hk hK
     go_simp
     exact HK.out _ _ hj.out (Below.refl _ _) (show _ = _ from rfl)
    refine ⟨?_, ?_⟩
    ·intro v w' hj hd hs K hK
     have hk := hK.out
     simp only [Act.put, List.setIfInBounds_toArray, List.set_cons_zero, List.set_cons_succ] at hk
     have HK := Lib.hid hk
     clear hd hs hk hK
     go_simp
     exact HK.out _ _ hj.out (Below.refl _ _) (show _ = _ from rfl)
    refine ⟨?_, ?_⟩
    ·intro v w' hj hd hs K hK
     have t5 : v 5 = _ := hd.out 5 (by kernel_rfl)
     have x0 := next_cell qq hj.out
     have hk := hK.out
     simp only [t5, Act.put, List.setIfInBounds_toArray, List.set_cons_zero, List.set_cons_succ] at hk
     have HK := Lib.hid hk
     clear hd hs hk hK
     go_simp
     exact HK.out _ _ hj.out (Below.refl _ _) (show _ = _ from rfl)
    refine ⟨?_, ?_⟩
    ·intro v w' hj hd hs K hK
     have hk := hK.out
     simp only [Act.put, List.setIfInBounds_toArray, List.set_cons_zero, List.set_cons_succ] at hk
     have HK := Lib.hid hk
     clear hd hs hk hK
     go_simp
     exact HK.out _ _ hj.out (Below.refl _ _) (show _ = _ from rfl)
    refine ⟨?_, ?_⟩
    ·intro v w' hj hd hs K hK
     have t6 : v 6 = _ := hd.out 6 (by kernel_rfl)
     have t7 : v 7 = _ := hd.out 7 (by kernel_rfl)
     have hk := hK.out
     simp only [t6, t7, Act.put, List.setIfInBounds_toArray, List.set_cons_zero, List.set_cons_succ] at hk
     have HK := Lib.hid hk
     clear hd hs hk hK
     go_simp
     exact HK.out _ _ hj.out (Below.refl _ _) (show _ = _ from rfl)
    refine ⟨?_, ?_⟩
    ·intro v w' hj hd hs K hK
     have t8 : v 8 = _ := hd.out 8 (by kernel_rfl)
     have x0 := next_cell v0 hj.out; have x1 := next_cell v1 hj.out; have x2 := next_cell v2 hj.out; have x3 := next_cell v3 hj.out
     have hk := hK.out
     simp only [t8, Act.put, List.setIfInBounds_toArray, List.set_cons_zero, List.set_cons_succ] at hk
     have HK := Lib.hid hk
     clear hd hs hk hK
     go_simp
     exact HK.out _ _ hj.out (Below.refl _ _) (show _ = _ from rfl)
    refine ⟨?_, ?_⟩
    ·intro v w' hj hd hs K hK
     have t4 : v 4 = _ := hd.out 4 (by kernel_rfl)
     have t9 : v 9 = _ := hd.out 9 (by kernel_rfl)
     have hk := hK.out
     simp only [t4, t9, Act.put, List.setIfInBounds_toArray, List.set_cons_zero, List.set_cons_succ] at hk
     have HK := Lib.hid hk
     clear hd hs hk hK
     go_simp
     go_at_call 33
     refine (HCL.out w' hj.out).mono ?_
     rintro e w2 ⟨rfl, hb2⟩
     exact HK.out _ _ (hj.out.trans (hb2.mono hj.out.size)) hb2 (show _ = _ from rfl)
    refine ⟨?_, ?_⟩
    ·intro v w' hj hd hs K hK
     have t10 : v 10 = _ := hd.out 10 (by kernel_rfl)
     have hk := hK.out
     simp only [t10, Act.put, List.setIfInBounds_toArray, List.set_cons_zero, List.set_cons_succ] at hk
     have HK := Lib.hid hk
     clear hd hs hk hK
     go_simp
     exact HK.out _ _ hj.out (Below.refl _ _) (show _ = _ from rfl)
    trivial
   case hend =>
    intro v w7 hj hd
    have t11 : v 11 = _ := hd.out 11 (of_decide_eq_true (by kernel_rfl))
    simp only [t11]
    have bl7 : Below W0.heap.size W0 w7 := HBW.out.trans (hj.out.mono HBW.out.size)
    clear hd hj pp qq u0 v0 u1 v1 u2 v2 u3 v3
    go_wp2_with fail
    go_roundw
    case rel => exact ⟨k + 1, by omega, by go_num, bl7⟩
    case measure => simp [intOf]; omega
  ·have pp := next_cell (HPQ.out.1.1) hbw
   have qq := next_cell (HPQ.out.2.1) hbw
   have dk : decide ((k : Int) < (P.lats.length : Int)) = false := decide_eq_false (by omega)
   have pp2 := next_cell HPQ.out.1.2.1 hbw
   have qq2 := next_cell HPQ.out.2.2.1 hbw
   have HBX1 := Lib.hid hbw
   clear hk
   go_wp2_with fail
   clear pp qq pp2 qq2 dk hbw hlt
   go_loopw [7, 8] (fun i _ wr => ∃ (k : Nat), k ≤ P.funs.length ∧ i = .int .i64 k ∧ Below W0.heap.size W0 wr) (fun i _ _ => P.funs.length - (intOf i).toNat)
   case atStart => exact ⟨0, by omega, rfl, HBX1.out⟩
   case round =>
    clear HBX1
    obtain ⟨k, hk, rfl, hbw⟩ := hrel
    by_cases hlt : k < P.funs.length
    ·have bw : Below w.heap.size w wr := HB.out.trans (hbw.mono HB.out.size)
     obtain ⟨y, hy⟩ : ∃ y, P.funs[k]? = some y := ⟨_, List.getElem?_eq_getElem hlt⟩
     obtain ⟨g, o, d1, r1, e1, hg, hr1, z1⟩ := (KA1.out.below bw (FuR.kept (Kept.below bw _) (Kept.below bw _))).at (fun _ _ => FuR.len) hy
     obtain ⟨g', o', d1', r1', e1', hg', hr1', z1'⟩ := (KB1.out.below bw (FuR.kept (Kept.below bw _) (Kept.below bw _))).at (fun _ _ => FuR.len) hy
     have HCL := Lib.hid (fun (W : World) (hb : Below wr.heap.size wr W) => fu_same y r1 r1' W (HFU.out y (List.mem_of_getElem? hy)) (FuR.kept (Kept.below hb _) (Kept.below hb _) _ _ hr1) (FuR.kept (Kept.below hb _) (Kept.below hb _) _ _ hr1'))
     obtain ⟨s0, s1, s2, rfl, -⟩ := hr1
     obtain ⟨s0', s1', s2', rfl, -⟩ := hr1'
     have u0 := z1 0 _ rfl
     have v0 := z1' 0 _ rfl
     have u1 := z1 1 _ rfl
     have v1 := z1' 1 _ rfl
     have u2 := z1 2 _ rfl
     have v2 := z1' 2 _ rfl
     have u3 := z1 3 _ rfl
     have v3 := z1' 3 _ rfl
     have u4 := z1 4 _ rfl
     have v4 := z1' 4 _ rfl
     have u5 := z1 5 _ rfl
     have v5 := z1' 5 _ rfl
     have u6 := z1 6 _ rfl
     have v6 := z1' 6 _ rfl
     simp only [Nat.add_zero] at u0 v0
     injection e1 with e1 _ e3
     injection e1' with e1' _ e3'
     subst e1; subst e1'; subst e3; subst e3'
     have pp := next_cell (HPQ.out.1.2.1) hbw
     have qq := next_cell (HPQ.out.2.2.1) hbw
     have i0 : (0 : Int) ≤ (k : Int) := by omega
     have i1 : (k : Int) < (P.funs.length : Int) := by omega
     have dk : decide ((k : Int) < (P.funs.length : Int)) = true := decide_eq_true i1
     have HK2 := Lib.hid hk
     have HBW := Lib.hid hbw
     clear z1 z1' hy bw hk hbw
     go_wp2_with fail
     refine' wp_region_each _ (Below wr.heap.size wr) (Onward) (Vl :: Vl :: Vl :: Vl :: Vl :: Vl :: Vl :: Vl :: Vl :: Vl :: Vl :: Vl :: []) ?hF (by kernel_rfl) (by kernel_rfl) (by kernel_rfl) ((Below.refl _ _).drew) (lasting_cons (lasting_vl) (lasting_cons (lasting_vl) (lasting_cons (lasting_vl) (lasting_cons (lasting_vl) (lasting_cons (lasting_vl) (lasting_cons (lasting_vl) (lasting_cons (lasting_vl) (lasting_cons (lasting_vl) (lasting_cons (lasting_vl) (lasting_cons (lasting_vl) (lasting_cons (lasting_vl) (lasting_cons (lasting_vl) (lasting_none))))))))))))) ?hops ?hend
     case hF => (intro v; simp only [over, Act.put, List.setIfInBounds_toArray, List.set_cons_zero, List.set_cons_succ, Nat.zero_add, Nat.reduceAdd]; exact rfl)
     case hops =>
      refine ⟨?_, ?_⟩
      ·intro v w' hj hd hs K hK
       have hk := hK.out
       simp only [Act.put, List.setIfInBounds_toArray, List.set_cons_zero, List.set_cons_succ] at hk
       have HK := Lib.hid hk
       clear hd hs hk hK
       go_simp
       exact HK.out _ _ hj.out (Below.refl _ _) (show _ = _ from rfl)
      refine ⟨?_, ?_⟩
      ·intro v w' hj hd hs K hK
       have t0 : v 0 = _ := hd.out 0 (by kernel_rfl)
       have x0 := next_cell pp hj.out
       have hk := hK.out
       simp only [t0, Act.put, List.setIfInBounds_toArray, List.set_cons_zero, List.set_cons_succ] at hk
       have HK := Lib.hid hk
       clear hd hs hk hK
       go_simp
       exact HK.out _ _ hj.out (Below.refl _ _) (show _ = _ from rfl)
      refine ⟨?_, ?_⟩
      ·intro v w' hj hd hs K hK
       have hk := hK.out
       simp only [Act.put, List.setIfInBounds_toArray, List.set_cons_zero, List.set_cons_succ] at hk
       have HK := Lib.hid hk
       clear hd hs hk hK
       go_simp
       exact HK.out _ _ hj.out (Below.refl _ _) (show _ = _ from rfl)
      refine ⟨?_, ?_⟩
      ·intro v w' hj hd hs K hK
       have t1 : v 1 = _ := hd.out 1 (by kernel_rfl)
       have t2 : v 2 = _ := hd.out 2 (by kernel_rfl)
       have hk := hK.out
       simp only [t1, t2, Act.put, List.setIfInBounds_toArray, List.set_cons_zero, List.set_cons_succ] at hk
       have HK := Lib.hid hk
       clear hd hs hk hK
       go_simp
       exact HK.out _ _ hj.out (Below.refl _ _) (show _ = _ from rfl)
      refine ⟨?_, ?_⟩
      ·intro v w' hj hd hs K hK
       have t3 : v 3 = _ := hd.out 3 (by kernel_rfl)
       have x0 := next_cell u0 hj.out; have x1 := next_cell u1 hj.out; have x2 := next_cell u2 hj.out; have x3 := next_cell u3 hj.out; have x4 := next_cell u4 hj.out; have x5 := next_cell u5 hj.out; have x6 := next_cell u6 hj.out
       have hk := hK.out
       simp only [t3, Act.put, List.setIfInBounds_toArray, List.set_cons_zero, List.set_cons_succ] at hk
       have HK := Lib.hid hk
       clear hd hs hk hK
       go_simp
       exact HK.out _ _ hj.out (Below.refl _ _) (show _ = _ from rfl)
      refine ⟨?_, ?_⟩
      ·intro v w' hj hd hs K hK
       have hk := hK.out
       simp only [Act.put, List.setIfInBounds_toArray, List.set_cons_zero, List.set_cons_succ] at hk
       have HK := Lib.hid hk
       clear hd hs hk hK
       go_simp
       exact HK.out _ _ hj.out (Below.refl _ _) (show _ = _ from rfl)
      refine ⟨?_, ?_⟩
      ·intro v w' hj hd hs K hK
       have t5 : v 5 = _ := hd.out 5 (by kernel_rfl)
       have x0 := next_cell qq hj.out
       have hk := hK.out
       simp only [t5, Act.put, List.setIfInBounds_toArray, List.set_cons_zero, List.set_cons_succ] at hk
       have HK := Lib.hid hk
       clear hd hs hk hK
       go_simp
       exact HK.out _ _ hj.out (Below.refl _ _) (show _ = _ from rfl)
      refine ⟨?_, ?_⟩
      ·intro v w' hj hd hs K hK
       have hk := hK.out
       simp only [Act.put, List.setIfInBounds_toArray, List.set_cons_zero, List.set_cons_succ] at hk
       have HK := Lib.hid hk
       clear hd hs hk hK
       go_simp
       exact HK.out _ _ hj.out (Below.refl _ _) (show _ = _ from rfl)
      refine ⟨?_, ?_⟩
      ·intro v w' hj hd hs K hK
       have t6 : v 6 = _ := hd.out 6 (by kernel_rfl)
       have t7 : v 7 = _ := hd.out 7 (by kernel_rfl)
       have hk := hK.out
       simp only [t6, t7, Act.put, List.setIfInBounds_toArray, List.set_cons_zero, List.set_cons_succ] at hk
       have HK := Lib.hid hk
       clear hd hs hk hK
       go_simp
       exact HK.out _ _ hj.out (Below.refl _ _) (show _ = _ from rfl)
      refine ⟨?_, ?_⟩
      ·intro v w' hj hd hs K hK
       have t8 : v 8 = _ := hd.out 8 (by kernel_rfl)
       have x0 := next_cell v0 hj.out; have x1 := next_cell v1 hj.out; have x2 := next_cell v2 hj.out; have x3 := next_cell v3 hj.out; have x4 := next_cell v4 hj.out; have x5 := next_cell v5 hj.out; have x6 := next_cell v6 hj.out
       have hk := hK.out
       simp only [t8, Act.put, List.setIfInBounds_toArray, List.set_cons_zero, List.set_cons_succ] at hk
       have HK := Lib.hid hk
       clear hd hs hk hK
       go_simp
       exact HK.out _ _ hj.out (Below.refl _ _) (show _ = _ from rfl)
      refine ⟨?_, ?_⟩
      ·intro v w' hj hd hs K hK
       have t4 : v 4 = _ := hd.out 4 (by kernel_rfl)
       have t9 : v 9 = _ := hd.out 9 (by kernel_rfl)
       have hk := hK.out
       simp only [t4, t9, Act.put, List.setIfInBounds_toArray, List.set_cons_zero, List.set_cons_succ] at hk
       have HK := Lib.hid hk
       clear hd hs hk hK
       go_simp
       go_at_call 34
       refine (HCL.out w' hj.out).mono ?_
       rintro e w2 ⟨rfl, hb2⟩
       exact HK.out _ _ (hj.out.trans (hb2.mono hj.out.size)) hb2 (show _ = _ from rfl)
      refine ⟨?_, ?_⟩
      ·intro v w' hj hd hs K hK
       have t10 : v 10 = _ := hd.out 10 (by kernel_rfl)
       have hk := hK.out
       simp only [t10, Act.put, List.setIfInBounds_toArray, List.set_cons_zero, List.set_cons_succ] at hk
       have HK := Lib.hid hk
       clear hd hs hk hK
       go_simp
       exact HK.out _ _ hj.out (Below.refl _ _) (show _ = _ from rfl)
      trivial
     case hend =>
      intro v w7 hj hd
      have t11 : v 11 = _ := hd.out 11 (of_decide_eq_true (by kernel_rfl))
      simp only [t11]
      have bl7 : Below W0.heap.size W0 w7 := HBW.out.trans (hj.out.mono HBW.out.size)
      clear hd hj pp qq u0 v0 u1 v1 u2 v2 u3 v3 u4 v4 u5 v5 u6 v6
      go_wp2_with fail
      go_roundw
      case rel => exact ⟨k + 1, by omega, by go_num, bl7⟩
      case measure => simp [intOf]; omega
    ·have pp := next_cell (HPQ.out.1.2.1) hbw
     have qq := next_cell (HPQ.out.2.2.1) hbw
     have dk : decide ((k : Int) < (P.funs.length : Int)) = false := decide_eq_false (by omega)
     have pp2 := next_cell HPQ.out.1.2.2.1 hbw
     have qq2 := next_cell HPQ.out.2.2.2.1 hbw
     have HBX2 := Lib.hid hbw
     clear hk
     go_wp2_with fail
     clear pp qq pp2 qq2 dk hbw hlt
     go_loopw [9, 10] (fun i _ wr => ∃ (k : Nat), k ≤ P.preds.length ∧ i = .int .i64 k ∧ Below W0.heap.size W0 wr) (fun i _ _ => P.preds.length - (intOf i).toNat)
     case atStart => exact ⟨0, by omega, rfl, HBX2.out⟩
     case round =>
      clear HBX2
      obtain ⟨k, hk, rfl, hbw⟩ := hrel
      by_cases hlt : k < P.preds.length
      ·have bw : Below w.heap.size w wr := HB.out.trans (hbw.mono HB.out.size)
       obtain ⟨y, hy⟩ : ∃ y, P.preds[k]? = some y := ⟨_, List.getElem?_eq_getElem hlt⟩
       obtain ⟨g, o, d1, r1, e1, hg, hr1, z1⟩ := (KA2.out.below bw (PrR.kept (Kept.below bw _))).at (fun _ _ => PrR.len) hy
       obtain ⟨g', o', d1', r1', e1', hg', hr1', z1'⟩ := (KB2.out.below bw (PrR.kept (Kept.below bw _))).at (fun _ _ => PrR.len) hy
       have HCL := Lib.hid (fun (W : World) (hb : Below wr.heap.size wr W) => pr_same y r1 r1' W (HPR.out y (List.mem_of_getElem? hy)) (PrR.kept (Kept.below hb _) _ _ hr1) (PrR.kept (Kept.below hb _) _ _ hr1'))
       obtain ⟨s0, rfl, -⟩ := hr1
       obtain ⟨s0', rfl, -⟩ := hr1'
       have u0 := z1 0 _ rfl
       have v0 := z1' 0 _ rfl
       have u1 := z1 1 _ rfl
       have v1 := z1' 1 _ rfl
       have u2 := z1 2 _ rfl
       have v2 := z1' 2 _ rfl
       have u3 := z1 3 _ rfl
       have v3 := z1' 3 _ rfl
       have u4 := z1 4 _ rfl
       have v4 := z1' 4 _ rfl
       have u5 := z1 5 _ rfl
       have v5 := z1' 5 _ rfl
       have u6 := z1 6 _ rfl
       have v6 := z1' 6 _ rfl
       simp only [Nat.add_zero] at u0 v0
       injection e1 with e1 _ e3
       injection e1' with e1' _ e3'
       subst e1; subst e1'; subst e3; subst e3'
       have pp := next_cell (HPQ.out.1.2.2.1) hbw
       have qq := next_cell (HPQ.out.2.2.2.1) hbw
       have i0 : (0 : Int) ≤ (k : Int) := by omega
       have i1 : (k : Int) < (P.preds.length : Int) := by omega
       have dk : decide ((k : Int) < (P.preds.length : Int)) = true := decide_eq_true i1
       have HK2 := Lib.hid hk
       have HBW := Lib.hid hbw
       clear z1 z1' hy bw hk hbw
       go_wp2_with fail
       refine' wp_region_each _ (Below wr.heap.size wr) (Onward) (Vl :: Vl :: Vl :: Vl :: Vl :: Vl :: Vl :: Vl :: Vl :: Vl :: Vl :: Vl :: []) ?hF (by kernel_rfl) (by kernel_rfl) (by kernel_rfl) ((Below.refl _ _).drew) (lasting_cons (lasting_vl) (lasting_cons (lasting_vl) (lasting_cons (lasting_vl) (lasting_cons (lasting_vl) (lasting_cons (lasting_vl) (lasting_cons (lasting_vl) (lasting_cons (lasting_vl) (lasting_cons (lasting_vl) (lasting_cons (lasting_vl) (lasting_cons (lasting_vl) (lasting_cons (lasting_vl) (lasting_cons (lasting_vl) (lasting_none))))))))))))) ?hops ?hend
       case hF => (intro v; simp only [over, Act.put, List.setIfInBounds_toArray, List.set_cons_zero, List.set_cons_succ, Nat.zero_add, Nat.reduceAdd]; exact rfl)
       case hops =>
        refine ⟨?_, ?_⟩
        ·intro v w' hj hd hs K hK
         have hk := hK.out
         simp only [Act.put, List.setIfInBounds_toArray, List.set_cons_zero, List.set_cons_succ] at hk
         have HK := Lib.hid hk
         clear hd hs hk hK
         go_simp
         exact HK.out _ _ hj.out (Below.refl _ _) (show _ = _ from rfl)
        refine ⟨?_, ?_⟩
        ·intro v w' hj hd hs K hK
         have t0 : v 0 = _ := hd.out 0 (by kernel_rfl)
         have x0 := next_cell pp hj.out
         have hk := hK.out
         simp only [t0, Act.put, List.setIfInBounds_toArray, List.set_cons_zero, List.set_cons_succ] at hk
         have HK := Lib.hid hk
         clear hd hs hk hK
         go_simp
         exact HK.out _ _ hj.out (Below.refl _ _) (show _ = _ from rfl)
        refine ⟨?_, ?_⟩
        ·intro v w' hj hd hs K hK
         have hk := hK.out
         simp only [Act.put, List.setIfInBounds_toArray, List.set_cons_zero, List.set_cons_succ] at hk
         have HK := Lib.hid hk
         clear hd hs hk hK
         go_simp
         exact HK.out _ _ hj.out (Below.refl _ _) (show _ = _ from rfl)
        refine ⟨?_, ?_⟩
        ·intro v w' hj hd hs K hK
         have t1 : v 1 = _ := hd.out 1 (by kernel_rfl)
         have t2 : v 2 = _ := hd.out 2 (by kernel_rfl)
         have hk := hK.out
         simp only [t1, t2, Act.put, List.setIfInBounds_toArray, List.set_cons_zero, List.set_cons_succ] at hk
         have HK := Lib.hid hk
         clear hd hs hk hK
         go_simp
         exact HK.out _ _ hj.out (Below.refl _ _) (show _ = _ from rfl)
        refine ⟨?_, ?_⟩
        ·intro v w' hj hd hs K hK
         have t3 : v 3 = _ := hd.out 3 (by kernel_rfl)
         have x0 := next_cell u0 hj.out; have x1 := next_cell u1 hj.out; have x2 := next_cell u2 hj.out; have x3 := next_cell u3 hj.out; have x4 := next_cell u4 hj.out; have x5 := next_cell u5 hj.out; have x6 := next_cell u6 hj.out
         have hk := hK.out
         simp only [t3, Act.put, List.setIfInBounds_toArray, List.set_cons_zero, List.set_cons_succ] at hk
         have HK := Lib.hid hk
         clear hd hs hk hK
         go_simp
         exact HK.out _ _ hj.out (Below.refl _ _) (show _ = _ from rfl)
        refine ⟨?_, ?_⟩
        ·intro v w' hj hd hs K hK
         have hk := hK.out
         simp only [Act.put, List.setIfInBounds_toArray, List.set_cons_zero, List.set_cons_succ] at hk
         have HK := Lib.hid hk
         clear hd hs hk hK
         go_simp
         exact HK.out _ _ hj.out (Below.refl _ _) (show _ = _ from rfl)
        refine ⟨?_, ?_⟩
        ·intro v w' hj hd hs K hK
         have t5 : v 5 = _ := hd.out 5 (by kernel_rfl)
         have x0 := next_cell qq hj.out
         have hk := hK.out
         simp only [t5, Act.put, List.setIfInBounds_toArray, List.set_cons_zero, List.set_cons_succ] at hk
         have HK := Lib.hid hk
         clear hd hs hk hK
         go_simp
         exact HK.out _ _ hj.out (Below.refl _ _) (show _ = _ from rfl)
        refine ⟨?_, ?_⟩
        ·intro v w' hj hd hs K hK
         have hk := hK.out
         simp only [Act.put, List.setIfInBounds_toArray, List.set_cons_zero, List.set_cons_succ] at hk
         have HK := Lib.hid hk
         clear hd hs hk hK
         go_simp
         exact HK.out _ _ hj.out (Below.refl _ _) (show _ = _ from rfl)
        refine ⟨?_, ?_⟩
        ·intro v w' hj hd hs K hK
         have t6 : v 6 = _ := hd.out 6 (by kernel_rfl)
         have t7 : v 7 = _ := hd.out 7 (by kernel_rfl)
         have hk := hK.out
         simp only [t6, t7, Act.put, List.setIfInBounds_toArray, List.set_cons_zero, List.set_cons_succ] at hk
         have HK := Lib.hid hk
         clear hd hs hk hK
         go_simp
         exact HK.out _ _ hj.out (Below.refl _ _) (show _ = _ from rfl)
        refine ⟨?_, ?_⟩
        ·intro v w' hj hd hs K hK
         have t8 : v 8 = _ := hd.out 8 (by kernel_rfl)
         have x0 := next_cell v0 hj.out; have x1 := next_cell v1 hj.out; have x2 := next_cell v2 hj.out; have x3 := next_cell v3 hj.out; have x4 := next_cell v4 hj.out; have x5 := next_cell v5 hj.out; have x6 := next_cell v6 hj.out
         have hk := hK.out
         simp only [t8, Act.put, List.setIfInBounds_toArray, List.set_cons_zero, List.set_cons_succ] at hk
         have HK := Lib.hid hk
         clear hd hs hk hK
         go_simp
         exact HK.out _ _ hj.out (Below.refl _ _) (show _ = _ from rfl)
        refine ⟨?_, ?_⟩
        ·intro v w' hj hd hs K hK
         have t4 : v 4 = _ := hd.out 4 (by kernel_rfl)
         have t9 : v 9 = _ := hd.out 9 (by kernel_rfl)
         have hk := hK.out
         simp only [t4, t9, Act.put, List.setIfInBounds_toArray, List.set_cons_zero, List.set_cons_succ] at hk
         have HK := Lib.hid hk
         clear hd hs hk hK
         go_simp
         go_at_call 35
         refine (HCL.out w' hj.out).mono ?_
         rintro e w2 ⟨rfl, hb2⟩
         exact HK.out _ _ (hj.out.trans (hb2.mono hj.out.size)) hb2 (show _ = _ from rfl)
        refine ⟨?_, ?_⟩
        ·intro v w' hj hd hs K hK
         have t10 : v 10 = _ := hd.out 10 (by kernel_rfl)
         have hk := hK.out
         simp only [t10, Act.put, List.setIfInBounds_toArray, List.set_cons_zero, List.set_cons_succ] at hk
         have HK := Lib.hid hk
         clear hd hs hk hK
         go_simp
         exact HK.out _ _ hj.out (Below.refl _ _) (show _ = _ from rfl)
        trivial
       case hend =>
        intro v w7 hj hd
        have t11 : v 11 = _ := hd.out 11 (of_decide_eq_true (by kernel_rfl))
        simp only [t11]
        have bl7 : Below W0.heap.size W0 w7 := HBW.out.trans (hj.out.mono HBW.out.size)
        clear hd hj pp qq u0 v0 u1 v1 u2 v2 u3 v3 u4 v4 u5 v5 u6 v6
        go_wp2_with fail
        go_roundw
        case rel => exact ⟨k + 1, by omega, by go_num, bl7⟩
        case measure => simp [intOf]; omega
      ·have pp := next_cell (HPQ.out.1.2.2.1) hbw
       have qq := next_cell (HPQ.out.2.2.2.1) hbw
       have dk : decide ((k : Int) < (P.preds.length : Int)) = false := decide_eq_false (by omega)
       have pp2 := next_cell HPQ.out.1.2.2.2 hbw
       have qq2 := next_cell HPQ.out.2.2.2.2 hbw
       have HBX3 := Lib.hid hbw
       clear hk
       go_wp2_with fail
       clear pp qq pp2 qq2 dk hbw hlt
       go_loopw [11, 12] (fun i _ wr => ∃ (k : Nat), k ≤ P.rules.length ∧ i = .int .i64 k ∧ Below W0.heap.size W0 wr) (fun i _ _ => P.rules.length - (intOf i).toNat)
       case atStart => exact ⟨0, by omega, rfl, HBX3.out⟩
       case round =>
        clear HBX3
        obtain ⟨k, hk, rfl, hbw⟩ := hrel
        by_cases hlt : k < P.rules.length
        ·have bw : Below w.heap.size w wr := HB.out.trans (hbw.mono HB.out.size)
         obtain ⟨y, hy⟩ : ∃ y, P.rules[k]? = some y := ⟨_, List.getElem?_eq_getElem hlt⟩
         obtain ⟨g, o, d1, r1, e1, hg, hr1, z1⟩ := (KA3.out.below bw (RuR.kept (Kept.below bw _) (Kept.below bw _))).at (fun _ _ => RuR.len) hy
         obtain ⟨g', o', d1', r1', e1', hg', hr1', z1'⟩ := (KB3.out.below bw (RuR.kept (Kept.below bw _) (Kept.below bw _))).at (fun _ _ => RuR.len) hy
         have HCL := Lib.hid (fun (W : World) (hb : Below wr.heap.size wr W) => ru_same y r1 r1' W (HRU.out y (List.mem_of_getElem? hy)).1 (HRU.out y (List.mem_of_getElem? hy)).2 (RuR.kept (Kept.below hb _) (Kept.below hb _) _ _ hr1) (RuR.kept (Kept.below hb _) (Kept.below hb _) _ _ hr1'))
         obtain ⟨s0, s1, rfl, -⟩ := hr1
         obtain ⟨s0', s1', rfl, -⟩ := hr1'
         have u0 := z1 0 _ rfl
         have v0 := z1' 0 _ rfl
         have u1 := z1 1 _ rfl
         have v1 := z1' 1 _ rfl
         have u2 := z1 2 _ rfl
         have v2 := z1' 2 _ rfl
         have u3 := z1 3 _ rfl
         have v3 := z1' 3 _ rfl
         have u4 := z1 4 _ rfl
         have v4 := z1' 4 _ rfl
         have u5 := z1 5 _ rfl
         have v5 := z1' 5 _ rfl
         have u6 := z1 6 _ rfl
         have v6 := z1' 6 _ rfl
         have u7 := z1 7 _ rfl
         have v7 := z1' 7 _ rfl
         have u8 := z1 8 _ rfl
         have v8 := z1' 8 _ rfl
         simp only [Nat.add_zero] at u0 v0
         injection e1 with e1 _ e3
         injection e1' with e1' _ e3'
         subst e1; subst e1'; subst e3; subst e3'
         have pp := next_cell (HPQ.out.1.2.2.2) hbw
         have qq := next_cell (HPQ.out.2.2.2.2) hbw
         have i0 : (0 : Int) ≤ (k : Int) := by omega
         have i1 : (k : Int) < (P.rules.length : Int) := by omega
         have dk : decide ((k : Int) < (P.rules.length : Int)) = true := decide_eq_true i1
         have HK2 := Lib.hid hk
         have HBW := Lib.hid hbw
         clear z1 z1' hy bw hk hbw
         go_wp2_with fail
         refine' wp_region_each _ (Below wr.heap.size wr) (Onward) (Vl :: Vl :: Vl :: Vl :: Vl :: Vl :: Vl :: Vl :: Vl :: Vl :: Vl :: Vl :: []) ?hF (by kernel_rfl) (by kernel_rfl) (by kernel_rfl) ((Below.refl _ _).drew) (lasting_cons (lasting_vl) (lasting_cons (lasting_vl) (lasting_cons (lasting_vl) (lasting_cons (lasting_vl) (lasting_cons (lasting_vl) (lasting_cons (lasting_vl) (lasting_cons (lasting_vl) (lasting_cons (lasting_vl) (lasting_cons (lasting_vl) (lasting_cons (lasting_vl) (lasting_cons (lasting_vl) (lasting_cons (lasting_vl) (lasting_none))))))))))))) ?hops ?hend
         case hF => (intro v; simp only [over, Act.put, List.setIfInBounds_toArray, List.set_cons_zero, List.set_cons_succ, Nat.zero_add, Nat.reduceAdd]; exact rfl)
         case hops =>
          refine ⟨?_, ?_⟩
          ·intro v w' hj hd hs K hK
           have hk := hK.out
           simp only [Act.put, List.setIfInBounds_toArray, List.set_cons_zero, List.set_cons_succ] at hk
           have HK := Lib.hid hk
           clear hd hs hk hK
           go_simp
           exact HK.out _ _ hj.out (Below.refl _ _) (show _ = _ from rfl)
          refine ⟨?_, ?_⟩
          ·intro v w' hj hd hs K hK
           have t0 : v 0 = _ := hd.out 0 (by kernel_rfl)
           have x0 := next_cell pp hj.out
           have hk := hK.out
           simp only [t0, Act.put, List.setIfInBounds_toArray, List.set_cons_zero, List.set_cons_succ] at hk
           have HK := Lib.hid hk
           clear hd hs hk hK
           go_simp
           exact HK.out _ _ hj.out (Below.refl _ _) (show _ = _ from rfl)
          refine ⟨?_, ?_⟩
          ·intro v w' hj hd hs K hK
           have hk := hK.out
           simp only [Act.put, List.setIfInBounds_toArray, List.set_cons_zero, List.set_cons_succ] at hk
           have HK := Lib.hid hk
           clear hd hs hk hK
           go_simp
           exact HK.out _ _ hj.out (Below.refl _ _) (show _ = _ from rfl)
          refine ⟨?_, ?_⟩
          ·intro v w' hj hd hs K hK
           have t1 : v 1 = _ := hd.out 1 (by kernel_rfl)
           have t2 : v 2 = _ := hd.out 2 (by kernel_rfl)
           have hk := hK.out
           simp only [t1, t2, Act.put, List.setIfInBounds_toArray, List.set_cons_zero, List.set_cons_succ] at hk
           have HK := Lib.hid hk
           clear hd hs hk hK
           go_simp
           exact HK.out _ _ hj.out (Below.refl _ _) (show _ = _ from rfl)
          refine ⟨?_, ?_⟩
          ·intro v w' hj hd hs K hK
           have t3 : v 3 = _ := hd.out 3 (by kernel_rfl)
           have x0 := next_cell u0 hj.out; have x1 := next_cell u1 hj.out; have x2 := next_cell u2 hj.out; have x3 := next_cell u3 hj.out; have x4 := next_cell u4 hj.out; have x5 := next_cell u5 hj.out; have x6 := next_cell u6 hj.out; have x7 := next_cell u7 hj.out; have x8 := next_cell u8 hj.out
           have hk := hK.out
           simp only [t3, Act.put, List.setIfInBounds_toArray, List.set_cons_zero, List.set_cons_succ] at hk
           have HK := Lib.hid hk
           clear hd hs hk hK
           go_simp
           exact HK.out _ _ hj.out (Below.refl _ _) (show _ = _ from rfl)
          refine ⟨?_, ?_⟩
          ·intro v w' hj hd hs K hK
           have hk := hK.out
           simp only [Act.put, List.setIfInBounds_toArray, List.set_cons_zero, List.set_cons_succ] at hk
           have HK := Lib.hid hk
           clear hd hs hk hK
           go_simp
           exact HK.out _ _ hj.out (Below.refl _ _) (show _ = _ from rfl)
          refine ⟨?_, ?_⟩
          ·intro v w' hj hd hs K hK
           have t5 : v 5 = _ := hd.out 5 (by kernel_rfl)
           have x0 := next_cell qq hj.out
           have hk := hK.out
           simp only [t5, Act.put, List.setIfInBounds_toArray, List.set_cons_zero, List.set_cons_succ] at hk
           have HK := Lib.hid hk
           clear hd hs hk hK
           go_simp
           exact HK.out _ _ hj.out (Below.refl _ _) (show _ = _ from rfl)
          refine ⟨?_, ?_⟩
          ·intro v w' hj hd hs K hK
           have hk := hK.out
           simp only [Act.put, List.setIfInBounds_toArray, List.set_cons_zero, List.set_cons_succ] at hk
           have HK := Lib.hid hk
           clear hd hs hk hK
           go_simp
           exact HK.out _ _ hj.out (Below.refl _ _) (show _ = _ from rfl)
          refine ⟨?_, ?_⟩
          ·intro v w' hj hd hs K hK
           have t6 : v 6 = _ := hd.out 6 (by kernel_rfl)
           have t7 : v 7 = _ := hd.out 7 (by kernel_rfl)
           have hk := hK.out
           simp only [t6, t7, Act.put, List.setIfInBounds_toArray, List.set_cons_zero, List.set_cons_succ] at hk
           have HK := Lib.hid hk
           clear hd hs hk hK
           go_simp
           exact HK.out _ _ hj.out (Below.refl _ _) (show _ = _ from rfl)
          refine ⟨?_, ?_⟩
          ·intro v w' hj hd hs K hK
           have t8 : v 8 = _ := hd.out 8 (by kernel_rfl)
           have x0 := next_cell v0 hj.out; have x1 := next_cell v1 hj.out; have x2 := next_cell v2 hj.out; have x3 := next_cell v3 hj.out; have x4 := next_cell v4 hj.out; have x5 := next_cell v5 hj.out; have x6 := next_cell v6 hj.out; have x7 := next_cell v7 hj.out; have x8 := next_cell v8 hj.out
           have hk := hK.out
           simp only [t8, Act.put, List.setIfInBounds_toArray, List.set_cons_zero, List.set_cons_succ] at hk
           have HK := Lib.hid hk
           clear hd hs hk hK
           go_simp
           exact HK.out _ _ hj.out (Below.refl _ _) (show _ = _ from rfl)
          refine ⟨?_, ?_⟩
          ·intro v w' hj hd hs K hK
           have t4 : v 4 = _ := hd.out 4 (by kernel_rfl)
           have t9 : v 9 = _ := hd.out 9 (by kernel_rfl)
           have hk := hK.out
           simp only [t4, t9, Act.put, List.setIfInBounds_toArray, List.set_cons_zero, List.set_cons_succ] at hk
           have HK := Lib.hid hk
           clear hd hs hk hK
           go_simp
           go_at_call 36
           refine (HCL.out w' hj.out).mono ?_
           rintro e w2 ⟨rfl, hb2⟩
           exact HK.out _ _ (hj.out.trans (hb2.mono hj.out.size)) hb2 (show _ = _ from rfl)
          refine ⟨?_, ?_⟩
          ·intro v w' hj hd hs K hK
           have t10 : v 10 = _ := hd.out 10 (by kernel_rfl)
           have hk := hK.out
           simp only [t10, Act.put, List.setIfInBounds_toArray, List.set_cons_zero, List.set_cons_succ] at hk
           have HK := Lib.hid hk
           clear hd hs hk hK
           go_simp
           exact HK.out _ _ hj.out (Below.refl _ _) (show _ = _ from rfl)
          trivial
         case hend =>
          intro v w7 hj hd
          have t11 : v 11 = _ := hd.out 11 (of_decide_eq_true (by kernel_rfl))
          simp only [t11]
          have bl7 : Below W0.heap.size W0 w7 := HBW.out.trans (hj.out.mono HBW.out.size)
          clear hd hj pp qq u0 v0 u1 v1 u2 v2 u3 v3 u4 v4 u5 v5 u6 v6 u7 v7 u8 v8
          go_wp2_with fail
          go_roundw
          case rel => exact ⟨k + 1, by omega, by go_num, bl7⟩
          case measure => simp [intOf]; omega
        ·have pp := next_cell (HPQ.out.1.2.2.2) hbw
         have qq := next_cell (HPQ.out.2.2.2.2) hbw
         have dk : decide ((k : Int) < (P.rules.length : Int)) = false := decide_eq_false (by omega)
         go_wp2_with fail
         go_ret
         exact ⟨rfl, HB.out.trans (hbw.mono HB.out.size)⟩
end Go.Proofs.YtpcmlkpnjimbiaaDoor
