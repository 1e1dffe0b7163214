/- The fixed texts of the laws' check, read by the plain parser. -/
import Derived.Test.YtpcmlkpnjimbiaaDoorPQuery
namespace Go.Proofs.YtpcmlkpnjimbiaaDoor
set_option linter.unusedVariables false
set_option linter.unusedSimpArgs false
open Go.RowKit
namespace Hd
def s1 : List UInt8 := [112, 40, 88, 44, 32, 97, 59, 32, 117, 112, 40, 76, 41, 41, 32, 58, 45, 32, 113, 40, 88, 59, 32, 76, 41, 44, 32, 88, 32, 60, 32, 51, 46]
def s2 : List UInt8 := [118, 105, 101, 119, 32, 118, 40, 115, 121, 109, 44, 32, 59, 32, 118, 105, 101, 119, 32, 119, 40, 105, 110, 116, 41, 59, 32, 108, 97, 116, 116, 105, 99, 101, 32, 108, 32, 123, 32, 97, 32, 60, 32, 98, 59, 32, 97, 59, 32, 125]
def s3 : List UInt8 := [112, 40, 97, 41]
def q1 : List UInt8 := [112, 40, 88, 59, 32, 76, 41]
def f1 : List UInt8 := [112, 40, 97, 44, 32, 51, 59, 32, 109, 105, 100, 41]
def f2 : List UInt8 := [112, 40, 88, 41]
def tX : Px.T := ⟨[88], 0, 0, []⟩
def tA : Px.T := ⟨[], 2, 0, [97]⟩
def t3 : Px.T := ⟨[], 1, 3, []⟩
def P1 : Ap.Pg := ⟨[], [], [], [⟨[112], -1, [tX, tA], ⟨3, [117, 112], [76], -1⟩, [⟨1, [113], -1, [tX], [76], [], -1, 0, 18⟩, ⟨5, [], -1, [tX, t3], [], [], -1, 3, 27⟩], 0⟩]⟩
def P2 : Ap.Pg := ⟨[⟨[108], [[97], [98]], [(0, 1)], 27⟩], [], [⟨[119], [1], [], -1, false, 1, 14⟩], []⟩
theorem p1 : parseP s1 = P1 := by kernel_rfl
theorem d1 : parseD s1 = [] := by kernel_rfl
theorem p2 : parseP s2 = P2 := by kernel_rfl
theorem d2 : parseD s2 = [(50, 12)] := by kernel_rfl
theorem p3 : parseP s3 = pg0 := by kernel_rfl
theorem d3 : parseD s3 = [(51, 4)] := by kernel_rfl
theorem pq1 : parseQuery q1 = (⟨1, [112], -1, [tX], [76], [], -1, 0, 0⟩, []) := by kernel_rfl
theorem pf1 : parseFact f1 = (⟨1, [112], -1, [tA, t3], [], [109, 105, 100], -1, 0, 0⟩, []) := by kernel_rfl
theorem pf2 : parseFact f2 = (liZ, [(50, 2)]) := by kernel_rfl
theorem lx : Lx.lex [112] = ([⟨1, [112], 0⟩], 0, -1) := by kernel_rfl
end Hd
end Go.Proofs.YtpcmlkpnjimbiaaDoor
namespace Go.Proofs.YtpcmlkpnjimbiaaDoor
set_option linter.unusedVariables false
set_option linter.unusedSimpArgs false
open Go.RowKit
theorem diag_same (a b : Int) (w : World) : (Op.equalIn 10000 43 (.agg #[.int .i64 a, .int .i64 b]) (.agg #[.int .i64 a, .int .i64 b])).run Tryd.prog w = .ok true w := by
 simp [go_sem, Tryd.underlying43, Tryd.underlying25, Tryd.underlying3]
theorem TRow.below {w w' : World} {e : TypeId} {k n : Nat} {v : Value} {xs : List Value} (h : TRow w e k v n xs) (hb : Below w.heap.size w w') : TRow w' e k v n xs := h.kept (Kept.below hb e)
theorem dg_flat (ds : List (Int × Int)) {k : Nat} {d : Int × Int} (h : ds[k]? = some d) : (ds.flatMap dgFs)[k * 2]? = some (.int .i64 d.1) ∧ (ds.flatMap dgFs)[k * 2 + 1]? = some (.int .i64 d.2) := by
 have e : ds.flatMap dgFs = (ds.map dgFs).flatten := by rw [List.flatMap_def]
 rw [e]
 have hk : ∀ r ∈ ds.map dgFs, r.length = 2 := fun r hr => by
  obtain ⟨x, _, rfl⟩ := List.mem_map.1 hr; rfl
 have hm : (ds.map dgFs)[k]? = some (dgFs d) := by rw [List.getElem?_map, h]; rfl
 exact ⟨flat_at _ hk k _ hm 0 _ rfl, flat_at _ hk k _ hm 1 _ rfl⟩
theorem DgR.at {w : World} {v : Value} {ds : List (Int × Int)} (h : DgR w v ds) {k : Nat} {d : Int × Int} (hk : ds[k]? = some d) : ∃ g o c, v = .slice (some ⟨g, o, none⟩) ds.length c ∧ g < w.heap.size ∧ w.cell? ⟨g, o + k * 2, none⟩ = some (.int .i64 d.1) ∧ w.cell? ⟨g, o + k * 2 + 1, none⟩ = some (.int .i64 d.2) := by
 have hn : 0 < ds.length := by have := (List.getElem?_eq_some_iff.1 hk).1; omega
 obtain ⟨g, o, c, e, hg, hc⟩ := TRow.cells h hn
 obtain ⟨h1, h2⟩ := dg_flat ds hk
 exact ⟨g, o, c, e, hg, by have := hc _ _ h1; exact this, by have := hc _ _ h2; rw [show o + k * 2 + 1 = o + (k * 2 + 1) by omega]; exact this⟩
set_option maxHeartbeats 1000000 in
set_option maxRecDepth 100000 in
theorem diags_same (v v' : Value) (ds : List (Int × Int)) (w : World) (hl : ds.length ≤ 1000000) (h : DgR w v ds) (h' : DgR w v' ds) :
  Calls Tryd.prog 14 #[v, v'] w fun e w' => e = .returned (.bool true) ∧ Below w.heap.size w w' := by
 obtain ⟨A, c, rfl⟩ := TRow.slice h
 obtain ⟨A', c', rfl⟩ := TRow.slice h'
 go_enter Tryd.func14, Tryd.ntmps14
 go_wp2_with fail
 go_loopw [5] (fun i wr => ∃ (k nq : Nat), k ≤ ds.length ∧ i = .int .i64 k ∧ wr = w.drewN nq) (fun i _ => ds.length - (intOf i).toNat)
 case atStart => exact ⟨0, 0, by omega, rfl, rfl⟩
 case round =>
  obtain ⟨k, nq, hk, rfl, rfl⟩ := hrel
  by_cases hlt : k < ds.length
  ·obtain ⟨d, hd⟩ : ∃ d, ds[k]? = some d := ⟨_, List.getElem?_eq_getElem hlt⟩
   obtain ⟨g, o, c1, e1, hg, c0, c1⟩ := h.at hd
   obtain ⟨g', o', c1', e1', hg', d0, d1⟩ := h'.at hd
   injection e1 with e1 _ e3
   injection e1' with e1' _ e3'
   subst e1; subst e1'; subst e3; subst e3'
   have hq := fun W => diag_same d.1 d.2 W
   clear h h' hd
   go_wp2_with fail
   go_quiet (fail)
   go_wp2_with fail
   go_roundw
   case rel => exact ⟨k + 1, _, by omega, by go_num, rfl⟩
   case measure => simp [intOf]; omega
  ·go_wp2_with fail
   go_ret
   exact ⟨rfl, below_drewN (Below.refl _ _) _⟩
set_option maxHeartbeats 1000000 in
set_option maxRecDepth 100000 in
theorem one_same (v : Value) (a b : Int) (w : World) (h : DgR w v [(a, b)]) :
  Calls Tryd.prog 18 #[v, .int .i64 a, .int .i64 b] w fun e w' => e = .returned (.bool true) ∧ Below w.heap.size w w' := by
 have hb := below1 w (.cells #[.int .i64 a, .int .i64 b] 43)
 have HD := Lib.hid (diags_same v _ [(a, b)] _ (by simp) (TRow.below h hb) (dg_one (At.new w 43 #[.int .i64 a, .int .i64 b])))
 go_enter Tryd.func18, Tryd.ntmps18
 go_wp2_with (go_at_call 14; refine (HD.out).mono ?_; rintro e w2 ⟨rfl, hb2⟩; clear HD)
 go_ret
 exact ⟨rfl, hb.trans (hb2.mono hb.size)⟩
end Go.Proofs.YtpcmlkpnjimbiaaDoor
