/- Programs and data as they stand in memory; no program in sight. -/
import Derived.Test.YtoficnfpoeaccaaDoorKLit
import Derived.Test.YtoficnfpoeaccaaDoorKKey
namespace Go.Proofs.YtoficnfpoeaccaaDoor
set_option linter.unusedVariables false
set_option linter.unusedSimpArgs false
open Go.RowKit
def Qu.Vl3.fs (v : Qu.Vl3) : List Value := [.int .i64 v.t, .int .i64 v.n, .string v.s]
/-- A row: its values; its moments or its cells are not looked at. -/
structure Rw where
  aa : Option Addr
  ac : Nat
  args : List Qu.Vl3
  wn : Sl
def Rw.fs (r : Rw) : List Value := [.slice r.aa r.args.length r.ac, .slice r.wn.a r.wn.n r.wn.c]
/-- A relation. -/
structure Re where
  a : Option Addr
  c : Nat
  rows : List Rw
def Re.fs (r : Re) : List Value := [.slice r.a r.rows.length r.c]
structure Da where
  ra : Option Addr
  rc : Nat
  rels : List Re
  la : Option Addr
  lc : Nat
  lats : List Re
def Da.fs (d : Da) : List Value := [.slice d.ra d.rels.length d.rc, .slice d.la d.lats.length d.lc]
def Da.v (d : Da) : Value := .agg #[.slice d.ra d.rels.length d.rc, .slice d.la d.lats.length d.lc]
/-- A predicate. -/
structure Pd where
  name : ByteArray
  ta : Option Addr
  tn : Nat
  tc : Nat
  lat : ByteArray
  of : Int
  base : Bool
  key : Int
  pos : Int
def Pd.fs (p : Pd) : List Value := [.string p.name, .slice p.ta p.tn p.tc, .string p.lat, .int .i64 p.of, .bool p.base, .int .i64 p.key, .int .i64 p.pos]
structure Pm where
  lat : Sl
  fns : Sl
  pa : Option Addr
  pc : Nat
  preds : List Pd
  rus : Sl
def Pm.v (p : Pm) : Value := .agg #[.slice p.lat.a p.lat.n p.lat.c, .slice p.fns.a p.fns.n p.fns.c, .slice p.pa p.preds.length p.pc, .slice p.rus.a p.rus.n p.rus.c]
structure RwOk (w : World) (r : Rw) : Prop where
  args : Str w r.aa 3 (r.args.map Qu.Vl3.fs)
  i64 : ∀ v ∈ r.args, I64 v.t ∧ I64 v.n ∧ v.s.size ≤ 1000000000000
structure ReOk (w : World) (r : Re) : Prop where
  rows : Str w r.a 2 (r.rows.map Rw.fs)
  each : ∀ x ∈ r.rows, RwOk w x
structure DaOk (w : World) (d : Da) : Prop where
  rels : Str w d.ra 1 (d.rels.map Re.fs)
  lats : Str w d.la 1 (d.lats.map Re.fs)
  eachR : ∀ x ∈ d.rels, ReOk w x
  eachL : ∀ x ∈ d.lats, ReOk w x
structure PmOk (w : World) (p : Pm) : Prop where
  preds : Str w p.pa 7 (p.preds.map Pd.fs)
  i64 : ∀ x ∈ p.preds, I64 x.of
theorem RwOk.below {w w' : World} {r : Rw} (h : RwOk w r) (hb : Below w.heap.size w w') : RwOk w' r := ⟨h.args.below hb, h.i64⟩
theorem ReOk.below {w w' : World} {r : Re} (h : ReOk w r) (hb : Below w.heap.size w w') : ReOk w' r := ⟨h.rows.below hb, fun x hx => (h.each x hx).below hb⟩
theorem DaOk.below {w w' : World} {d : Da} (h : DaOk w d) (hb : Below w.heap.size w w') : DaOk w' d := ⟨h.rels.below hb, h.lats.below hb, fun x hx => (h.eachR x hx).below hb, fun x hx => (h.eachL x hx).below hb⟩
theorem PmOk.below {w w' : World} {p : Pm} (h : PmOk w p) (hb : Below w.heap.size w w') : PmOk w' p := ⟨h.preds.below hb, h.i64⟩
theorem pd_cells {w : World} {A : Option Addr} {l : List Pd} (h : Str w A 7 (l.map Pd.fs)) {i : Nat} {x : Pd} (hi : l[i]? = some x) : ∃ g o, A = some ⟨g, o, none⟩ ∧ g < w.heap.size ∧ w.cell? ⟨g, o + i * 7 + 1, none⟩ = some (.slice x.ta x.tn x.tc) ∧ w.cell? ⟨g, o + i * 7 + 3, none⟩ = some (.int .i64 x.of) := by
  obtain ⟨g, o, e, hg, hc⟩ := h.at (i := i) (fs := x.fs) (by rw [List.getElem?_map, hi]; rfl)
  exact ⟨g, o, e, hg, hc 1 _ rfl, hc 3 _ rfl⟩
theorem re_cells {w : World} {A : Option Addr} {l : List Re} (h : Str w A 1 (l.map Re.fs)) {i : Nat} {x : Re} (hi : l[i]? = some x) : ∃ g o, A = some ⟨g, o, none⟩ ∧ g < w.heap.size ∧ w.cell? ⟨g, o + i, none⟩ = some (.slice x.a x.rows.length x.c) := by
  obtain ⟨g, o, e, hg, hc⟩ := h.at (i := i) (fs := x.fs) (by rw [List.getElem?_map, hi]; rfl)
  have := hc 0 _ rfl
  rw [Nat.mul_one, Nat.add_zero] at this
  exact ⟨g, o, e, hg, this⟩
theorem rw_cells {w : World} {A : Option Addr} {l : List Rw} (h : Str w A 2 (l.map Rw.fs)) {i : Nat} {x : Rw} (hi : l[i]? = some x) : ∃ g o, A = some ⟨g, o, none⟩ ∧ g < w.heap.size ∧ w.cell? ⟨g, o + i * 2, none⟩ = some (.slice x.aa x.args.length x.ac) ∧ w.cell? ⟨g, o + i * 2 + 1, none⟩ = some (.slice x.wn.a x.wn.n x.wn.c) := by
  obtain ⟨g, o, e, hg, hc⟩ := h.at (i := i) (fs := x.fs) (by rw [List.getElem?_map, hi]; rfl)
  exact ⟨g, o, e, hg, hc 0 _ rfl, hc 1 _ rfl⟩
theorem vl_cells {w : World} {A : Option Addr} {l : List Qu.Vl3} (h : Str w A 3 (l.map Qu.Vl3.fs)) {i : Nat} {x : Qu.Vl3} (hi : l[i]? = some x) : ∃ g o, A = some ⟨g, o, none⟩ ∧ g < w.heap.size ∧ w.cell? ⟨g, o + i * 3, none⟩ = some (.int .i64 x.t) ∧ w.cell? ⟨g, o + i * 3 + 1, none⟩ = some (.int .i64 x.n) ∧ w.cell? ⟨g, o + i * 3 + 2, none⟩ = some (.string x.s) := by
  obtain ⟨g, o, e, hg, hc⟩ := h.at (i := i) (fs := x.fs) (by rw [List.getElem?_map, hi]; rfl)
  exact ⟨g, o, e, hg, hc 0 _ rfl, hc 1 _ rfl, hc 2 _ rfl⟩
/-- The rows of a predicate. -/
def rowsOf (d : Da) (pd : Pd) (p : Nat) : List Rw := if 0 ≤ pd.of then ((d.lats[p]?).map Re.rows).getD [] else ((d.rels[p]?).map Re.rows).getD []
/-- The headers of rows' values. -/
def hcells (l : List Rw) : List Value := l.map fun r => .slice r.aa r.args.length r.ac
/-- Data of at most 30 relations of at most 60 rows of at most 8 values. -/
structure Lit (d : Da) : Prop where
  n1 : d.rels.length ≤ 30
  n2 : d.lats.length ≤ 30
  r1 : ∀ x ∈ d.rels, x.rows.length ≤ 60 ∧ ∀ y ∈ x.rows, y.args.length ≤ 8
  r2 : ∀ x ∈ d.lats, x.rows.length ≤ 60 ∧ ∀ y ∈ x.rows, y.args.length ≤ 8
theorem rowsOf_ok {w : World} {d : Da} (h : DaOk w d) (hl : Lit d) (pd : Pd) (p : Nat) : (rowsOf d pd p).length ≤ 60 ∧ ∀ y ∈ rowsOf d pd p, y.args.length ≤ 8 ∧ RwOk w y := by
  unfold rowsOf
  split
  · cases hx : d.lats[p]? with
    | none => exact ⟨by simp, fun y hy => by simp at hy⟩
    | some x =>
      have hm := List.mem_of_getElem? hx
      exact ⟨(hl.r2 x hm).1, fun y hy => ⟨(hl.r2 x hm).2 y hy, (h.eachL x hm).each y hy⟩⟩
  · cases hx : d.rels[p]? with
    | none => exact ⟨by simp, fun y hy => by simp at hy⟩
    | some x =>
      have hm := List.mem_of_getElem? hx
      exact ⟨(hl.r1 x hm).1, fun y hy => ⟨(hl.r1 x hm).2 y hy, (h.eachR x hm).each y hy⟩⟩
end Go.Proofs.YtoficnfpoeaccaaDoor
