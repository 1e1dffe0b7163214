/- The reader of the parser as it stands in memory; its small methods. -/
import Derived.Test.YtpcmlkpnjimbiaaDoorPx
import Derived.Test.YtpcmlkpnjimbiaaDoorOwn
import Derived.Test.YtpcmlkpnjimbiaaDoorShelf
import Derived.Test.YtpcmlkpnjimbiaaDoorInv4
import Derived.Test.YtpcmlkpnjimbiaaDoorMap
import Derived.StillTailTactics
namespace Go.Proofs.YtpcmlkpnjimbiaaDoor
set_option linter.unusedVariables false
set_option linter.unusedSimpArgs false
open Go.RowKit
structure Sl where
 a : Option Addr
 n : Nat
 c : Nat
/-- A slice's cells hold these structs of k cells. -/
def Str (w : World) (A : Option Addr) (k : Nat) (xs : List (List Value)) : Prop :=
 xs ≠ [] → ∃ g o, A = some ⟨g, o, none⟩ ∧ g < w.heap.size ∧ ∀ (i : Nat) (fs : List Value), xs[i]? = some fs → ∀ (j : Nat) (v : Value), fs[j]? = some v → w.cell? ⟨g, o + i * k + j, none⟩ = some v
theorem Str.below {w w' : World} {A : Option Addr} {k : Nat} {xs : List (List Value)} (h : Str w A k xs) (hb : Below w.heap.size w w') : Str w' A k xs := fun hn => by
 obtain ⟨g, o, e, hg, hc⟩ := h hn
 exact ⟨g, o, e, Nat.lt_of_lt_of_le hg hb.size, fun i fs hi j v hv => (hb.cell hg).trans (hc i fs hi j v hv)⟩
theorem Str.at {w : World} {A : Option Addr} {k : Nat} {xs : List (List Value)} (h : Str w A k xs) {i : Nat} {fs : List Value} (hi : xs[i]? = some fs) : ∃ g o, A = some ⟨g, o, none⟩ ∧ g < w.heap.size ∧ ∀ (j : Nat) (v : Value), fs[j]? = some v → w.cell? ⟨g, o + i * k + j, none⟩ = some v := by
 obtain ⟨g, o, e, hg, hc⟩ := h (by intro h; rw [h] at hi; simp at hi)
 exact ⟨g, o, e, hg, hc i fs hi⟩
theorem next_cell {w w' : World} {p : Addr} {v : Value} (h : w.cell? p = some v) (hb : Below w.heap.size w w') : w'.cell? p = some v := (hb.cell (cell_lt h)).trans h
def bs (l : List UInt8) : ByteArray := ⟨l.toArray⟩
def tkfs (t : Lx.Tok) : List Value := [.int .i64 t.kind, .string (bs t.text), .int .i64 t.pos]
/-- A variable that holds a slice of these strings, in blocks below B. -/
def StrVar (B : Nat) (w : World) (gv n : Nat) (l : List (List UInt8)) : Prop := gv < B ∧ ∃ g o c, w.cell? ⟨gv, 0, none⟩ = some (.slice (some ⟨g, o, none⟩) n c) ∧ g < B ∧ ∀ j, j < l.length → w.cell? ⟨g, o + j, none⟩ = some (.string ((l.map bs).getD j ByteArray.empty))
def opN (s : List UInt8) : Fin 5 := if s = [61] then 1 else if s = [33, 61] then 2 else if s = [60] then 3 else if s = [60, 61] then 4 else 0
theorem opN_of (s : List UInt8) : ((opN s).val : Int) = Px.opOf s := by
 unfold opN Px.opOf
 split
 ·rfl
 ·split
  ·rfl
  ·split
   ·rfl
   ·split <;> rfl
def opF (s : ByteArray) : Option (Fin 5) := if Px.opOf s.data.toList = 0 then none else some (opN s.data.toList)
def imk (x : Fin 5) : Value := .int .i64 (x.val : Int)
def idat (x : Fin 5) : DataW Unit := .lit (.int .i64 (x.val : Int))
/-- The tables of the package, in blocks below B. -/
structure Tb (B : Nat) (w : World) : Prop where
 keys : StrVar B w 3 10 Px.keys
 starts : StrVar B w 0 5 Px.starts
 ops : 2 < B ∧ ∃ b n, w.cell? ⟨2, 0, none⟩ = some (.map (some b)) ∧ b < B ∧ FMap w Tryd.prog 9 (plainElem Tryd.prog 3) Value.string idat b n opF
theorem StrVar.below {B : Nat} {w w' : World} {gv n : Nat} {l : List (List UInt8)} (h : StrVar B w gv n l) (hb : Below B w w') : StrVar B w' gv n l := by
 obtain ⟨h0, g, o, c, h1, h2, h3⟩ := h
 exact ⟨h0, g, o, c, (hb.cell (p := ⟨gv, 0, none⟩) h0).trans h1, h2, fun j hj => (hb.cell (p := ⟨g, o + j, none⟩) h2).trans (h3 j hj)⟩
theorem Tb.below {B : Nat} {w w' : World} (h : Tb B w) (hb : Below B w w') : Tb B w' := by
 obtain ⟨o1, b, n, o2, o3, o4⟩ := h.ops
 exact ⟨h.keys.below hb, h.starts.below hb, o1, b, n, (hb.cell (p := ⟨_, 0, none⟩) o1).trans o2, o3, o4.below hb o3⟩
theorem StrVar.more {B B' : Nat} {w : World} {gv n : Nat} {l : List (List UInt8)} (h : StrVar B w gv n l) (hB : B ≤ B') : StrVar B' w gv n l := by
 obtain ⟨h0, g, o, c, h1, h2, h3⟩ := h
 exact ⟨by omega, g, o, c, h1, by omega, h3⟩
theorem Tb.more {B B' : Nat} {w : World} (h : Tb B w) (hB : B ≤ B') : Tb B' w := by
 obtain ⟨o1, b, n, o2, o3, o4⟩ := h.ops
 exact ⟨h.keys.more hB, h.starts.more hB, by omega, b, n, o2, by omega, o4⟩
/-- The rows of a reader's program so far. -/
structure Outs where
 l : Sl
 f : Sl
 p : Sl
 r : Sl
def rdc (TA : Option Addr) (tn tc i sz : Nat) (o : Outs) : Array Value := #[.slice TA tn tc, .int .i64 i, .int .i64 sz, .slice o.l.a o.l.n o.l.c, .slice o.f.a o.f.n o.f.c, .slice o.p.a o.p.n o.p.c, .slice o.r.a o.r.n o.r.c]
/-- Numbers are one to four digits; no text is long. -/
def Dig (ts : List Lx.Tok) : Prop := (∀ t ∈ ts, t.kind = 3 → t.text.length ≤ 4 ∧ ∀ c ∈ t.text, 48 ≤ c.toNat ∧ c.toNat ≤ 57) ∧ ∀ t ∈ ts, t.text.length ≤ 1000000
/-- A reader at token i. -/
structure Rd (w : World) (rb : Nat) (TA : Option Addr) (tc : Nat) (ts : List Lx.Tok) (sz i : Nat) (o : Outs) : Prop where
 box : At w rb 87 (rdc TA ts.length tc i sz o)
 toks : Str w TA 3 (ts.map tkfs)
 few : ts.length ≤ 3000 ∧ sz ≤ 1000000 ∧ i ≤ ts.length
 tb : Tb rb w
 dig : Dig ts
 old : ∀ a, TA = some a → a.block < rb
theorem Rd.cells {w : World} {rb : Nat} {TA : Option Addr} {tc : Nat} {ts : List Lx.Tok} {sz i : Nat} {o : Outs} (h : Rd w rb TA tc ts sz i o) : w.cell? ⟨rb, 0, none⟩ = some (.slice TA ts.length tc) ∧ w.cell? ⟨rb, 1, none⟩ = some (.int .i64 i) ∧ w.cell? ⟨rb, 2, none⟩ = some (.int .i64 sz) :=
 ⟨h.box.cell 0, h.box.cell 1, h.box.cell 2⟩
theorem Rd.next {w w' : World} {rb : Nat} {TA : Option Addr} {tc : Nat} {ts : List Lx.Tok} {sz i : Nat} {o : Outs} (h : Rd w rb TA tc ts sz i o) (hb : Below w.heap.size w w') : Rd w' rb TA tc ts sz i o := ⟨h.box.next hb, h.toks.below hb, h.few, h.tb.below (hb.mono (Nat.le_of_lt h.box.lt)), h.dig, h.old⟩
/-- A token, or what stands for one at the end. -/
def tokAt (ts : List Lx.Tok) (sz k : Nat) : Lx.Tok := (ts[k]?).getD ⟨0, [], sz⟩
def tokV (t : Lx.Tok) : Value := .agg #[.int .i64 t.kind, .string (bs t.text), .int .i64 t.pos]
theorem tokAt_in {ts : List Lx.Tok} {sz k : Nat} {t : Lx.Tok} (h : ts[k]? = some t) : tokAt ts sz k = t := by unfold tokAt; rw [h]; rfl
theorem tokAt_out {ts : List Lx.Tok} {sz k : Nat} (h : ts.length ≤ k) : tokAt ts sz k = ⟨0, [], sz⟩ := by unfold tokAt; rw [List.getElem?_eq_none h]; rfl
theorem tok_cells {w : World} {A : Option Addr} {l : List Lx.Tok} (h : Str w A 3 (l.map tkfs)) {i : Nat} {x : Lx.Tok} (hi : l[i]? = some x) : ∃ g o, A = some ⟨g, o, none⟩ ∧ g < w.heap.size ∧ w.cell? ⟨g, o + i * 3, none⟩ = some (.int .i64 x.kind) ∧ w.cell? ⟨g, o + i * 3 + 1, none⟩ = some (.string (bs x.text)) ∧ w.cell? ⟨g, o + i * 3 + 2, none⟩ = some (.int .i64 x.pos) := by
 obtain ⟨g, o, e, hg, hc⟩ := h.at (i := i) (fs := tkfs x) (by rw [List.getElem?_map, hi]; rfl)
 exact ⟨g, o, e, hg, hc 0 _ rfl, hc 1 _ rfl, hc 2 _ rfl⟩
section
variable {w : World} {rb : Nat} {TA : Option Addr} {tc : Nat} {ts : List Lx.Tok} {sz i : Nat} {o : Outs}
set_option maxRecDepth 100000 in
theorem peek_any (h : Rd w rb TA tc ts sz i o) (n : Nat) (hn : n ≤ 1) : Calls Tryd.prog 29 #[.pointer (some ⟨rb, 0, none⟩), .int .i64 n] w fun e w' => e = .returned (tokV (tokAt ts sz (i + n))) ∧ Below w.heap.size w w' := by
 have hf := h.few
 have hr := h.next (below1 w (.cells #[.int .i64 0, .string ⟨#[]⟩, .int .i64 0] 41))
 obtain ⟨r0, r1, r2⟩ := hr.cells
 have hl := hr.box.lt
 have hat := At.new w 41 #[.int .i64 0, .string ⟨#[]⟩, .int .i64 0]
 obtain ⟨W, hW⟩ : ∃ W, W = w.alloc (.cells #[.int .i64 0, .string ⟨#[]⟩, .int .i64 0] 41) := ⟨_, rfl⟩
 have hb0 : Below w.heap.size w W := by rw [hW]; exact below1 _ _
 rw [← hW] at hr r0 r1 r2 hl hat
 have f0 : ∀ z : Held W.heap.size W, z.w.cell? ⟨rb, 0, none⟩ = some (.slice TA ts.length tc) := fun z => z.cell hl r0
 have f1 : ∀ z : Held W.heap.size W, z.w.cell? ⟨rb, 1, none⟩ = some (.int .i64 i) := fun z => z.cell hl r1
 clear h
 obtain ⟨m, hm⟩ : ∃ m, i + n = m := ⟨_, rfl⟩
 have e0 : (i : Int) + (n : Int) = (m : Int) := by omega
 have wm : IntKind.i64.wrap (m : Int) = (m : Int) := IntWalk.i64_in _ (by omega)
 rw [hm]
 by_cases hk : m < ts.length
 ·have d1 : decide ((m : Int) < (ts.length : Int)) = true := decide_eq_true (by omega)
  obtain ⟨t, ht⟩ : ∃ t, ts[m]? = some t := ⟨_, List.getElem?_eq_getElem hk⟩
  rw [tokAt_in ht]
  have HR := Lib.hid hr
  have HAT := Lib.hid hat
  clear hm hat
  go_enter Tryd.func29, Tryd.ntmps29
  go_wp2_with fail
  rw [← hW]
  refine wp_region_held W.heap.size W (Below.refl _ _) (by kernel_rfl) (by kernel_rfl) ?_
  repeat (go_big_quiet_step (fail))
  refine wpQuiet_nil ?_
  rintro wt ⟨⟨_, bt⟩, rfl⟩
  clear f0 f1 r0 r1 r2
  have hrt := HR.out.next bt
  obtain ⟨r0, r1, r2⟩ := hrt.cells
  obtain ⟨g, og, hA, hg, c0, c1, c2⟩ := tok_cells hrt.toks ht
  rw [hA] at r0
  have hat2 := HAT.out.next bt
  have i0 : (0 : Int) ≤ (m : Int) := by omega
  have i1 : (m : Int) < (ts.length : Int) := by omega
  have a0 := hat2.cell 0
  have a1 := hat2.cell 1
  have a2 := hat2.cell 2
  have f0 := fun i => hat2.frozen i
  have l0 := hat2.lt
  simp only [List.getElem?_toArray, List.getElem?_cons_zero, List.getElem?_cons_succ] at a0 a1 a2
  subst hA
  clear hW ht hr hrt
  go_wp2_with fail
  refine' wp_region_last 12 _ _ (Below wt.heap.size wt) (Onward) (Vl :: Vl :: Vl :: Vl :: Vl :: Vl :: Vl :: Vl :: Vl :: Vl :: Vl :: Vl :: []) ?hF (by kernel_rfl) (by kernel_rfl) (by kernel_rfl) (by rfl) (by rfl) (by rfl) (by kernel_rfl) ((Below.refl _ _).drew) (lasting_cons (lasting_vl) (lasting_cons (lasting_vl) (lasting_cons (lasting_vl) (lasting_cons (lasting_vl) (lasting_cons (lasting_vl) (lasting_cons (lasting_vl) (lasting_cons (lasting_vl) (lasting_cons (lasting_vl) (lasting_cons (lasting_vl) (lasting_cons (lasting_vl) (lasting_cons (lasting_vl) (lasting_cons (lasting_vl) (lasting_none))))))))))))) ?hops ?hlast
  case hF => (intro v; simp only [over, Act.put, List.setIfInBounds_toArray, List.set_cons_zero, List.set_cons_succ, Nat.zero_add, Nat.reduceAdd]; exact rfl)
  case hops =>
   refine ⟨?_, ?_⟩
   ·intro v w' hj hd hs K hK
    have hk := hK.out
    simp only [Act.put, List.setIfInBounds_toArray, List.set_cons_zero, List.set_cons_succ] at hk
    have HK := Lib.hid hk
    clear hd hs hk hK
    go_simp
    exact HK.out _ _ hj.out (Below.refl _ _) (show _ = _ from rfl)
   refine ⟨?_, ?_⟩
   ·intro v w' hj hd hs K hK
    have t0 : v 0 = _ := hd.out 0 (by kernel_rfl)
    have hk := hK.out
    simp only [t0, Act.put, List.setIfInBounds_toArray, List.set_cons_zero, List.set_cons_succ] at hk
    have HK := Lib.hid hk
    clear hd hs hk hK
    go_simp
    exact HK.out _ _ hj.out (Below.refl _ _) (show _ = _ from rfl)
   refine ⟨?_, ?_⟩
   ·intro v w' hj hd hs K hK
    have t1 : v 1 = _ := hd.out 1 (by kernel_rfl)
    have hk := hK.out
    simp only [t1, Act.put, List.setIfInBounds_toArray, List.set_cons_zero, List.set_cons_succ] at hk
    have HK := Lib.hid hk
    clear hd hs hk hK
    go_simp
    exact HK.out _ _ hj.out (Below.refl _ _) (show _ = _ from rfl)
   refine ⟨?_, ?_⟩
   ·intro v w' hj hd hs K hK
    have t2 : v 2 = _ := hd.out 2 (by kernel_rfl)
    have r0x := next_cell r0 hj.out
    have hk := hK.out
    simp only [t2, Act.put, List.setIfInBounds_toArray, List.set_cons_zero, List.set_cons_succ] at hk
    have HK := Lib.hid hk
    clear hd hs hk hK
    go_simp
    exact HK.out _ _ hj.out (Below.refl _ _) (show _ = _ from rfl)
   refine ⟨?_, ?_⟩
   ·intro v w' hj hd hs K hK
    have hk := hK.out
    simp only [Act.put, List.setIfInBounds_toArray, List.set_cons_zero, List.set_cons_succ] at hk
    have HK := Lib.hid hk
    clear hd hs hk hK
    go_simp
    exact HK.out _ _ hj.out (Below.refl _ _) (show _ = _ from rfl)
   refine ⟨?_, ?_⟩
   ·intro v w' hj hd hs K hK
    have t4 : v 4 = _ := hd.out 4 (by kernel_rfl)
    have hk := hK.out
    simp only [t4, Act.put, List.setIfInBounds_toArray, List.set_cons_zero, List.set_cons_succ] at hk
    have HK := Lib.hid hk
    clear hd hs hk hK
    go_simp
    exact HK.out _ _ hj.out (Below.refl _ _) (show _ = _ from rfl)
   refine ⟨?_, ?_⟩
   ·intro v w' hj hd hs K hK
    have t5 : v 5 = _ := hd.out 5 (by kernel_rfl)
    have hk := hK.out
    simp only [t5, Act.put, List.setIfInBounds_toArray, List.set_cons_zero, List.set_cons_succ] at hk
    have HK := Lib.hid hk
    clear hd hs hk hK
    go_simp
    exact HK.out _ _ hj.out (Below.refl _ _) (show _ = _ from rfl)
   refine ⟨?_, ?_⟩
   ·intro v w' hj hd hs K hK
    have t6 : v 6 = _ := hd.out 6 (by kernel_rfl)
    have r1x := next_cell r1 hj.out
    have hk := hK.out
    simp only [t6, Act.put, List.setIfInBounds_toArray, List.set_cons_zero, List.set_cons_succ] at hk
    have HK := Lib.hid hk
    clear hd hs hk hK
    go_simp
    exact HK.out _ _ hj.out (Below.refl _ _) (show _ = _ from rfl)
   refine ⟨?_, ?_⟩
   ·intro v w' hj hd hs K hK
    have hk := hK.out
    simp only [Act.put, List.setIfInBounds_toArray, List.set_cons_zero, List.set_cons_succ] at hk
    have HK := Lib.hid hk
    clear hd hs hk hK
    go_simp
    exact HK.out _ _ hj.out (Below.refl _ _) (show _ = _ from rfl)
   refine ⟨?_, ?_⟩
   ·intro v w' hj hd hs K hK
    have t7 : v 7 = _ := hd.out 7 (by kernel_rfl)
    have t8 : v 8 = _ := hd.out 8 (by kernel_rfl)
    have hk := hK.out
    simp only [t7, t8, Act.put, List.setIfInBounds_toArray, List.set_cons_zero, List.set_cons_succ] at hk
    have HK := Lib.hid hk
    clear hd hs hk hK
    go_simp
    exact HK.out _ _ hj.out (Below.refl _ _) (show _ = _ from rfl)
   refine ⟨?_, ?_⟩
   ·intro v w' hj hd hs K hK
    have t3 : v 3 = _ := hd.out 3 (by kernel_rfl)
    have t9 : v 9 = _ := hd.out 9 (by kernel_rfl)
    have hk := hK.out
    simp only [t3, t9, Act.put, List.setIfInBounds_toArray, List.set_cons_zero, List.set_cons_succ] at hk
    have HK := Lib.hid hk
    clear hd hs hk hK
    go_simp
    exact HK.out _ _ hj.out (Below.refl _ _) (show _ = _ from rfl)
   refine ⟨?_, ?_⟩
   ·intro v w' hj hd hs K hK
    have t10 : v 10 = _ := hd.out 10 (by kernel_rfl)
    have c0x := next_cell c0 hj.out
    have c1x := next_cell c1 hj.out
    have c2x := next_cell c2 hj.out
    have hk := hK.out
    simp only [t10, Act.put, List.setIfInBounds_toArray, List.set_cons_zero, List.set_cons_succ] at hk
    have HK := Lib.hid hk
    clear hd hs hk hK
    go_simp
    exact HK.out _ _ hj.out (Below.refl _ _) (show _ = _ from rfl)
   trivial
  case hlast =>
   intro v w' hj hd K hK
   have t11 : v 11 = _ := hd.out 11 (of_decide_eq_true (by kernel_rfl))
   have ha := HAT.out.next (bt.trans (hj.out.mono bt.size))
   have yc0 := ha.cell 0
   have yc1 := ha.cell 1
   have yc2 := ha.cell 2
   have yf0 := ha.frozen 0
   have yf1 := ha.frozen 1
   have yf2 := ha.frozen 2
   have yl := ha.lt
   simp only [List.getElem?_toArray, List.getElem?_cons_zero, List.getElem?_cons_succ] at yc0 yc1 yc2
   have hk := hK.out
   simp only [t11, Act.put, List.setIfInBounds_toArray, List.set_cons_zero, List.set_cons_succ] at hk
   have HK := Lib.hid hk
   clear hd hk hK
   go_simp
   refine HK.out _ ?_
   have hq := ((ha.put 0 (.int .i64 t.kind)).put 1 (.string (bs t.text))).put 2 (.int .i64 t.pos)
   have hbq := ((bt.trans (hj.out.mono bt.size)).mono hb0.size |>.setCell (p := ⟨w.heap.size, 0, none⟩) (Nat.le_refl _) (.int .i64 t.kind)).setCell (p := ⟨w.heap.size, 1, none⟩) (Nat.le_refl _) (.string (bs t.text)) |>.setCell (p := ⟨w.heap.size, 2, none⟩) (Nat.le_refl _) (.int .i64 t.pos)
   clear yc0 yc1 yc2 yf0 yf1 yf2 yl hj HK r0 r1 c0 c1 c2 a0 a1 a2 f0 l0
   go_wp2_with fail
   refine bodyPost_ret (results_cell_row rfl _ _ w.heap.size 41 _ (0, 0) _ rfl hq Tryd.underlying41 rfl (by kernel_rfl)) rfl ?_
   exact ⟨rfl, hb0.trans hbq⟩
 ·have d1 : decide ((m : Int) < (ts.length : Int)) = false := decide_eq_false (by omega)
  rw [tokAt_out (by omega)]
  have HR := Lib.hid hr
  have HAT := Lib.hid hat
  clear hm hat
  go_enter Tryd.func29, Tryd.ntmps29
  go_wp2_with fail
  rw [← hW]
  refine wp_region_held W.heap.size W (Below.refl _ _) (by kernel_rfl) (by kernel_rfl) ?_
  repeat (go_big_quiet_step (fail))
  refine wpQuiet_nil ?_
  rintro wt ⟨⟨_, bt⟩, rfl⟩
  clear f0 f1 r0 r1 r2
  have hrt := HR.out.next bt
  obtain ⟨r0, r1, r2⟩ := hrt.cells
  have hat2 := HAT.out.next bt
  have a0 := hat2.cell 0
  have a1 := hat2.cell 1
  have a2 := hat2.cell 2
  have f0 := fun i => hat2.frozen i
  have l0 := hat2.lt
  simp only [List.getElem?_toArray, List.getElem?_cons_zero, List.getElem?_cons_succ] at a0 a1 a2
  clear hW hr hrt
  go_wp2_with fail
  refine bodyPost_ret (results_cell_row rfl _ _ w.heap.size 41 _ (0, 0) _ rfl (((hat2.put 0 (.int .i64 0)).put 1 (.string ⟨#[]⟩)).put 2 (.int .i64 sz)) Tryd.underlying41 rfl (by kernel_rfl)) rfl ?_
  have hbw := hb0.trans (bt.mono hb0.size)
  exact ⟨rfl, ((hbw.setCell (p := ⟨w.heap.size, 0, none⟩) (Nat.le_refl _) _).setCell (p := ⟨w.heap.size, 1, none⟩) (Nat.le_refl _) _).setCell (p := ⟨w.heap.size, 2, none⟩) (Nat.le_refl _) _⟩
end
end Go.Proofs.YtpcmlkpnjimbiaaDoor
