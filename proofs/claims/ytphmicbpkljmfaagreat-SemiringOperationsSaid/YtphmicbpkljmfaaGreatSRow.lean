/- What the rows of the semirings' laws share: the arguments opened. -/
import Derived.Test.YtphmicbpkljmfaaGreatRows
import Derived.Test.YtphmicbpkljmfaaGreatCMisc
import Derived.Test.YtphmicbpkljmfaaGreatCKey
import Derived.Test.YtphmicbpkljmfaaGreatSMem
import Derived.ProofKit
import Derived.OpenShut
import Derived.Deep.DeepHandedRow
import Derived.Deep.Slices
import Derived.Deep.Fields
import Derived.ChangeSame
import Derived.Lib.SmallJoins
import Derived.SizedLaws
namespace Go.Proofs.YtphmicbpkljmfaaGreat
set_option linter.unusedVariables false
set_option linter.unusedSimpArgs false
open Go.ChangeShapes Go.WideShapes Go.ChangeAt Go.RowKit Go.Deep Go.Joins
open Cx (N M)
theorem own : ownKnob Tryz.prog.godebug = none := by kernel_rfl
theorem laidOut : laidOutB Tryz.prog = true := by kernel_rfl
section
variable {H : Type} {enc : TypeId × Value → H} {P : Program} {w : World} {base : Nat} {spare : Nat → Bool} {held : Bool}
theorem open_slice_fields {t e : TypeId} {fs : Array Field} {fuel : Nat} {cs : List Value} {x : DataW H × List MemPlace} (ht : P.underlying t = some (.slice e)) (he : P.underlying e = some (.struct fs))
    (hone : oneCellFields P fs = true) (hC : P.cellsOf e = fs.size) (h : DataW.trod enc P w base spare held fuel t cs = some x) :
    (cs = [.slice none 0 0] ∧ x = (.nil, [])) ∨
    ∃ (a : Addr) (len cap m : Nat) (D : Nat → DataW H) (Pl : Nat → List MemPlace), cs = [.slice (some a) len cap] ∧ base ≤ a.block ∧ len ≤ cap ∧ cap ≤ maxLen ∧ m = (if spare a.block then cap else len) ∧
      x = (.slice ((List.range len).map D) ((List.range (m - len)).map fun j => D (len + j)), MemPlace.row a (m * fs.size) ++ (List.range m).flatMap Pl) ∧
      ∀ i, i < m → ∃ (ys : List (DataW H × List MemPlace)) (n : Nat), D i = .agg (ys.map (·.1)) ∧ Pl i = ys.flatMap (·.2) ∧ ys.length = fs.size ∧
        ∀ (j : Nat) (f : Field), fs[j]? = some f → ∃ (v : Value) (y : DataW H × List MemPlace), w.cell? (a.add (i * fs.size + j)) = some v ∧ ys[j]? = some y ∧ DataW.trod enc P w base spare held n f.type [v] = some y := by
  rcases open_slice ht h with h0 | ⟨a, len, cap, m, n, D, Pl, hcs, hb, hl, hm, hmm, hx, hi⟩
  · exact .inl h0
  · refine .inr ⟨a, len, cap, m, D, Pl, hcs, hb, hl, hm, hmm, by rw [hC] at hx; exact hx, fun i him => ?_⟩
    obtain ⟨cs', hc, ht'⟩ := hi i him
    rw [hC] at hc
    obtain ⟨ys, n', hn', hy, hlen, hyl, hf⟩ := DataW.trod_struct he ht'
    obtain ⟨_, hcl, hat⟩ := World.cells?_some hc
    simp only [Prod.mk.injEq] at hy
    refine ⟨ys, n', hy.1, hy.2, hyl, fun j f hj => ?_⟩
    obtain ⟨ho, hk⟩ := hone_of hone j f hj
    have hjl : j < fs.size := (Array.getElem?_eq_some_iff.1 hj).1
    have hcell := hat j hjl
    have hv : cs'[j]? = some (cs'[j]'(by omega)) := List.getElem?_eq_getElem (by omega)
    have h1 := hf j f hj
    rw [ho, hk] at h1
    have hone' : (cs'.drop j).take 1 = [cs'[j]'(by omega)] := by
      rw [List.drop_eq_getElem_cons (by omega)]
      rfl
    rw [hone'] at h1
    have hys : ys[j]? = some (ys[j]'(by omega)) := List.getElem?_eq_getElem (by omega)
    refine ⟨_, _, ?_, hys, h1.trans hys⟩
    rw [← Go.Deep.add_add, hcell, hv]
end
theorem u8_of {n : Int} (h : (Lit.int .u8 n).wf = true) : ∃ x : UInt8, n = (x.toNat : Int) := by
  have hb := bounds_u8 h
  exact ⟨UInt8.ofNat n.toNat, by rw [UInt8.toNat_ofNat']; omega⟩
theorem raw_of {n : Int} (h : (Lit.int .u8 n).wf = true) : ∃ x : Nat, n = (x : Int) ∧ x < 256 := by
  have hb := bounds_u8 h
  exact ⟨n.toNat, by omega, by omega⟩
set_option maxRecDepth 100000 in
/-- Numbers that came in. -/
theorem open_I {H : Type} {enc : TypeId × Value → H} {W : World} {base b0 : Nat} {held : Bool} {r : Reach} {v : Value} {d : DataW H} {p : List MemPlace} (hv : Value.okWide Tryz.prog W r b0 24 v) (h : DataW.Trod enc Tryz.prog W base (fun _ => true) held 24 v d p) (hwt : ∀ n ∈ d.weights Tryz.prog 24, n ≤ 140737488351232) :
    ∃ (A : Option Addr) (k : Nat) (l : List Int), v = .slice A l.length k ∧ l.length ≤ 140737488351232 ∧ Nums W A l ∧ (∀ t ∈ l, I64 t) ∧ l.length ≤ k ∧ k ≤ maxLen ∧ (A = none → l.length = 0 ∧ k = 0) := by
  obtain ⟨a, len, cap, rfl⟩ := okWide_slice Tryz.underlying24 hv
  obtain ⟨fuel, hf⟩ := h
  rcases open_ints Tryz.underlying24 Tryz.underlying3 (by kernel_rfl) hf with ⟨hcs, _⟩ | ⟨x, l, c, zs, hcs, _, hl, hm, hz, hd, hcell, hwz⟩
  · simp [Value.cells] at hcs
    obtain ⟨rfl, rfl, rfl⟩ := hcs
    exact ⟨none, 0, [], rfl, by simp, (fun h => absurd rfl h), (fun t ht => by cases ht), by simp, by simp [maxLen], (fun _ => ⟨rfl, rfl⟩)⟩
  · simp [Value.cells] at hcs
    obtain ⟨rfl, rfl, rfl⟩ := hcs
    simp only [if_true] at hz
    have hdd : d = DataW.slice (lits .i64 (zs.take len)) (lits .i64 (zs.drop len)) := congrArg Prod.fst hd
    have hcap : cap ≤ 140737488351232 := by
      have := hwt (((lits (H := H) .i64 (zs.take len)).length + (lits (H := H) .i64 (zs.drop len)).length) * Tryz.prog.bytesOf 3) (by rw [hdd]; simp only [DataW.weights, Tryz.underlying24]; exact List.mem_cons_self ..)
      rw [show Tryz.prog.bytesOf 3 = 8 by kernel_rfl] at this
      simp [lits] at this
      omega
    have key : ∀ i, i < len → ∃ y : Int, I64 y ∧ W.cell? (x.add i) = some (.int .i64 y) := fun i hi => by
      have h1 := hcell i (by omega)
      exact ⟨_, bounds_i64 (hwz (zs.getD i 0) (by rw [List.getD_eq_getElem?_getD, List.getElem?_eq_getElem (by omega)]; exact List.getElem_mem _)), h1⟩
    obtain ⟨ls, hls, hp⟩ := list_of len key
    subst hls
    refine ⟨some x, cap, ls, rfl, by omega, fun hn => ?_, fun t ht => ?_, hl, hm, fun e => by cases e⟩
    · have h0 : 0 < ls.length := List.length_pos_iff.2 hn
      have c0 := (hp 0 _ (List.getElem?_eq_getElem h0)).2
      obtain ⟨g, o, spx⟩ := x
      have hsp : spx = none := by
        have := spot_none c0
        simpa [Addr.add] using this
      subst hsp
      have hg := cell_lt c0
      rw [add_at] at hg
      refine ⟨g, o, rfl, hg, fun k v hk => ?_⟩
      have a := (hp k v hk).2
      rw [add_at] at a
      exact a
    · obtain ⟨k, hk, e⟩ := List.mem_iff_getElem.1 ht
      exact (hp k t (by rw [List.getElem?_eq_getElem hk, e])).1
set_option maxRecDepth 100000 in
/-- A list of nodes that came in. -/
theorem open_C {H : Type} {enc : TypeId × Value → H} {W : World} {base b0 : Nat} {held : Bool} {r : Reach} {v : Value} {d : DataW H} {p : List MemPlace} (hv : Value.okWide Tryz.prog W r b0 23 v) (h : DataW.Trod enc Tryz.prog W base (fun _ => true) held 23 v d p) (hwt : ∀ n ∈ d.weights Tryz.prog 23, n ≤ 140737488351232) :
    ∃ (A : Option Addr) (k : Nat) (l : List N), v = .slice A l.length k ∧ l.length ≤ 140737488351232 ∧ Cir W A k l ∧ ∀ n ∈ l, NGood n := by
  obtain ⟨a, len, cap, rfl⟩ := okWide_slice Tryz.underlying23 hv
  obtain ⟨fuel, hf⟩ := h
  rcases open_slice_fields Tryz.underlying23 Tryz.underlying58 (by kernel_rfl) (by kernel_rfl) hf with ⟨hcs, _⟩ | ⟨x, l, c, m, D, Pl, hcs, _, hl, hm, hmm, hd, hi⟩
  · simp [Value.cells] at hcs
    obtain ⟨rfl, rfl, rfl⟩ := hcs
    exact ⟨none, 0, [], rfl, by simp, ⟨fun h => absurd rfl h, by simp, by simp [maxLen], fun _ => ⟨rfl, rfl⟩⟩, fun n hn => by cases hn⟩
  · simp [Value.cells] at hcs
    obtain ⟨rfl, rfl, rfl⟩ := hcs
    have hdd : d = DataW.slice ((List.range len).map D) ((List.range (m - len)).map fun j => D (len + j)) := congrArg Prod.fst hd
    have hlen : len ≤ 140737488351232 := by
      have := hwt ((((List.range len).map D).length + ((List.range (m - len)).map fun j => D (len + j)).length) * Tryz.prog.bytesOf 58) (by rw [hdd]; simp only [DataW.weights, Tryz.underlying23]; exact List.mem_cons_self ..)
      rw [show Tryz.prog.bytesOf 58 = 24 by kernel_rfl] at this
      simp at this
      omega
    have key : ∀ i, i < len → ∃ v : N, NGood v ∧ W.cell? (x.add (i * 3)) = some (.int .i64 v.o) ∧ W.cell? (x.add (i * 3 + 1)) = some (.int .i64 v.a) ∧ W.cell? (x.add (i * 3 + 2)) = some (.int .i64 v.b) := fun i hil => by
      obtain ⟨ys, n, hDi, _, hyl, hf⟩ := hi i (by simp only [if_true] at hmm; omega)
      obtain ⟨v0, y0, c0, g0, t0⟩ := hf 0 _ rfl
      obtain ⟨v1, y1, c1, g1, t1⟩ := hf 1 _ rfl
      obtain ⟨v2, y2, c2, g2, t2⟩ := hf 2 _ rfl
      obtain ⟨a, e0, _, b0⟩ := DataW.trod_int Tryz.underlying3 t0
      obtain ⟨b, e1, _, b1⟩ := DataW.trod_int Tryz.underlying3 t1
      obtain ⟨c, e2, _, b2⟩ := DataW.trod_int Tryz.underlying3 t2
      simp only [List.cons.injEq, and_true] at e0 e1 e2
      subst e0; subst e1; subst e2
      exact ⟨⟨a, b, c⟩, ⟨bounds_i64 b0, bounds_i64 b1, bounds_i64 b2⟩, c0, c1, c2⟩
    obtain ⟨ls, hls, hp⟩ := list_of len key
    subst hls
    refine ⟨some x, cap, ls, rfl, by omega, ⟨fun hn => ?_, hl, hm, fun e => by cases e⟩, fun v hv => ?_⟩
    · have h0 : 0 < ls.length := List.length_pos_iff.2 hn
      obtain ⟨_, c0, _⟩ := hp 0 _ (List.getElem?_eq_getElem h0)
      obtain ⟨g, o, spx⟩ := x
      have hsp : spx = none := by
        have := spot_none c0
        simpa [Addr.add] using this
      subst hsp
      have hg := cell_lt c0
      rw [add_at] at hg
      refine ⟨g, o, rfl, hg, fun k v hk => ?_⟩
      obtain ⟨_, a, b, c⟩ := hp k v hk
      rw [add_at] at a b c
      exact ⟨a, b, c⟩
    · obtain ⟨k, hk, e⟩ := List.mem_iff_getElem.1 hv
      exact (hp k v (by rw [List.getElem?_eq_getElem hk, e])).1
end Go.Proofs.YtphmicbpkljmfaaGreat
