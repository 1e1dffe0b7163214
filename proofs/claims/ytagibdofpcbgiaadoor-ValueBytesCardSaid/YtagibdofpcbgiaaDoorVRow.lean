/- What the rows of value's laws share: the listed variables, the arguments opened. -/
import Derived.Test.YtagibdofpcbgiaaDoorCards
import Derived.Test.YtagibdofpcbgiaaDoorTie
import Derived.Test.YtagibdofpcbgiaaDoorVHead
import Derived.ProofKit
import Derived.OpenShut
import Derived.ShutString
import Derived.Deep.DeepHandedRow
import Derived.Deep.Slices
import Derived.Deep.Fields
import Derived.ChangeSame
import Derived.Lib.SmallJoins
import Derived.Lib.LaidTab
import Derived.Stop.LaidErr
import Derived.SizedLaws
namespace Go.Proofs.YtagibdofpcbgiaaDoor
set_option linter.unusedVariables false
set_option linter.unusedSimpArgs false
open Go.ChangeShapes Go.WideShapes Go.ChangeAt Go.RowKit Go.Deep Go.Joins
open Go.ChangeMaps (open_string shut_string)
theorem own : ownKnob Tryd.prog.godebug = none := by kernel_rfl
/-- An array of strings that reads as these strings holds them, cell for cell. -/
theorem cells_of_strs {H : Type} {enc : TypeId × Value → H} {P : Program} {w : World} {base : Nat} {sp : Nat → Bool} {held : Bool} {fuel : Nat} {t e : TypeId} {n : Nat} {cs : List Value} {zs : List (List UInt8)} {p : List MemPlace}
    (ht : P.underlying t = some (.array n e)) (he : P.underlying e = some .string) (hce : P.cellsOf e = 1) (hct : P.cellsOf t = n)
    (h : DataW.trod enc P w base sp held fuel t cs = some (.agg (zs.map fun z => .lit (.string z)), p)) : cs = zs.map fun z => Value.string ⟨z.toArray⟩ := by
  cases fuel with
  | zero => simp [DataW.trod] at h
  | succ fuel =>
    simp only [DataW.trod, ht, hce, hct, Nat.mul_one] at h
    split at h
    · rename_i hl
      obtain ⟨xs, hm, hx⟩ := Option.map_eq_some_iff.1 h
      have hxs : xs.map (·.1) = zs.map fun z => (DataW.lit (.string z) : DataW H) := by
        have := congrArg Prod.fst hx
        simpa using this
      have hxl : xs.length = n := by simpa using Lib.mapM_length hm
      have hzl : zs.length = n := by
        have := congrArg List.length hxs
        simp at this
        omega
      apply List.ext_getElem?
      intro i
      by_cases hi : i < n
      · obtain ⟨b, hb, hf⟩ := Lib.mapM_at hm i i (by simp [hi])
        obtain ⟨z, hc, rfl, _⟩ := DataW.trod_string he hf
        have h1 : cs[i]? = some (.string z) := by
          have := congrArg (·[0]?) hc
          simpa [List.getElem?_take, List.getElem?_drop] using this
        have h2 : (xs.map (·.1))[i]? = some (DataW.lit (.string z.data.toList) : DataW H) := by simp [hb]
        rw [hxs] at h2
        simp only [List.getElem?_map, Option.map_eq_some_iff, DataW.lit.injEq, Lit.string.injEq] at h2
        obtain ⟨z', hz', rfl⟩ := h2
        simp [h1, hz']
      · rw [List.getElem?_eq_none (by omega), List.getElem?_eq_none (by simp; omega)]
    · cases h
section
variable {H : Type} {enc : TypeId × Value → H} {P : Program} {w : World} {base : Nat} {spare : Nat → Bool} {held : Bool}
theorem open_slice_fields {t e : TypeId} {fs : Array Field} {fuel : Nat} {cs : List Value} {x : DataW H × List MemPlace} (ht : P.underlying t = some (.slice e)) (he : P.underlying e = some (.struct fs))
    (hone : oneCellFields P fs = true) (hC : P.cellsOf e = fs.size) (h : DataW.trod enc P w base spare held fuel t cs = some x) :
    (cs = [.slice none 0 0] ∧ x = (.nil, [])) ∨
    ∃ (a : Addr) (len cap m : Nat) (D : Nat → DataW H) (Pl : Nat → List MemPlace), cs = [.slice (some a) len cap] ∧ base ≤ a.block ∧ len ≤ cap ∧ cap ≤ maxLen ∧ m = (if spare a.block then cap else len) ∧
      x = (.slice ((List.range len).map D) ((List.range (m - len)).map fun j => D (len + j)), MemPlace.row a (m * fs.size) ++ (List.range m).flatMap Pl) ∧
      ∀ i, i < m → ∃ (ys : List (DataW H × List MemPlace)) (n : Nat), D i = .agg (ys.map (·.1)) ∧ Pl i = ys.flatMap (·.2) ∧ ys.length = fs.size ∧
        ∀ (j : Nat) (f : Field), fs[j]? = some f → ∃ (v : Value) (y : DataW H × List MemPlace), w.cell? (a.add (i * fs.size + j)) = some v ∧ ys[j]? = some y ∧ DataW.trod enc P w base spare held n f.type [v] = some y := by
  rcases open_slice ht h with h0 | ⟨a, len, cap, m, n, D, Pl, hcs, hb, hl, hm, hmm, hx, hi⟩
  · exact .inl h0
  · refine .inr ⟨a, len, cap, m, D, Pl, hcs, hb, hl, hm, hmm, by rw [hC] at hx; exact hx, fun i him => ?_⟩
    obtain ⟨cs', hc, ht'⟩ := hi i him
    rw [hC] at hc
    obtain ⟨ys, n', hn', hy, hlen, hyl, hf⟩ := DataW.trod_struct he ht'
    obtain ⟨_, hcl, hat⟩ := World.cells?_some hc
    simp only [Prod.mk.injEq] at hy
    refine ⟨ys, n', hy.1, hy.2, hyl, fun j f hj => ?_⟩
    obtain ⟨ho, hk⟩ := hone_of hone j f hj
    have hjl : j < fs.size := (Array.getElem?_eq_some_iff.1 hj).1
    have hcell := hat j hjl
    have hv : cs'[j]? = some (cs'[j]'(by omega)) := List.getElem?_eq_getElem (by omega)
    have h1 := hf j f hj
    rw [ho, hk] at h1
    have hone' : (cs'.drop j).take 1 = [cs'[j]'(by omega)] := by
      rw [List.drop_eq_getElem_cons (by omega)]
      rfl
    rw [hone'] at h1
    have hys : ys[j]? = some (ys[j]'(by omega)) := List.getElem?_eq_getElem (by omega)
    refine ⟨_, _, ?_, hys, h1.trans hys⟩
    rw [← Go.Deep.add_add, hcell, hv]
end
theorem star : "*" ++ "errors.errorString" = "*errors.errorString" := by decide
theorem rowErr (u : TypeId) (h : Tryd.prog.typeName? 3 u = some "*errors.errorString") : u = 101 :=
  typeName_ptr_named (nm := "errors.errorString") (by rw [star]; kernel_rfl) (by kernel_rfl) (by decide) u (by rw [star]; exact h)
/-- The row's list gives what the walks ask of the package's variables. -/
theorem laid_of {W : World} {d1 d2 : String × DataW Unit} (h : laidMet Tryd.prog [d1, d2, ("internal/strconv.uint64pow10", Rows.laid_internal_strconv_uint64pow10), ("strconv.ErrRange", Rows.laid_strconv_ErrRange), ("strconv.ErrSyntax", Rows.laid_strconv_ErrSyntax), ("porism/value.words", Rows.laid_porism_value_words)] W) : Laid W := by
  have h3 := h.tail.tail
  have h4 := h3.tail
  have h5 := h4.tail
  have h6 := h5.tail
  refine ⟨?_, ?_, ?_, ?_⟩
  · obtain ⟨ps, ⟨g', t', cs, fuel, p, q, hg', ht', hvar, hd, _, _⟩, _⟩ := h6
    obtain rfl := Option.some.inj ((show Tryd.prog.globalNamed "porism/value.words" = some 0 by kernel_rfl).symm.trans hg')
    obtain rfl := Option.some.inj ((show (Tryd.prog.globals[0]?).map (·.type) = some 64 by kernel_rfl).symm.trans ht')
    have hd' : DataW.trod _ Tryd.prog W _ _ _ fuel 64 cs.toList = some (.agg (Vx.words.map fun z => .lit (.string z)), p) := hd
    have hcs := cells_of_strs Tryd.underlying64 Tryd.underlying9 (by kernel_rfl) (by kernel_rfl) hd'
    have hcs2 : cs = wordCells := by unfold wordCells; rw [← hcs]
    subst hcs2
    unfold World.var? at hvar
    rw [show Tryd.prog.globalNamed "porism/value.words" = some 0 by kernel_rfl] at hvar
    simp only [Option.bind_some] at hvar
    unfold Words
    split at hvar
    · rename_i c t fr hh
      exact ⟨t, fr, by rw [hh, Option.some.inj hvar]⟩
    · cases hvar
  · exact Lib.tabIs_of_head (g := 3) (t := 95) (e := 82) (n := 20) (by kernel_rfl) (by kernel_rfl) Tryd.underlying95 Tryd.underlying82 (by kernel_rfl) (by kernel_rfl) h3
  · obtain ⟨a, s, hv, _⟩ := laid_sentinel h5 (g := 1) (ti := 56) (tp := 101) (te := 103) (ts := 9) (by kernel_rfl) (by kernel_rfl) Tryd.underlying56 rowErr Tryd.underlying101 Tryd.underlying103 rfl rfl Tryd.underlying9 (by kernel_rfl) (by kernel_rfl)
    exact ⟨_, _, hv⟩
  · obtain ⟨a, s, hv, _⟩ := laid_sentinel h4 (g := 2) (ti := 56) (tp := 101) (te := 103) (ts := 9) (by kernel_rfl) (by kernel_rfl) Tryd.underlying56 rowErr Tryd.underlying101 Tryd.underlying103 rfl rfl Tryd.underlying9 (by kernel_rfl) (by kernel_rfl)
    exact ⟨_, _, hv⟩
theorem list_of {α : Type} {P : Nat → α → Prop} : ∀ (n : Nat), (∀ i, i < n → ∃ v, P i v) → ∃ l : List α, l.length = n ∧ ∀ (k : Nat) (v : α), l[k]? = some v → P k v
  | 0, _ => ⟨[], rfl, fun k v h => by simp at h⟩
  | n + 1, h => by
    obtain ⟨l, hl, hp⟩ := list_of n (fun i hi => h i (by omega))
    obtain ⟨v, hv⟩ := h n (by omega)
    refine ⟨l ++ [v], by simp [hl], fun k x hx => ?_⟩
    rcases Nat.lt_or_ge k n with hk | hk
    · rw [List.getElem?_append_left (by omega)] at hx; exact hp k x hx
    · rw [List.getElem?_append_right (by omega)] at hx
      have : k - l.length = 0 := by
        rcases Nat.eq_zero_or_pos (k - l.length) with e | e
        · exact e
        · rw [List.getElem?_eq_none (by simp; omega)] at hx; cases hx
      rw [this] at hx
      simp at hx
      subst hx
      have : k = n := by omega
      rw [this]; exact hv
theorem spot_none {w : World} {a : Addr} {v : Value} (h : w.cell? a = some v) : a.spot = none := by simpa using World.cell?_spot h
theorem cell_lt {w : World} {a : Addr} {v : Value} (h : w.cell? a = some v) : a.block < w.heap.size := by
  rcases Nat.lt_or_ge a.block w.heap.size with hh | hh
  · exact hh
  · simp [World.cell?, Array.getElem?_eq_none hh] at h
theorem weightsAll_mem {H : Type} {P : Program} {e : TypeId} : ∀ {l : List (DataW H)} {d : DataW H}, d ∈ l → ∀ n ∈ d.weights P e, n ∈ DataW.weightsAll P e l
  | d' :: r, d, hd, n, hn => by
    simp only [DataW.weightsAll, List.mem_append]
    rcases List.mem_cons.1 hd with rfl | h
    · exact Or.inl hn
    · exact Or.inr (weightsAll_mem h n hn)
theorem reach_at {H : Type} {P : Program} {ts : List TypeId} {ds : List (DataW H)} (h : (DataW.weightsEach P ts ds).all (· ≤ reachBytes) = true) (j : Nat) {t : TypeId} {d : DataW H} (ht : ts[j]? = some t) (hd : ds[j]? = some d) : ∀ n ∈ d.weights P t, n ≤ 140737488351232 := fun n hn => by
  exact of_decide_eq_true (List.all_eq_true.1 h _ (DataW.weights_mem_each ht hd n hn))
set_option maxRecDepth 100000 in
/-- A value that came in. -/
theorem open_V {H : Type} {enc : TypeId × Value → H} {W : World} {base b0 : Nat} {sp : Nat → Bool} {held : Bool} {r : Reach} {v : Value} {d : DataW H} {p : List MemPlace} (hv : Value.okWide Tryd.prog W r b0 23 v) (h : DataW.Trod enc Tryd.prog W base sp held 23 v d p) (hwt : ∀ n ∈ d.weights Tryd.prog 23, n ≤ 140737488351232) :
    ∃ (t n : Int) (s : ByteArray), v = .agg #[.int .i64 t, .int .i64 n, .string s] ∧ s.size ≤ 140737488351232 := by
  obtain ⟨v0, v1, v2, y0, y1, y2, fuel, rfl, hd, _, h0, h1, h2⟩ := open_agg3 Tryd.underlying23 (by kernel_rfl) (by kernel_rfl) hv h
  obtain ⟨t, e0, _, _⟩ := DataW.trod_int Tryd.underlying3 h0
  obtain ⟨n, e1, _, _⟩ := DataW.trod_int Tryd.underlying3 h1
  obtain ⟨s, e2, f2, hs⟩ := DataW.trod_string Tryd.underlying9 h2
  simp only [List.cons.injEq, and_true] at e0 e1 e2
  subst e0; subst e1; subst e2
  refine ⟨t, n, s, rfl, ?_⟩
  have hm : s.data.toList.length ∈ d.weights Tryd.prog 23 := by
    rw [hd, f2]
    simp only [DataW.weights, Tryd.underlying23, List.map_cons, List.map_nil, DataW.weightsEach, List.append_nil, List.mem_append, List.mem_singleton]
    first | exact Or.inr (Or.inr trivial) | exact Or.inr (Or.inr (List.mem_cons_self ..)) | simp
  rw [← size_len]
  exact hwt _ hm
set_option maxRecDepth 100000 in
/-- A tuple that came in. -/
theorem open_T {H : Type} {enc : TypeId × Value → H} {W : World} {base b0 : Nat} {held : Bool} {r : Reach} {v : Value} {d : DataW H} {p : List MemPlace} (hv : Value.okWide Tryd.prog W r b0 24 v) (h : DataW.Trod enc Tryd.prog W base (fun _ => true) held 24 v d p) (hwt : ∀ n ∈ d.weights Tryd.prog 24, n ≤ 140737488351232) :
    ∃ (A : Option Addr) (k : Nat) (l : List Vx.V), v = .slice A l.length k ∧ l.length ≤ 140737488351232 ∧ (A = none → k = 0) ∧ Tup W A l ∧ Fits l := by
  obtain ⟨a, len, cap, rfl⟩ := okWide_slice Tryd.underlying24 hv
  obtain ⟨fuel, hf⟩ := h
  rcases open_slice_fields Tryd.underlying24 Tryd.underlying23 (by kernel_rfl) (by kernel_rfl) hf with ⟨hcs, _⟩ | ⟨x, l, c, m, D, Pl, hcs, _, hl, hm, hmm, hd, hi⟩
  · simp [Value.cells] at hcs
    obtain ⟨rfl, rfl, rfl⟩ := hcs
    exact ⟨none, 0, [], rfl, by simp, fun _ => rfl, fun h => absurd rfl h, fun v hv => by cases hv⟩
  · simp [Value.cells] at hcs
    obtain ⟨rfl, rfl, rfl⟩ := hcs
    have hdd : d = DataW.slice ((List.range len).map D) ((List.range (m - len)).map fun j => D (len + j)) := congrArg Prod.fst hd
    have hlen : len ≤ 140737488351232 := by
      have := hwt ((((List.range len).map D).length + ((List.range (m - len)).map fun j => D (len + j)).length) * Tryd.prog.bytesOf 23) (by rw [hdd]; simp only [DataW.weights, Tryd.underlying24]; exact List.mem_cons_self ..)
      rw [show Tryd.prog.bytesOf 23 = 32 by kernel_rfl] at this
      simp at this
      omega
    have key : ∀ i, i < len → ∃ v : Vx.V, v.s.length ≤ 140737488351232 ∧ W.cell? (x.add (i * 3)) = some (.int .i64 v.t) ∧ W.cell? (x.add (i * 3 + 1)) = some (.int .i64 v.n) ∧ W.cell? (x.add (i * 3 + 2)) = some (.string ⟨v.s.toArray⟩) := fun i hil => by
      obtain ⟨ys, n, hDi, _, hyl, hf⟩ := hi i (by simp only [if_true] at hmm; omega)
      obtain ⟨v0, y0, c0, g0, t0⟩ := hf 0 _ rfl
      obtain ⟨v1, y1, c1, g1, t1⟩ := hf 1 _ rfl
      obtain ⟨v2, y2, c2, g2, t2⟩ := hf 2 _ rfl
      obtain ⟨t, e0, _, _⟩ := DataW.trod_int Tryd.underlying3 t0
      obtain ⟨n, e1, _, _⟩ := DataW.trod_int Tryd.underlying3 t1
      obtain ⟨s, e2, f2, hs⟩ := DataW.trod_string Tryd.underlying9 t2
      simp only [List.cons.injEq, and_true] at e0 e1 e2
      subst e0; subst e1; subst e2
      have hys : ys = [y0, y1, y2] := by
        match ys, hyl, g0, g1, g2 with
        | [a, b, c], _, g0, g1, g2 => simp at g0 g1 g2; rw [g0, g1, g2]
      have hmem : D i ∈ (List.range len).map D := List.mem_map.2 ⟨i, List.mem_range.2 hil, rfl⟩
      have hm : s.data.toList.length ∈ d.weights Tryd.prog 24 := by
        rw [hdd]
        simp only [DataW.weights, Tryd.underlying24, List.mem_cons, List.mem_append]
        refine Or.inr (Or.inl (weightsAll_mem hmem _ ?_))
        rw [hDi, hys, f2]
        simp only [DataW.weights, Tryd.underlying23, List.map_cons, List.map_nil, DataW.weightsEach, List.append_nil, List.mem_append]
        first | exact Or.inr (Or.inr trivial) | exact Or.inr (Or.inr (List.mem_cons_self ..)) | simp
      refine ⟨⟨t, n, s.data.toList⟩, hwt _ hm, c0, c1, ?_⟩
      rw [str_mk]; exact c2
    obtain ⟨ls, hls, hp⟩ := list_of len key
    subst hls
    refine ⟨some x, cap, ls, rfl, by omega, (fun h => by cases h), fun hn => ?_, fun v hv => ?_⟩
    · have h0 : 0 < ls.length := List.length_pos_iff.2 hn
      obtain ⟨_, c0, _⟩ := hp 0 _ (List.getElem?_eq_getElem h0)
      obtain ⟨g, o, spx⟩ := x
      have hsp : spx = none := by
        have := spot_none c0
        simpa [Addr.add] using this
      subst hsp
      have hg := cell_lt c0
      rw [add_at] at hg
      refine ⟨g, o, rfl, hg, fun k v hk => ?_⟩
      obtain ⟨_, a, b, c⟩ := hp k v hk
      rw [add_at] at a b c
      exact ⟨a, b, c⟩
    · obtain ⟨k, hk, e⟩ := List.mem_iff_getElem.1 hv
      obtain ⟨a, _⟩ := hp k v (by rw [List.getElem?_eq_getElem hk, e])
      omega
theorem u8_of {n : Int} (h : (Lit.int .u8 n).wf = true) : ∃ x : UInt8, n = (x.toNat : Int) := by
  have hb := bounds_u8 h
  exact ⟨UInt8.ofNat n.toNat, by rw [UInt8.toNat_ofNat']; omega⟩
set_option maxRecDepth 100000 in
/-- Bytes that came in. -/
theorem open_B {H : Type} {enc : TypeId × Value → H} {W : World} {base b0 : Nat} {held : Bool} {r : Reach} {v : Value} {d : DataW H} {p : List MemPlace} (hv : Value.okWide Tryd.prog W r b0 25 v) (h : DataW.Trod enc Tryd.prog W base (fun _ => true) held 25 v d p) (hwt : ∀ n ∈ d.weights Tryd.prog 25, n ≤ 140737488351232) :
    ∃ (A : Option Addr) (k : Nat) (l : List UInt8), v = .slice A l.length k ∧ l.length ≤ k ∧ k ≤ 140737488351232 ∧ Bytes W A l := by
  obtain ⟨a, len, cap, rfl⟩ := okWide_slice Tryd.underlying25 hv
  obtain ⟨fuel, hf⟩ := h
  rcases open_ints Tryd.underlying25 Tryd.underlying5 (by kernel_rfl) hf with ⟨hcs, _⟩ | ⟨x, l, c, zs, hcs, _, hl, hm, hz, hd, hcell, hwz⟩
  · simp [Value.cells] at hcs
    obtain ⟨rfl, rfl, rfl⟩ := hcs
    exact ⟨none, 0, [], rfl, Nat.le_refl _, by simp, fun h => absurd rfl h⟩
  · simp [Value.cells] at hcs
    obtain ⟨rfl, rfl, rfl⟩ := hcs
    simp only [if_true] at hz
    have hdd : d = DataW.slice (lits .u8 (zs.take len)) (lits .u8 (zs.drop len)) := congrArg Prod.fst hd
    have hcap : cap ≤ 140737488351232 := by
      have := hwt (((lits (H := H) .u8 (zs.take len)).length + (lits (H := H) .u8 (zs.drop len)).length) * Tryd.prog.bytesOf 5) (by rw [hdd]; simp only [DataW.weights, Tryd.underlying25]; exact List.mem_cons_self ..)
      rw [show Tryd.prog.bytesOf 5 = 1 by kernel_rfl] at this
      simp [lits] at this
      omega
    have key : ∀ i, i < len → ∃ y : UInt8, W.cell? (x.add i) = some (.int .u8 (y.toNat : Int)) := fun i hi => by
      have h1 := hcell i (by omega)
      obtain ⟨y, hy⟩ := u8_of (hwz (zs.getD i 0) (by rw [List.getD_eq_getElem?_getD, List.getElem?_eq_getElem (by omega)]; exact List.getElem_mem _))
      exact ⟨y, by rw [h1, hy]⟩
    obtain ⟨ls, hls, hp⟩ := list_of len key
    subst hls
    refine ⟨some x, cap, ls, rfl, hl, hcap, fun hn => ?_⟩
    have h0 : 0 < ls.length := List.length_pos_iff.2 hn
    have c0 := hp 0 _ (List.getElem?_eq_getElem h0)
    obtain ⟨g, o, spx⟩ := x
    have hsp : spx = none := by
      have := spot_none c0
      simpa [Addr.add] using this
    subst hsp
    have hg := cell_lt c0
    rw [add_at] at hg
    refine ⟨g, o, rfl, hg, fun k v hk => ?_⟩
    have a := hp k v hk
    rw [add_at] at a
    exact a
end Go.Proofs.YtagibdofpcbgiaaDoor
