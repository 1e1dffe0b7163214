/- What the rows of cost's laws share: the listed variables, the arguments opened. -/
import Derived.Test.YtoficnfpoeaccaaDoorCards
import Derived.Test.YtoficnfpoeaccaaDoorTie
import Derived.Test.YtoficnfpoeaccaaDoorKGate
import Derived.ProofKit
import Derived.OpenShut
import Derived.Deep.DeepHandedRow
import Derived.Deep.DeepWitnessRowRef
import Derived.Deep.Slices
import Derived.Deep.Fields
import Derived.ChangeSame
import Derived.Lib.SmallJoins
import Derived.Lib.LaidTab
import Derived.Lib.LaidU8
import Derived.Lib.LaidPrint
import Derived.SizedLaws
namespace Go.Proofs.YtoficnfpoeaccaaDoor
set_option linter.unusedVariables false
set_option linter.unusedSimpArgs false
open Go.ChangeShapes Go.WideShapes Go.ChangeAt Go.RowKit Go.Deep Go.Joins
abbrev bulk {H : Type} (d : DataW H) : Nat := Rows.uptoBulk d
theorem bulk_part {H : Type} {d : DataW H} : ∀ {l : List (DataW H)}, d ∈ l → bulk d ≤ Rows.uptoBulkAll l
  | x :: r, h => by
    simp only [Rows.uptoBulkAll]
    rcases List.mem_cons.1 h with rfl | e
    · exact Nat.le_add_right _ _
    · have := bulk_part e; omega
theorem bulk_one {H : Type} (d : DataW H) : 1 ≤ bulk d := by
  cases d with
  | lit l => cases l <;> simp [bulk, Rows.uptoBulk]
  | nil => simp [bulk, Rows.uptoBulk]
  | ptr d => simp [bulk, Rows.uptoBulk]
  | slice elems spare => simp [bulk, Rows.uptoBulk]
  | agg parts => simp [bulk, Rows.uptoBulk]
  | iface t d => simp [bulk, Rows.uptoBulk]
  | map entries => simp [bulk, Rows.uptoBulk]
  | held h => simp [bulk, Rows.uptoBulk]
theorem bulk_len {H : Type} : ∀ (l : List (DataW H)), l.length ≤ Rows.uptoBulkAll l
  | [] => by simp [Rows.uptoBulkAll]
  | x :: r => by
    have h1 := bulk_one x
    have h2 := bulk_len r
    simp only [Rows.uptoBulkAll, List.length_cons]
    unfold bulk at h1
    omega
theorem bulk_agg {H : Type} {d : DataW H} {l : List (DataW H)} (h : d ∈ l) : bulk d ≤ bulk (.agg l : DataW H) := by
  have := bulk_part h
  simp only [bulk, Rows.uptoBulk] at *
  omega
theorem bulk_slice {H : Type} {d : DataW H} {l s : List (DataW H)} (h : d ∈ l) : bulk d ≤ bulk (.slice l s : DataW H) := by
  have := bulk_part h
  simp only [bulk, Rows.uptoBulk] at *
  omega
theorem bulk_at {H : Type} {P : List (DataW H × List MemPlace)} {i : Nat} {y : DataW H × List MemPlace} (h : P[i]? = some y) : bulk y.1 ≤ bulk (.agg (P.map (·.1)) : DataW H) :=
  bulk_agg (List.mem_map.2 ⟨y, List.mem_of_getElem? h, rfl⟩)
section
variable {H : Type} {enc : TypeId × Value → H} {P : Program} {w : World} {base : Nat} {spare : Nat → Bool} {held : Bool}
theorem open_list {α : Type} {t e : TypeId} {fuel : Nat} {cs : List Value} {x : DataW H × List MemPlace} (fs : α → List Value) (k : Nat) (Q : Nat → α → Prop) (hk : P.cellsOf e = k) (h0 : 0 < k) (ht : P.underlying t = some (.slice e))
    (hel : ∀ (n : Nat) (cs' : List Value) (y : DataW H × List MemPlace), DataW.trod enc P w base spare held n e cs' = some y → ∃ z : α, cs' = fs z ∧ ∃ b, b ≤ bulk y.1 ∧ Q b z) (hfl : ∀ z, (fs z).length = k)
    (h : DataW.trod enc P w base spare held fuel t cs = some x) :
    ∃ (A : Option Addr) (c : Nat) (xs : List α), cs = [.slice A xs.length c] ∧ xs.length ≤ c ∧ c ≤ maxLen ∧ Str w A k (xs.map fs) ∧ (∀ z ∈ xs, ∃ b, b ≤ bulk x.1 ∧ Q b z) ∧ (A = none → c = 0) ∧ xs.length + 1 ≤ bulk x.1 := by
  rcases open_slice ht h with ⟨rfl, hx⟩ | ⟨a, len, cap, m, n, D, Pl, rfl, hb, hl, hm, hmm, hx, hi⟩
  · exact ⟨none, 0, [], rfl, by simp, by simp [maxLen], fun h => absurd rfl h, (fun z hz => by cases hz), fun _ => rfl, by simp; exact bulk_one _⟩
  · have key : ∀ i, i < len → ∃ z : α, (∃ b, b ≤ bulk (D i) ∧ Q b z) ∧ ∀ (j : Nat) (v : Value), (fs z)[j]? = some v → w.cell? (a.add (i * k + j)) = some v := fun i hil => by
      obtain ⟨cs', hc, ht'⟩ := hi i (by rw [hmm]; split <;> omega)
      obtain ⟨z, rfl, hq⟩ := hel n cs' _ ht'
      refine ⟨z, hq, fun j v hv => ?_⟩
      rw [hk] at hc
      obtain ⟨_, hcl, hat⟩ := World.cells?_some hc
      have hj : j < k := by have := (List.getElem?_eq_some_iff.1 hv).1; rw [hfl] at this; exact this
      rw [← Go.Deep.add_add, hat j hj]; exact hv
    obtain ⟨ls, hls, hp⟩ := list_of len key
    subst hls
    have hbl : ∀ i, i < ls.length → bulk (D i) ≤ bulk x.1 := fun i hi => by
      rw [hx]
      exact bulk_slice (List.mem_map.2 ⟨i, List.mem_range.2 hi, rfl⟩)
    refine ⟨some a, cap, ls, rfl, hl, hm, fun hn => ?_, fun z hz => ?_, fun h => (by cases h), ?_⟩
    · have hlen : 0 < ls.length := List.length_pos_iff.2 (fun e => hn (by rw [e]; rfl))
      obtain ⟨_, hc0⟩ := hp 0 _ (List.getElem?_eq_getElem hlen)
      obtain ⟨v0, hv0⟩ : ∃ v, (fs ls[0])[0]? = some v := ⟨_, List.getElem?_eq_getElem (show 0 < (fs ls[0]).length by have := hfl ls[0]; omega)⟩
      have c0 := hc0 0 v0 hv0
      obtain ⟨g, o, spx⟩ := a
      have hsp : spx = none := by
        have := spot_none c0
        simpa [Addr.add] using this
      subst hsp
      have hg := cell_lt c0
      rw [add_at] at hg
      refine ⟨g, o, rfl, hg, fun i f hi j v hv => ?_⟩
      rw [List.getElem?_map, Option.map_eq_some_iff] at hi
      obtain ⟨z, hz, rfl⟩ := hi
      have := (hp i z hz).2 j v hv
      rw [add_at, ← Nat.add_assoc] at this
      exact this
    · obtain ⟨i, hi, e⟩ := List.mem_iff_getElem.1 hz
      obtain ⟨b, h1, h2⟩ := (hp i z (by rw [List.getElem?_eq_getElem hi, e])).1
      exact ⟨b, Nat.le_trans h1 (hbl i hi), h2⟩
    · rw [hx]
      have h1 := bulk_len ((List.range ls.length).map D)
      rw [List.length_map, List.length_range] at h1
      simp only [bulk, Rows.uptoBulk]
      omega
theorem sl_of {t e : TypeId} {fuel : Nat} {v : Value} {x : DataW H × List MemPlace} (ht : P.underlying t = some (.slice e)) (h : DataW.trod enc P w base spare held fuel t [v] = some x) : ∃ s : Sl, v = .slice s.a s.n s.c ∧ s.n ≤ bulk x.1 := by
  rcases open_slice ht h with ⟨h1, _⟩ | ⟨a, len, cap, m, n, D, Pl, h1, hb, hl, hm, hmm, hx, _⟩
  · simp at h1; exact ⟨⟨none, 0, 0⟩, h1, Nat.zero_le _⟩
  · simp at h1
    refine ⟨⟨some a, len, cap⟩, h1, ?_⟩
    rw [hx]
    have h1 := bulk_len ((List.range len).map D)
    rw [List.length_map, List.length_range] at h1
    simp only [bulk, Rows.uptoBulk]
    omega
end
theorem i64_of {n : Int} (h : (Lit.int .i64 n).wf = true) : I64 n := bounds_i64 h
theorem some_at {α : Type} {l : List α} {n i : Nat} (h : l.length = n) (hi : i < n) : ∃ y, l[i]? = some y := ⟨_, List.getElem?_eq_getElem (by omega)⟩

theorem list2 {α : Type} {l : List α} (h : l.length = 2) : ∃ a b, l = [a, b] := by
  match l, h with
  | [a, b], _ => exact ⟨a, b, rfl⟩
theorem list3 {α : Type} {l : List α} (h : l.length = 3) : ∃ a b c, l = [a, b, c] := by
  match l, h with
  | [a, b, c], _ => exact ⟨a, b, c, rfl⟩
theorem list4 {α : Type} {l : List α} (h : l.length = 4) : ∃ a b c d, l = [a, b, c, d] := by
  match l, h with
  | [a, b, c, d], _ => exact ⟨a, b, c, d, rfl⟩
theorem list7 {α : Type} {l : List α} (h : l.length = 7) : ∃ a b c d e f g, l = [a, b, c, d, e, f, g] := by
  match l, h with
  | [a, b, c, d, e, f, g], _ => exact ⟨a, b, c, d, e, f, g, rfl⟩
theorem list9 {α : Type} {l : List α} (h : l.length = 9) : ∃ a b c d e f g i j, l = [a, b, c, d, e, f, g, i, j] := by
  match l, h with
  | [a, b, c, d, e, f, g, i, j], _ => exact ⟨a, b, c, d, e, f, g, i, j, rfl⟩
theorem k_int : Tryd.prog.cellsOf 3 = 1 := by kernel_rfl
theorem k_string : Tryd.prog.cellsOf 9 = 1 := by kernel_rfl
theorem k_bool : Tryd.prog.cellsOf 4 = 1 := by kernel_rfl
theorem k__api_Term : Tryd.prog.cellsOf 33 = 1 := by kernel_rfl
theorem k__int : Tryd.prog.cellsOf 40 = 1 := by kernel_rfl
theorem k__api_Literal : Tryd.prog.cellsOf 36 = 1 := by kernel_rfl
theorem k_api_Elem : Tryd.prog.cellsOf 35 = 4 := by kernel_rfl
theorem k_api_Literal : Tryd.prog.cellsOf 60 = 9 := by kernel_rfl
theorem k_api_Pred : Tryd.prog.cellsOf 51 = 7 := by kernel_rfl
theorem k_api_Rule : Tryd.prog.cellsOf 38 = 9 := by kernel_rfl
theorem k_api_Term : Tryd.prog.cellsOf 64 = 4 := by kernel_rfl
theorem k_api_Value : Tryd.prog.cellsOf 62 = 3 := by kernel_rfl
theorem k_api_Stats : Tryd.prog.cellsOf 46 = 2 := by kernel_rfl
theorem k__api_Value : Tryd.prog.cellsOf 73 = 1 := by kernel_rfl
theorem k_api_Row : Tryd.prog.cellsOf 76 = 2 := by kernel_rfl
theorem k_api_LRow : Tryd.prog.cellsOf 81 = 2 := by kernel_rfl
theorem k__api_Span : Tryd.prog.cellsOf 74 = 1 := by kernel_rfl
theorem k__api_Cell : Tryd.prog.cellsOf 79 = 1 := by kernel_rfl
theorem k_api_Rel : Tryd.prog.cellsOf 69 = 1 := by kernel_rfl
theorem k_api_LRel : Tryd.prog.cellsOf 78 = 1 := by kernel_rfl
theorem k__api_Rel : Tryd.prog.cellsOf 28 = 1 := by kernel_rfl
theorem k__api_LRel : Tryd.prog.cellsOf 29 = 1 := by kernel_rfl
theorem k__api_Lattice : Tryd.prog.cellsOf 22 = 1 := by kernel_rfl
theorem k__api_Fun : Tryd.prog.cellsOf 23 = 1 := by kernel_rfl
theorem k__api_Pred : Tryd.prog.cellsOf 24 = 1 := by kernel_rfl
theorem k__api_Rule : Tryd.prog.cellsOf 25 = 1 := by kernel_rfl
theorem k_api_Data : Tryd.prog.cellsOf 31 = 2 := by kernel_rfl
theorem k_api_Program : Tryd.prog.cellsOf 27 = 4 := by kernel_rfl
section
variable {H : Type} {enc : TypeId × Value → H} {w : World} {base : Nat} {spare : Nat → Bool} {held : Bool}
set_option maxRecDepth 100000 in
theorem val_el {n : Nat} {cs : List Value} {y : DataW H × List MemPlace} (h : DataW.trod enc Tryd.prog w base spare held n 62 cs = some y) : ∃ v : Qu.Vl3, cs = v.fs ∧ I64 v.t ∧ I64 v.n ∧ v.s.size + 1 ≤ bulk y.1 := by
  obtain ⟨xs, m, rfl, hy, hcl, hxl, hf⟩ := DataW.trod_struct Tryd.underlying62 h
  rw [k_api_Value] at hcl
  obtain ⟨c0, c1, c2, rfl⟩ := list3 hcl
  have g := fun i hi => some_at (i := i) hxl hi
  obtain ⟨y0, e0⟩ := g 0 (by decide)
  have hb0 : bulk y0.1 ≤ bulk y.1 := by rw [hy]; exact bulk_at e0
  have h0 : DataW.trod enc Tryd.prog w base spare held m 3 (([c0, c1, c2].drop 0).take (Tryd.prog.cellsOf 3)) = xs[0]? := hf 0 _ rfl
  rw [e0, k_int] at h0
  obtain ⟨v0, q0, u0, b0⟩ := DataW.trod_int Tryd.underlying3 h0
  have z0 : c0 = .int .i64 v0 := by simpa using q0
  obtain ⟨y1, e1⟩ := g 1 (by decide)
  have hb1 : bulk y1.1 ≤ bulk y.1 := by rw [hy]; exact bulk_at e1
  have h1 : DataW.trod enc Tryd.prog w base spare held m 3 (([c0, c1, c2].drop 1).take (Tryd.prog.cellsOf 3)) = xs[1]? := hf 1 _ rfl
  rw [e1, k_int] at h1
  obtain ⟨v1, q1, u1, b1⟩ := DataW.trod_int Tryd.underlying3 h1
  have z1 : c1 = .int .i64 v1 := by simpa using q1
  obtain ⟨y2, e2⟩ := g 2 (by decide)
  have hb2 : bulk y2.1 ≤ bulk y.1 := by rw [hy]; exact bulk_at e2
  have h2 : DataW.trod enc Tryd.prog w base spare held m 9 (([c0, c1, c2].drop 2).take (Tryd.prog.cellsOf 9)) = xs[2]? := hf 2 _ rfl
  rw [e2, k_string] at h2
  obtain ⟨v2, q2, u2, b2⟩ := DataW.trod_string Tryd.underlying9 h2
  have z2 : c2 = .string v2 := by simpa using q2
  refine ⟨⟨v0, v1, v2⟩, by unfold Qu.Vl3.fs; rw [z0, z1, z2], i64_of b0, i64_of b1, ?_⟩
  have e : bulk y2.1 = v2.size + 1 := by rw [u2]; simp only [bulk, Rows.uptoBulk]; rw [size_len]
  show v2.size + 1 ≤ _
  omega
set_option maxRecDepth 100000 in
theorem term_el {n : Nat} {cs : List Value} {y : DataW H × List MemPlace} (h : DataW.trod enc Tryd.prog w base spare held n 64 cs = some y) : ∃ t : Tm, cs = t.fs ∧ FitS t.v := by
  obtain ⟨xs, m, rfl, hy, hcl, hxl, hf⟩ := DataW.trod_struct Tryd.underlying64 h
  rw [k_api_Term] at hcl
  obtain ⟨c0, c1, c2, c3, rfl⟩ := list4 hcl
  have g := fun i hi => some_at (i := i) hxl hi
  obtain ⟨y0, e0⟩ := g 0 (by decide)
  have hb0 : bulk y0.1 ≤ bulk y.1 := by rw [hy]; exact bulk_at e0
  have h0 : DataW.trod enc Tryd.prog w base spare held m 9 (([c0, c1, c2, c3].drop 0).take (Tryd.prog.cellsOf 9)) = xs[0]? := hf 0 _ rfl
  rw [e0, k_string] at h0
  obtain ⟨v0, q0, u0, b0⟩ := DataW.trod_string Tryd.underlying9 h0
  have z0 : c0 = .string v0 := by simpa using q0
  obtain ⟨y1, e1⟩ := g 1 (by decide)
  have hb1 : bulk y1.1 ≤ bulk y.1 := by rw [hy]; exact bulk_at e1
  have h1 : DataW.trod enc Tryd.prog w base spare held m 62 (([c0, c1, c2, c3].drop 1).take (Tryd.prog.cellsOf 62)) = xs[1]? := hf 1 _ rfl
  rw [e1, k_api_Value] at h1
  have h1' : DataW.trod enc Tryd.prog w base spare held m 62 [c1, c2, c3] = some y1 := by simpa using h1
  obtain ⟨v, hv, _⟩ := val_el h1'
  unfold Qu.Vl3.fs at hv
  injection hv with hv1 hv
  injection hv with hv2 hv
  injection hv with hv3 hv
  exact ⟨⟨v0, v.t, v.n, v.s⟩, by unfold Tm.fs; rw [z0, hv1, hv2, hv3], b0⟩
set_option maxRecDepth 100000 in
theorem lit_el {n : Nat} {cs : List Value} {y : DataW H × List MemPlace} (h : DataW.trod enc Tryd.prog w base spare held n 60 cs = some y) : ∃ l : Lt, cs = l.fs ∧ LtOk w l ∧ ∀ t ∈ l.args, FitS t.v := by
  obtain ⟨xs, m, rfl, hy, hcl, hxl, hf⟩ := DataW.trod_struct Tryd.underlying60 h
  rw [k_api_Literal] at hcl
  obtain ⟨c0, c1, c2, c3, c4, c5, c6, c7, c8, rfl⟩ := list9 hcl
  have g := fun i hi => some_at (i := i) hxl hi
  obtain ⟨y0, e0⟩ := g 0 (by decide)
  have hb0 : bulk y0.1 ≤ bulk y.1 := by rw [hy]; exact bulk_at e0
  have h0 : DataW.trod enc Tryd.prog w base spare held m 3 (([c0, c1, c2, c3, c4, c5, c6, c7, c8].drop 0).take (Tryd.prog.cellsOf 3)) = xs[0]? := hf 0 _ rfl
  rw [e0, k_int] at h0
  obtain ⟨v0, q0, u0, b0⟩ := DataW.trod_int Tryd.underlying3 h0
  have z0 : c0 = .int .i64 v0 := by simpa using q0
  obtain ⟨y1, e1⟩ := g 1 (by decide)
  have hb1 : bulk y1.1 ≤ bulk y.1 := by rw [hy]; exact bulk_at e1
  have h1 : DataW.trod enc Tryd.prog w base spare held m 9 (([c0, c1, c2, c3, c4, c5, c6, c7, c8].drop 1).take (Tryd.prog.cellsOf 9)) = xs[1]? := hf 1 _ rfl
  rw [e1, k_string] at h1
  obtain ⟨v1, q1, u1, b1⟩ := DataW.trod_string Tryd.underlying9 h1
  have z1 : c1 = .string v1 := by simpa using q1
  obtain ⟨y2, e2⟩ := g 2 (by decide)
  have hb2 : bulk y2.1 ≤ bulk y.1 := by rw [hy]; exact bulk_at e2
  have h2 : DataW.trod enc Tryd.prog w base spare held m 3 (([c0, c1, c2, c3, c4, c5, c6, c7, c8].drop 2).take (Tryd.prog.cellsOf 3)) = xs[2]? := hf 2 _ rfl
  rw [e2, k_int] at h2
  obtain ⟨v2, q2, u2, b2⟩ := DataW.trod_int Tryd.underlying3 h2
  have z2 : c2 = .int .i64 v2 := by simpa using q2
  obtain ⟨y3, e3⟩ := g 3 (by decide)
  have hb3 : bulk y3.1 ≤ bulk y.1 := by rw [hy]; exact bulk_at e3
  have h3 : DataW.trod enc Tryd.prog w base spare held m 33 (([c0, c1, c2, c3, c4, c5, c6, c7, c8].drop 3).take (Tryd.prog.cellsOf 33)) = xs[3]? := hf 3 _ rfl
  rw [e3, k__api_Term] at h3
  replace h3 : DataW.trod enc Tryd.prog w base spare held m 33 [c3] = some y3 := by simpa using h3
  obtain ⟨y4, e4⟩ := g 4 (by decide)
  have hb4 : bulk y4.1 ≤ bulk y.1 := by rw [hy]; exact bulk_at e4
  have h4 : DataW.trod enc Tryd.prog w base spare held m 9 (([c0, c1, c2, c3, c4, c5, c6, c7, c8].drop 4).take (Tryd.prog.cellsOf 9)) = xs[4]? := hf 4 _ rfl
  rw [e4, k_string] at h4
  obtain ⟨v4, q4, u4, b4⟩ := DataW.trod_string Tryd.underlying9 h4
  have z4 : c4 = .string v4 := by simpa using q4
  obtain ⟨y5, e5⟩ := g 5 (by decide)
  have hb5 : bulk y5.1 ≤ bulk y.1 := by rw [hy]; exact bulk_at e5
  have h5 : DataW.trod enc Tryd.prog w base spare held m 9 (([c0, c1, c2, c3, c4, c5, c6, c7, c8].drop 5).take (Tryd.prog.cellsOf 9)) = xs[5]? := hf 5 _ rfl
  rw [e5, k_string] at h5
  obtain ⟨v5, q5, u5, b5⟩ := DataW.trod_string Tryd.underlying9 h5
  have z5 : c5 = .string v5 := by simpa using q5
  obtain ⟨y6, e6⟩ := g 6 (by decide)
  have hb6 : bulk y6.1 ≤ bulk y.1 := by rw [hy]; exact bulk_at e6
  have h6 : DataW.trod enc Tryd.prog w base spare held m 3 (([c0, c1, c2, c3, c4, c5, c6, c7, c8].drop 6).take (Tryd.prog.cellsOf 3)) = xs[6]? := hf 6 _ rfl
  rw [e6, k_int] at h6
  obtain ⟨v6, q6, u6, b6⟩ := DataW.trod_int Tryd.underlying3 h6
  have z6 : c6 = .int .i64 v6 := by simpa using q6
  obtain ⟨y7, e7⟩ := g 7 (by decide)
  have hb7 : bulk y7.1 ≤ bulk y.1 := by rw [hy]; exact bulk_at e7
  have h7 : DataW.trod enc Tryd.prog w base spare held m 3 (([c0, c1, c2, c3, c4, c5, c6, c7, c8].drop 7).take (Tryd.prog.cellsOf 3)) = xs[7]? := hf 7 _ rfl
  rw [e7, k_int] at h7
  obtain ⟨v7, q7, u7, b7⟩ := DataW.trod_int Tryd.underlying3 h7
  have z7 : c7 = .int .i64 v7 := by simpa using q7
  obtain ⟨y8, e8⟩ := g 8 (by decide)
  have hb8 : bulk y8.1 ≤ bulk y.1 := by rw [hy]; exact bulk_at e8
  have h8 : DataW.trod enc Tryd.prog w base spare held m 3 (([c0, c1, c2, c3, c4, c5, c6, c7, c8].drop 8).take (Tryd.prog.cellsOf 3)) = xs[8]? := hf 8 _ rfl
  rw [e8, k_int] at h8
  obtain ⟨v8, q8, u8, b8⟩ := DataW.trod_int Tryd.underlying3 h8
  have z8 : c8 = .int .i64 v8 := by simpa using q8
  obtain ⟨A, c, ts, q, k1, k2, hs, hq, hz, _⟩ := open_list (α := Tm) Tm.fs 4 (fun _ t => FitS t.v) k_api_Term (by decide) Tryd.underlying33 (fun n cs' y h => by obtain ⟨t, h1, h2⟩ := term_el h; exact ⟨t, h1, _, Nat.le_refl _, h2⟩) (fun z => rfl) h3
  have z3 : c3 = .slice A ts.length c := by simpa using q
  exact ⟨⟨v0, v1, v2, A, c, ts, v4, v5, v6, v7, v8⟩, by unfold Lt.fs; rw [z0, z1, z2, z3, z4, z5, z6, z7, z8], ⟨hs, ⟨k1, k2⟩, i64_of b0, i64_of b2, i64_of b7⟩, fun t ht => by obtain ⟨_, _, h⟩ := hq t ht; exact h⟩
set_option maxRecDepth 100000 in
theorem elem_el {n : Nat} {c0 c1 c2 c3 : Value} {y : DataW H × List MemPlace} (h : DataW.trod enc Tryd.prog w base spare held n 35 [c0, c1, c2, c3] = some y) : ∃ (a : Int) (b c : ByteArray) (d : Int), c0 = .int .i64 a ∧ c1 = .string b ∧ c2 = .string c ∧ c3 = .int .i64 d := by
  obtain ⟨xs, m, rfl, hy, hcl, hxl, hf⟩ := DataW.trod_struct Tryd.underlying35 h
  rw [k_api_Elem] at hcl
  have g := fun i hi => some_at (i := i) hxl hi
  obtain ⟨y0, e0⟩ := g 0 (by decide)
  have hb0 : bulk y0.1 ≤ bulk y.1 := by rw [hy]; exact bulk_at e0
  have h0 : DataW.trod enc Tryd.prog w base spare held m 3 (([c0, c1, c2, c3].drop 0).take (Tryd.prog.cellsOf 3)) = xs[0]? := hf 0 _ rfl
  rw [e0, k_int] at h0
  obtain ⟨v0, q0, u0, b0⟩ := DataW.trod_int Tryd.underlying3 h0
  have z0 : c0 = .int .i64 v0 := by simpa using q0
  obtain ⟨y1, e1⟩ := g 1 (by decide)
  have hb1 : bulk y1.1 ≤ bulk y.1 := by rw [hy]; exact bulk_at e1
  have h1 : DataW.trod enc Tryd.prog w base spare held m 9 (([c0, c1, c2, c3].drop 1).take (Tryd.prog.cellsOf 9)) = xs[1]? := hf 1 _ rfl
  rw [e1, k_string] at h1
  obtain ⟨v1, q1, u1, b1⟩ := DataW.trod_string Tryd.underlying9 h1
  have z1 : c1 = .string v1 := by simpa using q1
  obtain ⟨y2, e2⟩ := g 2 (by decide)
  have hb2 : bulk y2.1 ≤ bulk y.1 := by rw [hy]; exact bulk_at e2
  have h2 : DataW.trod enc Tryd.prog w base spare held m 9 (([c0, c1, c2, c3].drop 2).take (Tryd.prog.cellsOf 9)) = xs[2]? := hf 2 _ rfl
  rw [e2, k_string] at h2
  obtain ⟨v2, q2, u2, b2⟩ := DataW.trod_string Tryd.underlying9 h2
  have z2 : c2 = .string v2 := by simpa using q2
  obtain ⟨y3, e3⟩ := g 3 (by decide)
  have hb3 : bulk y3.1 ≤ bulk y.1 := by rw [hy]; exact bulk_at e3
  have h3 : DataW.trod enc Tryd.prog w base spare held m 3 (([c0, c1, c2, c3].drop 3).take (Tryd.prog.cellsOf 3)) = xs[3]? := hf 3 _ rfl
  rw [e3, k_int] at h3
  obtain ⟨v3, q3, u3, b3⟩ := DataW.trod_int Tryd.underlying3 h3
  have z3 : c3 = .int .i64 v3 := by simpa using q3
  exact ⟨v0, v1, v2, v3, z0, z1, z2, z3⟩
set_option maxRecDepth 100000 in
theorem rule_el {n : Nat} {cs : List Value} {y : DataW H × List MemPlace} (h : DataW.trod enc Tryd.prog w base spare held n 38 cs = some y) : ∃ r : Rl, cs = r.fs ∧ RlOk w r ∧ (∀ l ∈ r.body, ∀ t ∈ l.args, FitS t.v) ∧ (r.ba = none → r.bc = 0) := by
  obtain ⟨xs, m, rfl, hy, hcl, hxl, hf⟩ := DataW.trod_struct Tryd.underlying38 h
  rw [k_api_Rule] at hcl
  obtain ⟨c0, c1, c2, c3, c4, c5, c6, c7, c8, rfl⟩ := list9 hcl
  have g := fun i hi => some_at (i := i) hxl hi
  obtain ⟨y0, e0⟩ := g 0 (by decide)
  have hb0 : bulk y0.1 ≤ bulk y.1 := by rw [hy]; exact bulk_at e0
  have h0 : DataW.trod enc Tryd.prog w base spare held m 9 (([c0, c1, c2, c3, c4, c5, c6, c7, c8].drop 0).take (Tryd.prog.cellsOf 9)) = xs[0]? := hf 0 _ rfl
  rw [e0, k_string] at h0
  obtain ⟨v0, q0, u0, b0⟩ := DataW.trod_string Tryd.underlying9 h0
  have z0 : c0 = .string v0 := by simpa using q0
  obtain ⟨y1, e1⟩ := g 1 (by decide)
  have hb1 : bulk y1.1 ≤ bulk y.1 := by rw [hy]; exact bulk_at e1
  have h1 : DataW.trod enc Tryd.prog w base spare held m 3 (([c0, c1, c2, c3, c4, c5, c6, c7, c8].drop 1).take (Tryd.prog.cellsOf 3)) = xs[1]? := hf 1 _ rfl
  rw [e1, k_int] at h1
  obtain ⟨v1, q1, u1, b1⟩ := DataW.trod_int Tryd.underlying3 h1
  have z1 : c1 = .int .i64 v1 := by simpa using q1
  obtain ⟨y2, e2⟩ := g 2 (by decide)
  have hb2 : bulk y2.1 ≤ bulk y.1 := by rw [hy]; exact bulk_at e2
  have h2 : DataW.trod enc Tryd.prog w base spare held m 33 (([c0, c1, c2, c3, c4, c5, c6, c7, c8].drop 2).take (Tryd.prog.cellsOf 33)) = xs[2]? := hf 2 _ rfl
  rw [e2, k__api_Term] at h2
  replace h2 : DataW.trod enc Tryd.prog w base spare held m 33 [c2] = some y2 := by simpa using h2
  obtain ⟨y3, e3⟩ := g 3 (by decide)
  have hb3 : bulk y3.1 ≤ bulk y.1 := by rw [hy]; exact bulk_at e3
  have h3 : DataW.trod enc Tryd.prog w base spare held m 35 (([c0, c1, c2, c3, c4, c5, c6, c7, c8].drop 3).take (Tryd.prog.cellsOf 35)) = xs[3]? := hf 3 _ rfl
  rw [e3, k_api_Elem] at h3
  obtain ⟨y4, e4⟩ := g 4 (by decide)
  have hb4 : bulk y4.1 ≤ bulk y.1 := by rw [hy]; exact bulk_at e4
  have h4 : DataW.trod enc Tryd.prog w base spare held m 36 (([c0, c1, c2, c3, c4, c5, c6, c7, c8].drop 7).take (Tryd.prog.cellsOf 36)) = xs[4]? := hf 4 _ rfl
  rw [e4, k__api_Literal] at h4
  replace h4 : DataW.trod enc Tryd.prog w base spare held m 36 [c7] = some y4 := by simpa using h4
  obtain ⟨y5, e5⟩ := g 5 (by decide)
  have hb5 : bulk y5.1 ≤ bulk y.1 := by rw [hy]; exact bulk_at e5
  have h5 : DataW.trod enc Tryd.prog w base spare held m 3 (([c0, c1, c2, c3, c4, c5, c6, c7, c8].drop 8).take (Tryd.prog.cellsOf 3)) = xs[5]? := hf 5 _ rfl
  rw [e5, k_int] at h5
  obtain ⟨v8, q5, u5, b5⟩ := DataW.trod_int Tryd.underlying3 h5
  have z8 : c8 = .int .i64 v8 := by simpa using q5
  obtain ⟨args, z2, _⟩ := sl_of (v := c2) Tryd.underlying33 h2
  obtain ⟨ek, en, ev, ei, z3, z4, z5, z6⟩ := elem_el (c0 := c3) (c1 := c4) (c2 := c5) (c3 := c6) (by simpa using h3)
  obtain ⟨A, c, ls, q, k1, k2, hs, hq, hz, _⟩ := open_list (α := Lt) Lt.fs 9 (fun _ l => LtOk w l ∧ ∀ t ∈ l.args, FitS t.v) k_api_Literal (by decide) Tryd.underlying36 (fun n cs' y h => by obtain ⟨l, h1, h2, h3⟩ := lit_el h; exact ⟨l, h1, _, Nat.le_refl _, h2, h3⟩) (fun z => rfl) h4
  have z7 : c7 = .slice A ls.length c := by simpa using q
  exact ⟨⟨v0, v1, args, ek, en, ev, ei, A, c, ls, v8⟩, by unfold Rl.fs; rw [z0, z1, z2, z3, z4, z5, z6, z7, z8], ⟨hs, ⟨k1, k2⟩, fun l hl => by obtain ⟨_, _, h⟩ := hq l hl; exact h.1⟩, fun l hl => by obtain ⟨_, _, h⟩ := hq l hl; exact h.2, hz⟩
set_option maxRecDepth 100000 in
theorem int_el {n : Nat} {cs : List Value} {y : DataW H × List MemPlace} (h : DataW.trod enc Tryd.prog w base spare held n 3 cs = some y) : ∃ x : Int, cs = [.int .i64 x] ∧ I64 x := by
  obtain ⟨v, q, _, b⟩ := DataW.trod_int Tryd.underlying3 h
  exact ⟨v, q, i64_of b⟩
set_option maxRecDepth 100000 in
theorem name_el {n : Nat} {cs : List Value} {y : DataW H × List MemPlace} (h : DataW.trod enc Tryd.prog w base spare held n 9 cs = some y) : ∃ x : ByteArray, cs = [.string x] ∧ FitS x := by
  obtain ⟨v, q, _, b⟩ := DataW.trod_string Tryd.underlying9 h
  exact ⟨v, q, b⟩
set_option maxRecDepth 100000 in
theorem sta_el {n : Nat} {cs : List Value} {y : DataW H × List MemPlace} (h : DataW.trod enc Tryd.prog w base spare held n 46 cs = some y) : ∃ s : Sta, cs = s.fs ∧ StaOk w s ∧ (s.da = none → s.dc = 0) := by
  obtain ⟨xs, m, rfl, hy, hcl, hxl, hf⟩ := DataW.trod_struct Tryd.underlying46 h
  rw [k_api_Stats] at hcl
  obtain ⟨c0, c1, rfl⟩ := list2 hcl
  have g := fun i hi => some_at (i := i) hxl hi
  obtain ⟨y0, e0⟩ := g 0 (by decide)
  have hb0 : bulk y0.1 ≤ bulk y.1 := by rw [hy]; exact bulk_at e0
  have h0 : DataW.trod enc Tryd.prog w base spare held m 3 (([c0, c1].drop 0).take (Tryd.prog.cellsOf 3)) = xs[0]? := hf 0 _ rfl
  rw [e0, k_int] at h0
  obtain ⟨v0, q0, u0, b0⟩ := DataW.trod_int Tryd.underlying3 h0
  have z0 : c0 = .int .i64 v0 := by simpa using q0
  obtain ⟨y1, e1⟩ := g 1 (by decide)
  have hb1 : bulk y1.1 ≤ bulk y.1 := by rw [hy]; exact bulk_at e1
  have h1 : DataW.trod enc Tryd.prog w base spare held m 40 (([c0, c1].drop 1).take (Tryd.prog.cellsOf 40)) = xs[1]? := hf 1 _ rfl
  rw [e1, k__int] at h1
  replace h1 : DataW.trod enc Tryd.prog w base spare held m 40 [c1] = some y1 := by simpa using h1
  obtain ⟨A, c, ls, q, k1, k2, hs, hq, hz, _⟩ := open_list (α := Int) (fun x => [.int .i64 x]) 1 (fun _ x => I64 x) k_int (by decide) Tryd.underlying40 (fun n cs' y h => by obtain ⟨l, h1, h2⟩ := int_el h; exact ⟨l, h1, _, Nat.le_refl _, h2⟩) (fun z => rfl) h1
  have z1 : c1 = .slice A ls.length c := by simpa using q
  exact ⟨⟨v0, A, c, ls⟩, by unfold Sta.fs; rw [z0, z1], ⟨hs, ⟨k1, k2⟩, i64_of b0, fun x hx => by obtain ⟨_, _, h⟩ := hq x hx; exact h⟩, hz⟩
set_option maxRecDepth 100000 in
theorem row_el {n : Nat} {cs : List Value} {y : DataW H × List MemPlace} (h : DataW.trod enc Tryd.prog w base spare held n 76 cs = some y) : ∃ r : Rw, cs = r.fs ∧ Str w r.aa 3 (r.args.map Qu.Vl3.fs) ∧ (∀ v ∈ r.args, I64 v.t ∧ I64 v.n ∧ v.s.size ≤ bulk y.1) := by
  obtain ⟨xs, m, rfl, hy, hcl, hxl, hf⟩ := DataW.trod_struct Tryd.underlying76 h
  rw [k_api_Row] at hcl
  obtain ⟨c0, c1, rfl⟩ := list2 hcl
  have g := fun i hi => some_at (i := i) hxl hi
  obtain ⟨y0, e0⟩ := g 0 (by decide)
  have hb0 : bulk y0.1 ≤ bulk y.1 := by rw [hy]; exact bulk_at e0
  have h0 : DataW.trod enc Tryd.prog w base spare held m 73 (([c0, c1].drop 0).take (Tryd.prog.cellsOf 73)) = xs[0]? := hf 0 _ rfl
  rw [e0, k__api_Value] at h0
  replace h0 : DataW.trod enc Tryd.prog w base spare held m 73 [c0] = some y0 := by simpa using h0
  obtain ⟨y1, e1⟩ := g 1 (by decide)
  have hb1 : bulk y1.1 ≤ bulk y.1 := by rw [hy]; exact bulk_at e1
  have h1 : DataW.trod enc Tryd.prog w base spare held m 74 (([c0, c1].drop 1).take (Tryd.prog.cellsOf 74)) = xs[1]? := hf 1 _ rfl
  rw [e1, k__api_Span] at h1
  replace h1 : DataW.trod enc Tryd.prog w base spare held m 74 [c1] = some y1 := by simpa using h1
  obtain ⟨A, c, ls, q, k1, k2, hs, hq, hz, _⟩ := open_list (α := Qu.Vl3) Qu.Vl3.fs 3 (fun b v => I64 v.t ∧ I64 v.n ∧ v.s.size ≤ b) k_api_Value (by decide) Tryd.underlying73 (fun n cs' y h => by obtain ⟨l, h1, h2, h3, h4⟩ := val_el h; exact ⟨l, h1, _, Nat.le_refl _, h2, h3, by omega⟩) (fun z => rfl) h0
  obtain ⟨wn, z1, _⟩ := sl_of (v := c1) Tryd.underlying74 h1
  have z0 : c0 = .slice A ls.length c := by simpa using q
  exact ⟨⟨A, c, ls, wn⟩, by unfold Rw.fs; rw [z0, z1], hs, fun v hv => by obtain ⟨b, hb, h1, h2, h3⟩ := hq v hv; exact ⟨h1, h2, by omega⟩⟩
set_option maxRecDepth 100000 in
theorem lrow_el {n : Nat} {cs : List Value} {y : DataW H × List MemPlace} (h : DataW.trod enc Tryd.prog w base spare held n 81 cs = some y) : ∃ r : Rw, cs = r.fs ∧ Str w r.aa 3 (r.args.map Qu.Vl3.fs) ∧ (∀ v ∈ r.args, I64 v.t ∧ I64 v.n ∧ v.s.size ≤ bulk y.1) := by
  obtain ⟨xs, m, rfl, hy, hcl, hxl, hf⟩ := DataW.trod_struct Tryd.underlying81 h
  rw [k_api_LRow] at hcl
  obtain ⟨c0, c1, rfl⟩ := list2 hcl
  have g := fun i hi => some_at (i := i) hxl hi
  obtain ⟨y0, e0⟩ := g 0 (by decide)
  have hb0 : bulk y0.1 ≤ bulk y.1 := by rw [hy]; exact bulk_at e0
  have h0 : DataW.trod enc Tryd.prog w base spare held m 73 (([c0, c1].drop 0).take (Tryd.prog.cellsOf 73)) = xs[0]? := hf 0 _ rfl
  rw [e0, k__api_Value] at h0
  replace h0 : DataW.trod enc Tryd.prog w base spare held m 73 [c0] = some y0 := by simpa using h0
  obtain ⟨y1, e1⟩ := g 1 (by decide)
  have hb1 : bulk y1.1 ≤ bulk y.1 := by rw [hy]; exact bulk_at e1
  have h1 : DataW.trod enc Tryd.prog w base spare held m 79 (([c0, c1].drop 1).take (Tryd.prog.cellsOf 79)) = xs[1]? := hf 1 _ rfl
  rw [e1, k__api_Cell] at h1
  replace h1 : DataW.trod enc Tryd.prog w base spare held m 79 [c1] = some y1 := by simpa using h1
  obtain ⟨A, c, ls, q, k1, k2, hs, hq, hz, _⟩ := open_list (α := Qu.Vl3) Qu.Vl3.fs 3 (fun b v => I64 v.t ∧ I64 v.n ∧ v.s.size ≤ b) k_api_Value (by decide) Tryd.underlying73 (fun n cs' y h => by obtain ⟨l, h1, h2, h3, h4⟩ := val_el h; exact ⟨l, h1, _, Nat.le_refl _, h2, h3, by omega⟩) (fun z => rfl) h0
  obtain ⟨wn, z1, _⟩ := sl_of (v := c1) Tryd.underlying79 h1
  have z0 : c0 = .slice A ls.length c := by simpa using q
  exact ⟨⟨A, c, ls, wn⟩, by unfold Rw.fs; rw [z0, z1], hs, fun v hv => by obtain ⟨b, hb, h1, h2, h3⟩ := hq v hv; exact ⟨h1, h2, by omega⟩⟩
set_option maxRecDepth 100000 in
theorem rel_el {n : Nat} {cs : List Value} {y : DataW H × List MemPlace} (h : DataW.trod enc Tryd.prog w base spare held n 69 cs = some y) : ∃ r : Re, cs = r.fs ∧ Str w r.a 2 (r.rows.map Rw.fs) ∧ (∀ x ∈ r.rows, Str w x.aa 3 (x.args.map Qu.Vl3.fs) ∧ ∀ v ∈ x.args, I64 v.t ∧ I64 v.n ∧ v.s.size ≤ bulk y.1) ∧ (r.a = none → r.c = 0) ∧ r.rows.length ≤ bulk y.1 := by
  obtain ⟨A, c, ls, q, k1, k2, hs, hq, hz, hn⟩ := open_list (α := Rw) Rw.fs 2 (fun b x => Str w x.aa 3 (x.args.map Qu.Vl3.fs) ∧ ∀ v ∈ x.args, I64 v.t ∧ I64 v.n ∧ v.s.size ≤ b) k_api_Row (by decide) Tryd.underlying69 (fun n cs' y h => by obtain ⟨l, h1, h2, h3⟩ := row_el h; exact ⟨l, h1, _, Nat.le_refl _, h2, h3⟩) (fun z => rfl) h
  exact ⟨⟨A, c, ls⟩, q, hs, fun x hx => by obtain ⟨b, hb, h1, h2⟩ := hq x hx; exact ⟨h1, fun v hv => by obtain ⟨a1, a2, a3⟩ := h2 v hv; exact ⟨a1, a2, by omega⟩⟩, hz, by show ls.length ≤ _; omega⟩
set_option maxRecDepth 100000 in
theorem lrel_el {n : Nat} {cs : List Value} {y : DataW H × List MemPlace} (h : DataW.trod enc Tryd.prog w base spare held n 78 cs = some y) : ∃ r : Re, cs = r.fs ∧ Str w r.a 2 (r.rows.map Rw.fs) ∧ (∀ x ∈ r.rows, Str w x.aa 3 (x.args.map Qu.Vl3.fs) ∧ ∀ v ∈ x.args, I64 v.t ∧ I64 v.n ∧ v.s.size ≤ bulk y.1) ∧ (r.a = none → r.c = 0) ∧ r.rows.length ≤ bulk y.1 := by
  obtain ⟨A, c, ls, q, k1, k2, hs, hq, hz, hn⟩ := open_list (α := Rw) Rw.fs 2 (fun b x => Str w x.aa 3 (x.args.map Qu.Vl3.fs) ∧ ∀ v ∈ x.args, I64 v.t ∧ I64 v.n ∧ v.s.size ≤ b) k_api_LRow (by decide) Tryd.underlying78 (fun n cs' y h => by obtain ⟨l, h1, h2, h3⟩ := lrow_el h; exact ⟨l, h1, _, Nat.le_refl _, h2, h3⟩) (fun z => rfl) h
  exact ⟨⟨A, c, ls⟩, q, hs, fun x hx => by obtain ⟨b, hb, h1, h2⟩ := hq x hx; exact ⟨h1, fun v hv => by obtain ⟨a1, a2, a3⟩ := h2 v hv; exact ⟨a1, a2, by omega⟩⟩, hz, by show ls.length ≤ _; omega⟩
set_option maxRecDepth 100000 in
theorem pred_el {n : Nat} {cs : List Value} {y : DataW H × List MemPlace} (h : DataW.trod enc Tryd.prog w base spare held n 51 cs = some y) : ∃ p : Pd, cs = p.fs ∧ I64 p.of ∧ p.tn ≤ bulk y.1 := by
  obtain ⟨xs, m, rfl, hy, hcl, hxl, hf⟩ := DataW.trod_struct Tryd.underlying51 h
  rw [k_api_Pred] at hcl
  obtain ⟨c0, c1, c2, c3, c4, c5, c6, rfl⟩ := list7 hcl
  have g := fun i hi => some_at (i := i) hxl hi
  obtain ⟨y0, e0⟩ := g 0 (by decide)
  have hb0 : bulk y0.1 ≤ bulk y.1 := by rw [hy]; exact bulk_at e0
  have h0 : DataW.trod enc Tryd.prog w base spare held m 9 (([c0, c1, c2, c3, c4, c5, c6].drop 0).take (Tryd.prog.cellsOf 9)) = xs[0]? := hf 0 _ rfl
  rw [e0, k_string] at h0
  obtain ⟨v0, q0, u0, b0⟩ := DataW.trod_string Tryd.underlying9 h0
  have z0 : c0 = .string v0 := by simpa using q0
  obtain ⟨y1, e1⟩ := g 1 (by decide)
  have hb1 : bulk y1.1 ≤ bulk y.1 := by rw [hy]; exact bulk_at e1
  have h1 : DataW.trod enc Tryd.prog w base spare held m 40 (([c0, c1, c2, c3, c4, c5, c6].drop 1).take (Tryd.prog.cellsOf 40)) = xs[1]? := hf 1 _ rfl
  rw [e1, k__int] at h1
  replace h1 : DataW.trod enc Tryd.prog w base spare held m 40 [c1] = some y1 := by simpa using h1
  obtain ⟨y2, e2⟩ := g 2 (by decide)
  have hb2 : bulk y2.1 ≤ bulk y.1 := by rw [hy]; exact bulk_at e2
  have h2 : DataW.trod enc Tryd.prog w base spare held m 9 (([c0, c1, c2, c3, c4, c5, c6].drop 2).take (Tryd.prog.cellsOf 9)) = xs[2]? := hf 2 _ rfl
  rw [e2, k_string] at h2
  obtain ⟨v2, q2, u2, b2⟩ := DataW.trod_string Tryd.underlying9 h2
  have z2 : c2 = .string v2 := by simpa using q2
  obtain ⟨y3, e3⟩ := g 3 (by decide)
  have hb3 : bulk y3.1 ≤ bulk y.1 := by rw [hy]; exact bulk_at e3
  have h3 : DataW.trod enc Tryd.prog w base spare held m 3 (([c0, c1, c2, c3, c4, c5, c6].drop 3).take (Tryd.prog.cellsOf 3)) = xs[3]? := hf 3 _ rfl
  rw [e3, k_int] at h3
  obtain ⟨v3, q3, u3, b3⟩ := DataW.trod_int Tryd.underlying3 h3
  have z3 : c3 = .int .i64 v3 := by simpa using q3
  obtain ⟨y4, e4⟩ := g 4 (by decide)
  have hb4 : bulk y4.1 ≤ bulk y.1 := by rw [hy]; exact bulk_at e4
  have h4 : DataW.trod enc Tryd.prog w base spare held m 4 (([c0, c1, c2, c3, c4, c5, c6].drop 4).take (Tryd.prog.cellsOf 4)) = xs[4]? := hf 4 _ rfl
  rw [e4, k_bool] at h4
  obtain ⟨v4, q4, u4⟩ := DataW.trod_bool Tryd.underlying4 h4
  have z4 : c4 = .bool v4 := by simpa using q4
  obtain ⟨y5, e5⟩ := g 5 (by decide)
  have hb5 : bulk y5.1 ≤ bulk y.1 := by rw [hy]; exact bulk_at e5
  have h5 : DataW.trod enc Tryd.prog w base spare held m 3 (([c0, c1, c2, c3, c4, c5, c6].drop 5).take (Tryd.prog.cellsOf 3)) = xs[5]? := hf 5 _ rfl
  rw [e5, k_int] at h5
  obtain ⟨v5, q5, u5, b5⟩ := DataW.trod_int Tryd.underlying3 h5
  have z5 : c5 = .int .i64 v5 := by simpa using q5
  obtain ⟨y6, e6⟩ := g 6 (by decide)
  have hb6 : bulk y6.1 ≤ bulk y.1 := by rw [hy]; exact bulk_at e6
  have h6 : DataW.trod enc Tryd.prog w base spare held m 3 (([c0, c1, c2, c3, c4, c5, c6].drop 6).take (Tryd.prog.cellsOf 3)) = xs[6]? := hf 6 _ rfl
  rw [e6, k_int] at h6
  obtain ⟨v6, q6, u6, b6⟩ := DataW.trod_int Tryd.underlying3 h6
  have z6 : c6 = .int .i64 v6 := by simpa using q6
  obtain ⟨ts, z1, htn⟩ := sl_of (v := c1) Tryd.underlying40 h1
  exact ⟨⟨v0, ts.a, ts.n, ts.c, v2, v3, v4, v5, v6⟩, by unfold Pd.fs; rw [z0, z1, z2, z3, z4, z5, z6], i64_of b3, by show ts.n ≤ _; omega⟩
end
/-! ### The arguments -/
section
variable {H : Type} {enc : TypeId × Value → H} {W : World} {base b0 : Nat} {sp : Nat → Bool} {held : Bool} {r : Reach} {v : Value} {d : DataW H} {q : List MemPlace}
set_option maxRecDepth 100000 in
theorem cells_one {t e : TypeId} (ht : Tryd.prog.underlying t = some (.slice e)) (hv : Value.okWide Tryd.prog W r b0 t v) : v.cells.toList = [v] := by
  obtain ⟨a, n, c, rfl, _⟩ := okWide_slice ht hv
  simp [Value.cells]
set_option maxRecDepth 100000 in
theorem open_SS (hv : Value.okWide Tryd.prog W r b0 32 v) (h : DataW.Trod enc Tryd.prog W base sp held 32 v d q) : ∃ (A : Option Addr) (c : Nat) (ss : List Sta), v = .slice A ss.length c ∧ Env W A ss ∧ ∀ s ∈ ss, s.da = none → s.dc = 0 := by
  obtain ⟨n, h⟩ := h
  rw [cells_one Tryd.underlying32 hv] at h
  obtain ⟨A, c, ls, e, k1, k2, hs, hq, hz, _⟩ := open_list (α := Sta) Sta.fs 2 (fun _ s => StaOk W s ∧ (s.da = none → s.dc = 0)) k_api_Stats (by decide) Tryd.underlying32 (fun n cs' y h => by obtain ⟨l, h1, h2, h3⟩ := sta_el h; exact ⟨l, h1, _, Nat.le_refl _, h2, h3⟩) (fun z => rfl) h
  exact ⟨A, c, ls, by simpa using e, ⟨hs, fun s hs => by obtain ⟨_, _, h⟩ := hq s hs; exact h.1⟩, fun s hs => by obtain ⟨_, _, h⟩ := hq s hs; exact h.2⟩
set_option maxRecDepth 100000 in
theorem open_N (hv : Value.okWide Tryd.prog W r b0 39 v) (h : DataW.Trod enc Tryd.prog W base sp held 39 v d q) : ∃ (A : Option Addr) (c : Nat) (l : List ByteArray), v = .slice A l.length c ∧ NmAt W A l ∧ (A = none → c = 0) ∧ (∀ s ∈ l, FitS s) ∧ l.length ≤ bulk d := by
  obtain ⟨n, h⟩ := h
  rw [cells_one Tryd.underlying39 hv] at h
  obtain ⟨A, c, ls, e, k1, k2, hs, hq, hz, hn⟩ := open_list (α := ByteArray) (fun x => [.string x]) 1 (fun _ x => FitS x) k_string (by decide) Tryd.underlying39 (fun n cs' y h => by obtain ⟨l, h1, h2⟩ := name_el h; exact ⟨l, h1, _, Nat.le_refl _, h2⟩) (fun z => rfl) h
  refine ⟨A, c, ls, by simpa using e, fun hne => ?_, hz, fun s hs => by obtain ⟨_, _, h⟩ := hq s hs; exact h, by simp only at hn; omega⟩
  obtain ⟨g, o, e2, hg, hc⟩ := hs (by intro e3; exact hne (List.map_eq_nil_iff.1 e3))
  exact ⟨g, o, e2, hg, fun i s hi => by
    have := hc i [.string s] (by rw [List.getElem?_map, hi]; rfl) 0 (.string s) rfl
    rw [Nat.mul_one, Nat.add_zero] at this
    exact this⟩
set_option maxRecDepth 100000 in
theorem open_O (hv : Value.okWide Tryd.prog W r b0 40 v) (h : DataW.Trod enc Tryd.prog W base sp held 40 v d q) : ∃ (A : Option Addr) (c : Nat) (l : List Int), v = .slice A l.length c ∧ Str W A 1 (l.map fun x => [.int .i64 x]) ∧ (A = none → c = 0) := by
  obtain ⟨n, h⟩ := h
  rw [cells_one Tryd.underlying40 hv] at h
  obtain ⟨A, c, ls, e, k1, k2, hs, hq, hz, hn⟩ := open_list (α := Int) (fun x => [.int .i64 x]) 1 (fun _ x => I64 x) k_int (by decide) Tryd.underlying40 (fun n cs' y h => by obtain ⟨l, h1, h2⟩ := int_el h; exact ⟨l, h1, _, Nat.le_refl _, h2⟩) (fun z => rfl) h
  exact ⟨A, c, ls, by simpa using e, hs, hz⟩
set_option maxRecDepth 100000 in
theorem open_R (hv : Value.okWide Tryd.prog W r b0 38 v) (h : DataW.Trod enc Tryd.prog W base sp held 38 v d q) : ∃ x : Rl, v = x.v ∧ RlOk W x ∧ (∀ l ∈ x.body, ∀ t ∈ l.args, FitS t.v) ∧ (x.ba = none → x.bc = 0) := by
  obtain ⟨cs, rfl, hsz⟩ := okWide_struct Tryd.underlying38 hv
  obtain ⟨n, h⟩ := h
  obtain ⟨x, e, h1, h2, h3⟩ := rule_el h
  refine ⟨x, ?_, h1, h2, h3⟩
  have e' : cs.toList = x.fs := e
  unfold Rl.v
  rw [show cs = x.fs.toArray by rw [← e']]
  rfl
set_option maxRecDepth 100000 in
theorem open_P (hv : Value.okWide Tryd.prog W r b0 27 v) (h : DataW.Trod enc Tryd.prog W base sp held 27 v d q) : ∃ p : Pm, v = p.v ∧ PmOk W p ∧ ∀ x ∈ p.preds, x.tn ≤ bulk d := by
  obtain ⟨v0, v1, v2, v3, y0, y1, y2, y3, n, rfl, hd, _, h0, h1, h2, h3⟩ := open_agg4 Tryd.underlying27 (by kernel_rfl) (by kernel_rfl) hv h
  obtain ⟨lat, rfl, _⟩ := sl_of Tryd.underlying22 h0
  obtain ⟨fns, rfl, _⟩ := sl_of Tryd.underlying23 h1
  obtain ⟨A, c, ps, q2, k1, k2, hs, hq, hz, _⟩ := open_list (α := Pd) Pd.fs 7 (fun b p => I64 p.of ∧ p.tn ≤ b) k_api_Pred (by decide) Tryd.underlying24 (fun n cs' y h => by obtain ⟨l, h1, h2, h3⟩ := pred_el h; exact ⟨l, h1, _, Nat.le_refl _, h2, h3⟩) (fun z => rfl) h2
  obtain ⟨rus, rfl, _⟩ := sl_of Tryd.underlying25 h3
  have z2 : v2 = .slice A ps.length c := by simpa using q2
  subst z2
  have hb : bulk y2.1 ≤ bulk d := by rw [hd]; exact bulk_agg (by simp)
  exact ⟨⟨lat, fns, A, c, ps, rus⟩, rfl, ⟨hs, fun x hx => by obtain ⟨_, _, h⟩ := hq x hx; exact h.1⟩, fun x hx => by obtain ⟨b, hb2, h⟩ := hq x hx; have := h.2; omega⟩
set_option maxRecDepth 100000 in
theorem byte_el {n : Nat} {w : World} {base : Nat} {spare : Nat → Bool} {held : Bool} {cs : List Value} {y : DataW H × List MemPlace} (h : DataW.trod enc Tryd.prog w base spare held n 5 cs = some y) : ∃ x : Int, cs = [.int .u8 x] ∧ 0 ≤ x ∧ x ≤ 255 := by
  obtain ⟨v, q, _, b⟩ := DataW.trod_int Tryd.underlying5 h
  refine ⟨v, q, ?_⟩
  have e1 : IntKind.u8.min = 0 := rfl
  have e2 : IntKind.u8.max = 255 := rfl
  simp [Lit.wf, e1, e2] at b
  omega
set_option maxRecDepth 100000 in
theorem open_U (hv : Value.okWide Tryd.prog W r b0 53 v) (h : DataW.Trod enc Tryd.prog W base sp held 53 v d q) : ∃ (A : Option Addr) (c : Nat) (l : List Int), v = .slice A l.length c ∧ Str W A 1 (l.map fun x => [.int .u8 x]) ∧ ∀ x ∈ l, 0 ≤ x ∧ x ≤ 255 := by
  obtain ⟨n, h⟩ := h
  rw [cells_one Tryd.underlying53 hv] at h
  obtain ⟨A, c, ls, e, k1, k2, hs, hq, hz, hn⟩ := open_list (α := Int) (fun x => [.int .u8 x]) 1 (fun _ x => 0 ≤ x ∧ x ≤ 255) (show Tryd.prog.cellsOf 5 = 1 by kernel_rfl) (by decide) Tryd.underlying53 (fun n cs' y h => by obtain ⟨l, h1, h2⟩ := byte_el h; exact ⟨l, h1, _, Nat.le_refl _, h2⟩) (fun z => rfl) h
  exact ⟨A, c, ls, by simpa using e, hs, fun s hs => by obtain ⟨_, _, h⟩ := hq s hs; exact h⟩
set_option maxRecDepth 100000 in
theorem open_L (hv : Value.okWide Tryd.prog W r b0 69 v) (h : DataW.Trod enc Tryd.prog W base sp held 69 v d q) (hb : bulk d ≤ 1000000000000) : ∃ x : Re, v = .slice x.a x.rows.length x.c ∧ ReOk W x ∧ (x.a = none → x.c = 0) ∧ x.rows.length ≤ bulk d := by
  obtain ⟨n, h⟩ := h
  rw [cells_one Tryd.underlying69 hv] at h
  obtain ⟨x, e, h1, h2, h3, h4⟩ := rel_el h
  exact ⟨x, by simpa [Re.fs] using e, ⟨h1, fun y hy => ⟨(h2 y hy).1, fun v hv => ⟨((h2 y hy).2 v hv).1, ((h2 y hy).2 v hv).2.1, by have := ((h2 y hy).2 v hv).2.2; simp only at this; omega⟩⟩⟩, h3, h4⟩
set_option maxRecDepth 100000 in
theorem open_D (hv : Value.okWide Tryd.prog W r b0 31 v) (h : DataW.Trod enc Tryd.prog W base sp held 31 v d q) (hb : bulk d ≤ 1000000000000) : ∃ x : Da, v = x.v ∧ DaOk W x := by
  obtain ⟨v0, v1, y0, y1, n, rfl, hd, _, h0, h1⟩ := open_agg2 Tryd.underlying31 (by kernel_rfl) (by kernel_rfl) hv h
  obtain ⟨A, c, ps, q0, k1, k2, hs, hq, hz, _⟩ := open_list (α := Re) Re.fs 1 (fun b r => Str W r.a 2 (r.rows.map Rw.fs) ∧ ∀ x ∈ r.rows, Str W x.aa 3 (x.args.map Qu.Vl3.fs) ∧ ∀ v ∈ x.args, I64 v.t ∧ I64 v.n ∧ v.s.size ≤ b) k_api_Rel (by decide) Tryd.underlying28 (fun n cs' y h => by obtain ⟨l, h1, h2, h3, _⟩ := rel_el h; exact ⟨l, h1, _, Nat.le_refl _, h2, h3⟩) (fun z => rfl) h0
  obtain ⟨B, e, qs, q1, k3, k4, hs3, hq3, hz3, _⟩ := open_list (α := Re) Re.fs 1 (fun b r => Str W r.a 2 (r.rows.map Rw.fs) ∧ ∀ x ∈ r.rows, Str W x.aa 3 (x.args.map Qu.Vl3.fs) ∧ ∀ v ∈ x.args, I64 v.t ∧ I64 v.n ∧ v.s.size ≤ b) k_api_LRel (by decide) Tryd.underlying29 (fun n cs' y h => by obtain ⟨l, h1, h2, h3, _⟩ := lrel_el h; exact ⟨l, h1, _, Nat.le_refl _, h2, h3⟩) (fun z => rfl) h1
  have z0 : v0 = .slice A ps.length c := by simpa using q0
  have z1 : v1 = .slice B qs.length e := by simpa using q1
  subst z0; subst z1
  have hb0 : bulk y0.1 ≤ bulk d := by rw [hd]; exact bulk_agg (by simp)
  have hb1 : bulk y1.1 ≤ bulk d := by rw [hd]; exact bulk_agg (by simp)
  have key : ∀ (b : Nat) (l : List Re), b ≤ bulk d → (∀ z ∈ l, ∃ b', b' ≤ b ∧ Str W z.a 2 (z.rows.map Rw.fs) ∧ ∀ x ∈ z.rows, Str W x.aa 3 (x.args.map Qu.Vl3.fs) ∧ ∀ v ∈ x.args, I64 v.t ∧ I64 v.n ∧ v.s.size ≤ b') → ∀ z ∈ l, ReOk W z := fun b l hbl hl z hz => by
    obtain ⟨b', h1, h2, h3⟩ := hl z hz
    exact ⟨h2, fun x hx => ⟨(h3 x hx).1, fun v hv => ⟨((h3 x hx).2 v hv).1, ((h3 x hx).2 v hv).2.1, by have := ((h3 x hx).2 v hv).2.2; omega⟩⟩⟩
  exact ⟨⟨A, c, ps, B, e, qs⟩, rfl, hs, hs3, key _ ps hb0 hq, key _ qs hb1 hq3⟩
end
end Go.Proofs.YtoficnfpoeaccaaDoor
