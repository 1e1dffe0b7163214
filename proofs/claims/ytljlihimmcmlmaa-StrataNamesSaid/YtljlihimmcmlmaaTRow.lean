/- What the rows of Strata's laws share: a program that came in, opened. -/
import Derived.Test.YtljlihimmcmlmaaRows
import Derived.Test.YtljlihimmcmlmaaTSmall
import Derived.ProofKit
import Derived.OpenShut
import Derived.Deep.DeepHandedRow
import Derived.Deep.Slices
import Derived.Deep.Fields
import Derived.ChangeSame
import Derived.Lib.SmallJoins
import Derived.SizedLaws
namespace Go.Proofs.Ytljlihimmcmlmaa
set_option linter.unusedVariables false
set_option linter.unusedSimpArgs false
open Go.ChangeShapes Go.WideShapes Go.ChangeAt Go.RowKit Go.Deep Go.Joins
section
variable {H : Type} {enc : TypeId × Value → H} {P : Program} {w : World} {base : Nat} {spare : Nat → Bool} {held : Bool}
theorem open_list {α : Type} {t e : TypeId} {fuel : Nat} {cs : List Value} {x : DataW H × List MemPlace} (fs : α → List Value) (k : Nat) (Q : α → Prop) (hk : P.cellsOf e = k) (h0 : 0 < k) (ht : P.underlying t = some (.slice e))
    (hel : ∀ (n : Nat) (cs' : List Value) (y : DataW H × List MemPlace), DataW.trod enc P w base spare held n e cs' = some y → ∃ z : α, cs' = fs z ∧ Q z) (hfl : ∀ z, (fs z).length = k)
    (h : DataW.trod enc P w base spare held fuel t cs = some x) :
    ∃ (A : Option Addr) (c : Nat) (xs : List α), cs = [.slice A xs.length c] ∧ xs.length ≤ c ∧ c ≤ maxLen ∧ Str w A k (xs.map fs) ∧ (∀ z ∈ xs, Q z) ∧ (A = none → c = 0) := by
  rcases open_slice ht h with ⟨rfl, _⟩ | ⟨a, len, cap, m, n, D, Pl, rfl, hb, hl, hm, hmm, hx, hi⟩
  · exact ⟨none, 0, [], rfl, by simp, by simp [maxLen], fun h => absurd rfl h, (fun z hz => by cases hz), fun _ => rfl⟩
  · have key : ∀ i, i < len → ∃ z : α, Q z ∧ ∀ (j : Nat) (v : Value), (fs z)[j]? = some v → w.cell? (a.add (i * k + j)) = some v := fun i hil => by
      obtain ⟨cs', hc, ht'⟩ := hi i (by rw [hmm]; split <;> omega)
      obtain ⟨z, rfl, hq⟩ := hel n cs' _ ht'
      refine ⟨z, hq, fun j v hv => ?_⟩
      rw [hk] at hc
      obtain ⟨_, hcl, hat⟩ := World.cells?_some hc
      have hj : j < k := by have := (List.getElem?_eq_some_iff.1 hv).1; rw [hfl] at this; exact this
      rw [← Go.Deep.add_add, hat j hj]; exact hv
    obtain ⟨ls, hls, hp⟩ := list_of len key
    subst hls
    refine ⟨some a, cap, ls, rfl, hl, hm, fun hn => ?_, fun z hz => ?_, fun h => by cases h⟩
    · have hlen : 0 < ls.length := List.length_pos_iff.2 (fun e => hn (by rw [e]; rfl))
      obtain ⟨_, hc0⟩ := hp 0 _ (List.getElem?_eq_getElem hlen)
      obtain ⟨v0, hv0⟩ : ∃ v, (fs ls[0])[0]? = some v := ⟨_, List.getElem?_eq_getElem (show 0 < (fs ls[0]).length by have := hfl ls[0]; omega)⟩
      have c0 := hc0 0 v0 hv0
      obtain ⟨g, o, spx⟩ := a
      have hsp : spx = none := by
        have := spot_none c0
        simpa [Addr.add] using this
      subst hsp
      have hg := cell_lt c0
      rw [add_at] at hg
      refine ⟨g, o, rfl, hg, fun i f hi j v hv => ?_⟩
      rw [List.getElem?_map, Option.map_eq_some_iff] at hi
      obtain ⟨z, hz, rfl⟩ := hi
      have := (hp i z hz).2 j v hv
      rw [add_at, ← Nat.add_assoc] at this
      exact this
    · obtain ⟨i, hi, e⟩ := List.mem_iff_getElem.1 hz
      exact (hp i z (by rw [List.getElem?_eq_getElem hi, e])).1
theorem sl_of {t e : TypeId} {fuel : Nat} {v : Value} {x : DataW H × List MemPlace} (ht : P.underlying t = some (.slice e)) (h : DataW.trod enc P w base spare held fuel t [v] = some x) : ∃ s : Sl, v = .slice s.a s.n s.c := by
  rcases open_slice ht h with ⟨h1, _⟩ | ⟨a, len, cap, m, n, D, Pl, h1, _⟩
  · simp at h1; exact ⟨⟨none, 0, 0⟩, h1⟩
  · simp at h1; exact ⟨⟨some a, len, cap⟩, h1⟩
end
theorem raw_of {n : Int} (h : (Lit.int .u8 n).wf = true) : ∃ x : Nat, n = (x : Int) ∧ x < 256 := by
  have hb := bounds_u8 h
  exact ⟨n.toNat, by omega, by omega⟩
theorem i64_of {n : Int} (h : (Lit.int .i64 n).wf = true) : I64 n := bounds_i64 h
theorem list9 {α : Type} {l : List α} (h : l.length = 9) : ∃ a b c d e f g i j, l = [a, b, c, d, e, f, g, i, j] := by
  match l, h with
  | [a, b, c, d, e, f, g, i, j], _ => exact ⟨a, b, c, d, e, f, g, i, j, rfl⟩
theorem list7 {α : Type} {l : List α} (h : l.length = 7) : ∃ a b c d e f g, l = [a, b, c, d, e, f, g] := by
  match l, h with
  | [a, b, c, d, e, f, g], _ => exact ⟨a, b, c, d, e, f, g, rfl⟩
theorem list4 {α : Type} {l : List α} (h : l.length = 4) : ∃ a b c d, l = [a, b, c, d] := by
  match l, h with
  | [a, b, c, d], _ => exact ⟨a, b, c, d, rfl⟩
theorem some_at {α : Type} {l : List α} {n i : Nat} (h : l.length = n) (hi : i < n) : ∃ y, l[i]? = some y := ⟨_, List.getElem?_eq_getElem (by omega)⟩
section
variable {H : Type} {enc : TypeId × Value → H} {w : World} {base : Nat} {spare : Nat → Bool} {held : Bool}
theorem k_int : Try.prog.cellsOf 3 = 1 := by kernel_rfl
theorem k_str : Try.prog.cellsOf 9 = 1 := by kernel_rfl
theorem k_bool : Try.prog.cellsOf 4 = 1 := by kernel_rfl
theorem k_terms : Try.prog.cellsOf 46 = 1 := by kernel_rfl
theorem k_ints : Try.prog.cellsOf 42 = 1 := by kernel_rfl
theorem k_lits : Try.prog.cellsOf 49 = 1 := by kernel_rfl
theorem k_elem : Try.prog.cellsOf 48 = 4 := by kernel_rfl
theorem k_lit : Try.prog.cellsOf 56 = 9 := by kernel_rfl
theorem k_pred : Try.prog.cellsOf 53 = 7 := by kernel_rfl
theorem k_rule : Try.prog.cellsOf 51 = 9 := by kernel_rfl
set_option maxRecDepth 100000 in
theorem lit_el {n : Nat} {cs : List Value} {y : DataW H × List MemPlace} (h : DataW.trod enc Try.prog w base spare held n 56 cs = some y) : ∃ l : Lit9, cs = l.fs ∧ I64 l.kind ∧ I64 l.pred ∧ I64 l.pos := by
  obtain ⟨xs, m, rfl, _, hcl, hxl, hf⟩ := DataW.trod_struct Try.underlying56 h
  rw [k_lit] at hcl
  obtain ⟨c0, c1, c2, c3, c4, c5, c6, c7, c8, rfl⟩ := list9 hcl
  have g := fun i hi => some_at (i := i) hxl hi
  obtain ⟨y0, e0⟩ := g 0 (by decide)
  obtain ⟨y1, e1⟩ := g 1 (by decide)
  obtain ⟨y2, e2⟩ := g 2 (by decide)
  obtain ⟨y3, e3⟩ := g 3 (by decide)
  obtain ⟨y4, e4⟩ := g 4 (by decide)
  obtain ⟨y5, e5⟩ := g 5 (by decide)
  obtain ⟨y6, e6⟩ := g 6 (by decide)
  obtain ⟨y7, e7⟩ := g 7 (by decide)
  obtain ⟨y8, e8⟩ := g 8 (by decide)
  have h0 : DataW.trod enc Try.prog w base spare held m 3 (([c0, c1, c2, c3, c4, c5, c6, c7, c8].drop 0).take (Try.prog.cellsOf 3)) = xs[0]? := hf 0 _ rfl
  rw [e0, k_int] at h0
  have h1 : DataW.trod enc Try.prog w base spare held m 9 (([c0, c1, c2, c3, c4, c5, c6, c7, c8].drop 1).take (Try.prog.cellsOf 9)) = xs[1]? := hf 1 _ rfl
  rw [e1, k_str] at h1
  have h2 : DataW.trod enc Try.prog w base spare held m 3 (([c0, c1, c2, c3, c4, c5, c6, c7, c8].drop 2).take (Try.prog.cellsOf 3)) = xs[2]? := hf 2 _ rfl
  rw [e2, k_int] at h2
  have h3 : DataW.trod enc Try.prog w base spare held m 46 (([c0, c1, c2, c3, c4, c5, c6, c7, c8].drop 3).take (Try.prog.cellsOf 46)) = xs[3]? := hf 3 _ rfl
  rw [e3, k_terms] at h3
  have h4 : DataW.trod enc Try.prog w base spare held m 9 (([c0, c1, c2, c3, c4, c5, c6, c7, c8].drop 4).take (Try.prog.cellsOf 9)) = xs[4]? := hf 4 _ rfl
  rw [e4, k_str] at h4
  have h5 : DataW.trod enc Try.prog w base spare held m 9 (([c0, c1, c2, c3, c4, c5, c6, c7, c8].drop 5).take (Try.prog.cellsOf 9)) = xs[5]? := hf 5 _ rfl
  rw [e5, k_str] at h5
  have h6 : DataW.trod enc Try.prog w base spare held m 3 (([c0, c1, c2, c3, c4, c5, c6, c7, c8].drop 6).take (Try.prog.cellsOf 3)) = xs[6]? := hf 6 _ rfl
  rw [e6, k_int] at h6
  have h7 : DataW.trod enc Try.prog w base spare held m 3 (([c0, c1, c2, c3, c4, c5, c6, c7, c8].drop 7).take (Try.prog.cellsOf 3)) = xs[7]? := hf 7 _ rfl
  rw [e7, k_int] at h7
  have h8 : DataW.trod enc Try.prog w base spare held m 3 (([c0, c1, c2, c3, c4, c5, c6, c7, c8].drop 8).take (Try.prog.cellsOf 3)) = xs[8]? := hf 8 _ rfl
  rw [e8, k_int] at h8
  obtain ⟨kind, q0, _, b0⟩ := DataW.trod_int Try.underlying3 h0
  obtain ⟨name, q1, _, _⟩ := DataW.trod_string Try.underlying9 h1
  obtain ⟨pred, q2, _, b2⟩ := DataW.trod_int Try.underlying3 h2
  obtain ⟨s3, q3⟩ := sl_of (v := c3) Try.underlying46 (by simpa using h3)
  obtain ⟨bind, q4, _, _⟩ := DataW.trod_string Try.underlying9 h4
  obtain ⟨elem, q5, _, _⟩ := DataW.trod_string Try.underlying9 h5
  obtain ⟨least, q6, _, _⟩ := DataW.trod_int Try.underlying3 h6
  obtain ⟨op, q7, _, _⟩ := DataW.trod_int Try.underlying3 h7
  obtain ⟨pos, q8, _, b8⟩ := DataW.trod_int Try.underlying3 h8
  have z0 : c0 = .int .i64 kind := by simpa using q0
  have z1 : c1 = .string name := by simpa using q1
  have z2 : c2 = .int .i64 pred := by simpa using q2
  have z4 : c4 = .string bind := by simpa using q4
  have z5 : c5 = .string elem := by simpa using q5
  have z6 : c6 = .int .i64 least := by simpa using q6
  have z7 : c7 = .int .i64 op := by simpa using q7
  have z8 : c8 = .int .i64 pos := by simpa using q8
  exact ⟨⟨kind, name, pred, s3, bind, elem, least, op, pos⟩, by unfold Lit9.fs; rw [z0, z1, z2, q3, z4, z5, z6, z7, z8], i64_of b0, i64_of b2, i64_of b8⟩
set_option maxRecDepth 100000 in
theorem pred_el {n : Nat} {cs : List Value} {y : DataW H × List MemPlace} (h : DataW.trod enc Try.prog w base spare held n 53 cs = some y) : ∃ p : Pr, cs = p.fs ∧ I64 p.of := by
  obtain ⟨xs, m, rfl, _, hcl, hxl, hf⟩ := DataW.trod_struct Try.underlying53 h
  rw [k_pred] at hcl
  obtain ⟨c0, c1, c2, c3, c4, c5, c6, rfl⟩ := list7 hcl
  have g := fun i hi => some_at (i := i) hxl hi
  obtain ⟨y0, e0⟩ := g 0 (by decide)
  obtain ⟨y1, e1⟩ := g 1 (by decide)
  obtain ⟨y2, e2⟩ := g 2 (by decide)
  obtain ⟨y3, e3⟩ := g 3 (by decide)
  obtain ⟨y4, e4⟩ := g 4 (by decide)
  obtain ⟨y5, e5⟩ := g 5 (by decide)
  obtain ⟨y6, e6⟩ := g 6 (by decide)
  have h0 : DataW.trod enc Try.prog w base spare held m 9 (([c0, c1, c2, c3, c4, c5, c6].drop 0).take (Try.prog.cellsOf 9)) = xs[0]? := hf 0 _ rfl
  rw [e0, k_str] at h0
  have h1 : DataW.trod enc Try.prog w base spare held m 42 (([c0, c1, c2, c3, c4, c5, c6].drop 1).take (Try.prog.cellsOf 42)) = xs[1]? := hf 1 _ rfl
  rw [e1, k_ints] at h1
  have h2 : DataW.trod enc Try.prog w base spare held m 9 (([c0, c1, c2, c3, c4, c5, c6].drop 2).take (Try.prog.cellsOf 9)) = xs[2]? := hf 2 _ rfl
  rw [e2, k_str] at h2
  have h3 : DataW.trod enc Try.prog w base spare held m 3 (([c0, c1, c2, c3, c4, c5, c6].drop 3).take (Try.prog.cellsOf 3)) = xs[3]? := hf 3 _ rfl
  rw [e3, k_int] at h3
  have h4 : DataW.trod enc Try.prog w base spare held m 4 (([c0, c1, c2, c3, c4, c5, c6].drop 4).take (Try.prog.cellsOf 4)) = xs[4]? := hf 4 _ rfl
  rw [e4, k_bool] at h4
  have h5 : DataW.trod enc Try.prog w base spare held m 3 (([c0, c1, c2, c3, c4, c5, c6].drop 5).take (Try.prog.cellsOf 3)) = xs[5]? := hf 5 _ rfl
  rw [e5, k_int] at h5
  have h6 : DataW.trod enc Try.prog w base spare held m 3 (([c0, c1, c2, c3, c4, c5, c6].drop 6).take (Try.prog.cellsOf 3)) = xs[6]? := hf 6 _ rfl
  rw [e6, k_int] at h6
  obtain ⟨name, q0, _, _⟩ := DataW.trod_string Try.underlying9 h0
  have z0 : c0 = .string name := by simpa using q0
  obtain ⟨types, z1⟩ := sl_of (v := c1) Try.underlying42 (by simpa using h1)
  obtain ⟨lat, q2, _, _⟩ := DataW.trod_string Try.underlying9 h2
  have z2 : c2 = .string lat := by simpa using q2
  obtain ⟨of, q3, _, b3⟩ := DataW.trod_int Try.underlying3 h3
  have z3 : c3 = .int .i64 of := by simpa using q3
  obtain ⟨bs, q4, _⟩ := DataW.trod_bool Try.underlying4 h4
  have z4 : c4 = .bool bs := by simpa using q4
  obtain ⟨key, q5, _, b5⟩ := DataW.trod_int Try.underlying3 h5
  have z5 : c5 = .int .i64 key := by simpa using q5
  obtain ⟨pos, q6, _, b6⟩ := DataW.trod_int Try.underlying3 h6
  have z6 : c6 = .int .i64 pos := by simpa using q6
  exact ⟨⟨name, types, lat, of, bs, key, pos⟩, by unfold Pr.fs; rw [z0, z1, z2, z3, z4, z5, z6], i64_of b3⟩
set_option maxRecDepth 100000 in
theorem elem_el {n : Nat} {c0 c1 c2 c3 : Value} {y : DataW H × List MemPlace} (h : DataW.trod enc Try.prog w base spare held n 48 [c0, c1, c2, c3] = some y) : ∃ (a : Int) (b c : ByteArray) (d : Int), c0 = .int .i64 a ∧ c1 = .string b ∧ c2 = .string c ∧ c3 = .int .i64 d := by
  obtain ⟨xs, m, rfl, _, hcl, hxl, hf⟩ := DataW.trod_struct Try.underlying48 h
  have g := fun i hi => some_at (i := i) hxl hi
  obtain ⟨y0, e0⟩ := g 0 (by decide)
  obtain ⟨y1, e1⟩ := g 1 (by decide)
  obtain ⟨y2, e2⟩ := g 2 (by decide)
  obtain ⟨y3, e3⟩ := g 3 (by decide)
  have h0 : DataW.trod enc Try.prog w base spare held m 3 (([c0, c1, c2, c3].drop 0).take (Try.prog.cellsOf 3)) = xs[0]? := hf 0 _ rfl
  rw [e0, k_int] at h0
  have h1 : DataW.trod enc Try.prog w base spare held m 9 (([c0, c1, c2, c3].drop 1).take (Try.prog.cellsOf 9)) = xs[1]? := hf 1 _ rfl
  rw [e1, k_str] at h1
  have h2 : DataW.trod enc Try.prog w base spare held m 9 (([c0, c1, c2, c3].drop 2).take (Try.prog.cellsOf 9)) = xs[2]? := hf 2 _ rfl
  rw [e2, k_str] at h2
  have h3 : DataW.trod enc Try.prog w base spare held m 3 (([c0, c1, c2, c3].drop 3).take (Try.prog.cellsOf 3)) = xs[3]? := hf 3 _ rfl
  rw [e3, k_int] at h3
  obtain ⟨a, q0, _, b0⟩ := DataW.trod_int Try.underlying3 h0
  have z0 : c0 = .int .i64 a := by simpa using q0
  obtain ⟨b, q1, _, _⟩ := DataW.trod_string Try.underlying9 h1
  have z1 : c1 = .string b := by simpa using q1
  obtain ⟨c, q2, _, _⟩ := DataW.trod_string Try.underlying9 h2
  have z2 : c2 = .string c := by simpa using q2
  obtain ⟨d, q3, _, b3⟩ := DataW.trod_int Try.underlying3 h3
  have z3 : c3 = .int .i64 d := by simpa using q3
  exact ⟨a, b, c, d, z0, z1, z2, z3⟩
set_option maxRecDepth 100000 in
theorem rule_el {n : Nat} {cs : List Value} {y : DataW H × List MemPlace} (h : DataW.trod enc Try.prog w base spare held n 51 cs = some y) : ∃ r : Ru, cs = r.fs ∧ RuOk w r ∧ (r.ba = none → r.bc = 0) := by
  obtain ⟨xs, m, rfl, _, hcl, hxl, hf⟩ := DataW.trod_struct Try.underlying51 h
  rw [k_rule] at hcl
  obtain ⟨c0, c1, c2, c3, c4, c5, c6, c7, c8, rfl⟩ := list9 hcl
  have g := fun i hi => some_at (i := i) hxl hi
  obtain ⟨y0, e0⟩ := g 0 (by decide)
  obtain ⟨y1, e1⟩ := g 1 (by decide)
  obtain ⟨y2, e2⟩ := g 2 (by decide)
  obtain ⟨y3, e3⟩ := g 3 (by decide)
  obtain ⟨y4, e4⟩ := g 4 (by decide)
  obtain ⟨y5, e5⟩ := g 5 (by decide)
  have h0 : DataW.trod enc Try.prog w base spare held m 9 (([c0, c1, c2, c3, c4, c5, c6, c7, c8].drop 0).take (Try.prog.cellsOf 9)) = xs[0]? := hf 0 _ rfl
  rw [e0, k_str] at h0
  have h1 : DataW.trod enc Try.prog w base spare held m 3 (([c0, c1, c2, c3, c4, c5, c6, c7, c8].drop 1).take (Try.prog.cellsOf 3)) = xs[1]? := hf 1 _ rfl
  rw [e1, k_int] at h1
  have h2 : DataW.trod enc Try.prog w base spare held m 46 (([c0, c1, c2, c3, c4, c5, c6, c7, c8].drop 2).take (Try.prog.cellsOf 46)) = xs[2]? := hf 2 _ rfl
  rw [e2, k_terms] at h2
  have h3 : DataW.trod enc Try.prog w base spare held m 48 (([c0, c1, c2, c3, c4, c5, c6, c7, c8].drop 3).take (Try.prog.cellsOf 48)) = xs[3]? := hf 3 _ rfl
  rw [e3, k_elem] at h3
  have h4 : DataW.trod enc Try.prog w base spare held m 49 (([c0, c1, c2, c3, c4, c5, c6, c7, c8].drop 7).take (Try.prog.cellsOf 49)) = xs[4]? := hf 4 _ rfl
  rw [e4, k_lits] at h4
  have h5 : DataW.trod enc Try.prog w base spare held m 3 (([c0, c1, c2, c3, c4, c5, c6, c7, c8].drop 8).take (Try.prog.cellsOf 3)) = xs[5]? := hf 5 _ rfl
  rw [e5, k_int] at h5
  obtain ⟨name, q0, _, _⟩ := DataW.trod_string Try.underlying9 h0
  have z0 : c0 = .string name := by simpa using q0
  obtain ⟨pred, q1, _, b1⟩ := DataW.trod_int Try.underlying3 h1
  have z1 : c1 = .int .i64 pred := by simpa using q1
  obtain ⟨args, z2⟩ := sl_of (v := c2) Try.underlying46 (by simpa using h2)
  obtain ⟨ek, en, ev, ei, z3, z4, z5, z6⟩ := elem_el (c0 := c3) (c1 := c4) (c2 := c5) (c3 := c6) (by simpa using h3)
  obtain ⟨A, c, ls, q4, k1, k2, hs, hq, hz⟩ := open_list (α := Lit9) Lit9.fs 9 (fun l => I64 l.kind ∧ I64 l.pred ∧ I64 l.pos) k_lit (by decide) Try.underlying49 (fun n cs' y h => by obtain ⟨l, h1, h2⟩ := lit_el h; exact ⟨l, h1, h2⟩) (fun z => rfl) h4
  have z7 : c7 = .slice A ls.length c := by simpa using q4
  obtain ⟨pos, q5, _, b5⟩ := DataW.trod_int Try.underlying3 h5
  have z5' : c8 = .int .i64 pos := by simpa using q5
  refine ⟨⟨name, pred, args, ek, en, ev, ei, A, c, ls, pos⟩, by unfold Ru.fs; rw [z0, z1, z2, z3, z4, z5, z6, z7, z5'], ⟨hs, ⟨k1, k2⟩, i64_of b1, hq⟩, hz⟩
end
set_option maxRecDepth 100000 in
/-- A program that came in. -/
theorem open_P {H : Type} {enc : TypeId × Value → H} {W : World} {base b0 : Nat} {sp : Nat → Bool} {held : Bool} {r : Reach} {v : Value} {d : DataW H} {q : List MemPlace} (hv : Value.okWide Try.prog W r b0 27 v) (h : DataW.Trod enc Try.prog W base sp held 27 v d q) : ∃ p : Pg, v = p.v ∧ PgOk W p ∧ (p.ra = none → p.rc = 0) ∧ ∀ r ∈ p.rus, r.ba = none → r.bc = 0 := by
  obtain ⟨v0, v1, v2, v3, y0, y1, y2, y3, n, rfl, _, _, h0, h1, h2, h3⟩ := open_agg4 Try.underlying27 (by kernel_rfl) (by kernel_rfl) hv h
  obtain ⟨lat, rfl⟩ := sl_of Try.underlying22 h0
  obtain ⟨fns, rfl⟩ := sl_of Try.underlying23 h1
  obtain ⟨A, c, ps, q2, k1, k2, hs, hq, hz⟩ := open_list (α := Pr) Pr.fs 7 (fun p => I64 p.of) k_pred (by decide) Try.underlying24 (fun n cs' y h => by obtain ⟨l, h1, h2⟩ := pred_el h; exact ⟨l, h1, h2⟩) (fun z => rfl) h2
  obtain ⟨B, e, rs, q3, k3, k4, hs3, hq3, hz3⟩ := open_list (α := Ru) Ru.fs 9 (fun r => RuOk W r ∧ (r.ba = none → r.bc = 0)) k_rule (by decide) Try.underlying25 (fun n cs' y h => by obtain ⟨l, h1, h2⟩ := rule_el h; exact ⟨l, h1, h2⟩) (fun z => rfl) h3
  have z2 : v2 = .slice A ps.length c := by simpa using q2
  have z3 : v3 = .slice B rs.length e := by simpa using q3
  subst z2; subst z3
  exact ⟨⟨lat, fns, A, c, ps, B, e, rs⟩, rfl, ⟨hs, ⟨k1, k2⟩, hs3, ⟨k3, k4⟩, fun r hr => (hq3 r hr).1⟩, hz3, fun r hr => (hq3 r hr).2⟩
end Go.Proofs.Ytljlihimmcmlmaa
