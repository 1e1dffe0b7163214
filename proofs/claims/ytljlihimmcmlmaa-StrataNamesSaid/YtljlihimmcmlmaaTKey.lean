/- Keys of maps: pairs of numbers, and numbers. -/
import Derived.Test.YtljlihimmcmlmaaMap
import Derived.Test.YtljlihimmcmlmaaTInfo
namespace Go.Proofs.Ytljlihimmcmlmaa
set_option linter.unusedVariables false
set_option linter.unusedSimpArgs false
open Go.RowKit
abbrev Pr2 := Nat × Nat
def pval (n : Pr2) : Value := .agg #[.int .i64 (n.1 : Int), .int .i64 (n.2 : Int)]
theorem I64.wf {x : Int} (h : I64 x) : (Lit.int .i64 x).wf = true := by
  unfold I64 at h
  simp only [Lit.wf, Bool.and_eq_true, decide_eq_true_eq]
  exact h
def PGood (n : Pr2) : Prop := I64 (n.1 : Int) ∧ I64 (n.2 : Int)
theorem pair_deep : Try.prog.keyType 34 = true := by kernel_rfl
theorem prog_laid : laidOutB Try.prog = true := by kernel_rfl
theorem pair_wide : (match Try.prog.underlying 34 with | some (.array _ _) | some (.struct _) => true | _ => false) = true := by rw [Try.underlying34]
set_option maxRecDepth 100000 in
theorem pair_law : WideMaps.KeyLaw Try.prog 34 := deep_law_laid prog_laid (m := 2) (by omega) (of_decide_eq_true (by kernel_rfl)) (by kernel_rfl) pair_wide
theorem pair_cells : Try.prog.cellsOf 34 = 2 := by kernel_rfl
theorem int_cells : Try.prog.cellsOf 3 = 1 := by kernel_rfl
theorem pair_formed (n : Pr2) : (pval n).formed Try.prog 34 = true := by simp [pval, Value.formed, Try.underlying34, pair_cells]
theorem pair_lits (d : Nat) (n : Pr2) (h : PGood n) : Try.prog.keyLits (d + 2) 34 (pval n).cells.toList = some [.int .i64 (n.1 : Int), .int .i64 (n.2 : Int)] := by
  obtain ⟨h1, h2⟩ := h
  simp [Program.keyLits, Try.underlying34, Try.underlying3, pair_cells, int_cells, pval, Value.cells, h1.wf, h2.wf, List.range_succ]
theorem pair_key (n : Pr2) (h : PGood n) : ∃ l, keyOf Try.prog 34 (pval n) = some l := by
  obtain ⟨d, hd⟩ : ∃ d, Try.prog.types.size + 1 = d + 2 := ⟨Try.prog.types.size - 1, by
    have : 0 < Try.prog.types.size := of_decide_eq_true (by kernel_rfl)
    omega⟩
  unfold keyOf
  rw [Try.underlying34, hd, pair_lits d n h]
  simp [pair_deep, pair_formed]
theorem pair_enc : KEnc Try.prog 34 pval PGood :=
  ⟨Maps.Keyed.of_law pair_law, pair_key, fun x y h => by
    obtain ⟨a, b⟩ := x
    obtain ⟨a', b'⟩ := y
    simp [pval] at h
    exact Prod.ext (by simp; omega) (by simp; omega)⟩
def ival (x : Int) : Value := .int .i64 x
theorem int_enc : KEnc Try.prog 3 ival I64 :=
  ⟨Maps.int_keyed Try.underlying3, fun x h => ⟨_, Maps.keyOf_int_mk Try.underlying3 h.wf⟩, fun x y h => by simpa [ival] using h⟩
theorem bool_enc : EEnc (plainElem Try.prog 4) (fun x : Bool => .bool x) (fun x => .lit (.bool x)) := eenc_bool Try.underlying4
theorem zero_bool (w : World) : (zeroValue 4).run Try.prog w = .ok (.bool false) w := by kernel_rfl
abbrev bdat : Bool → DataW Unit := fun x => .lit (.bool x)
/-- A map of pairs to truth values, and of numbers. -/
abbrev PMap (w : World) (b n : Nat) (f : Pr2 → Option Bool) : Prop := FMap w Try.prog 34 (plainElem Try.prog 4) pval bdat b n f
abbrev IMap (w : World) (b n : Nat) (f : Int → Option Bool) : Prop := FMap w Try.prog 3 (plainElem Try.prog 4) ival bdat b n f
theorem FMap.obj {κ α : Type} {w : World} {P : Program} {k : TypeId} {R : Value → Option (DataW Unit × List MemPlace)} {val : κ → Value} {dat : α → DataW Unit} {b n : Nat} {f : κ → Option α} (h : FMap w P k R val dat b n f) : ∃ es c, w.heap[b]? = some (.map es c) := by
  obtain ⟨D, ⟨es, clock, h1, h2⟩, r⟩ := h
  exact ⟨es, clock, h1⟩
theorem FMap.madeAt {κ α : Type} {w : World} {g : Nat} (hg : w.heap.size = g) (P : Program) (k : TypeId) (R : Value → Option (DataW Unit × List MemPlace)) (val : κ → Value) (dat : α → DataW Unit) : FMap (w.alloc (.map #[] 0)) P k R val dat g 0 (fun _ => none) := by
  subst hg; exact FMap.made w P k R val dat
theorem At.not_map {w : World} {g b : Nat} {t : TypeId} {cs : Array Value} {es : Array MapEntry} {k : Nat} (h : At w g t cs) (hm : w.heap[b]? = some (.map es k)) : some g ≠ some b := by
  intro e
  injection e with e
  subst e
  unfold At at h
  rw [hm] at h
  simp at h
theorem own_not_map {w : World} {B b : Nat} {e : TypeId} {size n : Nat} {v : Value} {xs : List Value} {es : Array MapEntry} {k : Nat} (h : w.ownsRow B e size v n xs) (hm : w.heap[b]? = some (.map es k)) : ∀ q, v.ownBlock = some q → some b ≠ some q := by
  intro q hq e2
  injection e2 with e2
  subst e2
  rcases h.2 with ⟨rfl, _⟩ | ⟨g, cap, cur, rfl, _, hh, _⟩
  · simp [Value.ownBlock] at hq
  · have : g = b := by simpa [Value.ownBlock] using hq
    subst this
    rw [hm] at hh
    simp at hh
end Go.Proofs.Ytljlihimmcmlmaa
