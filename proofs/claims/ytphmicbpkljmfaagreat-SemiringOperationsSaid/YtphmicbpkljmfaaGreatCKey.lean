/- Keys of maps: nodes and numbers. -/
import Derived.Test.YtphmicbpkljmfaaGreatCIdx
import Derived.Test.YtphmicbpkljmfaaGreatTwo
namespace Go.Proofs.YtphmicbpkljmfaaGreat
set_option linter.unusedVariables false
set_option linter.unusedSimpArgs false
open Go.RowKit
open Cx (N)
def nval (n : N) : Value := .agg #[.int .i64 n.o, .int .i64 n.a, .int .i64 n.b]
/-- A number of the machine. -/
def I64 (x : Int) : Prop := -9223372036854775808 ≤ x ∧ x ≤ 9223372036854775807
theorem I64.wf {x : Int} (h : I64 x) : (Lit.int .i64 x).wf = true := by
  unfold I64 at h
  simp only [Lit.wf, Bool.and_eq_true, decide_eq_true_eq]
  exact h
def NGood (n : N) : Prop := I64 n.o ∧ I64 n.a ∧ I64 n.b
theorem node_deep : Tryz.prog.keyType 58 = true := by kernel_rfl
theorem node_laid : laidOutB Tryz.prog = true := by kernel_rfl
theorem node_wide : (match Tryz.prog.underlying 58 with | some (.array _ _) | some (.struct _) => true | _ => false) = true := by rw [Tryz.underlying58]
set_option maxRecDepth 100000 in
theorem node_law : WideMaps.KeyLaw Tryz.prog 58 := deep_law_laid node_laid (m := 2) (by omega) (of_decide_eq_true (by kernel_rfl)) (by kernel_rfl) node_wide
theorem node_cells : Tryz.prog.cellsOf 58 = 3 := by kernel_rfl
theorem int_cells : Tryz.prog.cellsOf 3 = 1 := by kernel_rfl
theorem node_formed (n : N) : (nval n).formed Tryz.prog 58 = true := by simp [nval, Value.formed, Tryz.underlying58, node_cells]
theorem node_lits (d : Nat) (n : N) (h : NGood n) : Tryz.prog.keyLits (d + 2) 58 (nval n).cells.toList = some [.int .i64 n.o, .int .i64 n.a, .int .i64 n.b] := by
  obtain ⟨h1, h2, h3⟩ := h
  simp [Program.keyLits, Tryz.underlying58, Tryz.underlying3, node_cells, int_cells, nval, Value.cells, h1.wf, h2.wf, h3.wf]
theorem node_key (n : N) (h : NGood n) : ∃ l, keyOf Tryz.prog 58 (nval n) = some l := by
  obtain ⟨d, hd⟩ : ∃ d, Tryz.prog.types.size + 1 = d + 2 := ⟨Tryz.prog.types.size - 1, by
    have : 0 < Tryz.prog.types.size := of_decide_eq_true (by kernel_rfl)
    omega⟩
  unfold keyOf
  rw [Tryz.underlying58, hd, node_lits d n h]
  simp [node_deep, node_formed]
theorem node_enc : KEnc Tryz.prog 58 nval NGood :=
  ⟨Maps.Keyed.of_law node_law, node_key, fun x y h => by
    obtain ⟨a, b, c⟩ := x
    obtain ⟨a', b', c'⟩ := y
    simp [nval] at h
    obtain ⟨rfl, rfl, rfl⟩ := h
    rfl⟩
def ival (x : Int) : Value := .int .i64 x
theorem int_enc : KEnc Tryz.prog 3 ival I64 :=
  ⟨Maps.int_keyed Tryz.underlying3, fun x h => ⟨_, Maps.keyOf_int_mk Tryz.underlying3 h.wf⟩, fun x y h => by simpa [ival] using h⟩
theorem bool_enc : EEnc (plainElem Tryz.prog 4) (fun x : Bool => .bool x) (fun x => .lit (.bool x)) := eenc_bool Tryz.underlying4
theorem zero_bool (w : World) : (zeroValue 4).run Tryz.prog w = .ok (.bool false) w := by kernel_rfl
end Go.Proofs.YtphmicbpkljmfaaGreat
