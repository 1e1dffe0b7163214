/- make of a slice of one-cell elements; no program in sight. -/
import Derived.Test.YtoficnfpoeaccaaDoorOwn
import Derived.Laws.MakeOwn
namespace Go.Proofs.YtoficnfpoeaccaaDoor
set_option linter.unusedVariables false
set_option linter.unusedSimpArgs false
open Go.RowKit
theorem made_one (z : Value) (n : Nat) (h : z.cells = #[z]) : madeCells z.cells (n * 1) = (List.replicate n z).toArray := by
  rw [h]
  apply Array.ext
  · simp [madeCells]
  · intro i h1 h2
    simp [madeCells, Nat.mod_one]
theorem run_make_one {P : Program} (w : World) {t e : TypeId} {i : TypeInfo} {z : Value} (ht : P.underlying t = some (.slice e)) (hi : P.info? e = some i) (hz : i.zero = some z) (h1 : i.size = 1) (hb : i.bytes ≤ 64) (hc : z.cells = #[z]) (n : Nat) (hn : n ≤ 1000000) :
    (Instr.makeSlice t (.int .i64 (n : Int)) (.int .i64 (n : Int))).run P w = .ok (.slice (some ⟨w.heap.size, 0, none⟩) n n) (w.alloc (.cells (List.replicate n z).toArray e)) := by
  have hbb : i.bytes * n ≤ 64 * 1000000 := Nat.mul_le_mul hb hn
  have hb' : (i.bytes : Int) * (n : Int) ≤ 281474976710656 := by
    have h : ((i.bytes * n : Nat) : Int) ≤ 281474976710656 := by omega
    rwa [Int.natCast_mul] at h
  rw [run_makeSlice w t e i z ht hi hz .i64 .i64 n n (by omega) (by omega) (by rw [h1]; simp; omega) hb' (by omega)]
  rw [h1, Int.toNat_natCast, made_one z n hc]
end Go.Proofs.YtoficnfpoeaccaaDoor
