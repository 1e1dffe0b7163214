/- Two bytes joined by a shift and 'or'; bytes as a string. -/
import Derived.IntWalk
import Derived.Laws.BitsAllLaws
import Derived.Laws.BytesArg
import Derived.Test.YtagibdofpcbgiaaDoorVCmp
namespace Go.Proofs.YtagibdofpcbgiaaDoor
open Go.RowKit
theorem or_b (a b : Nat) (h1 : a < 256) (h2 : b < 256) : bits BinOp.or IntKind.i64 (((a : Nat) : Int) * 256) ((b : Nat) : Int) = ((256 * a + b : Nat) : Int) := by
  have e : ((a : Int) * 256) = ((a * 256 : Nat) : Int) := by omega
  have hor : a * 256 ||| b = 256 * a + b := by
    rw [← Nat.shiftLeft_eq a 8, ← Nat.shiftLeft_add_eq_or_of_lt (by omega : b < 2 ^ 8), Nat.shiftLeft_eq]; omega
  rw [e]
  show IntKind.i64.wrap (((BitVec.ofInt 64 ((a * 256 : Nat) : Int) ||| BitVec.ofInt 64 (b : Int)).toNat : Nat) : Int) = _
  rw [BitVec.toNat_or, BitVec.ofInt_natCast, BitVec.ofInt_natCast, BitVec.toNat_ofNat, BitVec.toNat_ofNat, Nat.mod_eq_of_lt (by omega), Nat.mod_eq_of_lt (by omega), hor, IntWalk.i64_in _ (by omega)]
theorem str_of (w : World) (g o c : Nat) (xs : List UInt8) (h : ∀ (k : Nat) (x : UInt8), xs[k]? = some x → w.cell? ⟨g, o + k, none⟩ = some (.int .u8 (x.toNat : Int))) :
    (convert 25 9 (.slice (some ⟨g, o, none⟩) xs.length c)).run Tryd.prog w = .ok (.string ⟨xs.toArray⟩) w := by
  have := run_convert_bytes_arg (P := Tryd.prog) w 25 5 Tryd.underlying25 Tryd.underlying5 g o xs.length c (xs.map fun x => ((x.toNat : Nat) : Int)) (by simp) (fun i hi => by
    rw [h i _ (List.getElem?_eq_getElem hi), List.getD_eq_getElem?_getD, List.getElem?_map, List.getElem?_eq_getElem hi]; rfl) 9 Tryd.underlying9
  have e : strOfNums (xs.map fun x => ((x.toNat : Nat) : Int)) = (⟨xs.toArray⟩ : ByteArray) := by
    apply ByteArray.ext
    apply Array.toList_inj.1
    rw [strOfNums_data, List.map_map]
    have : (fun n : Int => UInt8.ofNat n.toNat) ∘ (fun x : UInt8 => ((x.toNat : Nat) : Int)) = id := by funext x; simp
    rw [this, List.map_id]
  rw [this, e]
end Go.Proofs.YtagibdofpcbgiaaDoor
