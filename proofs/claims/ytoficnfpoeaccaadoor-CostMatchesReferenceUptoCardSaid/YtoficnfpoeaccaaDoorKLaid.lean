/- The listed variables of cost's rows: what they give the walks, and the world of the witness. -/
import Derived.Test.YtoficnfpoeaccaaDoorKRow
import Derived.Lib.LaidIn
import Derived.Lib.LaidSlice
import Derived.Stop.LaidErr
import Derived.SevenTiedAt
namespace Go.Proofs.YtoficnfpoeaccaaDoor
set_option linter.unusedVariables false
set_option linter.unusedSimpArgs false
open Go.ChangeShapes Go.WideShapes Go.ChangeAt Go.RowKit Go.Deep Go.Joins
theorem own : ownKnob Tryd.prog.godebug = none := by kernel_rfl
theorem laidOut : laidOutB Tryd.prog = true := by kernel_rfl
def laidList : List (String × DataW Unit) := [("math/bits.deBruijn32tab", Rows.laid_math_bits_deBruijn32tab), ("math/bits.deBruijn64tab", Rows.laid_math_bits_deBruijn64tab), ("internal/strconv.uint64pow10", Rows.laid_internal_strconv_uint64pow10), ("unicode/utf8.acceptRanges", Rows.laid_unicode_utf8_acceptRanges), ("strconv.isGraphic", Rows.laid_strconv_isGraphic), ("strconv.isNotPrint16", Rows.laid_strconv_isNotPrint16), ("strconv.isNotPrint32", Rows.laid_strconv_isNotPrint32), ("strconv.isPrint16", Rows.laid_strconv_isPrint16), ("strconv.isPrint32", Rows.laid_strconv_isPrint32), ("unicode/utf8.first", Rows.laid_unicode_utf8_first)]
theorem d_pow : (Rows.laid_internal_strconv_uint64pow10 : DataW Unit) = Lib.tabData .u64 Lib.pow10Tab := by kernel_rfl
theorem d_acc : (Rows.laid_unicode_utf8_acceptRanges : DataW Unit) = Lib.acceptData := by kernel_rfl
theorem d_first : Rows.laid_unicode_utf8_first = Lib.firstData := by kernel_rfl
theorem d_p16 : Rows.laid_strconv_isPrint16 = Lib.sliceData .u16 Lib.goPrintTabs.p16 := by kernel_rfl
theorem d_n16 : Rows.laid_strconv_isNotPrint16 = Lib.sliceData .u16 Lib.goPrintTabs.n16 := by kernel_rfl
theorem d_p32 : Rows.laid_strconv_isPrint32 = Lib.sliceData .u32 Lib.goPrintTabs.p32 := by kernel_rfl
theorem d_n32 : Rows.laid_strconv_isNotPrint32 = Lib.sliceData .u16 Lib.goPrintTabs.n32 := by kernel_rfl
theorem d_gr : Rows.laid_strconv_isGraphic = Lib.sliceData .u16 Go.Pinned.isGraphicZ := by kernel_rfl
/-- The row's list gives what the walks ask of the package's variables. -/
theorem laid_of {W : World} (h : laidMet Tryd.prog laidList W) : Tabs W := by
  unfold laidList at h
  rw [d_pow, d_acc, d_first, d_p16, d_n16, d_p32, d_n32] at h
  refine ⟨?_, ?_, ?_⟩
  · exact Lib.tabIs_of_head (g := 1) (t := 151) (e := 141) (n := 20) (by kernel_rfl) (by kernel_rfl) Tryd.underlying151 Tryd.underlying141 (by kernel_rfl) (by kernel_rfl) h.tail.tail
  · exact printTabs_of_reads (ρ := Tryd.lays177_ren) { Tryd.lays177 with } ⟨by kernel_rfl, by kernel_rfl, by kernel_rfl, by kernel_rfl, by kernel_rfl, by kernel_rfl, by kernel_rfl, by kernel_rfl, by kernel_rfl, by kernel_rfl⟩
      (Lib.laidMet.reads h (.tail _ (.tail _ (.tail _ (.tail _ (.tail _ (.tail _ (.tail _ (.head _)))))))))
      (Lib.laidMet.reads h (.tail _ (.tail _ (.tail _ (.tail _ (.tail _ (.head _)))))))
      (Lib.laidMet.reads h (.tail _ (.tail _ (.tail _ (.tail _ (.tail _ (.tail _ (.tail _ (.tail _ (.head _))))))))))
      (Lib.laidMet.reads h (.tail _ (.tail _ (.tail _ (.tail _ (.tail _ (.tail _ (.head _))))))))
  · exact utf8Tabs_of_reads (ρ := Tryd.lays177_ren) { Tryd.lays177 with } ⟨by kernel_rfl, by kernel_rfl, by kernel_rfl, by kernel_rfl, by kernel_rfl, by kernel_rfl, by kernel_rfl⟩
      (Lib.laidMet.reads h (.tail _ (.tail _ (.tail _ (.tail _ (.tail _ (.tail _ (.tail _ (.tail _ (.tail _ (.head _)))))))))))
      (Lib.laidMet.reads h (.tail _ (.tail _ (.tail _ (.head _)))))
/-! ### The world of the witness -/
/-- A listed table as cells. -/
def flat1 : DataW Unit → List Value
  | .lit (.int k z) => [.int k z]
  | .lit (.string s) => [.string ⟨s.toArray⟩]
  | _ => []
def flat : DataW Unit → Array Value
  | .agg xs => (xs.flatMap flat1).toArray
  | _ => #[]
noncomputable abbrev NB : Nat := (World.settled Tryd.prog default).heap.size
def put (h : Array Obj) (g : Nat) (cs : Array Value) : Array Obj := h.modify g fun | .cells _ t fr => .cells cs t fr | o => o
noncomputable def laidWorld (os : Os) : World :=
  let N := (World.settled Tryd.prog os).heap.size
  let T := Lib.goPrintTabs
  let G := Go.Pinned.isGraphicZ
  let w0 := World.holding Tryd.prog os ⟨#[.cells (Lib.intCellsOf .u16 G) 162, .cells (Lib.intCellsOf .u16 T.n16) 162, .cells (Lib.intCellsOf .u16 T.n32) 162, .cells (Lib.intCellsOf .u16 T.p16) 162, .cells (Lib.intCellsOf .u32 T.p32) 152], #[], []⟩
  let h0 := put (put (put w0.heap 9 (flat Rows.laid_math_bits_deBruijn32tab)) 10 (flat Rows.laid_math_bits_deBruijn64tab)) 1 (flat Rows.laid_internal_strconv_uint64pow10)
  let h1 := put h0 2 (Lib.firstTab.map fun z => Value.int .u8 z).toArray
  let h2 := put h1 3 ((List.range 16).flatMap fun i => [Value.int .u8 (Lib.accLo i), Value.int .u8 (Lib.accHi i)]).toArray
  let h3 := put h2 8 #[.slice (some ⟨N, 0, none⟩) G.length G.length]
  let h4 := put h3 5 #[.slice (some ⟨N + 1, 0, none⟩) T.n16.length T.n16.length]
  let h5 := put h4 7 #[.slice (some ⟨N + 2, 0, none⟩) T.n32.length T.n32.length]
  let h6 := put h5 4 #[.slice (some ⟨N + 3, 0, none⟩) T.p16.length T.p16.length]
  let h7 := put h6 6 #[.slice (some ⟨N + 4, 0, none⟩) T.p32.length T.p32.length]
  { w0 with heap := h7 }
section
variable (os : Os) (args : Array Value)
noncomputable abbrev mem0 : World := ((laidWorld os).forCall (fun _ _ => 0) ⟨#[], args, []⟩).memory
theorem piece0 : LaidIn Tryd.prog (mem0 os args) (laidList.take 4) [9, 10, 1, 3] :=
  LaidIn.of_run _ 8 (by kernel_rfl) (by kernel_rfl) (by kernel_rfl) (by kernel_rfl)
theorem piece6 : LaidIn Tryd.prog (mem0 os args) [("unicode/utf8.first", Rows.laid_unicode_utf8_first)] [2] :=
  LaidIn.of_run _ 8 (by kernel_rfl) (by kernel_rfl) (by kernel_rfl) (by kernel_rfl)
set_option maxRecDepth 1000000 in
theorem piece1 : LaidIn Tryd.prog (mem0 os args) [("strconv.isGraphic", Rows.laid_strconv_isGraphic)] [8, NB] := by
  rw [d_gr]
  exact Lib.laidIn_slice (t := 163) (e := 162) (te := 162) Go.Pinned.isGraphicZ NB (by kernel_rfl) (by kernel_rfl) (by kernel_rfl) (by kernel_rfl) (by kernel_rfl) (by kernel_rfl) (by kernel_rfl) (by kernel_rfl) (of_decide_eq_true (by kernel_rfl)) (of_decide_eq_true (by kernel_rfl))
set_option maxRecDepth 1000000 in
theorem piece2 : LaidIn Tryd.prog (mem0 os args) [("strconv.isNotPrint16", Rows.laid_strconv_isNotPrint16)] [5, NB + 1] := by
  rw [d_n16]
  exact Lib.laidIn_slice (t := 163) (e := 162) (te := 162) Lib.goPrintTabs.n16 (NB + 1) (by kernel_rfl) (by kernel_rfl) (by kernel_rfl) (by kernel_rfl) (by kernel_rfl) (by kernel_rfl) (by kernel_rfl) (by kernel_rfl) (of_decide_eq_true (by kernel_rfl)) (of_decide_eq_true (by kernel_rfl))
set_option maxRecDepth 1000000 in
theorem piece3 : LaidIn Tryd.prog (mem0 os args) [("strconv.isNotPrint32", Rows.laid_strconv_isNotPrint32)] [7, NB + 2] := by
  rw [d_n32]
  exact Lib.laidIn_slice (t := 163) (e := 162) (te := 162) Lib.goPrintTabs.n32 (NB + 2) (by kernel_rfl) (by kernel_rfl) (by kernel_rfl) (by kernel_rfl) (by kernel_rfl) (by kernel_rfl) (by kernel_rfl) (by kernel_rfl) (of_decide_eq_true (by kernel_rfl)) (of_decide_eq_true (by kernel_rfl))
set_option maxRecDepth 1000000 in
theorem piece4 : LaidIn Tryd.prog (mem0 os args) [("strconv.isPrint16", Rows.laid_strconv_isPrint16)] [4, NB + 3] := by
  rw [d_p16]
  exact Lib.laidIn_slice (t := 163) (e := 162) (te := 162) Lib.goPrintTabs.p16 (NB + 3) (by kernel_rfl) (by kernel_rfl) (by kernel_rfl) (by kernel_rfl) (by kernel_rfl) (by kernel_rfl) (by kernel_rfl) (by kernel_rfl) (of_decide_eq_true (by kernel_rfl)) (of_decide_eq_true (by kernel_rfl))
set_option maxRecDepth 1000000 in
theorem piece5 : LaidIn Tryd.prog (mem0 os args) [("strconv.isPrint32", Rows.laid_strconv_isPrint32)] [6, NB + 4] := by
  rw [d_p32]
  exact Lib.laidIn_slice (t := 166) (e := 152) (te := 152) Lib.goPrintTabs.p32 (NB + 4) (by kernel_rfl) (by kernel_rfl) (by kernel_rfl) (by kernel_rfl) (by kernel_rfl) (by kernel_rfl) (by kernel_rfl) (by kernel_rfl) (of_decide_eq_true (by kernel_rfl)) (of_decide_eq_true (by kernel_rfl))
theorem laid_met : laidMet Tryd.prog laidList (mem0 os args) :=
  ((((((piece0 os args).append (piece1 os args) (by kernel_rfl)).append (piece2 os args) (by kernel_rfl)).append (piece3 os args) (by kernel_rfl)).append (piece4 os args) (by kernel_rfl)).append (piece5 os args) (by kernel_rfl) |>.append (piece6 os args) (by kernel_rfl)).met
end
end Go.Proofs.YtoficnfpoeaccaaDoor
