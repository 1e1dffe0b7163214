/- The listed variables of the parser's rows: what they give the walks, and the world of the witness. -/
import Derived.Test.YtpcmlkpnjimbiaaDoorRow
import Derived.Test.YtpcmlkpnjimbiaaDoorPHeadW
import Derived.Lib.LaidU8
import Derived.Lay
import Derived.StringKeys
import Derived.Deep.Slices
import Derived.SevenTiedAt
namespace Go.Proofs.YtpcmlkpnjimbiaaDoor
set_option linter.unusedVariables false
set_option linter.unusedSimpArgs false
open Go.ChangeShapes Go.WideShapes Go.ChangeAt Go.RowKit Go.Deep
theorem laidOutP : laidOutB Tryd.prog = true := by kernel_rfl
theorem le_trans_max {n : Nat} (h : n ≤ maxLen) : n ≤ 9223372036854775807 := by
 have e : maxLen ≤ 9223372036854775807 := by decide
 exact Nat.le_trans h e
def laidList : List (String × DataW Unit) := [("unicode/utf8.acceptRanges", Rows.laid_unicode_utf8_acceptRanges), ("porism/lexer.symbols", Rows.laid_porism_lexer_symbols), ("porism/parser.keys", Rows.laid_porism_parser_keys), ("porism/parser.starts", Rows.laid_porism_parser_starts), ("porism/parser.operators", Rows.laid_porism_parser_operators), ("unicode/utf8.first", Rows.laid_unicode_utf8_first)]
theorem d_keys : (Rows.laid_porism_parser_keys : DataW Unit) = .slice (Px.keys.map fun s => .lit (.string s)) [] := by kernel_rfl
theorem d_starts : (Rows.laid_porism_parser_starts : DataW Unit) = .slice (Px.starts.map fun s => .lit (.string s)) [] := by kernel_rfl
theorem d_syms : (Rows.laid_porism_lexer_symbols : DataW Unit) = .agg (Lx.symbols.map fun z => .lit (.string z)) := by kernel_rfl
theorem syms_reads {W : World} (h : Lib.VarReads Tryd.prog W "porism/lexer.symbols" Rows.laid_porism_lexer_symbols) : Syms W := by
 obtain ⟨g', t', cs, fuel, p, hg', ht', hvar, hd⟩ := h
 obtain rfl := Option.some.inj (gSym.symm.trans hg')
 obtain rfl := Option.some.inj (gSymType.symm.trans ht')
 rw [d_syms] at hd
 have hcs := cells_of_strs Tryd.underlying124 Tryd.underlying9 cellsStr cellsSym hd
 have hcs2 : cs = symA := by
  unfold symA
  rw [← hcs]
 subst hcs2
 unfold World.var? at hvar
 rw [gSym] at hvar
 simp only [Option.bind_some] at hvar
 unfold Syms
 split at hvar
 ·rename_i c t fr hh
  exact ⟨t, fr, by rw [hh, Option.some.inj hvar]⟩
 ·cases hvar
/-- A variable's first cell. -/
theorem var_cell {P : Program} {w : World} {n : String} {g : Nat} {v : Value} (hg : P.globalNamed n = some g) (hv : w.var? P n = some #[v]) : w.cell? ⟨g, 0, none⟩ = some v := by
 unfold World.var? at hv
 rw [hg] at hv
 simp only [Option.bind_some] at hv
 split at hv
 ·rename_i c t fr hh
  have e := Option.some.inj hv
  simp [World.cell?, hh, e]
 ·cases hv
theorem strVar_reads {W : World} {n : String} {g : Nat} {L : List (List UInt8)} (hg : Tryd.prog.globalNamed n = some g) (ht : (Tryd.prog.globals[g]?).map (·.type) = some 74) (h0 : 0 < L.length)
  (h : Lib.VarReads Tryd.prog W n (.slice (L.map fun s => .lit (.string s)) [])) : StrVar W.heap.size W g L.length L := by
 obtain ⟨g', t', cs, fuel, p, hg', ht', hvar, hd⟩ := h
 obtain rfl := Option.some.inj (hg.symm.trans hg')
 obtain rfl := Option.some.inj (ht.symm.trans ht')
 rcases DataW.trod_slice Tryd.underlying74 hd with ⟨_, h1⟩ | ⟨a, len, cap, elems, rest, m, _, hcs, hx, _, _, _, hlen, hel, _⟩
 ·injection h1 with h1 _
  cases h1
 ·injection hx with hx _
  injection hx with hx hx2
  have hL : elems.length = L.length := by
   have := congrArg List.length hx
   simpa using this.symm
  obtain rfl : L.length = len := by omega
  have hcs' : cs = #[.slice (some a) L.length cap] := by rw [← Array.toList_inj]; simpa using hcs
  subst hcs'
  have hv := var_cell hg hvar
  have key : ∀ j (hj : j < L.length), W.cell? (a.add j) = some (.string (bs L[j])) := fun j hj => by
   have he := hel j hj
   rw [List.getElem?_eq_getElem (by omega)] at he
   obtain ⟨cs2, hc2, ht2⟩ := Option.bind_eq_some_iff.1 he
   obtain ⟨s, rfl, hy, _⟩ := DataW.trod_string Tryd.underlying9 ht2
   have hz : (DataW.lit (.string L[j]) : DataW Unit) = elems[j].1 := by
    have := congrArg (·[j]?) hx
    simp only [List.getElem?_map, List.getElem?_eq_getElem hj, List.getElem?_eq_getElem (show j < elems.length by omega), Option.map_some] at this
    exact Option.some.inj this
   rw [hy] at hz
   simp only [DataW.lit.injEq, Lit.string.injEq] at hz
   rw [show Tryd.prog.cellsOf 9 = 1 from cellsStr, Nat.mul_one] at hc2
   obtain ⟨_, hcl, hat⟩ := World.cells?_some hc2
   have := hat 0 (by decide)
   rw [add_add, Nat.add_zero] at this
   rw [this]
   simp only [List.getElem?_cons_zero, Option.some.injEq, Value.string.injEq]
   unfold bs
   rw [hz]
  have k0 := key 0 h0
  obtain ⟨b, o, sp⟩ := a
  have hsp : sp = none := by
   have := spot_none k0
   simpa [Addr.add] using this
  subst hsp
  refine ⟨(cell_lt hv), b, o, cap, hv, ?_, fun j hj => ?_⟩
  ·have := cell_lt k0
   simpa [Addr.add] using this
  ·have := key j hj
   rw [add_at] at this
   rw [this]
   simp only [List.getD_eq_getElem?_getD, List.getElem?_map, List.getElem?_eq_getElem hj, Option.map_some, Option.getD_some]
theorem atKey_cons {k k' : List UInt8} {d z : DataW Unit} {es : List (Lit × DataW Unit)} : (DataW.map ((.string k', d) :: es)).atKey (.string k) z = if k' = k then d else (DataW.map es).atKey (.string k) z := by
 unfold DataW.atKey
 dsimp only
 rw [List.find?_cons]
 by_cases h : k' = k
 ·rw [if_pos h, show Lit.sameKey (.string k') (.string k) = true by subst h; exact beq_self_eq_true k']
 ·rw [if_neg h, show Lit.sameKey (.string k') (.string k) = false by exact beq_eq_false_iff_ne.2 h]
theorem atKey_nil {k : Lit} {z : DataW Unit} : (DataW.map []).atKey k z = z := rfl
theorem opData_at (s : List UInt8) (z : DataW Unit) : (Rows.laid_porism_parser_operators : DataW Unit).atKey (.string s) z = ((opF ⟨s.toArray⟩).map idat).getD z := by
 by_cases h1 : s = [61]
 ·subst h1; rfl
 ·by_cases h2 : s = [33, 61]
  ·subst h2; rfl
  ·by_cases h3 : s = [60]
   ·subst h3; rfl
   ·by_cases h4 : s = [60, 61]
    ·subst h4; rfl
    ·have hn : opF ⟨s.toArray⟩ = none := by
      unfold opF Px.opOf
      simp [h1, h2, h3, h4]
     rw [hn]
     unfold Rows.laid_porism_parser_operators
     rw [atKey_cons, if_neg (Ne.symm h2), atKey_cons, if_neg (Ne.symm h3), atKey_cons, if_neg (Ne.symm h4), atKey_cons, if_neg (Ne.symm h1), atKey_nil]
     rfl
theorem ops_reads {W : World} (h : Lib.VarReads Tryd.prog W "porism/parser.operators" Rows.laid_porism_parser_operators) : ∃ b n, W.cell? ⟨2, 0, none⟩ = some (.map (some b)) ∧ b < W.heap.size ∧ FMap W Tryd.prog 9 (plainElem Tryd.prog 3) Value.string idat b n opF := by
 obtain ⟨g', t', cs, fuel, p, hg', ht', hvar, hd⟩ := h
 have hg : Tryd.prog.globalNamed "porism/parser.operators" = some 2 := by kernel_rfl
 have ht : (Tryd.prog.globals[2]?).map (·.type) = some 130 := by kernel_rfl
 obtain rfl := Option.some.inj (hg.symm.trans hg')
 obtain rfl := Option.some.inj (ht.symm.trans ht')
 rcases Go.WideElems.open_map Tryd.underlying130 hd with ⟨_, h1⟩ | ⟨b, es, clock, n, _, hcs, hb, _, F, hx⟩
 ·injection h1 with h1 _
  cases h1
 ·have hcs' : cs = #[.map (some b)] := by rw [← Array.toList_inj]; simpa using hcs
  subst hcs'
  have hv := var_cell hg hvar
  have hown := World.ownsMap_of_fit (R := plainElem Tryd.prog 3) hb F (fun x _ z hz => elemAt_plainElem_int Tryd.underlying3 hz)
  injection hx with hx _
  rw [← hx] at hown
  refine ⟨b, es.size, hv, (Array.getElem?_eq_some_iff.1 hb).1, _, hown, fun x l hl z => ?_⟩
  have hk : l = .string x.data.toList := by
   obtain ⟨s', h1, h2, _⟩ := Go.WideMaps.string_of_keyOf Tryd.underlying9 hl
   have h3 : x = s' := Value.string.inj h1
   rw [h3]
   exact h2
  rw [hk]
  exact opData_at _ z
/-- The row's list gives what the walks ask of the packages' variables. -/
theorem env_of {W : World} (h : laidMet Tryd.prog laidList W) : Env W := by
 unfold laidList at h
 refine ⟨syms_reads (Lib.laidMet.reads h (.tail _ (.head _))), W.heap.size, Nat.le_refl _, ?_, ?_, ?_⟩
 ·exact strVar_reads (L := Px.keys) (by kernel_rfl) (by kernel_rfl) (by decide) (by rw [← d_keys]; exact Lib.laidMet.reads h (.tail _ (.tail _ (.head _))))
 ·exact strVar_reads (L := Px.starts) (by kernel_rfl) (by kernel_rfl) (by decide) (by rw [← d_starts]; exact Lib.laidMet.reads h (.tail _ (.tail _ (.tail _ (.head _)))))
 ·have ho := ops_reads (Lib.laidMet.reads h (.tail _ (.tail _ (.tail _ (.tail _ (.head _))))))
  exact ⟨by obtain ⟨b, n, hc, _⟩ := ho; exact cell_lt hc, ho⟩
/-! ### The world of the witness -/
def flat1P : DataW Unit → List Value
 | .lit (.int k z) => [.int k z]
 | .lit (.string s) => [.string ⟨s.toArray⟩]
 | .agg xs => xs.map fun | .lit (.int k z) => .int k z | _ => undef
 | _ => []
def flatP : DataW Unit → Array Value
 | .agg xs => (xs.flatMap flat1P).toArray
 | _ => #[]
def putP (h : Array Obj) (g : Nat) (cs : Array Value) : Array Obj := h.modify g fun | .cells _ t fr => .cells cs t fr | o => o
noncomputable def laidWorldP (os : Os) : World :=
 let N := (World.settled Tryd.prog os).heap.size
 let w0 := World.holding Tryd.prog os ⟨#[.cells (Px.keys.map fun s => Value.string ⟨s.toArray⟩).toArray 9, .cells (Px.starts.map fun s => Value.string ⟨s.toArray⟩).toArray 9, .map #[⟨.string ⟨#[33, 61]⟩, .int .i64 2, 0⟩, ⟨.string ⟨#[60]⟩, .int .i64 3, 1⟩, ⟨.string ⟨#[60, 61]⟩, .int .i64 4, 2⟩, ⟨.string ⟨#[61]⟩, .int .i64 1, 3⟩] 4], #[], []⟩
 let h0 := putP (putP (putP w0.heap 1 (flatP Rows.laid_porism_lexer_symbols)) 5 (flatP Rows.laid_unicode_utf8_first)) 6 (flatP Rows.laid_unicode_utf8_acceptRanges)
 let h1 := putP h0 3 #[.slice (some ⟨N, 0, none⟩) 10 10]
 let h2 := putP h1 0 #[.slice (some ⟨N + 1, 0, none⟩) 5 5]
 { w0 with heap := putP h2 2 #[.map (some (N + 2))] }
theorem laid_metP (os : Os) (args : Array Value) : laidMet Tryd.prog laidList ((laidWorldP os).forCall (fun _ _ => 0) ⟨#[], args, []⟩).memory :=
 laidMet_of_run' 8 (by kernel_rfl) (by kernel_rfl)
end Go.Proofs.YtpcmlkpnjimbiaaDoor
