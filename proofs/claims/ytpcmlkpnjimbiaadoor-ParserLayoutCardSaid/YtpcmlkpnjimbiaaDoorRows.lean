/-
  NARROWER THAN 'FOR EVERY INPUT', by the rows' own cells (each row's printed sentence says how): ParserLayout: laid · ParserConcat: laid · ParserRecovery: laid · ParserFirst: laid · ParserQueries: laid.
  DERIVED. THE GIVEN ROWS OF THIS SEAT. 5 by the template 'for every input the law returns true; each argument reads behind the call as it read before'; 0 by the template 'total and deterministic' (their statements: YtpcmlkpnjimbiaaDoorTotals.lean).
  GIVEN WITH THE SEED: the statements are not yours to turn. If you find one false, say at which input.
  Laid BY PROGRAM, IN A SANDBOX (cutbox-rows.mjs): the forced cells as the released guide's own fill.sh prints them over the translation e5f18d6ae571cdfb… (all of the seat's roots in one cut). By AI agents, Wed Nov 11 2026. No macro, syntax, notation, axiom, sorry.
-/
import Derived.Test.YtpcmlkpnjimbiaaDoorChecked
import GoSem.PinnedTables
import GoSem.Claim
import GoSem.ClaimJoined
import GoSem.ClaimMapViews
import Derived.JoinedTies
import Derived.KernelRfl
namespace Go.Proofs.YtpcmlkpnjimbiaaDoor
/- THE CELL 'sum', in the pinned program and in every row, IS THE sha256 OF THE DUMP (.gsa) THAT YtpcmlkpnjimbiaaDoorProg.lean LOADS. Nothing in Lean hashes anything: it is a label: what it is worth is what the hold of that sum in a sandbox is worth. -/
noncomputable def Tryd.pinned : Pinned := { name := "ytpcmlkpnjimbiaadoor", sum := "e5f18d6ae571cdfb2ed3427100226045e3676fcc067f62007121533b6aa0dc8a", checked := Tryd.checked }
namespace Rows
def none {H : Type} : Left H := { results := [], args := [] }

/- WHAT THE LISTED PACKAGE-LEVEL VARIABLES READ AS WHEN THE CALL BEGINS. Each datum BY PROGRAM (the guide's laid-datum.mjs) off the statement by which the dump's own 'gosem.cut.vars' lays the variable. In a bare row this is a premise. The card (YtpcmlkpnjimbiaaDoorCards.lean) ties it to the program's text. -/
def laid_unicode_utf8_acceptRanges {H : Type} : DataW H := .agg [.agg [.lit (.int .u8 128), .lit (.int .u8 191)], .agg [.lit (.int .u8 160), .lit (.int .u8 191)], .agg [.lit (.int .u8 128), .lit (.int .u8 159)], .agg [.lit (.int .u8 144), .lit (.int .u8 191)], .agg [.lit (.int .u8 128), .lit (.int .u8 143)], .agg [.lit (.int .u8 0), .lit (.int .u8 0)], .agg [.lit (.int .u8 0), .lit (.int .u8 0)], .agg [.lit (.int .u8 0), .lit (.int .u8 0)], .agg [.lit (.int .u8 0), .lit (.int .u8 0)], .agg [.lit (.int .u8 0), .lit (.int .u8 0)], .agg [.lit (.int .u8 0), .lit (.int .u8 0)], .agg [.lit (.int .u8 0), .lit (.int .u8 0)], .agg [.lit (.int .u8 0), .lit (.int .u8 0)], .agg [.lit (.int .u8 0), .lit (.int .u8 0)], .agg [.lit (.int .u8 0), .lit (.int .u8 0)], .agg [.lit (.int .u8 0), .lit (.int .u8 0)]]
def laid_porism_lexer_symbols {H : Type} : DataW H := .agg [.lit (.string [58, 45]), .lit (.string [45, 62]), .lit (.string [60, 61]), .lit (.string [62, 61]), .lit (.string [33, 61]), .lit (.string [40]), .lit (.string [41]), .lit (.string [123]), .lit (.string [125]), .lit (.string [44]), .lit (.string [59]), .lit (.string [46]), .lit (.string [58]), .lit (.string [60]), .lit (.string [61])]
def laid_porism_parser_keys {H : Type} : DataW H := .slice [.lit (.string [108, 97, 116, 116, 105, 99, 101]), .lit (.string [102, 117, 110, 99, 116, 105, 111, 110]), .lit (.string [111, 110]), .lit (.string [98, 97, 115, 101]), .lit (.string [118, 105, 101, 119]), .lit (.string [107, 101, 121]), .lit (.string [100, 101, 110, 121]), .lit (.string [110, 111, 116]), .lit (.string [105, 110, 116]), .lit (.string [115, 121, 109])] []
def laid_porism_parser_starts {H : Type} : DataW H := .slice [.lit (.string [108, 97, 116, 116, 105, 99, 101]), .lit (.string [102, 117, 110, 99, 116, 105, 111, 110]), .lit (.string [98, 97, 115, 101]), .lit (.string [118, 105, 101, 119]), .lit (.string [100, 101, 110, 121])] []
def laid_porism_parser_operators {H : Type} : DataW H := .map [(.string [33, 61], .lit (.int .i64 2)), (.string [60], .lit (.int .i64 3)), (.string [60, 61], .lit (.int .i64 4)), (.string [61], .lit (.int .i64 1))]
/-- One of Go's own tables, pinned by name: the form's constant. -/
def laid_unicode_utf8_first : DataW Unit := Go.Pinned.utf8First

/-- 'porismlaw05.ParserLayout': WHATEVER THE INPUT: true; the input reads as it did. -/
def parserLayoutSpec : ChangeSpec := { name := "parserLayout", fn := fun _ => fun
  | [d1, d2] => { results := [.lit (.bool true)], args := [d1, d2] }
  | _ => none }
def parserLayoutRow : OpenClaim := { program := "ytpcmlkpnjimbiaadoor", sum := "e5f18d6ae571cdfb2ed3427100226045e3676fcc067f62007121533b6aa0dc8a", func := "porism/porismlaw05.ParserLayout", spec := "parserLayout", inPlace := ["internal/bytealg.IndexByteString", "internal/bytealg.IndexString"], unfollowed := true, recurses := true, named := ["porism/lexer.symbols", "unicode/utf8.first", "unicode/utf8.acceptRanges", "porism/parser.keys", "porism/parser.operators", "porism/parser.starts", "internal/bytealg.MaxLen"], apart := false, laid := [("unicode/utf8.acceptRanges", laid_unicode_utf8_acceptRanges), ("porism/lexer.symbols", laid_porism_lexer_symbols), ("porism/parser.keys", laid_porism_parser_keys), ("porism/parser.starts", laid_porism_parser_starts), ("porism/parser.operators", laid_porism_parser_operators), ("unicode/utf8.first", laid_unicode_utf8_first)] }
def ParserLayoutSaid : Prop := parserLayoutRow.holds Tryd.pinned (OpenSpec.ofChange parserLayoutSpec)

/-- ITS FALSE NEIGHBOUR: 'it returns false'. Refute it at one input. -/
def parserLayoutWrong : ChangeSpec := { name := "parserLayout", fn := fun _ => fun
  | [d1, d2] => { results := [.lit (.bool false)], args := [d1, d2] }
  | _ => none }
def ParserLayoutWrongFalsely : Prop := parserLayoutRow.holds Tryd.pinned (OpenSpec.ofChange parserLayoutWrong)

/-- 'porismlaw05.ParserConcat': WHATEVER THE INPUT: true; the input reads as it did. -/
def parserConcatSpec : ChangeSpec := { name := "parserConcat", fn := fun _ => fun
  | [d1, d2] => { results := [.lit (.bool true)], args := [d1, d2] }
  | _ => none }
def parserConcatRow : OpenClaim := { program := "ytpcmlkpnjimbiaadoor", sum := "e5f18d6ae571cdfb2ed3427100226045e3676fcc067f62007121533b6aa0dc8a", func := "porism/porismlaw05.ParserConcat", spec := "parserConcat", inPlace := ["internal/bytealg.IndexByteString", "internal/bytealg.IndexString"], unfollowed := true, recurses := true, named := ["porism/lexer.symbols", "unicode/utf8.first", "unicode/utf8.acceptRanges", "porism/parser.keys", "porism/parser.operators", "porism/parser.starts", "internal/bytealg.MaxLen"], apart := false, laid := [("unicode/utf8.acceptRanges", laid_unicode_utf8_acceptRanges), ("porism/lexer.symbols", laid_porism_lexer_symbols), ("porism/parser.keys", laid_porism_parser_keys), ("porism/parser.starts", laid_porism_parser_starts), ("porism/parser.operators", laid_porism_parser_operators), ("unicode/utf8.first", laid_unicode_utf8_first)] }
def ParserConcatSaid : Prop := parserConcatRow.holds Tryd.pinned (OpenSpec.ofChange parserConcatSpec)

/-- ITS FALSE NEIGHBOUR: 'it returns false'. Refute it at one input. -/
def parserConcatWrong : ChangeSpec := { name := "parserConcat", fn := fun _ => fun
  | [d1, d2] => { results := [.lit (.bool false)], args := [d1, d2] }
  | _ => none }
def ParserConcatWrongFalsely : Prop := parserConcatRow.holds Tryd.pinned (OpenSpec.ofChange parserConcatWrong)

/-- 'porismlaw05.ParserRecovery': WHATEVER THE INPUT: true; the input reads as it did. -/
def parserRecoverySpec : ChangeSpec := { name := "parserRecovery", fn := fun _ => fun
  | [d1, d2] => { results := [.lit (.bool true)], args := [d1, d2] }
  | _ => none }
def parserRecoveryRow : OpenClaim := { program := "ytpcmlkpnjimbiaadoor", sum := "e5f18d6ae571cdfb2ed3427100226045e3676fcc067f62007121533b6aa0dc8a", func := "porism/porismlaw05.ParserRecovery", spec := "parserRecovery", inPlace := ["internal/bytealg.IndexByteString", "internal/bytealg.IndexString"], unfollowed := true, recurses := true, named := ["porism/lexer.symbols", "unicode/utf8.first", "unicode/utf8.acceptRanges", "porism/parser.keys", "porism/parser.operators", "porism/parser.starts", "internal/bytealg.MaxLen"], apart := false, laid := [("unicode/utf8.acceptRanges", laid_unicode_utf8_acceptRanges), ("porism/lexer.symbols", laid_porism_lexer_symbols), ("porism/parser.keys", laid_porism_parser_keys), ("porism/parser.starts", laid_porism_parser_starts), ("porism/parser.operators", laid_porism_parser_operators), ("unicode/utf8.first", laid_unicode_utf8_first)] }
def ParserRecoverySaid : Prop := parserRecoveryRow.holds Tryd.pinned (OpenSpec.ofChange parserRecoverySpec)

/-- ITS FALSE NEIGHBOUR: 'it returns false'. Refute it at one input. -/
def parserRecoveryWrong : ChangeSpec := { name := "parserRecovery", fn := fun _ => fun
  | [d1, d2] => { results := [.lit (.bool false)], args := [d1, d2] }
  | _ => none }
def ParserRecoveryWrongFalsely : Prop := parserRecoveryRow.holds Tryd.pinned (OpenSpec.ofChange parserRecoveryWrong)

/-- 'porismlaw05.ParserFirst': WHATEVER THE INPUT: true; the input reads as it did. -/
def parserFirstSpec : ChangeSpec := { name := "parserFirst", fn := fun _ => fun
  | [d] => { results := [.lit (.bool true)], args := [d] }
  | _ => none }
def parserFirstRow : OpenClaim := { program := "ytpcmlkpnjimbiaadoor", sum := "e5f18d6ae571cdfb2ed3427100226045e3676fcc067f62007121533b6aa0dc8a", func := "porism/porismlaw05.ParserFirst", spec := "parserFirst", inPlace := ["internal/bytealg.IndexByteString", "internal/bytealg.IndexString"], unfollowed := true, recurses := true, named := ["porism/lexer.symbols", "unicode/utf8.first", "unicode/utf8.acceptRanges", "porism/parser.keys", "porism/parser.operators", "porism/parser.starts", "internal/bytealg.MaxLen"], apart := false, laid := [("unicode/utf8.acceptRanges", laid_unicode_utf8_acceptRanges), ("porism/lexer.symbols", laid_porism_lexer_symbols), ("porism/parser.keys", laid_porism_parser_keys), ("porism/parser.starts", laid_porism_parser_starts), ("porism/parser.operators", laid_porism_parser_operators), ("unicode/utf8.first", laid_unicode_utf8_first)] }
def ParserFirstSaid : Prop := parserFirstRow.holds Tryd.pinned (OpenSpec.ofChange parserFirstSpec)

/-- ITS FALSE NEIGHBOUR: 'it returns false'. Refute it at one input. -/
def parserFirstWrong : ChangeSpec := { name := "parserFirst", fn := fun _ => fun
  | [d] => { results := [.lit (.bool false)], args := [d] }
  | _ => none }
def ParserFirstWrongFalsely : Prop := parserFirstRow.holds Tryd.pinned (OpenSpec.ofChange parserFirstWrong)

/-- 'porismlaw05.ParserQueries': WHATEVER THE INPUT: true; the input reads as it did. -/
def parserQueriesSpec : ChangeSpec := { name := "parserQueries", fn := fun _ => fun
  | [d] => { results := [.lit (.bool true)], args := [d] }
  | _ => none }
def parserQueriesRow : OpenClaim := { program := "ytpcmlkpnjimbiaadoor", sum := "e5f18d6ae571cdfb2ed3427100226045e3676fcc067f62007121533b6aa0dc8a", func := "porism/porismlaw05.ParserQueries", spec := "parserQueries", inPlace := ["internal/bytealg.IndexByteString", "internal/bytealg.IndexString"], unfollowed := true, recurses := true, named := ["porism/lexer.symbols", "unicode/utf8.first", "unicode/utf8.acceptRanges", "porism/parser.keys", "porism/parser.operators", "porism/parser.starts", "internal/bytealg.MaxLen"], apart := false, laid := [("unicode/utf8.acceptRanges", laid_unicode_utf8_acceptRanges), ("porism/lexer.symbols", laid_porism_lexer_symbols), ("porism/parser.keys", laid_porism_parser_keys), ("porism/parser.starts", laid_porism_parser_starts), ("porism/parser.operators", laid_porism_parser_operators), ("unicode/utf8.first", laid_unicode_utf8_first)] }
def ParserQueriesSaid : Prop := parserQueriesRow.holds Tryd.pinned (OpenSpec.ofChange parserQueriesSpec)

/-- ITS FALSE NEIGHBOUR: 'it returns false'. Refute it at one input. -/
def parserQueriesWrong : ChangeSpec := { name := "parserQueries", fn := fun _ => fun
  | [d] => { results := [.lit (.bool false)], args := [d] }
  | _ => none }
def ParserQueriesWrongFalsely : Prop := parserQueriesRow.holds Tryd.pinned (OpenSpec.ofChange parserQueriesWrong)

/- THE SECOND FORM. 'bulk': how many values and letters a reading holds, each counted each time it is reached (what is shared counts as often as it is met; a slice's spare places count too). A statement '..UptoSaid' is the law's where the arguments, and the package variables that the reading takes, are together of bulk at most 1048576: NARROWER than '..Said'. Prove '..Said' where nothing that the law and all that it calls make is longer than what came in: it says more and counts as full. Else prove '..UptoSaid'. A law counts once. -/
mutual
def uptoBulk {H : Type} : DataW H → Nat
  | .lit (.string bytes) => bytes.length + 1
  | .lit _ => 1
  | .nil => 1
  | .ptr d => uptoBulk d + 1
  | .slice elems spare => uptoBulkAll elems + uptoBulkAll spare + 1
  | .agg parts => uptoBulkAll parts + 1
  | .iface _ d => uptoBulk d + 1
  | .map entries => uptoBulkEntries entries + 1
  | .held _ => 1
def uptoBulkAll {H : Type} : List (DataW H) → Nat
  | [] => 0
  | d :: r => uptoBulk d + uptoBulkAll r
def uptoBulkEntries {H : Type} : List (Lit × DataW H) → Nat
  | [] => 0
  | x :: r => uptoBulkEntry x + uptoBulkEntries r
def uptoBulkEntry {H : Type} : Lit × DataW H → Nat
  | (.string bytes, d) => bytes.length + uptoBulk d + 1
  | (_, d) => uptoBulk d + 1
 end
def uptoSmall : (H : Type) → List (DataW H) → Bool := fun _ ds => decide (uptoBulkAll ds ≤ 1048576)
def OpenSpec.upto (s : _root_.Go.ChangeSpec) : _root_.Go.OpenSpec := { _root_.Go.OpenSpec.ofChange s with cond := some uptoSmall }

/-- 'porismlaw05.ParserLayout', WHERE WHAT IT READS IS OF BULK AT MOST 1048576: true; the input reads as it did. -/
def parserLayoutUptoRow : OpenClaim := { program := "ytpcmlkpnjimbiaadoor", sum := "e5f18d6ae571cdfb2ed3427100226045e3676fcc067f62007121533b6aa0dc8a", func := "porism/porismlaw05.ParserLayout", spec := "parserLayout", inPlace := ["internal/bytealg.IndexByteString", "internal/bytealg.IndexString"], unfollowed := true, recurses := true, named := ["porism/lexer.symbols", "unicode/utf8.first", "unicode/utf8.acceptRanges", "porism/parser.keys", "porism/parser.operators", "porism/parser.starts", "internal/bytealg.MaxLen"], apart := false, laid := [("unicode/utf8.acceptRanges", laid_unicode_utf8_acceptRanges), ("porism/lexer.symbols", laid_porism_lexer_symbols), ("porism/parser.keys", laid_porism_parser_keys), ("porism/parser.starts", laid_porism_parser_starts), ("porism/parser.operators", laid_porism_parser_operators), ("unicode/utf8.first", laid_unicode_utf8_first)], narrowed := true }
def ParserLayoutUptoSaid : Prop := parserLayoutUptoRow.holds Tryd.pinned (OpenSpec.upto parserLayoutSpec)

/-- 'porismlaw05.ParserConcat', WHERE WHAT IT READS IS OF BULK AT MOST 1048576: true; the input reads as it did. -/
def parserConcatUptoRow : OpenClaim := { program := "ytpcmlkpnjimbiaadoor", sum := "e5f18d6ae571cdfb2ed3427100226045e3676fcc067f62007121533b6aa0dc8a", func := "porism/porismlaw05.ParserConcat", spec := "parserConcat", inPlace := ["internal/bytealg.IndexByteString", "internal/bytealg.IndexString"], unfollowed := true, recurses := true, named := ["porism/lexer.symbols", "unicode/utf8.first", "unicode/utf8.acceptRanges", "porism/parser.keys", "porism/parser.operators", "porism/parser.starts", "internal/bytealg.MaxLen"], apart := false, laid := [("unicode/utf8.acceptRanges", laid_unicode_utf8_acceptRanges), ("porism/lexer.symbols", laid_porism_lexer_symbols), ("porism/parser.keys", laid_porism_parser_keys), ("porism/parser.starts", laid_porism_parser_starts), ("porism/parser.operators", laid_porism_parser_operators), ("unicode/utf8.first", laid_unicode_utf8_first)], narrowed := true }
def ParserConcatUptoSaid : Prop := parserConcatUptoRow.holds Tryd.pinned (OpenSpec.upto parserConcatSpec)

/-- 'porismlaw05.ParserRecovery', WHERE WHAT IT READS IS OF BULK AT MOST 1048576: true; the input reads as it did. -/
def parserRecoveryUptoRow : OpenClaim := { program := "ytpcmlkpnjimbiaadoor", sum := "e5f18d6ae571cdfb2ed3427100226045e3676fcc067f62007121533b6aa0dc8a", func := "porism/porismlaw05.ParserRecovery", spec := "parserRecovery", inPlace := ["internal/bytealg.IndexByteString", "internal/bytealg.IndexString"], unfollowed := true, recurses := true, named := ["porism/lexer.symbols", "unicode/utf8.first", "unicode/utf8.acceptRanges", "porism/parser.keys", "porism/parser.operators", "porism/parser.starts", "internal/bytealg.MaxLen"], apart := false, laid := [("unicode/utf8.acceptRanges", laid_unicode_utf8_acceptRanges), ("porism/lexer.symbols", laid_porism_lexer_symbols), ("porism/parser.keys", laid_porism_parser_keys), ("porism/parser.starts", laid_porism_parser_starts), ("porism/parser.operators", laid_porism_parser_operators), ("unicode/utf8.first", laid_unicode_utf8_first)], narrowed := true }
def ParserRecoveryUptoSaid : Prop := parserRecoveryUptoRow.holds Tryd.pinned (OpenSpec.upto parserRecoverySpec)

/-- 'porismlaw05.ParserFirst', WHERE WHAT IT READS IS OF BULK AT MOST 1048576: true; the input reads as it did. -/
def parserFirstUptoRow : OpenClaim := { program := "ytpcmlkpnjimbiaadoor", sum := "e5f18d6ae571cdfb2ed3427100226045e3676fcc067f62007121533b6aa0dc8a", func := "porism/porismlaw05.ParserFirst", spec := "parserFirst", inPlace := ["internal/bytealg.IndexByteString", "internal/bytealg.IndexString"], unfollowed := true, recurses := true, named := ["porism/lexer.symbols", "unicode/utf8.first", "unicode/utf8.acceptRanges", "porism/parser.keys", "porism/parser.operators", "porism/parser.starts", "internal/bytealg.MaxLen"], apart := false, laid := [("unicode/utf8.acceptRanges", laid_unicode_utf8_acceptRanges), ("porism/lexer.symbols", laid_porism_lexer_symbols), ("porism/parser.keys", laid_porism_parser_keys), ("porism/parser.starts", laid_porism_parser_starts), ("porism/parser.operators", laid_porism_parser_operators), ("unicode/utf8.first", laid_unicode_utf8_first)], narrowed := true }
def ParserFirstUptoSaid : Prop := parserFirstUptoRow.holds Tryd.pinned (OpenSpec.upto parserFirstSpec)

/-- 'porismlaw05.ParserQueries', WHERE WHAT IT READS IS OF BULK AT MOST 1048576: true; the input reads as it did. -/
def parserQueriesUptoRow : OpenClaim := { program := "ytpcmlkpnjimbiaadoor", sum := "e5f18d6ae571cdfb2ed3427100226045e3676fcc067f62007121533b6aa0dc8a", func := "porism/porismlaw05.ParserQueries", spec := "parserQueries", inPlace := ["internal/bytealg.IndexByteString", "internal/bytealg.IndexString"], unfollowed := true, recurses := true, named := ["porism/lexer.symbols", "unicode/utf8.first", "unicode/utf8.acceptRanges", "porism/parser.keys", "porism/parser.operators", "porism/parser.starts", "internal/bytealg.MaxLen"], apart := false, laid := [("unicode/utf8.acceptRanges", laid_unicode_utf8_acceptRanges), ("porism/lexer.symbols", laid_porism_lexer_symbols), ("porism/parser.keys", laid_porism_parser_keys), ("porism/parser.starts", laid_porism_parser_starts), ("porism/parser.operators", laid_porism_parser_operators), ("unicode/utf8.first", laid_unicode_utf8_first)], narrowed := true }
def ParserQueriesUptoSaid : Prop := parserQueriesUptoRow.holds Tryd.pinned (OpenSpec.upto parserQueriesSpec)

end Rows
end Go.Proofs.YtpcmlkpnjimbiaaDoor
