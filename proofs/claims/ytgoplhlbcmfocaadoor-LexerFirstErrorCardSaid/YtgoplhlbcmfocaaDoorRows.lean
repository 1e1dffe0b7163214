/-
  NARROWER THAN 'FOR EVERY INPUT', by the rows' own cells (each row's printed sentence says how): LexerMatchesReference: laid · LexerCover: laid · LexerLayout: laid · LexerLongest: laid · LexerConcat: laid · LexerFirstError: laid · LexerPrefixes: laid.
  DERIVED. THE GIVEN ROWS OF THIS SEAT. 7 by the template 'for every input the law returns true; each argument reads behind the call as it read before'; 0 by the template 'total and deterministic' (their statements: YtgoplhlbcmfocaaDoorTotals.lean).
  GIVEN WITH THE SEED: the statements are not yours to turn. If you find one false, say at which input.
  Laid BY PROGRAM, IN A SANDBOX (cutbox-rows.mjs): the forced cells as the released guide's own fill.sh prints them over the translation 185f6eb1221866b8… (all of the seat's roots in one cut). By AI agents, Wed Nov 11 2026. No macro, syntax, notation, axiom, sorry.
-/
import Derived.Test.YtgoplhlbcmfocaaDoorChecked
import GoSem.PinnedTables
import GoSem.Claim
import GoSem.ClaimJoined
import GoSem.ClaimMapViews
import Derived.JoinedTies
import Derived.KernelRfl
namespace Go.Proofs.YtgoplhlbcmfocaaDoor
/- THE CELL 'sum', in the pinned program and in every row, IS THE sha256 OF THE DUMP (.gsa) THAT YtgoplhlbcmfocaaDoorProg.lean LOADS. Nothing in Lean hashes anything: it is a label: what it is worth is what the hold of that sum in a sandbox is worth. -/
noncomputable def Tryd.pinned : Pinned := { name := "ytgoplhlbcmfocaadoor", sum := "185f6eb1221866b8398634876ab307d7ac264e8b3c221e07e9bcb7beecf92f34", checked := Tryd.checked }
namespace Rows
def none {H : Type} : Left H := { results := [], args := [] }

/- WHAT THE LISTED PACKAGE-LEVEL VARIABLES READ AS WHEN THE CALL BEGINS. Each datum BY PROGRAM (the guide's laid-datum.mjs) off the statement by which the dump's own 'gosem.cut.vars' lays the variable. In a bare row this is a premise. The card (YtgoplhlbcmfocaaDoorCards.lean) ties it to the program's text. -/
def laid_unicode_utf8_acceptRanges {H : Type} : DataW H := .agg [.agg [.lit (.int .u8 128), .lit (.int .u8 191)], .agg [.lit (.int .u8 160), .lit (.int .u8 191)], .agg [.lit (.int .u8 128), .lit (.int .u8 159)], .agg [.lit (.int .u8 144), .lit (.int .u8 191)], .agg [.lit (.int .u8 128), .lit (.int .u8 143)], .agg [.lit (.int .u8 0), .lit (.int .u8 0)], .agg [.lit (.int .u8 0), .lit (.int .u8 0)], .agg [.lit (.int .u8 0), .lit (.int .u8 0)], .agg [.lit (.int .u8 0), .lit (.int .u8 0)], .agg [.lit (.int .u8 0), .lit (.int .u8 0)], .agg [.lit (.int .u8 0), .lit (.int .u8 0)], .agg [.lit (.int .u8 0), .lit (.int .u8 0)], .agg [.lit (.int .u8 0), .lit (.int .u8 0)], .agg [.lit (.int .u8 0), .lit (.int .u8 0)], .agg [.lit (.int .u8 0), .lit (.int .u8 0)], .agg [.lit (.int .u8 0), .lit (.int .u8 0)]]
def laid_porism_lexer_symbols {H : Type} : DataW H := .agg [.lit (.string [58, 45]), .lit (.string [45, 62]), .lit (.string [60, 61]), .lit (.string [62, 61]), .lit (.string [33, 61]), .lit (.string [40]), .lit (.string [41]), .lit (.string [123]), .lit (.string [125]), .lit (.string [44]), .lit (.string [59]), .lit (.string [46]), .lit (.string [58]), .lit (.string [60]), .lit (.string [61])]
/-- One of Go's own tables, pinned by name: the form's constant. -/
def laid_unicode_utf8_first : DataW Unit := Go.Pinned.utf8First

/-- 'porismlaw04.LexerMatchesReference': WHATEVER THE INPUT: true; the input reads as it did. -/
def lexerMatchesReferenceSpec : ChangeSpec := { name := "lexerMatchesReference", fn := fun _ => fun
  | [d] => { results := [.lit (.bool true)], args := [d] }
  | _ => none }
def lexerMatchesReferenceRow : OpenClaim := { program := "ytgoplhlbcmfocaadoor", sum := "185f6eb1221866b8398634876ab307d7ac264e8b3c221e07e9bcb7beecf92f34", func := "porism/porismlaw04.LexerMatchesReference", spec := "lexerMatchesReference", inPlace := ["internal/bytealg.IndexByteString", "internal/bytealg.IndexString"], named := ["porism/lexer.symbols", "unicode/utf8.first", "unicode/utf8.acceptRanges", "internal/bytealg.MaxLen"], apart := false, laid := [("unicode/utf8.acceptRanges", laid_unicode_utf8_acceptRanges), ("porism/lexer.symbols", laid_porism_lexer_symbols), ("unicode/utf8.first", laid_unicode_utf8_first)] }
def LexerMatchesReferenceSaid : Prop := lexerMatchesReferenceRow.holds Tryd.pinned (OpenSpec.ofChange lexerMatchesReferenceSpec)

/-- ITS FALSE NEIGHBOUR: 'it returns false'. Refute it at one input. -/
def lexerMatchesReferenceWrong : ChangeSpec := { name := "lexerMatchesReference", fn := fun _ => fun
  | [d] => { results := [.lit (.bool false)], args := [d] }
  | _ => none }
def LexerMatchesReferenceWrongFalsely : Prop := lexerMatchesReferenceRow.holds Tryd.pinned (OpenSpec.ofChange lexerMatchesReferenceWrong)

/-- 'porismlaw04.LexerCover': WHATEVER THE INPUT: true; the input reads as it did. -/
def lexerCoverSpec : ChangeSpec := { name := "lexerCover", fn := fun _ => fun
  | [d] => { results := [.lit (.bool true)], args := [d] }
  | _ => none }
def lexerCoverRow : OpenClaim := { program := "ytgoplhlbcmfocaadoor", sum := "185f6eb1221866b8398634876ab307d7ac264e8b3c221e07e9bcb7beecf92f34", func := "porism/porismlaw04.LexerCover", spec := "lexerCover", inPlace := ["internal/bytealg.IndexByteString", "internal/bytealg.IndexString"], named := ["porism/lexer.symbols", "unicode/utf8.first", "unicode/utf8.acceptRanges", "internal/bytealg.MaxLen"], apart := false, laid := [("unicode/utf8.acceptRanges", laid_unicode_utf8_acceptRanges), ("porism/lexer.symbols", laid_porism_lexer_symbols), ("unicode/utf8.first", laid_unicode_utf8_first)] }
def LexerCoverSaid : Prop := lexerCoverRow.holds Tryd.pinned (OpenSpec.ofChange lexerCoverSpec)

/-- ITS FALSE NEIGHBOUR: 'it returns false'. Refute it at one input. -/
def lexerCoverWrong : ChangeSpec := { name := "lexerCover", fn := fun _ => fun
  | [d] => { results := [.lit (.bool false)], args := [d] }
  | _ => none }
def LexerCoverWrongFalsely : Prop := lexerCoverRow.holds Tryd.pinned (OpenSpec.ofChange lexerCoverWrong)

/-- 'porismlaw04.LexerLayout': WHATEVER THE INPUT: true; the input reads as it did. -/
def lexerLayoutSpec : ChangeSpec := { name := "lexerLayout", fn := fun _ => fun
  | [d1, d2] => { results := [.lit (.bool true)], args := [d1, d2] }
  | _ => none }
def lexerLayoutRow : OpenClaim := { program := "ytgoplhlbcmfocaadoor", sum := "185f6eb1221866b8398634876ab307d7ac264e8b3c221e07e9bcb7beecf92f34", func := "porism/porismlaw04.LexerLayout", spec := "lexerLayout", inPlace := ["internal/bytealg.IndexByteString", "internal/bytealg.IndexString"], named := ["porism/lexer.symbols", "unicode/utf8.first", "unicode/utf8.acceptRanges", "internal/bytealg.MaxLen"], apart := false, laid := [("unicode/utf8.acceptRanges", laid_unicode_utf8_acceptRanges), ("porism/lexer.symbols", laid_porism_lexer_symbols), ("unicode/utf8.first", laid_unicode_utf8_first)] }
def LexerLayoutSaid : Prop := lexerLayoutRow.holds Tryd.pinned (OpenSpec.ofChange lexerLayoutSpec)

/-- ITS FALSE NEIGHBOUR: 'it returns false'. Refute it at one input. -/
def lexerLayoutWrong : ChangeSpec := { name := "lexerLayout", fn := fun _ => fun
  | [d1, d2] => { results := [.lit (.bool false)], args := [d1, d2] }
  | _ => none }
def LexerLayoutWrongFalsely : Prop := lexerLayoutRow.holds Tryd.pinned (OpenSpec.ofChange lexerLayoutWrong)

/-- 'porismlaw04.LexerLongest': WHATEVER THE INPUT: true; the input reads as it did. -/
def lexerLongestSpec : ChangeSpec := { name := "lexerLongest", fn := fun _ => fun
  | [d] => { results := [.lit (.bool true)], args := [d] }
  | _ => none }
def lexerLongestRow : OpenClaim := { program := "ytgoplhlbcmfocaadoor", sum := "185f6eb1221866b8398634876ab307d7ac264e8b3c221e07e9bcb7beecf92f34", func := "porism/porismlaw04.LexerLongest", spec := "lexerLongest", inPlace := ["internal/bytealg.IndexByteString", "internal/bytealg.IndexString"], named := ["porism/lexer.symbols", "unicode/utf8.first", "unicode/utf8.acceptRanges", "internal/bytealg.MaxLen"], apart := false, laid := [("unicode/utf8.acceptRanges", laid_unicode_utf8_acceptRanges), ("porism/lexer.symbols", laid_porism_lexer_symbols), ("unicode/utf8.first", laid_unicode_utf8_first)] }
def LexerLongestSaid : Prop := lexerLongestRow.holds Tryd.pinned (OpenSpec.ofChange lexerLongestSpec)

/-- ITS FALSE NEIGHBOUR: 'it returns false'. Refute it at one input. -/
def lexerLongestWrong : ChangeSpec := { name := "lexerLongest", fn := fun _ => fun
  | [d] => { results := [.lit (.bool false)], args := [d] }
  | _ => none }
def LexerLongestWrongFalsely : Prop := lexerLongestRow.holds Tryd.pinned (OpenSpec.ofChange lexerLongestWrong)

/-- 'porismlaw04.LexerConcat': WHATEVER THE INPUT: true; the input reads as it did. -/
def lexerConcatSpec : ChangeSpec := { name := "lexerConcat", fn := fun _ => fun
  | [d1, d2] => { results := [.lit (.bool true)], args := [d1, d2] }
  | _ => none }
def lexerConcatRow : OpenClaim := { program := "ytgoplhlbcmfocaadoor", sum := "185f6eb1221866b8398634876ab307d7ac264e8b3c221e07e9bcb7beecf92f34", func := "porism/porismlaw04.LexerConcat", spec := "lexerConcat", inPlace := ["internal/bytealg.IndexByteString", "internal/bytealg.IndexString"], named := ["porism/lexer.symbols", "unicode/utf8.first", "unicode/utf8.acceptRanges", "internal/bytealg.MaxLen"], apart := false, laid := [("unicode/utf8.acceptRanges", laid_unicode_utf8_acceptRanges), ("porism/lexer.symbols", laid_porism_lexer_symbols), ("unicode/utf8.first", laid_unicode_utf8_first)] }
def LexerConcatSaid : Prop := lexerConcatRow.holds Tryd.pinned (OpenSpec.ofChange lexerConcatSpec)

/-- ITS FALSE NEIGHBOUR: 'it returns false'. Refute it at one input. -/
def lexerConcatWrong : ChangeSpec := { name := "lexerConcat", fn := fun _ => fun
  | [d1, d2] => { results := [.lit (.bool false)], args := [d1, d2] }
  | _ => none }
def LexerConcatWrongFalsely : Prop := lexerConcatRow.holds Tryd.pinned (OpenSpec.ofChange lexerConcatWrong)

/-- 'porismlaw04.LexerFirstError': WHATEVER THE INPUT: true; the input reads as it did. -/
def lexerFirstErrorSpec : ChangeSpec := { name := "lexerFirstError", fn := fun _ => fun
  | [d1, d2] => { results := [.lit (.bool true)], args := [d1, d2] }
  | _ => none }
def lexerFirstErrorRow : OpenClaim := { program := "ytgoplhlbcmfocaadoor", sum := "185f6eb1221866b8398634876ab307d7ac264e8b3c221e07e9bcb7beecf92f34", func := "porism/porismlaw04.LexerFirstError", spec := "lexerFirstError", inPlace := ["internal/bytealg.IndexByteString", "internal/bytealg.IndexString"], named := ["porism/lexer.symbols", "unicode/utf8.first", "unicode/utf8.acceptRanges", "internal/bytealg.MaxLen"], apart := false, laid := [("unicode/utf8.acceptRanges", laid_unicode_utf8_acceptRanges), ("porism/lexer.symbols", laid_porism_lexer_symbols), ("unicode/utf8.first", laid_unicode_utf8_first)] }
def LexerFirstErrorSaid : Prop := lexerFirstErrorRow.holds Tryd.pinned (OpenSpec.ofChange lexerFirstErrorSpec)

/-- ITS FALSE NEIGHBOUR: 'it returns false'. Refute it at one input. -/
def lexerFirstErrorWrong : ChangeSpec := { name := "lexerFirstError", fn := fun _ => fun
  | [d1, d2] => { results := [.lit (.bool false)], args := [d1, d2] }
  | _ => none }
def LexerFirstErrorWrongFalsely : Prop := lexerFirstErrorRow.holds Tryd.pinned (OpenSpec.ofChange lexerFirstErrorWrong)

/-- 'porismlaw04.LexerPrefixes': WHATEVER THE INPUT: true; the input reads as it did. -/
def lexerPrefixesSpec : ChangeSpec := { name := "lexerPrefixes", fn := fun _ => fun
  | [d1, d2] => { results := [.lit (.bool true)], args := [d1, d2] }
  | _ => none }
def lexerPrefixesRow : OpenClaim := { program := "ytgoplhlbcmfocaadoor", sum := "185f6eb1221866b8398634876ab307d7ac264e8b3c221e07e9bcb7beecf92f34", func := "porism/porismlaw04.LexerPrefixes", spec := "lexerPrefixes", inPlace := ["internal/bytealg.IndexByteString", "internal/bytealg.IndexString"], named := ["porism/lexer.symbols", "unicode/utf8.first", "unicode/utf8.acceptRanges", "internal/bytealg.MaxLen"], apart := false, laid := [("unicode/utf8.acceptRanges", laid_unicode_utf8_acceptRanges), ("porism/lexer.symbols", laid_porism_lexer_symbols), ("unicode/utf8.first", laid_unicode_utf8_first)] }
def LexerPrefixesSaid : Prop := lexerPrefixesRow.holds Tryd.pinned (OpenSpec.ofChange lexerPrefixesSpec)

/-- ITS FALSE NEIGHBOUR: 'it returns false'. Refute it at one input. -/
def lexerPrefixesWrong : ChangeSpec := { name := "lexerPrefixes", fn := fun _ => fun
  | [d1, d2] => { results := [.lit (.bool false)], args := [d1, d2] }
  | _ => none }
def LexerPrefixesWrongFalsely : Prop := lexerPrefixesRow.holds Tryd.pinned (OpenSpec.ofChange lexerPrefixesWrong)

/- THE SECOND FORM. 'bulk': how many values and letters a reading holds, each counted each time it is reached (what is shared counts as often as it is met; a slice's spare places count too). A statement '..UptoSaid' is the law's where the arguments, and the package variables that the reading takes, are together of bulk at most 1048576: NARROWER than '..Said'. Prove '..Said' where nothing that the law and all that it calls make is longer than what came in: it says more and counts as full. Else prove '..UptoSaid'. A law counts once. -/
mutual
def uptoBulk {H : Type} : DataW H → Nat
  | .lit (.string bytes) => bytes.length + 1
  | .lit _ => 1
  | .nil => 1
  | .ptr d => uptoBulk d + 1
  | .slice elems spare => uptoBulkAll elems + uptoBulkAll spare + 1
  | .agg parts => uptoBulkAll parts + 1
  | .iface _ d => uptoBulk d + 1
  | .map entries => uptoBulkEntries entries + 1
  | .held _ => 1
def uptoBulkAll {H : Type} : List (DataW H) → Nat
  | [] => 0
  | d :: r => uptoBulk d + uptoBulkAll r
def uptoBulkEntries {H : Type} : List (Lit × DataW H) → Nat
  | [] => 0
  | x :: r => uptoBulkEntry x + uptoBulkEntries r
def uptoBulkEntry {H : Type} : Lit × DataW H → Nat
  | (.string bytes, d) => bytes.length + uptoBulk d + 1
  | (_, d) => uptoBulk d + 1
 end
def uptoSmall : (H : Type) → List (DataW H) → Bool := fun _ ds => decide (uptoBulkAll ds ≤ 1048576)
def OpenSpec.upto (s : _root_.Go.ChangeSpec) : _root_.Go.OpenSpec := { _root_.Go.OpenSpec.ofChange s with cond := some uptoSmall }

/-- 'porismlaw04.LexerMatchesReference', WHERE WHAT IT READS IS OF BULK AT MOST 1048576: true; the input reads as it did. -/
def lexerMatchesReferenceUptoRow : OpenClaim := { program := "ytgoplhlbcmfocaadoor", sum := "185f6eb1221866b8398634876ab307d7ac264e8b3c221e07e9bcb7beecf92f34", func := "porism/porismlaw04.LexerMatchesReference", spec := "lexerMatchesReference", inPlace := ["internal/bytealg.IndexByteString", "internal/bytealg.IndexString"], named := ["porism/lexer.symbols", "unicode/utf8.first", "unicode/utf8.acceptRanges", "internal/bytealg.MaxLen"], apart := false, laid := [("unicode/utf8.acceptRanges", laid_unicode_utf8_acceptRanges), ("porism/lexer.symbols", laid_porism_lexer_symbols), ("unicode/utf8.first", laid_unicode_utf8_first)], narrowed := true }
def LexerMatchesReferenceUptoSaid : Prop := lexerMatchesReferenceUptoRow.holds Tryd.pinned (OpenSpec.upto lexerMatchesReferenceSpec)

/-- 'porismlaw04.LexerCover', WHERE WHAT IT READS IS OF BULK AT MOST 1048576: true; the input reads as it did. -/
def lexerCoverUptoRow : OpenClaim := { program := "ytgoplhlbcmfocaadoor", sum := "185f6eb1221866b8398634876ab307d7ac264e8b3c221e07e9bcb7beecf92f34", func := "porism/porismlaw04.LexerCover", spec := "lexerCover", inPlace := ["internal/bytealg.IndexByteString", "internal/bytealg.IndexString"], named := ["porism/lexer.symbols", "unicode/utf8.first", "unicode/utf8.acceptRanges", "internal/bytealg.MaxLen"], apart := false, laid := [("unicode/utf8.acceptRanges", laid_unicode_utf8_acceptRanges), ("porism/lexer.symbols", laid_porism_lexer_symbols), ("unicode/utf8.first", laid_unicode_utf8_first)], narrowed := true }
def LexerCoverUptoSaid : Prop := lexerCoverUptoRow.holds Tryd.pinned (OpenSpec.upto lexerCoverSpec)

/-- 'porismlaw04.LexerLayout', WHERE WHAT IT READS IS OF BULK AT MOST 1048576: true; the input reads as it did. -/
def lexerLayoutUptoRow : OpenClaim := { program := "ytgoplhlbcmfocaadoor", sum := "185f6eb1221866b8398634876ab307d7ac264e8b3c221e07e9bcb7beecf92f34", func := "porism/porismlaw04.LexerLayout", spec := "lexerLayout", inPlace := ["internal/bytealg.IndexByteString", "internal/bytealg.IndexString"], named := ["porism/lexer.symbols", "unicode/utf8.first", "unicode/utf8.acceptRanges", "internal/bytealg.MaxLen"], apart := false, laid := [("unicode/utf8.acceptRanges", laid_unicode_utf8_acceptRanges), ("porism/lexer.symbols", laid_porism_lexer_symbols), ("unicode/utf8.first", laid_unicode_utf8_first)], narrowed := true }
def LexerLayoutUptoSaid : Prop := lexerLayoutUptoRow.holds Tryd.pinned (OpenSpec.upto lexerLayoutSpec)

/-- 'porismlaw04.LexerLongest', WHERE WHAT IT READS IS OF BULK AT MOST 1048576: true; the input reads as it did. -/
def lexerLongestUptoRow : OpenClaim := { program := "ytgoplhlbcmfocaadoor", sum := "185f6eb1221866b8398634876ab307d7ac264e8b3c221e07e9bcb7beecf92f34", func := "porism/porismlaw04.LexerLongest", spec := "lexerLongest", inPlace := ["internal/bytealg.IndexByteString", "internal/bytealg.IndexString"], named := ["porism/lexer.symbols", "unicode/utf8.first", "unicode/utf8.acceptRanges", "internal/bytealg.MaxLen"], apart := false, laid := [("unicode/utf8.acceptRanges", laid_unicode_utf8_acceptRanges), ("porism/lexer.symbols", laid_porism_lexer_symbols), ("unicode/utf8.first", laid_unicode_utf8_first)], narrowed := true }
def LexerLongestUptoSaid : Prop := lexerLongestUptoRow.holds Tryd.pinned (OpenSpec.upto lexerLongestSpec)

/-- 'porismlaw04.LexerConcat', WHERE WHAT IT READS IS OF BULK AT MOST 1048576: true; the input reads as it did. -/
def lexerConcatUptoRow : OpenClaim := { program := "ytgoplhlbcmfocaadoor", sum := "185f6eb1221866b8398634876ab307d7ac264e8b3c221e07e9bcb7beecf92f34", func := "porism/porismlaw04.LexerConcat", spec := "lexerConcat", inPlace := ["internal/bytealg.IndexByteString", "internal/bytealg.IndexString"], named := ["porism/lexer.symbols", "unicode/utf8.first", "unicode/utf8.acceptRanges", "internal/bytealg.MaxLen"], apart := false, laid := [("unicode/utf8.acceptRanges", laid_unicode_utf8_acceptRanges), ("porism/lexer.symbols", laid_porism_lexer_symbols), ("unicode/utf8.first", laid_unicode_utf8_first)], narrowed := true }
def LexerConcatUptoSaid : Prop := lexerConcatUptoRow.holds Tryd.pinned (OpenSpec.upto lexerConcatSpec)

/-- 'porismlaw04.LexerFirstError', WHERE WHAT IT READS IS OF BULK AT MOST 1048576: true; the input reads as it did. -/
def lexerFirstErrorUptoRow : OpenClaim := { program := "ytgoplhlbcmfocaadoor", sum := "185f6eb1221866b8398634876ab307d7ac264e8b3c221e07e9bcb7beecf92f34", func := "porism/porismlaw04.LexerFirstError", spec := "lexerFirstError", inPlace := ["internal/bytealg.IndexByteString", "internal/bytealg.IndexString"], named := ["porism/lexer.symbols", "unicode/utf8.first", "unicode/utf8.acceptRanges", "internal/bytealg.MaxLen"], apart := false, laid := [("unicode/utf8.acceptRanges", laid_unicode_utf8_acceptRanges), ("porism/lexer.symbols", laid_porism_lexer_symbols), ("unicode/utf8.first", laid_unicode_utf8_first)], narrowed := true }
def LexerFirstErrorUptoSaid : Prop := lexerFirstErrorUptoRow.holds Tryd.pinned (OpenSpec.upto lexerFirstErrorSpec)

/-- 'porismlaw04.LexerPrefixes', WHERE WHAT IT READS IS OF BULK AT MOST 1048576: true; the input reads as it did. -/
def lexerPrefixesUptoRow : OpenClaim := { program := "ytgoplhlbcmfocaadoor", sum := "185f6eb1221866b8398634876ab307d7ac264e8b3c221e07e9bcb7beecf92f34", func := "porism/porismlaw04.LexerPrefixes", spec := "lexerPrefixes", inPlace := ["internal/bytealg.IndexByteString", "internal/bytealg.IndexString"], named := ["porism/lexer.symbols", "unicode/utf8.first", "unicode/utf8.acceptRanges", "internal/bytealg.MaxLen"], apart := false, laid := [("unicode/utf8.acceptRanges", laid_unicode_utf8_acceptRanges), ("porism/lexer.symbols", laid_porism_lexer_symbols), ("unicode/utf8.first", laid_unicode_utf8_first)], narrowed := true }
def LexerPrefixesUptoSaid : Prop := lexerPrefixesUptoRow.holds Tryd.pinned (OpenSpec.upto lexerPrefixesSpec)

end Rows
end Go.Proofs.YtgoplhlbcmfocaaDoor
