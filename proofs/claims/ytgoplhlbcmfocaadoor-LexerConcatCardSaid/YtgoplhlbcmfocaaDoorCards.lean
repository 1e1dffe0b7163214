/-
  DERIVED. GIVEN WITH THE SEED: THE CARDS: each row of YtgoplhlbcmfocaaDoorRows.lean that lists a variable, with what it lists TIED to the program's text (the seventh form; the later family's looks); each row that meets fmt, with fmt's text TOLD by the authors' own Lean function (tested against real Go, not proved from fmt's source: count such statements apart). THE CARD IS WHAT COUNTS. Prove the row's statement (the work); the ties are given (YtgoplhlbcmfocaaDoorTie.lean); close each card by the builder's one call (the guide's Derived/Test/ToyasCard.lean, 'card_holds'). Laid BY PROGRAM, IN A SANDBOX (cutbox-door.mjs). By AI agents, Wed Nov 11 2026. No macro, syntax, notation, axiom, sorry.
-/
import Derived.Test.YtgoplhlbcmfocaaDoorRows
import GoSem.ClaimSeven
namespace Go.Proofs.YtgoplhlbcmfocaaDoor
namespace Rows

/-- THE TIED CARD OF 'porismlaw04.LexerMatchesReference'. -/
def lexerMatchesReferenceCard : Claim7 := { stood := { row := lexerMatchesReferenceRow, standIns := [], harness := (true, "b2ef67c9a7a85f83b72316e9029f3e5e1bd4f185ddee7bdf33b9f3614a58775d"), looks := false }, kinds := [], alts := [], laidByText := true, laidKinds := [.data, .data, .pinned], laidTests := true, laidLooks := .later }
def LexerMatchesReferenceCardSaid : Prop := Claim7.holds Tryd.pinned (.plain (OpenSpec.ofChange lexerMatchesReferenceSpec)) lexerMatchesReferenceCard

/-- THE TIED CARD OF 'porismlaw04.LexerCover'. -/
def lexerCoverCard : Claim7 := { stood := { row := lexerCoverRow, standIns := [], harness := (true, "b2ef67c9a7a85f83b72316e9029f3e5e1bd4f185ddee7bdf33b9f3614a58775d"), looks := false }, kinds := [], alts := [], laidByText := true, laidKinds := [.data, .data, .pinned], laidTests := true, laidLooks := .later }
def LexerCoverCardSaid : Prop := Claim7.holds Tryd.pinned (.plain (OpenSpec.ofChange lexerCoverSpec)) lexerCoverCard

/-- THE TIED CARD OF 'porismlaw04.LexerLayout'. -/
def lexerLayoutCard : Claim7 := { stood := { row := lexerLayoutRow, standIns := [], harness := (true, "b2ef67c9a7a85f83b72316e9029f3e5e1bd4f185ddee7bdf33b9f3614a58775d"), looks := false }, kinds := [], alts := [], laidByText := true, laidKinds := [.data, .data, .pinned], laidTests := true, laidLooks := .later }
def LexerLayoutCardSaid : Prop := Claim7.holds Tryd.pinned (.plain (OpenSpec.ofChange lexerLayoutSpec)) lexerLayoutCard

/-- THE TIED CARD OF 'porismlaw04.LexerLongest'. -/
def lexerLongestCard : Claim7 := { stood := { row := lexerLongestRow, standIns := [], harness := (true, "b2ef67c9a7a85f83b72316e9029f3e5e1bd4f185ddee7bdf33b9f3614a58775d"), looks := false }, kinds := [], alts := [], laidByText := true, laidKinds := [.data, .data, .pinned], laidTests := true, laidLooks := .later }
def LexerLongestCardSaid : Prop := Claim7.holds Tryd.pinned (.plain (OpenSpec.ofChange lexerLongestSpec)) lexerLongestCard

/-- THE TIED CARD OF 'porismlaw04.LexerConcat'. -/
def lexerConcatCard : Claim7 := { stood := { row := lexerConcatRow, standIns := [], harness := (true, "b2ef67c9a7a85f83b72316e9029f3e5e1bd4f185ddee7bdf33b9f3614a58775d"), looks := false }, kinds := [], alts := [], laidByText := true, laidKinds := [.data, .data, .pinned], laidTests := true, laidLooks := .later }
def LexerConcatCardSaid : Prop := Claim7.holds Tryd.pinned (.plain (OpenSpec.ofChange lexerConcatSpec)) lexerConcatCard

/-- THE TIED CARD OF 'porismlaw04.LexerFirstError'. -/
def lexerFirstErrorCard : Claim7 := { stood := { row := lexerFirstErrorRow, standIns := [], harness := (true, "b2ef67c9a7a85f83b72316e9029f3e5e1bd4f185ddee7bdf33b9f3614a58775d"), looks := false }, kinds := [], alts := [], laidByText := true, laidKinds := [.data, .data, .pinned], laidTests := true, laidLooks := .later }
def LexerFirstErrorCardSaid : Prop := Claim7.holds Tryd.pinned (.plain (OpenSpec.ofChange lexerFirstErrorSpec)) lexerFirstErrorCard

/-- THE TIED CARD OF 'porismlaw04.LexerPrefixes'. -/
def lexerPrefixesCard : Claim7 := { stood := { row := lexerPrefixesRow, standIns := [], harness := (true, "b2ef67c9a7a85f83b72316e9029f3e5e1bd4f185ddee7bdf33b9f3614a58775d"), looks := false }, kinds := [], alts := [], laidByText := true, laidKinds := [.data, .data, .pinned], laidTests := true, laidLooks := .later }
def LexerPrefixesCardSaid : Prop := Claim7.holds Tryd.pinned (.plain (OpenSpec.ofChange lexerPrefixesSpec)) lexerPrefixesCard

/-- THE SECOND FORM's CARD OF 'porismlaw04.LexerMatchesReference'. -/
def lexerMatchesReferenceUptoCard : Claim7 := { stood := { row := lexerMatchesReferenceUptoRow, standIns := [], harness := (true, "b2ef67c9a7a85f83b72316e9029f3e5e1bd4f185ddee7bdf33b9f3614a58775d"), looks := false }, kinds := [], alts := [], laidByText := true, laidKinds := [.data, .data, .pinned], laidTests := true, laidLooks := .later }
def LexerMatchesReferenceUptoCardSaid : Prop := Claim7.holds Tryd.pinned (.plain (OpenSpec.upto lexerMatchesReferenceSpec)) lexerMatchesReferenceUptoCard

/-- THE SECOND FORM's CARD OF 'porismlaw04.LexerCover'. -/
def lexerCoverUptoCard : Claim7 := { stood := { row := lexerCoverUptoRow, standIns := [], harness := (true, "b2ef67c9a7a85f83b72316e9029f3e5e1bd4f185ddee7bdf33b9f3614a58775d"), looks := false }, kinds := [], alts := [], laidByText := true, laidKinds := [.data, .data, .pinned], laidTests := true, laidLooks := .later }
def LexerCoverUptoCardSaid : Prop := Claim7.holds Tryd.pinned (.plain (OpenSpec.upto lexerCoverSpec)) lexerCoverUptoCard

/-- THE SECOND FORM's CARD OF 'porismlaw04.LexerLayout'. -/
def lexerLayoutUptoCard : Claim7 := { stood := { row := lexerLayoutUptoRow, standIns := [], harness := (true, "b2ef67c9a7a85f83b72316e9029f3e5e1bd4f185ddee7bdf33b9f3614a58775d"), looks := false }, kinds := [], alts := [], laidByText := true, laidKinds := [.data, .data, .pinned], laidTests := true, laidLooks := .later }
def LexerLayoutUptoCardSaid : Prop := Claim7.holds Tryd.pinned (.plain (OpenSpec.upto lexerLayoutSpec)) lexerLayoutUptoCard

/-- THE SECOND FORM's CARD OF 'porismlaw04.LexerLongest'. -/
def lexerLongestUptoCard : Claim7 := { stood := { row := lexerLongestUptoRow, standIns := [], harness := (true, "b2ef67c9a7a85f83b72316e9029f3e5e1bd4f185ddee7bdf33b9f3614a58775d"), looks := false }, kinds := [], alts := [], laidByText := true, laidKinds := [.data, .data, .pinned], laidTests := true, laidLooks := .later }
def LexerLongestUptoCardSaid : Prop := Claim7.holds Tryd.pinned (.plain (OpenSpec.upto lexerLongestSpec)) lexerLongestUptoCard

/-- THE SECOND FORM's CARD OF 'porismlaw04.LexerConcat'. -/
def lexerConcatUptoCard : Claim7 := { stood := { row := lexerConcatUptoRow, standIns := [], harness := (true, "b2ef67c9a7a85f83b72316e9029f3e5e1bd4f185ddee7bdf33b9f3614a58775d"), looks := false }, kinds := [], alts := [], laidByText := true, laidKinds := [.data, .data, .pinned], laidTests := true, laidLooks := .later }
def LexerConcatUptoCardSaid : Prop := Claim7.holds Tryd.pinned (.plain (OpenSpec.upto lexerConcatSpec)) lexerConcatUptoCard

/-- THE SECOND FORM's CARD OF 'porismlaw04.LexerFirstError'. -/
def lexerFirstErrorUptoCard : Claim7 := { stood := { row := lexerFirstErrorUptoRow, standIns := [], harness := (true, "b2ef67c9a7a85f83b72316e9029f3e5e1bd4f185ddee7bdf33b9f3614a58775d"), looks := false }, kinds := [], alts := [], laidByText := true, laidKinds := [.data, .data, .pinned], laidTests := true, laidLooks := .later }
def LexerFirstErrorUptoCardSaid : Prop := Claim7.holds Tryd.pinned (.plain (OpenSpec.upto lexerFirstErrorSpec)) lexerFirstErrorUptoCard

/-- THE SECOND FORM's CARD OF 'porismlaw04.LexerPrefixes'. -/
def lexerPrefixesUptoCard : Claim7 := { stood := { row := lexerPrefixesUptoRow, standIns := [], harness := (true, "b2ef67c9a7a85f83b72316e9029f3e5e1bd4f185ddee7bdf33b9f3614a58775d"), looks := false }, kinds := [], alts := [], laidByText := true, laidKinds := [.data, .data, .pinned], laidTests := true, laidLooks := .later }
def LexerPrefixesUptoCardSaid : Prop := Claim7.holds Tryd.pinned (.plain (OpenSpec.upto lexerPrefixesSpec)) lexerPrefixesUptoCard
end Rows
end Go.Proofs.YtgoplhlbcmfocaaDoor
