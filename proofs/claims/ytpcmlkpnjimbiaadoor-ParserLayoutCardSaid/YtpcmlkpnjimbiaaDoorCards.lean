/-
  DERIVED. GIVEN WITH THE SEED: THE CARDS: each row of YtpcmlkpnjimbiaaDoorRows.lean that lists a variable, with what it lists TIED to the program's text (the seventh form; the later family's looks); each row that meets fmt, with fmt's text TOLD by the authors' own Lean function (tested against real Go, not proved from fmt's source: count such statements apart). THE CARD IS WHAT COUNTS. Prove the row's statement (the work); the ties are given (YtpcmlkpnjimbiaaDoorTie.lean); close each card by the builder's one call (the guide's Derived/Test/ToyasCard.lean, 'card_holds'). Laid BY PROGRAM, IN A SANDBOX (cutbox-door.mjs). By AI agents, Wed Nov 11 2026. No macro, syntax, notation, axiom, sorry.
-/
import Derived.Test.YtpcmlkpnjimbiaaDoorRows
import GoSem.ClaimSeven
namespace Go.Proofs.YtpcmlkpnjimbiaaDoor
namespace Rows

/-- THE TIED CARD OF 'porismlaw05.ParserLayout'. -/
def parserLayoutCard : Claim7 := { stood := { row := parserLayoutRow, standIns := [], harness := (true, "fe3c96839c63ac4b00b91c2b1d5c8ca3501fbc20010cc02f1ae4bc8ec9886122"), looks := true }, kinds := [], alts := [], laidByText := true, laidKinds := [.data, .data, .widerDeep, .widerDeep, .mapped, .pinned], laidTests := true, laidLooks := .later }
def ParserLayoutCardSaid : Prop := Claim7.holds Tryd.pinned (.plain (OpenSpec.ofChange parserLayoutSpec)) parserLayoutCard

/-- THE TIED CARD OF 'porismlaw05.ParserConcat'. -/
def parserConcatCard : Claim7 := { stood := { row := parserConcatRow, standIns := [], harness := (true, "fe3c96839c63ac4b00b91c2b1d5c8ca3501fbc20010cc02f1ae4bc8ec9886122"), looks := true }, kinds := [], alts := [], laidByText := true, laidKinds := [.data, .data, .widerDeep, .widerDeep, .mapped, .pinned], laidTests := true, laidLooks := .later }
def ParserConcatCardSaid : Prop := Claim7.holds Tryd.pinned (.plain (OpenSpec.ofChange parserConcatSpec)) parserConcatCard

/-- THE TIED CARD OF 'porismlaw05.ParserRecovery'. -/
def parserRecoveryCard : Claim7 := { stood := { row := parserRecoveryRow, standIns := [], harness := (true, "fe3c96839c63ac4b00b91c2b1d5c8ca3501fbc20010cc02f1ae4bc8ec9886122"), looks := true }, kinds := [], alts := [], laidByText := true, laidKinds := [.data, .data, .widerDeep, .widerDeep, .mapped, .pinned], laidTests := true, laidLooks := .later }
def ParserRecoveryCardSaid : Prop := Claim7.holds Tryd.pinned (.plain (OpenSpec.ofChange parserRecoverySpec)) parserRecoveryCard

/-- THE TIED CARD OF 'porismlaw05.ParserFirst'. -/
def parserFirstCard : Claim7 := { stood := { row := parserFirstRow, standIns := [], harness := (true, "fe3c96839c63ac4b00b91c2b1d5c8ca3501fbc20010cc02f1ae4bc8ec9886122"), looks := true }, kinds := [], alts := [], laidByText := true, laidKinds := [.data, .data, .widerDeep, .widerDeep, .mapped, .pinned], laidTests := true, laidLooks := .later }
def ParserFirstCardSaid : Prop := Claim7.holds Tryd.pinned (.plain (OpenSpec.ofChange parserFirstSpec)) parserFirstCard

/-- THE TIED CARD OF 'porismlaw05.ParserQueries'. -/
def parserQueriesCard : Claim7 := { stood := { row := parserQueriesRow, standIns := [], harness := (true, "fe3c96839c63ac4b00b91c2b1d5c8ca3501fbc20010cc02f1ae4bc8ec9886122"), looks := true }, kinds := [], alts := [], laidByText := true, laidKinds := [.data, .data, .widerDeep, .widerDeep, .mapped, .pinned], laidTests := true, laidLooks := .later }
def ParserQueriesCardSaid : Prop := Claim7.holds Tryd.pinned (.plain (OpenSpec.ofChange parserQueriesSpec)) parserQueriesCard

/-- THE SECOND FORM's CARD OF 'porismlaw05.ParserLayout'. -/
def parserLayoutUptoCard : Claim7 := { stood := { row := parserLayoutUptoRow, standIns := [], harness := (true, "fe3c96839c63ac4b00b91c2b1d5c8ca3501fbc20010cc02f1ae4bc8ec9886122"), looks := true }, kinds := [], alts := [], laidByText := true, laidKinds := [.data, .data, .widerDeep, .widerDeep, .mapped, .pinned], laidTests := true, laidLooks := .later }
def ParserLayoutUptoCardSaid : Prop := Claim7.holds Tryd.pinned (.plain (OpenSpec.upto parserLayoutSpec)) parserLayoutUptoCard

/-- THE SECOND FORM's CARD OF 'porismlaw05.ParserConcat'. -/
def parserConcatUptoCard : Claim7 := { stood := { row := parserConcatUptoRow, standIns := [], harness := (true, "fe3c96839c63ac4b00b91c2b1d5c8ca3501fbc20010cc02f1ae4bc8ec9886122"), looks := true }, kinds := [], alts := [], laidByText := true, laidKinds := [.data, .data, .widerDeep, .widerDeep, .mapped, .pinned], laidTests := true, laidLooks := .later }
def ParserConcatUptoCardSaid : Prop := Claim7.holds Tryd.pinned (.plain (OpenSpec.upto parserConcatSpec)) parserConcatUptoCard

/-- THE SECOND FORM's CARD OF 'porismlaw05.ParserRecovery'. -/
def parserRecoveryUptoCard : Claim7 := { stood := { row := parserRecoveryUptoRow, standIns := [], harness := (true, "fe3c96839c63ac4b00b91c2b1d5c8ca3501fbc20010cc02f1ae4bc8ec9886122"), looks := true }, kinds := [], alts := [], laidByText := true, laidKinds := [.data, .data, .widerDeep, .widerDeep, .mapped, .pinned], laidTests := true, laidLooks := .later }
def ParserRecoveryUptoCardSaid : Prop := Claim7.holds Tryd.pinned (.plain (OpenSpec.upto parserRecoverySpec)) parserRecoveryUptoCard

/-- THE SECOND FORM's CARD OF 'porismlaw05.ParserFirst'. -/
def parserFirstUptoCard : Claim7 := { stood := { row := parserFirstUptoRow, standIns := [], harness := (true, "fe3c96839c63ac4b00b91c2b1d5c8ca3501fbc20010cc02f1ae4bc8ec9886122"), looks := true }, kinds := [], alts := [], laidByText := true, laidKinds := [.data, .data, .widerDeep, .widerDeep, .mapped, .pinned], laidTests := true, laidLooks := .later }
def ParserFirstUptoCardSaid : Prop := Claim7.holds Tryd.pinned (.plain (OpenSpec.upto parserFirstSpec)) parserFirstUptoCard

/-- THE SECOND FORM's CARD OF 'porismlaw05.ParserQueries'. -/
def parserQueriesUptoCard : Claim7 := { stood := { row := parserQueriesUptoRow, standIns := [], harness := (true, "fe3c96839c63ac4b00b91c2b1d5c8ca3501fbc20010cc02f1ae4bc8ec9886122"), looks := true }, kinds := [], alts := [], laidByText := true, laidKinds := [.data, .data, .widerDeep, .widerDeep, .mapped, .pinned], laidTests := true, laidLooks := .later }
def ParserQueriesUptoCardSaid : Prop := Claim7.holds Tryd.pinned (.plain (OpenSpec.upto parserQueriesSpec)) parserQueriesUptoCard
end Rows
end Go.Proofs.YtpcmlkpnjimbiaaDoor
