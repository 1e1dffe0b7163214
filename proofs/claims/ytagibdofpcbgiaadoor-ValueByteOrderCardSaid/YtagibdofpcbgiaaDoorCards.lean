/-
  DERIVED. GIVEN WITH THE SEED: THE CARDS: each row of YtagibdofpcbgiaaDoorRows.lean that lists a variable, with what it lists TIED to the program's text (the seventh form; the later family's looks); each row that meets fmt, with fmt's text TOLD by the authors' own Lean function (tested against real Go, not proved from fmt's source: count such statements apart). THE CARD IS WHAT COUNTS. Prove the row's statement (the work); the ties are given (YtagibdofpcbgiaaDoorTie.lean); close each card by the builder's one call (the guide's Derived/Test/ToyasCard.lean, 'card_holds'). Laid BY PROGRAM, IN A SANDBOX (cutbox-door.mjs). By AI agents, Wed Nov 11 2026. No macro, syntax, notation, axiom, sorry.
-/
import Derived.Test.YtagibdofpcbgiaaDoorRows
import GoSem.ClaimSeven
namespace Go.Proofs.YtagibdofpcbgiaaDoor
namespace Rows

/-- THE TIED CARD OF 'porismlaw02.ValueMatchesReference'. -/
def valueMatchesReferenceCard : Claim7 := { stood := { row := valueMatchesReferenceRow, standIns := [], harness := (true, "aceff11b77441386ac4bb1e12aa53cff8afa5122d86c94ed4a0879d8f1ccdfbc"), looks := true }, kinds := [], alts := [], laidByText := true, laidKinds := [.data, .data, .data, .sentinel, .sentinel, .widerDeep], laidTests := true, laidLooks := .later }
def ValueMatchesReferenceCardSaid : Prop := Claim7.holds Tryd.pinned (.plain (OpenSpec.ofChange valueMatchesReferenceSpec)) valueMatchesReferenceCard

/-- THE TIED CARD OF 'porismlaw02.ValueOrder'. -/
def valueOrderCard : Claim7 := { stood := { row := valueOrderRow, standIns := [], harness := (true, "aceff11b77441386ac4bb1e12aa53cff8afa5122d86c94ed4a0879d8f1ccdfbc"), looks := true }, kinds := [], alts := [], laidByText := true, laidKinds := [.data, .data, .data, .sentinel, .sentinel, .widerDeep], laidTests := true, laidLooks := .later }
def ValueOrderCardSaid : Prop := Claim7.holds Tryd.pinned (.plain (OpenSpec.ofChange valueOrderSpec)) valueOrderCard

/-- THE TIED CARD OF 'porismlaw02.ValueTuples'. -/
def valueTuplesCard : Claim7 := { stood := { row := valueTuplesRow, standIns := [], harness := (true, "aceff11b77441386ac4bb1e12aa53cff8afa5122d86c94ed4a0879d8f1ccdfbc"), looks := true }, kinds := [], alts := [], laidByText := true, laidKinds := [.data, .data, .data, .sentinel, .sentinel, .widerDeep], laidTests := true, laidLooks := .later }
def ValueTuplesCardSaid : Prop := Claim7.holds Tryd.pinned (.plain (OpenSpec.ofChange valueTuplesSpec)) valueTuplesCard

/-- THE TIED CARD OF 'porismlaw02.ValueTexts'. -/
def valueTextsCard : Claim7 := { stood := { row := valueTextsRow, standIns := [], harness := (true, "aceff11b77441386ac4bb1e12aa53cff8afa5122d86c94ed4a0879d8f1ccdfbc"), looks := true }, kinds := [], alts := [], laidByText := true, laidKinds := [.data, .data, .data, .sentinel, .sentinel, .widerDeep], laidTests := true, laidLooks := .later }
def ValueTextsCardSaid : Prop := Claim7.holds Tryd.pinned (.plain (OpenSpec.ofChange valueTextsSpec)) valueTextsCard

/-- THE TIED CARD OF 'porismlaw02.ValueBytes'. -/
def valueBytesCard : Claim7 := { stood := { row := valueBytesRow, standIns := [], harness := (true, "aceff11b77441386ac4bb1e12aa53cff8afa5122d86c94ed4a0879d8f1ccdfbc"), looks := true }, kinds := [], alts := [], laidByText := true, laidKinds := [.data, .data, .data, .sentinel, .sentinel, .widerDeep], laidTests := true, laidLooks := .later }
def ValueBytesCardSaid : Prop := Claim7.holds Tryd.pinned (.plain (OpenSpec.ofChange valueBytesSpec)) valueBytesCard

/-- THE TIED CARD OF 'porismlaw02.ValueByteOrder'. -/
def valueByteOrderCard : Claim7 := { stood := { row := valueByteOrderRow, standIns := [], harness := (true, "aceff11b77441386ac4bb1e12aa53cff8afa5122d86c94ed4a0879d8f1ccdfbc"), looks := true }, kinds := [], alts := [], laidByText := true, laidKinds := [.data, .data, .data, .sentinel, .sentinel, .widerDeep], laidTests := true, laidLooks := .later }
def ValueByteOrderCardSaid : Prop := Claim7.holds Tryd.pinned (.plain (OpenSpec.ofChange valueByteOrderSpec)) valueByteOrderCard

/-- THE SECOND FORM's CARD OF 'porismlaw02.ValueMatchesReference'. -/
def valueMatchesReferenceUptoCard : Claim7 := { stood := { row := valueMatchesReferenceUptoRow, standIns := [], harness := (true, "aceff11b77441386ac4bb1e12aa53cff8afa5122d86c94ed4a0879d8f1ccdfbc"), looks := true }, kinds := [], alts := [], laidByText := true, laidKinds := [.data, .data, .data, .sentinel, .sentinel, .widerDeep], laidTests := true, laidLooks := .later }
def ValueMatchesReferenceUptoCardSaid : Prop := Claim7.holds Tryd.pinned (.plain (OpenSpec.upto valueMatchesReferenceSpec)) valueMatchesReferenceUptoCard

/-- THE SECOND FORM's CARD OF 'porismlaw02.ValueOrder'. -/
def valueOrderUptoCard : Claim7 := { stood := { row := valueOrderUptoRow, standIns := [], harness := (true, "aceff11b77441386ac4bb1e12aa53cff8afa5122d86c94ed4a0879d8f1ccdfbc"), looks := true }, kinds := [], alts := [], laidByText := true, laidKinds := [.data, .data, .data, .sentinel, .sentinel, .widerDeep], laidTests := true, laidLooks := .later }
def ValueOrderUptoCardSaid : Prop := Claim7.holds Tryd.pinned (.plain (OpenSpec.upto valueOrderSpec)) valueOrderUptoCard

/-- THE SECOND FORM's CARD OF 'porismlaw02.ValueTuples'. -/
def valueTuplesUptoCard : Claim7 := { stood := { row := valueTuplesUptoRow, standIns := [], harness := (true, "aceff11b77441386ac4bb1e12aa53cff8afa5122d86c94ed4a0879d8f1ccdfbc"), looks := true }, kinds := [], alts := [], laidByText := true, laidKinds := [.data, .data, .data, .sentinel, .sentinel, .widerDeep], laidTests := true, laidLooks := .later }
def ValueTuplesUptoCardSaid : Prop := Claim7.holds Tryd.pinned (.plain (OpenSpec.upto valueTuplesSpec)) valueTuplesUptoCard

/-- THE SECOND FORM's CARD OF 'porismlaw02.ValueTexts'. -/
def valueTextsUptoCard : Claim7 := { stood := { row := valueTextsUptoRow, standIns := [], harness := (true, "aceff11b77441386ac4bb1e12aa53cff8afa5122d86c94ed4a0879d8f1ccdfbc"), looks := true }, kinds := [], alts := [], laidByText := true, laidKinds := [.data, .data, .data, .sentinel, .sentinel, .widerDeep], laidTests := true, laidLooks := .later }
def ValueTextsUptoCardSaid : Prop := Claim7.holds Tryd.pinned (.plain (OpenSpec.upto valueTextsSpec)) valueTextsUptoCard

/-- THE SECOND FORM's CARD OF 'porismlaw02.ValueBytes'. -/
def valueBytesUptoCard : Claim7 := { stood := { row := valueBytesUptoRow, standIns := [], harness := (true, "aceff11b77441386ac4bb1e12aa53cff8afa5122d86c94ed4a0879d8f1ccdfbc"), looks := true }, kinds := [], alts := [], laidByText := true, laidKinds := [.data, .data, .data, .sentinel, .sentinel, .widerDeep], laidTests := true, laidLooks := .later }
def ValueBytesUptoCardSaid : Prop := Claim7.holds Tryd.pinned (.plain (OpenSpec.upto valueBytesSpec)) valueBytesUptoCard

/-- THE SECOND FORM's CARD OF 'porismlaw02.ValueByteOrder'. -/
def valueByteOrderUptoCard : Claim7 := { stood := { row := valueByteOrderUptoRow, standIns := [], harness := (true, "aceff11b77441386ac4bb1e12aa53cff8afa5122d86c94ed4a0879d8f1ccdfbc"), looks := true }, kinds := [], alts := [], laidByText := true, laidKinds := [.data, .data, .data, .sentinel, .sentinel, .widerDeep], laidTests := true, laidLooks := .later }
def ValueByteOrderUptoCardSaid : Prop := Claim7.holds Tryd.pinned (.plain (OpenSpec.upto valueByteOrderSpec)) valueByteOrderUptoCard
end Rows
end Go.Proofs.YtagibdofpcbgiaaDoor
