/-
  DERIVED. GIVEN WITH THE SEED: THE CARDS: each row of YtigcmjnjcaoolaaDoorRows.lean that lists a variable, with what it lists TIED to the program's text (the seventh form; the later family's looks); each row that meets fmt, with fmt's text TOLD by the authors' own Lean function (tested against real Go, not proved from fmt's source: count such statements apart). THE CARD IS WHAT COUNTS. Prove the row's statement (the work); the ties are given (YtigcmjnjcaoolaaDoorTie.lean); close each card by the builder's one call (the guide's Derived/Test/ToyasCard.lean, 'card_holds'). Laid BY PROGRAM, IN A SANDBOX (cutbox-door.mjs). By AI agents, Wed Nov 11 2026. No macro, syntax, notation, axiom, sorry.
-/
import Derived.Test.YtigcmjnjcaoolaaDoorRows
import GoSem.ClaimSeven
namespace Go.Proofs.YtigcmjnjcaoolaaDoor
namespace Rows

/-- THE TIED CARD OF 'porismlaw27.CircuitMatchesReference'. -/
def circuitMatchesReferenceCard : Claim7 := { stood := { row := circuitMatchesReferenceRow, standIns := [], harness := (true, "73e458fb0d455a1ed6eca1925455b194d9b1fd055e595d34c5f620a2dc14e104"), looks := false }, kinds := [], alts := [], laidByText := true, laidKinds := [.data, .data, .data], laidTests := true, laidLooks := .later }
def CircuitMatchesReferenceCardSaid : Prop := Claim7.holds Tryd.pinned (.plain (OpenSpec.ofChange circuitMatchesReferenceSpec)) circuitMatchesReferenceCard

/-- THE TIED CARD OF 'porismlaw27.CircuitSharing'. -/
def circuitSharingCard : Claim7 := { stood := { row := circuitSharingRow, standIns := [], harness := (true, "73e458fb0d455a1ed6eca1925455b194d9b1fd055e595d34c5f620a2dc14e104"), looks := false }, kinds := [], alts := [], laidByText := true, laidKinds := [.data, .data, .data], laidTests := true, laidLooks := .later }
def CircuitSharingCardSaid : Prop := Claim7.holds Tryd.pinned (.plain (OpenSpec.ofChange circuitSharingSpec)) circuitSharingCard

/-- THE TIED CARD OF 'porismlaw27.CircuitValues'. -/
def circuitValuesCard : Claim7 := { stood := { row := circuitValuesRow, standIns := [], harness := (true, "73e458fb0d455a1ed6eca1925455b194d9b1fd055e595d34c5f620a2dc14e104"), looks := false }, kinds := [], alts := [], laidByText := true, laidKinds := [.data, .data, .data], laidTests := true, laidLooks := .later }
def CircuitValuesCardSaid : Prop := Claim7.holds Tryd.pinned (.plain (OpenSpec.ofChange circuitValuesSpec)) circuitValuesCard

/-- THE TIED CARD OF 'porismlaw27.CircuitVars'. -/
def circuitVarsCard : Claim7 := { stood := { row := circuitVarsRow, standIns := [], harness := (true, "73e458fb0d455a1ed6eca1925455b194d9b1fd055e595d34c5f620a2dc14e104"), looks := false }, kinds := [], alts := [], laidByText := true, laidKinds := [.data, .data, .data], laidTests := true, laidLooks := .later }
def CircuitVarsCardSaid : Prop := Claim7.holds Tryd.pinned (.plain (OpenSpec.ofChange circuitVarsSpec)) circuitVarsCard

/-- THE TIED CARD OF 'porismlaw27.CircuitTexts'. -/
def circuitTextsCard : Claim7 := { stood := { row := circuitTextsRow, standIns := [], harness := (true, "73e458fb0d455a1ed6eca1925455b194d9b1fd055e595d34c5f620a2dc14e104"), looks := false }, kinds := [], alts := [], laidByText := true, laidKinds := [.data, .data, .data], laidTests := true, laidLooks := .later }
def CircuitTextsCardSaid : Prop := Claim7.holds Tryd.pinned (.plain (OpenSpec.ofChange circuitTextsSpec)) circuitTextsCard

/-- THE TIED CARD OF 'porismlaw27.CircuitLaws'. -/
def circuitLawsCard : Claim7 := { stood := { row := circuitLawsRow, standIns := [], harness := (true, "73e458fb0d455a1ed6eca1925455b194d9b1fd055e595d34c5f620a2dc14e104"), looks := false }, kinds := [], alts := [], laidByText := true, laidKinds := [.data, .data, .data], laidTests := true, laidLooks := .later }
def CircuitLawsCardSaid : Prop := Claim7.holds Tryd.pinned (.plain (OpenSpec.ofChange circuitLawsSpec)) circuitLawsCard

/-- THE SECOND FORM's CARD OF 'porismlaw27.CircuitMatchesReference'. -/
def circuitMatchesReferenceUptoCard : Claim7 := { stood := { row := circuitMatchesReferenceUptoRow, standIns := [], harness := (true, "73e458fb0d455a1ed6eca1925455b194d9b1fd055e595d34c5f620a2dc14e104"), looks := false }, kinds := [], alts := [], laidByText := true, laidKinds := [.data, .data, .data], laidTests := true, laidLooks := .later }
def CircuitMatchesReferenceUptoCardSaid : Prop := Claim7.holds Tryd.pinned (.plain (OpenSpec.upto circuitMatchesReferenceSpec)) circuitMatchesReferenceUptoCard

/-- THE SECOND FORM's CARD OF 'porismlaw27.CircuitSharing'. -/
def circuitSharingUptoCard : Claim7 := { stood := { row := circuitSharingUptoRow, standIns := [], harness := (true, "73e458fb0d455a1ed6eca1925455b194d9b1fd055e595d34c5f620a2dc14e104"), looks := false }, kinds := [], alts := [], laidByText := true, laidKinds := [.data, .data, .data], laidTests := true, laidLooks := .later }
def CircuitSharingUptoCardSaid : Prop := Claim7.holds Tryd.pinned (.plain (OpenSpec.upto circuitSharingSpec)) circuitSharingUptoCard

/-- THE SECOND FORM's CARD OF 'porismlaw27.CircuitValues'. -/
def circuitValuesUptoCard : Claim7 := { stood := { row := circuitValuesUptoRow, standIns := [], harness := (true, "73e458fb0d455a1ed6eca1925455b194d9b1fd055e595d34c5f620a2dc14e104"), looks := false }, kinds := [], alts := [], laidByText := true, laidKinds := [.data, .data, .data], laidTests := true, laidLooks := .later }
def CircuitValuesUptoCardSaid : Prop := Claim7.holds Tryd.pinned (.plain (OpenSpec.upto circuitValuesSpec)) circuitValuesUptoCard

/-- THE SECOND FORM's CARD OF 'porismlaw27.CircuitVars'. -/
def circuitVarsUptoCard : Claim7 := { stood := { row := circuitVarsUptoRow, standIns := [], harness := (true, "73e458fb0d455a1ed6eca1925455b194d9b1fd055e595d34c5f620a2dc14e104"), looks := false }, kinds := [], alts := [], laidByText := true, laidKinds := [.data, .data, .data], laidTests := true, laidLooks := .later }
def CircuitVarsUptoCardSaid : Prop := Claim7.holds Tryd.pinned (.plain (OpenSpec.upto circuitVarsSpec)) circuitVarsUptoCard

/-- THE SECOND FORM's CARD OF 'porismlaw27.CircuitTexts'. -/
def circuitTextsUptoCard : Claim7 := { stood := { row := circuitTextsUptoRow, standIns := [], harness := (true, "73e458fb0d455a1ed6eca1925455b194d9b1fd055e595d34c5f620a2dc14e104"), looks := false }, kinds := [], alts := [], laidByText := true, laidKinds := [.data, .data, .data], laidTests := true, laidLooks := .later }
def CircuitTextsUptoCardSaid : Prop := Claim7.holds Tryd.pinned (.plain (OpenSpec.upto circuitTextsSpec)) circuitTextsUptoCard

/-- THE SECOND FORM's CARD OF 'porismlaw27.CircuitLaws'. -/
def circuitLawsUptoCard : Claim7 := { stood := { row := circuitLawsUptoRow, standIns := [], harness := (true, "73e458fb0d455a1ed6eca1925455b194d9b1fd055e595d34c5f620a2dc14e104"), looks := false }, kinds := [], alts := [], laidByText := true, laidKinds := [.data, .data, .data], laidTests := true, laidLooks := .later }
def CircuitLawsUptoCardSaid : Prop := Claim7.holds Tryd.pinned (.plain (OpenSpec.upto circuitLawsSpec)) circuitLawsUptoCard
end Rows
end Go.Proofs.YtigcmjnjcaoolaaDoor
