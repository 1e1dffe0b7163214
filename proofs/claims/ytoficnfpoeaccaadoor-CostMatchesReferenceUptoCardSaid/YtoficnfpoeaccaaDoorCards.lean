/-
  DERIVED. GIVEN WITH THE SEED: THE CARDS: each row of YtoficnfpoeaccaaDoorRows.lean that lists a variable, with what it lists TIED to the program's text (the seventh form; the later family's looks); each row that meets fmt, with fmt's text TOLD by the authors' own Lean function (tested against real Go, not proved from fmt's source: count such statements apart). THE CARD IS WHAT COUNTS. Prove the row's statement (the work); the ties are given (YtoficnfpoeaccaaDoorTie.lean); close each card by the builder's one call (the guide's Derived/Test/ToyasCard.lean, 'card_holds'). Laid BY PROGRAM, IN A SANDBOX (cutbox-door.mjs). By AI agents, Wed Nov 11 2026. No macro, syntax, notation, axiom, sorry.
-/
import Derived.Test.YtoficnfpoeaccaaDoorRows
import GoSem.ClaimSeven
namespace Go.Proofs.YtoficnfpoeaccaaDoor
namespace Rows

/-- THE TIED CARD OF 'porismlaw16.CostMatchesReference'. -/
def costMatchesReferenceCard : Claim7 := { stood := { row := costMatchesReferenceRow, standIns := [], harness := (true, "9de3adf92e4d69e977ed2b1bdec7e778891bd6278d85019de362e1fc73cd9a09"), looks := false }, kinds := [], alts := [], laidByText := true, laidKinds := [.data, .data, .data, .data, .pinned, .pinned, .pinned, .pinned, .pinned, .pinned], laidTests := true, laidLooks := .later }
def CostMatchesReferenceCardSaid : Prop := Claim7.holds Tryd.pinned (.plain (OpenSpec.ofChange costMatchesReferenceSpec)) costMatchesReferenceCard

/-- THE TIED CARD OF 'porismlaw16.CostStats'. -/
def costStatsCard : Claim7 := { stood := { row := costStatsRow, standIns := [], harness := (true, "9de3adf92e4d69e977ed2b1bdec7e778891bd6278d85019de362e1fc73cd9a09"), looks := false }, kinds := [], alts := [], laidByText := true, laidKinds := [.data, .data, .data, .data, .pinned, .pinned, .pinned, .pinned, .pinned, .pinned], laidTests := true, laidLooks := .later }
def CostStatsCardSaid : Prop := Claim7.holds Tryd.pinned (.plain (OpenSpec.ofChange costStatsSpec)) costStatsCard

/-- THE TIED CARD OF 'porismlaw16.CostGrowth'. -/
def costGrowthCard : Claim7 := { stood := { row := costGrowthRow, standIns := [], harness := (true, "9de3adf92e4d69e977ed2b1bdec7e778891bd6278d85019de362e1fc73cd9a09"), looks := false }, kinds := [], alts := [], laidByText := true, laidKinds := [.data, .data, .data, .data, .pinned, .pinned, .pinned, .pinned, .pinned, .pinned], laidTests := true, laidLooks := .later }
def CostGrowthCardSaid : Prop := Claim7.holds Tryd.pinned (.plain (OpenSpec.ofChange costGrowthSpec)) costGrowthCard

/-- THE TIED CARD OF 'porismlaw16.CostBound'. -/
def costBoundCard : Claim7 := { stood := { row := costBoundRow, standIns := [], harness := (true, "9de3adf92e4d69e977ed2b1bdec7e778891bd6278d85019de362e1fc73cd9a09"), looks := false }, kinds := [], alts := [], laidByText := true, laidKinds := [.data, .data, .data, .data, .pinned, .pinned, .pinned, .pinned, .pinned, .pinned], laidTests := true, laidLooks := .later }
def CostBoundCardSaid : Prop := Claim7.holds Tryd.pinned (.plain (OpenSpec.ofChange costBoundSpec)) costBoundCard

/-- THE TIED CARD OF 'porismlaw16.CostBeginnings'. -/
def costBeginningsCard : Claim7 := { stood := { row := costBeginningsRow, standIns := [], harness := (true, "9de3adf92e4d69e977ed2b1bdec7e778891bd6278d85019de362e1fc73cd9a09"), looks := false }, kinds := [], alts := [], laidByText := true, laidKinds := [.data, .data, .data, .data, .pinned, .pinned, .pinned, .pinned, .pinned, .pinned], laidTests := true, laidLooks := .later }
def CostBeginningsCardSaid : Prop := Claim7.holds Tryd.pinned (.plain (OpenSpec.ofChange costBeginningsSpec)) costBeginningsCard

/-- THE TIED CARD OF 'porismlaw16.CostNames'. -/
def costNamesCard : Claim7 := { stood := { row := costNamesRow, standIns := [], harness := (true, "9de3adf92e4d69e977ed2b1bdec7e778891bd6278d85019de362e1fc73cd9a09"), looks := false }, kinds := [], alts := [], laidByText := true, laidKinds := [.data, .data, .data, .data, .pinned, .pinned, .pinned, .pinned, .pinned, .pinned], laidTests := true, laidLooks := .later }
def CostNamesCardSaid : Prop := Claim7.holds Tryd.pinned (.plain (OpenSpec.ofChange costNamesSpec)) costNamesCard

/-- THE TIED CARD OF 'porismlaw16.CostUnions'. -/
def costUnionsCard : Claim7 := { stood := { row := costUnionsRow, standIns := [], harness := (true, "9de3adf92e4d69e977ed2b1bdec7e778891bd6278d85019de362e1fc73cd9a09"), looks := false }, kinds := [], alts := [], laidByText := true, laidKinds := [.data, .data, .data, .data, .pinned, .pinned, .pinned, .pinned, .pinned, .pinned], laidTests := true, laidLooks := .later }
def CostUnionsCardSaid : Prop := Claim7.holds Tryd.pinned (.plain (OpenSpec.ofChange costUnionsSpec)) costUnionsCard

/-- THE SECOND FORM's CARD OF 'porismlaw16.CostMatchesReference'. -/
def costMatchesReferenceUptoCard : Claim7 := { stood := { row := costMatchesReferenceUptoRow, standIns := [], harness := (true, "9de3adf92e4d69e977ed2b1bdec7e778891bd6278d85019de362e1fc73cd9a09"), looks := false }, kinds := [], alts := [], laidByText := true, laidKinds := [.data, .data, .data, .data, .pinned, .pinned, .pinned, .pinned, .pinned, .pinned], laidTests := true, laidLooks := .later }
def CostMatchesReferenceUptoCardSaid : Prop := Claim7.holds Tryd.pinned (.plain (OpenSpec.upto costMatchesReferenceSpec)) costMatchesReferenceUptoCard

/-- THE SECOND FORM's CARD OF 'porismlaw16.CostStats'. -/
def costStatsUptoCard : Claim7 := { stood := { row := costStatsUptoRow, standIns := [], harness := (true, "9de3adf92e4d69e977ed2b1bdec7e778891bd6278d85019de362e1fc73cd9a09"), looks := false }, kinds := [], alts := [], laidByText := true, laidKinds := [.data, .data, .data, .data, .pinned, .pinned, .pinned, .pinned, .pinned, .pinned], laidTests := true, laidLooks := .later }
def CostStatsUptoCardSaid : Prop := Claim7.holds Tryd.pinned (.plain (OpenSpec.upto costStatsSpec)) costStatsUptoCard

/-- THE SECOND FORM's CARD OF 'porismlaw16.CostGrowth'. -/
def costGrowthUptoCard : Claim7 := { stood := { row := costGrowthUptoRow, standIns := [], harness := (true, "9de3adf92e4d69e977ed2b1bdec7e778891bd6278d85019de362e1fc73cd9a09"), looks := false }, kinds := [], alts := [], laidByText := true, laidKinds := [.data, .data, .data, .data, .pinned, .pinned, .pinned, .pinned, .pinned, .pinned], laidTests := true, laidLooks := .later }
def CostGrowthUptoCardSaid : Prop := Claim7.holds Tryd.pinned (.plain (OpenSpec.upto costGrowthSpec)) costGrowthUptoCard

/-- THE SECOND FORM's CARD OF 'porismlaw16.CostBound'. -/
def costBoundUptoCard : Claim7 := { stood := { row := costBoundUptoRow, standIns := [], harness := (true, "9de3adf92e4d69e977ed2b1bdec7e778891bd6278d85019de362e1fc73cd9a09"), looks := false }, kinds := [], alts := [], laidByText := true, laidKinds := [.data, .data, .data, .data, .pinned, .pinned, .pinned, .pinned, .pinned, .pinned], laidTests := true, laidLooks := .later }
def CostBoundUptoCardSaid : Prop := Claim7.holds Tryd.pinned (.plain (OpenSpec.upto costBoundSpec)) costBoundUptoCard

/-- THE SECOND FORM's CARD OF 'porismlaw16.CostBeginnings'. -/
def costBeginningsUptoCard : Claim7 := { stood := { row := costBeginningsUptoRow, standIns := [], harness := (true, "9de3adf92e4d69e977ed2b1bdec7e778891bd6278d85019de362e1fc73cd9a09"), looks := false }, kinds := [], alts := [], laidByText := true, laidKinds := [.data, .data, .data, .data, .pinned, .pinned, .pinned, .pinned, .pinned, .pinned], laidTests := true, laidLooks := .later }
def CostBeginningsUptoCardSaid : Prop := Claim7.holds Tryd.pinned (.plain (OpenSpec.upto costBeginningsSpec)) costBeginningsUptoCard

/-- THE SECOND FORM's CARD OF 'porismlaw16.CostNames'. -/
def costNamesUptoCard : Claim7 := { stood := { row := costNamesUptoRow, standIns := [], harness := (true, "9de3adf92e4d69e977ed2b1bdec7e778891bd6278d85019de362e1fc73cd9a09"), looks := false }, kinds := [], alts := [], laidByText := true, laidKinds := [.data, .data, .data, .data, .pinned, .pinned, .pinned, .pinned, .pinned, .pinned], laidTests := true, laidLooks := .later }
def CostNamesUptoCardSaid : Prop := Claim7.holds Tryd.pinned (.plain (OpenSpec.upto costNamesSpec)) costNamesUptoCard

/-- THE SECOND FORM's CARD OF 'porismlaw16.CostUnions'. -/
def costUnionsUptoCard : Claim7 := { stood := { row := costUnionsUptoRow, standIns := [], harness := (true, "9de3adf92e4d69e977ed2b1bdec7e778891bd6278d85019de362e1fc73cd9a09"), looks := false }, kinds := [], alts := [], laidByText := true, laidKinds := [.data, .data, .data, .data, .pinned, .pinned, .pinned, .pinned, .pinned, .pinned], laidTests := true, laidLooks := .later }
def CostUnionsUptoCardSaid : Prop := Claim7.holds Tryd.pinned (.plain (OpenSpec.upto costUnionsSpec)) costUnionsUptoCard
end Rows
end Go.Proofs.YtoficnfpoeaccaaDoor
