/-
  DERIVED. GIVEN WITH THE SEED: THE CARDS: each row of YtlbmihpmcgiinaaGreatDoorRows.lean that lists a variable, with what it lists TIED to the program's text (the seventh form; the later family's looks); each row that meets fmt, with fmt's text TOLD by the authors' own Lean function (tested against real Go, not proved from fmt's source: count such statements apart). THE CARD IS WHAT COUNTS. Prove the row's statement (the work); the ties are given (YtlbmihpmcgiinaaGreatDoorTie.lean); close each card by the builder's one call (the guide's Derived/Test/ToyasCard.lean, 'card_holds'). Laid BY PROGRAM, IN A SANDBOX (cutbox-door.mjs). By AI agents, Wed Nov 11 2026. No macro, syntax, notation, axiom, sorry.
-/
import Derived.Test.YtlbmihpmcgiinaaGreatDoorRows
import GoSem.ClaimSeven
namespace Go.Proofs.YtlbmihpmcgiinaaGreatDoor
namespace Rows

/-- THE TIED CARD OF 'surveyorlaw39.ThresholdSearches'. -/
def thresholdSearchesCard : Claim7 := { stood := { row := thresholdSearchesRow, standIns := [], harness := (true, "4f4b59a3439252a680b918acaa145a4815766ba4f4932813bbc2d6ca066f2b9c"), looks := true }, kinds := [], alts := [], laidByText := true, laidKinds := [.data, .data, .data, .data, .sentinel, .sentinel, .widerDeep, .data, .pinned], laidTests := true, laidLooks := .later }
def ThresholdSearchesCardSaid : Prop := Claim7.holds Tryz.pinned (.plain (OpenSpec.ofChange thresholdSearchesSpec)) thresholdSearchesCard

/-- THE TIED CARD OF 'surveyorlaw39.ThresholdBounds'. -/
def thresholdBoundsCard : Claim7 := { stood := { row := thresholdBoundsRow, standIns := [], harness := (true, "4f4b59a3439252a680b918acaa145a4815766ba4f4932813bbc2d6ca066f2b9c"), looks := true }, kinds := [], alts := [], laidByText := true, laidKinds := [.data, .data, .data, .data, .sentinel, .sentinel, .widerDeep, .data, .pinned], laidTests := true, laidLooks := .later }
def ThresholdBoundsCardSaid : Prop := Claim7.holds Tryz.pinned (.plain (OpenSpec.ofChange thresholdBoundsSpec)) thresholdBoundsCard

/-- THE TIED CARD OF 'surveyorlaw39.ThresholdMerges'. -/
def thresholdMergesCard : Claim7 := { stood := { row := thresholdMergesRow, standIns := [], harness := (true, "4f4b59a3439252a680b918acaa145a4815766ba4f4932813bbc2d6ca066f2b9c"), looks := true }, kinds := [], alts := [], laidByText := true, laidKinds := [.data, .data, .data, .data, .sentinel, .sentinel, .widerDeep, .data, .pinned], laidTests := true, laidLooks := .later }
def ThresholdMergesCardSaid : Prop := Claim7.holds Tryz.pinned (.plain (OpenSpec.ofChange thresholdMergesSpec)) thresholdMergesCard

/-- THE TIED CARD OF 'surveyorlaw39.ThresholdLimits'. -/
def thresholdLimitsCard : Claim7 := { stood := { row := thresholdLimitsRow, standIns := [], harness := (true, "4f4b59a3439252a680b918acaa145a4815766ba4f4932813bbc2d6ca066f2b9c"), looks := true }, kinds := [], alts := [], laidByText := true, laidKinds := [.data, .data, .data, .data, .sentinel, .sentinel, .widerDeep, .data, .pinned], laidTests := true, laidLooks := .later }
def ThresholdLimitsCardSaid : Prop := Claim7.holds Tryz.pinned (.plain (OpenSpec.ofChange thresholdLimitsSpec)) thresholdLimitsCard

/-- THE TIED CARD OF 'surveyorlaw39.ThresholdUnites'. -/
def thresholdUnitesCard : Claim7 := { stood := { row := thresholdUnitesRow, standIns := [], harness := (true, "4f4b59a3439252a680b918acaa145a4815766ba4f4932813bbc2d6ca066f2b9c"), looks := true }, kinds := [], alts := [], laidByText := true, laidKinds := [.data, .data, .data, .data, .sentinel, .sentinel, .widerDeep, .data, .pinned], laidTests := true, laidLooks := .later }
def ThresholdUnitesCardSaid : Prop := Claim7.holds Tryz.pinned (.plain (OpenSpec.ofChange thresholdUnitesSpec)) thresholdUnitesCard

/-- THE SECOND FORM's CARD OF 'surveyorlaw39.ThresholdSearches'. -/
def thresholdSearchesUptoCard : Claim7 := { stood := { row := thresholdSearchesUptoRow, standIns := [], harness := (true, "4f4b59a3439252a680b918acaa145a4815766ba4f4932813bbc2d6ca066f2b9c"), looks := true }, kinds := [], alts := [], laidByText := true, laidKinds := [.data, .data, .data, .data, .sentinel, .sentinel, .widerDeep, .data, .pinned], laidTests := true, laidLooks := .later }
def ThresholdSearchesUptoCardSaid : Prop := Claim7.holds Tryz.pinned (.plain (OpenSpec.upto thresholdSearchesSpec)) thresholdSearchesUptoCard

/-- THE SECOND FORM's CARD OF 'surveyorlaw39.ThresholdBounds'. -/
def thresholdBoundsUptoCard : Claim7 := { stood := { row := thresholdBoundsUptoRow, standIns := [], harness := (true, "4f4b59a3439252a680b918acaa145a4815766ba4f4932813bbc2d6ca066f2b9c"), looks := true }, kinds := [], alts := [], laidByText := true, laidKinds := [.data, .data, .data, .data, .sentinel, .sentinel, .widerDeep, .data, .pinned], laidTests := true, laidLooks := .later }
def ThresholdBoundsUptoCardSaid : Prop := Claim7.holds Tryz.pinned (.plain (OpenSpec.upto thresholdBoundsSpec)) thresholdBoundsUptoCard

/-- THE SECOND FORM's CARD OF 'surveyorlaw39.ThresholdMerges'. -/
def thresholdMergesUptoCard : Claim7 := { stood := { row := thresholdMergesUptoRow, standIns := [], harness := (true, "4f4b59a3439252a680b918acaa145a4815766ba4f4932813bbc2d6ca066f2b9c"), looks := true }, kinds := [], alts := [], laidByText := true, laidKinds := [.data, .data, .data, .data, .sentinel, .sentinel, .widerDeep, .data, .pinned], laidTests := true, laidLooks := .later }
def ThresholdMergesUptoCardSaid : Prop := Claim7.holds Tryz.pinned (.plain (OpenSpec.upto thresholdMergesSpec)) thresholdMergesUptoCard

/-- THE SECOND FORM's CARD OF 'surveyorlaw39.ThresholdLimits'. -/
def thresholdLimitsUptoCard : Claim7 := { stood := { row := thresholdLimitsUptoRow, standIns := [], harness := (true, "4f4b59a3439252a680b918acaa145a4815766ba4f4932813bbc2d6ca066f2b9c"), looks := true }, kinds := [], alts := [], laidByText := true, laidKinds := [.data, .data, .data, .data, .sentinel, .sentinel, .widerDeep, .data, .pinned], laidTests := true, laidLooks := .later }
def ThresholdLimitsUptoCardSaid : Prop := Claim7.holds Tryz.pinned (.plain (OpenSpec.upto thresholdLimitsSpec)) thresholdLimitsUptoCard

/-- THE SECOND FORM's CARD OF 'surveyorlaw39.ThresholdUnites'. -/
def thresholdUnitesUptoCard : Claim7 := { stood := { row := thresholdUnitesUptoRow, standIns := [], harness := (true, "4f4b59a3439252a680b918acaa145a4815766ba4f4932813bbc2d6ca066f2b9c"), looks := true }, kinds := [], alts := [], laidByText := true, laidKinds := [.data, .data, .data, .data, .sentinel, .sentinel, .widerDeep, .data, .pinned], laidTests := true, laidLooks := .later }
def ThresholdUnitesUptoCardSaid : Prop := Claim7.holds Tryz.pinned (.plain (OpenSpec.upto thresholdUnitesSpec)) thresholdUnitesUptoCard
end Rows
end Go.Proofs.YtlbmihpmcgiinaaGreatDoor
