/-
  DERIVED. GIVEN WITH THE SEED: THE CARDS: each row of YtnmibokjpedkiaaGreatDoorRows.lean that lists a variable, with what it lists TIED to the program's text (the seventh form; the later family's looks); each row that meets fmt, with fmt's text TOLD by the authors' own Lean function (tested against real Go, not proved from fmt's source: count such statements apart). THE CARD IS WHAT COUNTS. Prove the row's statement (the work); the ties are given (YtnmibokjpedkiaaGreatDoorTie.lean); close each card by the builder's one call (the guide's Derived/Test/ToyasCard.lean, 'card_holds'). Laid BY PROGRAM, IN A SANDBOX (cutbox-door.mjs). By AI agents, Wed Nov 11 2026. No macro, syntax, notation, axiom, sorry.
-/
import Derived.Test.YtnmibokjpedkiaaGreatDoorRows
import GoSem.ClaimSeven
namespace Go.Proofs.YtnmibokjpedkiaaGreatDoor
namespace Rows

/-- THE TIED CARD OF 'querylablaw08.MeaningEvaluates'. -/
def meaningEvaluatesCard : Claim7 := { stood := { row := meaningEvaluatesRow, standIns := [], harness := (true, "99c31e5e7fe800060cd328e9f8feb0327df292dc31cdf73f4a2e764a23ef275c"), looks := false }, kinds := [], alts := [], laidByText := true, laidKinds := [.data, .data, .data], laidTests := true, laidLooks := .later }
def MeaningEvaluatesCardSaid : Prop := Claim7.holds Tryz.pinned (.plain (OpenSpec.ofChange meaningEvaluatesSpec)) meaningEvaluatesCard

/-- THE TIED CARD OF 'querylablaw08.MeaningRaw'. -/
def meaningRawCard : Claim7 := { stood := { row := meaningRawRow, standIns := [], harness := (true, "99c31e5e7fe800060cd328e9f8feb0327df292dc31cdf73f4a2e764a23ef275c"), looks := false }, kinds := [], alts := [], laidByText := true, laidKinds := [.data, .data, .data], laidTests := true, laidLooks := .later }
def MeaningRawCardSaid : Prop := Claim7.holds Tryz.pinned (.plain (OpenSpec.ofChange meaningRawSpec)) meaningRawCard

/-- THE TIED CARD OF 'querylablaw08.MeaningOrder'. -/
def meaningOrderCard : Claim7 := { stood := { row := meaningOrderRow, standIns := [], harness := (true, "99c31e5e7fe800060cd328e9f8feb0327df292dc31cdf73f4a2e764a23ef275c"), looks := false }, kinds := [], alts := [], laidByText := true, laidKinds := [.data, .data, .data], laidTests := true, laidLooks := .later }
def MeaningOrderCardSaid : Prop := Claim7.holds Tryz.pinned (.plain (OpenSpec.ofChange meaningOrderSpec)) meaningOrderCard

/-- THE TIED CARD OF 'querylablaw08.MeaningPartitions'. -/
def meaningPartitionsCard : Claim7 := { stood := { row := meaningPartitionsRow, standIns := [], harness := (true, "99c31e5e7fe800060cd328e9f8feb0327df292dc31cdf73f4a2e764a23ef275c"), looks := false }, kinds := [], alts := [], laidByText := true, laidKinds := [.data, .data, .data], laidTests := true, laidLooks := .later }
def MeaningPartitionsCardSaid : Prop := Claim7.holds Tryz.pinned (.plain (OpenSpec.ofChange meaningPartitionsSpec)) meaningPartitionsCard

/-- THE TIED CARD OF 'querylablaw08.MeaningJoins'. -/
def meaningJoinsCard : Claim7 := { stood := { row := meaningJoinsRow, standIns := [], harness := (true, "99c31e5e7fe800060cd328e9f8feb0327df292dc31cdf73f4a2e764a23ef275c"), looks := false }, kinds := [], alts := [], laidByText := true, laidKinds := [.data, .data, .data], laidTests := true, laidLooks := .later }
def MeaningJoinsCardSaid : Prop := Claim7.holds Tryz.pinned (.plain (OpenSpec.ofChange meaningJoinsSpec)) meaningJoinsCard

/-- THE TIED CARD OF 'querylablaw08.MeaningGroups'. -/
def meaningGroupsCard : Claim7 := { stood := { row := meaningGroupsRow, standIns := [], harness := (true, "99c31e5e7fe800060cd328e9f8feb0327df292dc31cdf73f4a2e764a23ef275c"), looks := false }, kinds := [], alts := [], laidByText := true, laidKinds := [.data, .data, .data], laidTests := true, laidLooks := .later }
def MeaningGroupsCardSaid : Prop := Claim7.holds Tryz.pinned (.plain (OpenSpec.ofChange meaningGroupsSpec)) meaningGroupsCard

/-- THE SECOND FORM's CARD OF 'querylablaw08.MeaningEvaluates'. -/
def meaningEvaluatesUptoCard : Claim7 := { stood := { row := meaningEvaluatesUptoRow, standIns := [], harness := (true, "99c31e5e7fe800060cd328e9f8feb0327df292dc31cdf73f4a2e764a23ef275c"), looks := false }, kinds := [], alts := [], laidByText := true, laidKinds := [.data, .data, .data], laidTests := true, laidLooks := .later }
def MeaningEvaluatesUptoCardSaid : Prop := Claim7.holds Tryz.pinned (.plain (OpenSpec.upto meaningEvaluatesSpec)) meaningEvaluatesUptoCard

/-- THE SECOND FORM's CARD OF 'querylablaw08.MeaningRaw'. -/
def meaningRawUptoCard : Claim7 := { stood := { row := meaningRawUptoRow, standIns := [], harness := (true, "99c31e5e7fe800060cd328e9f8feb0327df292dc31cdf73f4a2e764a23ef275c"), looks := false }, kinds := [], alts := [], laidByText := true, laidKinds := [.data, .data, .data], laidTests := true, laidLooks := .later }
def MeaningRawUptoCardSaid : Prop := Claim7.holds Tryz.pinned (.plain (OpenSpec.upto meaningRawSpec)) meaningRawUptoCard

/-- THE SECOND FORM's CARD OF 'querylablaw08.MeaningOrder'. -/
def meaningOrderUptoCard : Claim7 := { stood := { row := meaningOrderUptoRow, standIns := [], harness := (true, "99c31e5e7fe800060cd328e9f8feb0327df292dc31cdf73f4a2e764a23ef275c"), looks := false }, kinds := [], alts := [], laidByText := true, laidKinds := [.data, .data, .data], laidTests := true, laidLooks := .later }
def MeaningOrderUptoCardSaid : Prop := Claim7.holds Tryz.pinned (.plain (OpenSpec.upto meaningOrderSpec)) meaningOrderUptoCard

/-- THE SECOND FORM's CARD OF 'querylablaw08.MeaningPartitions'. -/
def meaningPartitionsUptoCard : Claim7 := { stood := { row := meaningPartitionsUptoRow, standIns := [], harness := (true, "99c31e5e7fe800060cd328e9f8feb0327df292dc31cdf73f4a2e764a23ef275c"), looks := false }, kinds := [], alts := [], laidByText := true, laidKinds := [.data, .data, .data], laidTests := true, laidLooks := .later }
def MeaningPartitionsUptoCardSaid : Prop := Claim7.holds Tryz.pinned (.plain (OpenSpec.upto meaningPartitionsSpec)) meaningPartitionsUptoCard

/-- THE SECOND FORM's CARD OF 'querylablaw08.MeaningJoins'. -/
def meaningJoinsUptoCard : Claim7 := { stood := { row := meaningJoinsUptoRow, standIns := [], harness := (true, "99c31e5e7fe800060cd328e9f8feb0327df292dc31cdf73f4a2e764a23ef275c"), looks := false }, kinds := [], alts := [], laidByText := true, laidKinds := [.data, .data, .data], laidTests := true, laidLooks := .later }
def MeaningJoinsUptoCardSaid : Prop := Claim7.holds Tryz.pinned (.plain (OpenSpec.upto meaningJoinsSpec)) meaningJoinsUptoCard

/-- THE SECOND FORM's CARD OF 'querylablaw08.MeaningGroups'. -/
def meaningGroupsUptoCard : Claim7 := { stood := { row := meaningGroupsUptoRow, standIns := [], harness := (true, "99c31e5e7fe800060cd328e9f8feb0327df292dc31cdf73f4a2e764a23ef275c"), looks := false }, kinds := [], alts := [], laidByText := true, laidKinds := [.data, .data, .data], laidTests := true, laidLooks := .later }
def MeaningGroupsUptoCardSaid : Prop := Claim7.holds Tryz.pinned (.plain (OpenSpec.upto meaningGroupsSpec)) meaningGroupsUptoCard
end Rows
end Go.Proofs.YtnmibokjpedkiaaGreatDoor
