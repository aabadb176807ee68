/-
  DERIVED. GIVEN WITH THE SEED: THE CARDS: each row of YtiagabnddihchaaGreatDoorRows.lean that lists a variable, with what it lists TIED to the program's text (the seventh form; the later family's looks); each row that meets fmt, with fmt's text TOLD by the authors' own Lean function (tested against real Go, not proved from fmt's source: count such statements apart). THE CARD IS WHAT COUNTS. Prove the row's statement (the work); the ties are given (YtiagabnddihchaaGreatDoorTie.lean); close each card by the builder's one call (the guide's Derived/Test/ToyasCard.lean, 'card_holds'). Laid BY PROGRAM, IN A SANDBOX (cutbox-door.mjs). By AI agents, Wed Nov 11 2026. No macro, syntax, notation, axiom, sorry.
-/
import Derived.Test.YtiagabnddihchaaGreatDoorRows
import GoSem.ClaimSeven
namespace Go.Proofs.YtiagabnddihchaaGreatDoor
namespace Rows

/-- THE TIED CARD OF 'querylablaw23.ConditionDecides'. -/
def conditionDecidesCard : Claim7 := { stood := { row := conditionDecidesRow, standIns := [], harness := (true, "6757cc4831b5606286dcbefba24a185436d678f892efae1faf51d741b33f2066"), looks := false }, kinds := [], alts := [], laidByText := true, laidKinds := [.data, .data], laidTests := true, laidLooks := .later }
def ConditionDecidesCardSaid : Prop := Claim7.holds Tryz.pinned (.plain (OpenSpec.ofChange conditionDecidesSpec)) conditionDecidesCard

/-- THE TIED CARD OF 'querylablaw23.ConditionLogic'. -/
def conditionLogicCard : Claim7 := { stood := { row := conditionLogicRow, standIns := [], harness := (true, "6757cc4831b5606286dcbefba24a185436d678f892efae1faf51d741b33f2066"), looks := false }, kinds := [], alts := [], laidByText := true, laidKinds := [.data, .data], laidTests := true, laidLooks := .later }
def ConditionLogicCardSaid : Prop := Claim7.holds Tryz.pinned (.plain (OpenSpec.ofChange conditionLogicSpec)) conditionLogicCard

/-- THE TIED CARD OF 'querylablaw23.ConditionRelevant'. -/
def conditionRelevantCard : Claim7 := { stood := { row := conditionRelevantRow, standIns := [], harness := (true, "6757cc4831b5606286dcbefba24a185436d678f892efae1faf51d741b33f2066"), looks := false }, kinds := [], alts := [], laidByText := true, laidKinds := [.data, .data], laidTests := true, laidLooks := .later }
def ConditionRelevantCardSaid : Prop := Claim7.holds Tryz.pinned (.plain (OpenSpec.ofChange conditionRelevantSpec)) conditionRelevantCard

/-- THE TIED CARD OF 'querylablaw23.ConditionFolds'. -/
def conditionFoldsCard : Claim7 := { stood := { row := conditionFoldsRow, standIns := [], harness := (true, "6757cc4831b5606286dcbefba24a185436d678f892efae1faf51d741b33f2066"), looks := false }, kinds := [], alts := [], laidByText := true, laidKinds := [.data, .data], laidTests := true, laidLooks := .later }
def ConditionFoldsCardSaid : Prop := Claim7.holds Tryz.pinned (.plain (OpenSpec.ofChange conditionFoldsSpec)) conditionFoldsCard

/-- THE TIED CARD OF 'querylablaw23.ConditionAnswers'. -/
def conditionAnswersCard : Claim7 := { stood := { row := conditionAnswersRow, standIns := [], harness := (true, "6757cc4831b5606286dcbefba24a185436d678f892efae1faf51d741b33f2066"), looks := false }, kinds := [], alts := [], laidByText := true, laidKinds := [.data, .data], laidTests := true, laidLooks := .later }
def ConditionAnswersCardSaid : Prop := Claim7.holds Tryz.pinned (.plain (OpenSpec.ofChange conditionAnswersSpec)) conditionAnswersCard

/-- THE SECOND FORM's CARD OF 'querylablaw23.ConditionDecides'. -/
def conditionDecidesUptoCard : Claim7 := { stood := { row := conditionDecidesUptoRow, standIns := [], harness := (true, "6757cc4831b5606286dcbefba24a185436d678f892efae1faf51d741b33f2066"), looks := false }, kinds := [], alts := [], laidByText := true, laidKinds := [.data, .data], laidTests := true, laidLooks := .later }
def ConditionDecidesUptoCardSaid : Prop := Claim7.holds Tryz.pinned (.plain (OpenSpec.upto conditionDecidesSpec)) conditionDecidesUptoCard

/-- THE SECOND FORM's CARD OF 'querylablaw23.ConditionLogic'. -/
def conditionLogicUptoCard : Claim7 := { stood := { row := conditionLogicUptoRow, standIns := [], harness := (true, "6757cc4831b5606286dcbefba24a185436d678f892efae1faf51d741b33f2066"), looks := false }, kinds := [], alts := [], laidByText := true, laidKinds := [.data, .data], laidTests := true, laidLooks := .later }
def ConditionLogicUptoCardSaid : Prop := Claim7.holds Tryz.pinned (.plain (OpenSpec.upto conditionLogicSpec)) conditionLogicUptoCard

/-- THE SECOND FORM's CARD OF 'querylablaw23.ConditionRelevant'. -/
def conditionRelevantUptoCard : Claim7 := { stood := { row := conditionRelevantUptoRow, standIns := [], harness := (true, "6757cc4831b5606286dcbefba24a185436d678f892efae1faf51d741b33f2066"), looks := false }, kinds := [], alts := [], laidByText := true, laidKinds := [.data, .data], laidTests := true, laidLooks := .later }
def ConditionRelevantUptoCardSaid : Prop := Claim7.holds Tryz.pinned (.plain (OpenSpec.upto conditionRelevantSpec)) conditionRelevantUptoCard

/-- THE SECOND FORM's CARD OF 'querylablaw23.ConditionFolds'. -/
def conditionFoldsUptoCard : Claim7 := { stood := { row := conditionFoldsUptoRow, standIns := [], harness := (true, "6757cc4831b5606286dcbefba24a185436d678f892efae1faf51d741b33f2066"), looks := false }, kinds := [], alts := [], laidByText := true, laidKinds := [.data, .data], laidTests := true, laidLooks := .later }
def ConditionFoldsUptoCardSaid : Prop := Claim7.holds Tryz.pinned (.plain (OpenSpec.upto conditionFoldsSpec)) conditionFoldsUptoCard

/-- THE SECOND FORM's CARD OF 'querylablaw23.ConditionAnswers'. -/
def conditionAnswersUptoCard : Claim7 := { stood := { row := conditionAnswersUptoRow, standIns := [], harness := (true, "6757cc4831b5606286dcbefba24a185436d678f892efae1faf51d741b33f2066"), looks := false }, kinds := [], alts := [], laidByText := true, laidKinds := [.data, .data], laidTests := true, laidLooks := .later }
def ConditionAnswersUptoCardSaid : Prop := Claim7.holds Tryz.pinned (.plain (OpenSpec.upto conditionAnswersSpec)) conditionAnswersUptoCard
end Rows
end Go.Proofs.YtiagabnddihchaaGreatDoor
