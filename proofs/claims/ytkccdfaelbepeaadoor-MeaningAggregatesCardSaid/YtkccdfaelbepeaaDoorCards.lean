/-
  DERIVED. GIVEN WITH THE SEED: THE CARDS: each row of YtkccdfaelbepeaaDoorRows.lean that lists a variable, with what it lists TIED to the program's text (the seventh form; the later family's looks); each row that meets fmt, with fmt's text TOLD by the authors' own Lean function (tested against real Go, not proved from fmt's source: count such statements apart). THE CARD IS WHAT COUNTS. Prove the row's statement (the work); the ties are given (YtkccdfaelbepeaaDoorTie.lean); close each card by the builder's one call (the guide's Derived/Test/ToyasCard.lean, 'card_holds'). Laid BY PROGRAM, IN A SANDBOX (cutbox-door.mjs). By AI agents, Wed Nov 11 2026. No macro, syntax, notation, axiom, sorry.
-/
import Derived.Test.YtkccdfaelbepeaaDoorRows
import GoSem.ClaimSeven
namespace Go.Proofs.YtkccdfaelbepeaaDoor
namespace Rows

/-- THE TIED CARD OF 'querylablaw08.MeaningFits'. -/
def meaningFitsCard : Claim7 := { stood := { row := meaningFitsRow, standIns := [], harness := (true, "029320a2740ca7cf77510986b2efacf99414d13067977350b90deb1695b0cd63"), looks := false }, kinds := [], alts := [], laidByText := true, laidKinds := [.data], laidTests := true, laidLooks := .later }
def MeaningFitsCardSaid : Prop := Claim7.holds Tryd.pinned (.plain (OpenSpec.ofChange meaningFitsSpec)) meaningFitsCard

/-- THE TIED CARD OF 'querylablaw08.MeaningAggregates'. -/
def meaningAggregatesCard : Claim7 := { stood := { row := meaningAggregatesRow, standIns := [], harness := (true, "029320a2740ca7cf77510986b2efacf99414d13067977350b90deb1695b0cd63"), looks := false }, kinds := [], alts := [], laidByText := true, laidKinds := [.data, .data], laidTests := true, laidLooks := .later }
def MeaningAggregatesCardSaid : Prop := Claim7.holds Tryd.pinned (.plain (OpenSpec.ofChange meaningAggregatesSpec)) meaningAggregatesCard

/-- THE SECOND FORM's CARD OF 'querylablaw08.MeaningFits'. -/
def meaningFitsUptoCard : Claim7 := { stood := { row := meaningFitsUptoRow, standIns := [], harness := (true, "029320a2740ca7cf77510986b2efacf99414d13067977350b90deb1695b0cd63"), looks := false }, kinds := [], alts := [], laidByText := true, laidKinds := [.data], laidTests := true, laidLooks := .later }
def MeaningFitsUptoCardSaid : Prop := Claim7.holds Tryd.pinned (.plain (OpenSpec.upto meaningFitsSpec)) meaningFitsUptoCard

/-- THE SECOND FORM's CARD OF 'querylablaw08.MeaningAggregates'. -/
def meaningAggregatesUptoCard : Claim7 := { stood := { row := meaningAggregatesUptoRow, standIns := [], harness := (true, "029320a2740ca7cf77510986b2efacf99414d13067977350b90deb1695b0cd63"), looks := false }, kinds := [], alts := [], laidByText := true, laidKinds := [.data, .data], laidTests := true, laidLooks := .later }
def MeaningAggregatesUptoCardSaid : Prop := Claim7.holds Tryd.pinned (.plain (OpenSpec.upto meaningAggregatesSpec)) meaningAggregatesUptoCard
end Rows
end Go.Proofs.YtkccdfaelbepeaaDoor
