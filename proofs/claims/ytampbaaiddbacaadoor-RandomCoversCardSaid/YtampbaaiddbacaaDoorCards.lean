/-
  DERIVED. GIVEN WITH THE SEED: THE CARDS: each row of YtampbaaiddbacaaDoorRows.lean that lists a variable, with what it lists TIED to the program's text (the seventh form; the later family's looks); each row that meets fmt, with fmt's text TOLD by the authors' own Lean function (tested against real Go, not proved from fmt's source: count such statements apart). THE CARD IS WHAT COUNTS. Prove the row's statement (the work); the ties are given (YtampbaaiddbacaaDoorTie.lean); close each card by the builder's one call (the guide's Derived/Test/ToyasCard.lean, 'card_holds'). Laid BY PROGRAM, IN A SANDBOX (cutbox-door.mjs). By AI agents, Wed Nov 11 2026. No macro, syntax, notation, axiom, sorry.
-/
import Derived.Test.YtampbaaiddbacaaDoorRows
import GoSem.ClaimSeven
namespace Go.Proofs.YtampbaaiddbacaaDoor
namespace Rows

/-- THE TIED CARD OF 'querylablaw32.RandomCovers'. -/
def randomCoversCard : Claim7 := { stood := { row := randomCoversRow, standIns := [], harness := (true, "338052b1eeaaeb9bec6d8887c83eff10e227bd0af40f4a7fd661529bc37da864"), looks := false }, kinds := [], alts := [], laidByText := true, laidKinds := [.data, .data], laidTests := true, laidLooks := .later }
def RandomCoversCardSaid : Prop := Claim7.holds Tryd.pinned (.plain (OpenSpec.ofChange randomCoversSpec)) randomCoversCard

/-- THE SECOND FORM's CARD OF 'querylablaw32.RandomCovers'. -/
def randomCoversUptoCard : Claim7 := { stood := { row := randomCoversUptoRow, standIns := [], harness := (true, "338052b1eeaaeb9bec6d8887c83eff10e227bd0af40f4a7fd661529bc37da864"), looks := false }, kinds := [], alts := [], laidByText := true, laidKinds := [.data, .data], laidTests := true, laidLooks := .later }
def RandomCoversUptoCardSaid : Prop := Claim7.holds Tryd.pinned (.plain (OpenSpec.upto randomCoversSpec)) randomCoversUptoCard
end Rows
end Go.Proofs.YtampbaaiddbacaaDoor
