/-
  DERIVED. GIVEN WITH THE SEED: THE CARDS: each row of YtampbaaiddbacaaGreatDoorRows.lean that lists a variable, with what it lists TIED to the program's text (the seventh form; the later family's looks); each row that meets fmt, with fmt's text TOLD by the authors' own Lean function (tested against real Go, not proved from fmt's source: count such statements apart). THE CARD IS WHAT COUNTS. Prove the row's statement (the work); the ties are given (YtampbaaiddbacaaGreatDoorTie.lean); close each card by the builder's one call (the guide's Derived/Test/ToyasCard.lean, 'card_holds'). Laid BY PROGRAM, IN A SANDBOX (cutbox-door.mjs). By AI agents, Wed Nov 11 2026. No macro, syntax, notation, axiom, sorry.
-/
import Derived.Test.YtampbaaiddbacaaGreatDoorRows
import GoSem.ClaimSeven
namespace Go.Proofs.YtampbaaiddbacaaGreatDoor
namespace Rows

/-- THE TIED CARD OF 'querylablaw32.RandomPrefix'. -/
def randomPrefixCard : Claim7 := { stood := { row := randomPrefixRow, standIns := [], harness := (true, "b5947bc6d3d3c419f2e3af056b7c4f0a8e0abd1c90f30d2d8cb433bcc460adcc"), looks := false }, kinds := [], alts := [], laidByText := true, laidKinds := [.data, .data, .data, .data, .data], laidTests := true, laidLooks := .later }
def RandomPrefixCardSaid : Prop := Claim7.holds Tryz.pinned (.plain (OpenSpec.ofChange randomPrefixSpec)) randomPrefixCard

/-- THE TIED CARD OF 'querylablaw32.RandomValid'. -/
def randomValidCard : Claim7 := { stood := { row := randomValidRow, standIns := [], harness := (true, "b5947bc6d3d3c419f2e3af056b7c4f0a8e0abd1c90f30d2d8cb433bcc460adcc"), looks := false }, kinds := [], alts := [], laidByText := true, laidKinds := [.data, .data, .data, .data, .data, .data], laidTests := true, laidLooks := .later }
def RandomValidCardSaid : Prop := Claim7.holds Tryz.pinned (.plain (OpenSpec.ofChange randomValidSpec)) randomValidCard

/-- THE TIED CARD OF 'querylablaw32.RandomAnswers'. -/
def randomAnswersCard : Claim7 := { stood := { row := randomAnswersRow, standIns := [], harness := (true, "b5947bc6d3d3c419f2e3af056b7c4f0a8e0abd1c90f30d2d8cb433bcc460adcc"), looks := false }, kinds := [], alts := [], laidByText := true, laidKinds := [.data, .data, .data, .data, .data, .data], laidTests := true, laidLooks := .later }
def RandomAnswersCardSaid : Prop := Claim7.holds Tryz.pinned (.plain (OpenSpec.ofChange randomAnswersSpec)) randomAnswersCard

/-- THE SECOND FORM's CARD OF 'querylablaw32.RandomPrefix'. -/
def randomPrefixUptoCard : Claim7 := { stood := { row := randomPrefixUptoRow, standIns := [], harness := (true, "b5947bc6d3d3c419f2e3af056b7c4f0a8e0abd1c90f30d2d8cb433bcc460adcc"), looks := false }, kinds := [], alts := [], laidByText := true, laidKinds := [.data, .data, .data, .data, .data], laidTests := true, laidLooks := .later }
def RandomPrefixUptoCardSaid : Prop := Claim7.holds Tryz.pinned (.plain (OpenSpec.upto randomPrefixSpec)) randomPrefixUptoCard

/-- THE SECOND FORM's CARD OF 'querylablaw32.RandomValid'. -/
def randomValidUptoCard : Claim7 := { stood := { row := randomValidUptoRow, standIns := [], harness := (true, "b5947bc6d3d3c419f2e3af056b7c4f0a8e0abd1c90f30d2d8cb433bcc460adcc"), looks := false }, kinds := [], alts := [], laidByText := true, laidKinds := [.data, .data, .data, .data, .data, .data], laidTests := true, laidLooks := .later }
def RandomValidUptoCardSaid : Prop := Claim7.holds Tryz.pinned (.plain (OpenSpec.upto randomValidSpec)) randomValidUptoCard

/-- THE SECOND FORM's CARD OF 'querylablaw32.RandomAnswers'. -/
def randomAnswersUptoCard : Claim7 := { stood := { row := randomAnswersUptoRow, standIns := [], harness := (true, "b5947bc6d3d3c419f2e3af056b7c4f0a8e0abd1c90f30d2d8cb433bcc460adcc"), looks := false }, kinds := [], alts := [], laidByText := true, laidKinds := [.data, .data, .data, .data, .data, .data], laidTests := true, laidLooks := .later }
def RandomAnswersUptoCardSaid : Prop := Claim7.holds Tryz.pinned (.plain (OpenSpec.upto randomAnswersSpec)) randomAnswersUptoCard
end Rows
end Go.Proofs.YtampbaaiddbacaaGreatDoor
