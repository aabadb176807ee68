/-
  DERIVED. GIVEN WITH THE SEED: THE CARDS: each row of YtodoeplhcmecjaaGreatDoorRows.lean that lists a variable, with what it lists TIED to the program's text (the seventh form; the later family's looks); each row that meets fmt, with fmt's text TOLD by the authors' own Lean function (tested against real Go, not proved from fmt's source: count such statements apart). THE CARD IS WHAT COUNTS. Prove the row's statement (the work); the ties are given (YtodoeplhcmecjaaGreatDoorTie.lean); close each card by the builder's one call (the guide's Derived/Test/ToyasCard.lean, 'card_holds'). Laid BY PROGRAM, IN A SANDBOX (cutbox-door.mjs). By AI agents, Wed Nov 11 2026. No macro, syntax, notation, axiom, sorry.
-/
import Derived.Test.YtodoeplhcmecjaaGreatDoorRows
import GoSem.ClaimSeven
namespace Go.Proofs.YtodoeplhcmecjaaGreatDoor
namespace Rows

/-- THE TIED CARD OF 'querylablaw09.IntegrityFinds'. -/
def integrityFindsCard : Claim7 := { stood := { row := integrityFindsRow, standIns := [], harness := (true, "5a8ab032ae00ba02b935e46481fc808eef791da7f312e14f01caa2b3d7c4c153"), looks := false }, kinds := [], alts := [], laidByText := true, laidKinds := [.data, .data, .data, .data, .data], laidTests := true, laidLooks := .later }
def IntegrityFindsCardSaid : Prop := Claim7.holds Tryz.pinned (.plain (OpenSpec.ofChange integrityFindsSpec)) integrityFindsCard

/-- THE TIED CARD OF 'querylablaw09.IntegrityRaw'. -/
def integrityRawCard : Claim7 := { stood := { row := integrityRawRow, standIns := [], harness := (true, "5a8ab032ae00ba02b935e46481fc808eef791da7f312e14f01caa2b3d7c4c153"), looks := false }, kinds := [], alts := [], laidByText := true, laidKinds := [.data, .data, .data, .data, .data], laidTests := true, laidLooks := .later }
def IntegrityRawCardSaid : Prop := Claim7.holds Tryz.pinned (.plain (OpenSpec.ofChange integrityRawSpec)) integrityRawCard

/-- THE TIED CARD OF 'querylablaw09.IntegrityEmpty'. -/
def integrityEmptyCard : Claim7 := { stood := { row := integrityEmptyRow, standIns := [], harness := (true, "5a8ab032ae00ba02b935e46481fc808eef791da7f312e14f01caa2b3d7c4c153"), looks := false }, kinds := [], alts := [], laidByText := true, laidKinds := [.data, .data, .data, .data, .data], laidTests := true, laidLooks := .later }
def IntegrityEmptyCardSaid : Prop := Claim7.holds Tryz.pinned (.plain (OpenSpec.ofChange integrityEmptySpec)) integrityEmptyCard

/-- THE TIED CARD OF 'querylablaw09.IntegrityGood'. -/
def integrityGoodCard : Claim7 := { stood := { row := integrityGoodRow, standIns := [], harness := (true, "5a8ab032ae00ba02b935e46481fc808eef791da7f312e14f01caa2b3d7c4c153"), looks := false }, kinds := [], alts := [], laidByText := true, laidKinds := [.data, .data, .data, .data, .data], laidTests := true, laidLooks := .later }
def IntegrityGoodCardSaid : Prop := Claim7.holds Tryz.pinned (.plain (OpenSpec.ofChange integrityGoodSpec)) integrityGoodCard

/-- THE TIED CARD OF 'querylablaw09.IntegrityOrder'. -/
def integrityOrderCard : Claim7 := { stood := { row := integrityOrderRow, standIns := [], harness := (true, "5a8ab032ae00ba02b935e46481fc808eef791da7f312e14f01caa2b3d7c4c153"), looks := false }, kinds := [], alts := [], laidByText := true, laidKinds := [.data, .data, .data, .data, .data], laidTests := true, laidLooks := .later }
def IntegrityOrderCardSaid : Prop := Claim7.holds Tryz.pinned (.plain (OpenSpec.ofChange integrityOrderSpec)) integrityOrderCard

/-- THE SECOND FORM's CARD OF 'querylablaw09.IntegrityFinds'. -/
def integrityFindsUptoCard : Claim7 := { stood := { row := integrityFindsUptoRow, standIns := [], harness := (true, "5a8ab032ae00ba02b935e46481fc808eef791da7f312e14f01caa2b3d7c4c153"), looks := false }, kinds := [], alts := [], laidByText := true, laidKinds := [.data, .data, .data, .data, .data], laidTests := true, laidLooks := .later }
def IntegrityFindsUptoCardSaid : Prop := Claim7.holds Tryz.pinned (.plain (OpenSpec.upto integrityFindsSpec)) integrityFindsUptoCard

/-- THE SECOND FORM's CARD OF 'querylablaw09.IntegrityRaw'. -/
def integrityRawUptoCard : Claim7 := { stood := { row := integrityRawUptoRow, standIns := [], harness := (true, "5a8ab032ae00ba02b935e46481fc808eef791da7f312e14f01caa2b3d7c4c153"), looks := false }, kinds := [], alts := [], laidByText := true, laidKinds := [.data, .data, .data, .data, .data], laidTests := true, laidLooks := .later }
def IntegrityRawUptoCardSaid : Prop := Claim7.holds Tryz.pinned (.plain (OpenSpec.upto integrityRawSpec)) integrityRawUptoCard

/-- THE SECOND FORM's CARD OF 'querylablaw09.IntegrityEmpty'. -/
def integrityEmptyUptoCard : Claim7 := { stood := { row := integrityEmptyUptoRow, standIns := [], harness := (true, "5a8ab032ae00ba02b935e46481fc808eef791da7f312e14f01caa2b3d7c4c153"), looks := false }, kinds := [], alts := [], laidByText := true, laidKinds := [.data, .data, .data, .data, .data], laidTests := true, laidLooks := .later }
def IntegrityEmptyUptoCardSaid : Prop := Claim7.holds Tryz.pinned (.plain (OpenSpec.upto integrityEmptySpec)) integrityEmptyUptoCard

/-- THE SECOND FORM's CARD OF 'querylablaw09.IntegrityGood'. -/
def integrityGoodUptoCard : Claim7 := { stood := { row := integrityGoodUptoRow, standIns := [], harness := (true, "5a8ab032ae00ba02b935e46481fc808eef791da7f312e14f01caa2b3d7c4c153"), looks := false }, kinds := [], alts := [], laidByText := true, laidKinds := [.data, .data, .data, .data, .data], laidTests := true, laidLooks := .later }
def IntegrityGoodUptoCardSaid : Prop := Claim7.holds Tryz.pinned (.plain (OpenSpec.upto integrityGoodSpec)) integrityGoodUptoCard

/-- THE SECOND FORM's CARD OF 'querylablaw09.IntegrityOrder'. -/
def integrityOrderUptoCard : Claim7 := { stood := { row := integrityOrderUptoRow, standIns := [], harness := (true, "5a8ab032ae00ba02b935e46481fc808eef791da7f312e14f01caa2b3d7c4c153"), looks := false }, kinds := [], alts := [], laidByText := true, laidKinds := [.data, .data, .data, .data, .data], laidTests := true, laidLooks := .later }
def IntegrityOrderUptoCardSaid : Prop := Claim7.holds Tryz.pinned (.plain (OpenSpec.upto integrityOrderSpec)) integrityOrderUptoCard
end Rows
end Go.Proofs.YtodoeplhcmecjaaGreatDoor
