/-
  DERIVED. GIVEN WITH THE SEED: THE CARDS: each row of YthblmompgocidaaGreatDoorRows.lean that lists a variable, with what it lists TIED to the program's text (the seventh form; the later family's looks); each row that meets fmt, with fmt's text TOLD by the authors' own Lean function (tested against real Go, not proved from fmt's source: count such statements apart). THE CARD IS WHAT COUNTS. Prove the row's statement (the work); the ties are given (YthblmompgocidaaGreatDoorTie.lean); close each card by the builder's one call (the guide's Derived/Test/ToyasCard.lean, 'card_holds'). Laid BY PROGRAM, IN A SANDBOX (cutbox-door.mjs). By AI agents, Wed Nov 11 2026. No macro, syntax, notation, axiom, sorry.
-/
import Derived.Test.YthblmompgocidaaGreatDoorRows
import GoSem.ClaimSeven
namespace Go.Proofs.YthblmompgocidaaGreatDoor
namespace Rows

/-- THE TIED CARD OF 'semtypelaw42.BoundaryCloses'. -/
def boundaryClosesCard : Claim7 := { stood := { row := boundaryClosesRow, standIns := [], harness := (true, "6280ce0682974d60f53bbc44c082fcfd00effc2389ab624256ca5dce7bcfad1f"), looks := false }, kinds := [], alts := [], laidByText := true, laidKinds := [.data, .data, .data], laidTests := true, laidLooks := .later }
def BoundaryClosesCardSaid : Prop := Claim7.holds Tryz.pinned (.plain (OpenSpec.ofChange boundaryClosesSpec)) boundaryClosesCard

/-- THE SECOND FORM's CARD OF 'semtypelaw42.BoundaryCloses'. -/
def boundaryClosesUptoCard : Claim7 := { stood := { row := boundaryClosesUptoRow, standIns := [], harness := (true, "6280ce0682974d60f53bbc44c082fcfd00effc2389ab624256ca5dce7bcfad1f"), looks := false }, kinds := [], alts := [], laidByText := true, laidKinds := [.data, .data, .data], laidTests := true, laidLooks := .later }
def BoundaryClosesUptoCardSaid : Prop := Claim7.holds Tryz.pinned (.plain (OpenSpec.upto boundaryClosesSpec)) boundaryClosesUptoCard
end Rows
end Go.Proofs.YthblmompgocidaaGreatDoor
