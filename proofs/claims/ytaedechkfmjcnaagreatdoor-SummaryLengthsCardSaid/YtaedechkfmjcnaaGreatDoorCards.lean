/-
  DERIVED. GIVEN WITH THE SEED: THE CARDS: each row of YtaedechkfmjcnaaGreatDoorRows.lean that lists a variable, with what it lists TIED to the program's text (the seventh form; the later family's looks); each row that meets fmt, with fmt's text TOLD by the authors' own Lean function (tested against real Go, not proved from fmt's source: count such statements apart). THE CARD IS WHAT COUNTS. Prove the row's statement (the work); the ties are given (YtaedechkfmjcnaaGreatDoorTie.lean); close each card by the builder's one call (the guide's Derived/Test/ToyasCard.lean, 'card_holds'). Laid BY PROGRAM, IN A SANDBOX (cutbox-door.mjs). By AI agents, Wed Nov 11 2026. No macro, syntax, notation, axiom, sorry.
-/
import Derived.Test.YtaedechkfmjcnaaGreatDoorRows
import GoSem.ClaimSeven
namespace Go.Proofs.YtaedechkfmjcnaaGreatDoor
namespace Rows

/-- THE TIED CARD OF 'semtypelaw36.SummaryLengths'. -/
def summaryLengthsCard : Claim7 := { stood := { row := summaryLengthsRow, standIns := [], harness := (true, "a43d06fcfd468dadabda8d459e3cb75d83279b2a4ad40dfb02c2625ab172db75"), looks := false }, kinds := [], alts := [], laidByText := true, laidKinds := [.data, .data, .data], laidTests := true, laidLooks := .later }
def SummaryLengthsCardSaid : Prop := Claim7.holds Tryz.pinned (.plain (OpenSpec.ofChange summaryLengthsSpec)) summaryLengthsCard

/-- THE SECOND FORM's CARD OF 'semtypelaw36.SummaryLengths'. -/
def summaryLengthsUptoCard : Claim7 := { stood := { row := summaryLengthsUptoRow, standIns := [], harness := (true, "a43d06fcfd468dadabda8d459e3cb75d83279b2a4ad40dfb02c2625ab172db75"), looks := false }, kinds := [], alts := [], laidByText := true, laidKinds := [.data, .data, .data], laidTests := true, laidLooks := .later }
def SummaryLengthsUptoCardSaid : Prop := Claim7.holds Tryz.pinned (.plain (OpenSpec.upto summaryLengthsSpec)) summaryLengthsUptoCard
end Rows
end Go.Proofs.YtaedechkfmjcnaaGreatDoor
