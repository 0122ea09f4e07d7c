/- For every pair of numbers, SummaryLengths answers true and leaves its arguments as they read. Conditions: none. -/
import Derived.Test.YtaedechkfmjcnaaGreatDoorEvFacts
set_option linter.all false
namespace Go.Proofs.YtaedechkfmjcnaaGreatDoor.summaryLengths
open Go Go.ChangeShapes Go.WideShapes Go.ChangeAt Go.RowKit Go.WideElems Go.Joins Go.Ev

theorem said : Rows.SummaryLengthsSaid :=
  OpenClaim.holds_of_wide 3 Tryz.f3 rfl rfl rfl rfl rfl rfl rfl ⟨rfl, rfl, rfl, rfl, rfl⟩ rfl rfl rfl rfl rfl named3 Tryz.func3 joined
    inst3 wrap3 (fun os started H enc _ => lifted os started H enc)
end Go.Proofs.YtaedechkfmjcnaaGreatDoor.summaryLengths
