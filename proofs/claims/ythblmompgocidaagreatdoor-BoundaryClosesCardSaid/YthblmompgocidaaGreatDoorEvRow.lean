/- For every number and list of numbers, BoundaryCloses answers true and leaves its arguments as they read. Conditions: none. -/
import Derived.Test.YthblmompgocidaaGreatDoorEvLift
import Derived.Test.YthblmompgocidaaGreatDoorEvFacts
set_option linter.all false
namespace Go.Proofs.YthblmompgocidaaGreatDoor.boundaryCloses
open Go Go.ChangeShapes Go.WideShapes Go.ChangeAt Go.RowKit Go.WideElems Go.Joins Go.Ev

theorem said : Rows.BoundaryClosesSaid :=
  OpenClaim.holds_of_wide 3 Tryz.f3 rfl rfl rfl rfl rfl rfl rfl ⟨rfl, rfl, rfl, rfl, rfl⟩ rfl rfl rfl rfl rfl (by as_aux_lemma => kernel_rfl) Tryz.func3 joined
    inst3 wrap3 (fun os started H enc _ => lifted os started H enc)
end Go.Proofs.YthblmompgocidaaGreatDoor.boundaryCloses
