/- The listed variables read as listed in the heap that the program's own run leaves. -/
import Derived.Test.YthblmompgocidaaGreatDoorRows
import Derived.WalkKit
import Derived.ProofKit
import Derived.OpenShut
import Derived.Carry
import Derived.LaidMore
import Derived.Stop.Joined
import Derived.Lib.SmallJoins
set_option linter.all false
namespace Go.Proofs.YthblmompgocidaaGreatDoor.boundaryCloses
open Go Go.ChangeShapes Go.WideShapes Go.ChangeAt Go.RowKit Go.WideElems Go.Joins

/-! ### the row -/
abbrev laid3 : List (String × DataW Unit) := Rows.boundaryClosesRow.laid
theorem own : ownKnob Tryz.prog.godebug = none := by kernel_rfl
theorem laidOut : laidOutB Tryz.prog = true := by kernel_rfl
set_option maxRecDepth 100000 in
theorem door_met (os : Os) (args : Array Value) : laidMetH Tryz.prog laid3 ((World.doorLaid Tryz.prog 24 os).forCall (fun _ _ => 0) ⟨#[], args, []⟩).memory :=
  laidMetH_of_parts3 (fuel := 65) (laidMet_of_run' 8 (by kernel_rfl) (by kernel_rfl)) (by kernel_rfl) (by kernel_rfl)

end Go.Proofs.YthblmompgocidaaGreatDoor.boundaryCloses
