/- A part of the proof. -/
import Derived.Test.YthblmompgocidaaGreatDoorCards
import Derived.KernelRfl
set_option linter.all false
namespace Go.Proofs.YthblmompgocidaaGreatDoor.boundaryCloses
open Go
set_option maxHeartbeats 4000000 in
theorem c4 : false = Tryz.pinned.checked.prog.looks [] := by kernel_rfl
end Go.Proofs.YthblmompgocidaaGreatDoor.boundaryCloses
