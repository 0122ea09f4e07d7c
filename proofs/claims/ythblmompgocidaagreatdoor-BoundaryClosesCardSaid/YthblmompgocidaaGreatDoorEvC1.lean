/- A part of the proof. -/
import Derived.Test.YthblmompgocidaaGreatDoorCards
import Derived.KernelRfl
set_option linter.all false
namespace Go.Proofs.YthblmompgocidaaGreatDoor.boundaryCloses
open Go
set_option maxHeartbeats 4000000 in
theorem c1 : Rows.boundaryClosesRow.wfByText (OpenSpec.ofChange Rows.boundaryClosesSpec) = true := by kernel_rfl
end Go.Proofs.YthblmompgocidaaGreatDoor.boundaryCloses

namespace Go.Proofs.YthblmompgocidaaGreatDoor.boundaryCloses
open Go
set_option maxHeartbeats 4000000 in
theorem c2 : Tryz.pinned.checked.prog.mainIs = some (true, "6280ce0682974d60f53bbc44c082fcfd00effc2389ab624256ca5dce7bcfad1f".toList) := by kernel_rfl
end Go.Proofs.YthblmompgocidaaGreatDoor.boundaryCloses

namespace Go.Proofs.YthblmompgocidaaGreatDoor.boundaryCloses
open Go
set_option maxHeartbeats 4000000 in
theorem c5 : ([3, 22].all fun u => !Tryz.prog.wantsStandIn u) = true := by kernel_rfl
end Go.Proofs.YthblmompgocidaaGreatDoor.boundaryCloses
