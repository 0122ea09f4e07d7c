/- Facts over shapes. -/
import Derived.Test.YthblmompgocidaaGreatDoorEvVals
set_option linter.all false
namespace Go.Ev.B
open Go.Proofs
theorem t_has0 : okHas CX 0 = true := by kernel_rfl
theorem t_hasU0 : okHasU CX 0 = true := by kernel_rfl
theorem t_has1 : okHas CX 1 = true := by kernel_rfl
theorem t_hasU1 : okHasU CX 1 = true := by kernel_rfl
theorem t_has2 : okHas CX 2 = true := by kernel_rfl
theorem t_hasU2 : okHasU CX 2 = true := by kernel_rfl
theorem t_has3 : okHas CX 3 = true := by kernel_rfl
theorem t_hasU3 : okHasU CX 3 = true := by kernel_rfl
theorem t_has4 : okHas CX 4 = true := by kernel_rfl
theorem t_hasU4 : okHasU CX 4 = true := by kernel_rfl
theorem t_has5 : okHas CX 5 = true := by kernel_rfl
theorem t_hasU5 : okHasU CX 5 = true := by kernel_rfl
theorem t_has6 : okHas CX 6 = true := by kernel_rfl
theorem t_hasU6 : okHasU CX 6 = true := by kernel_rfl
theorem t_has7 : okHas CX 7 = true := by kernel_rfl
theorem t_hasU7 : okHasU CX 7 = true := by kernel_rfl
end Go.Ev.B
