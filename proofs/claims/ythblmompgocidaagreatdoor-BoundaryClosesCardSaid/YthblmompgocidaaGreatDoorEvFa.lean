/- Facts over shapes. -/
import Derived.Test.YthblmompgocidaaGreatDoorEvVals
set_option linter.all false
namespace Go.Ev.B
open Go.Proofs
theorem t_erase : okErase CX = true := by kernel_rfl
theorem t_clone : okClone CX = true := by kernel_rfl
theorem t_loose : okLoose CX = true := by kernel_rfl
theorem t_valid : okValid CX = true := by kernel_rfl
theorem t_validC : okValidC CX = true := by kernel_rfl
theorem t_val : okVal CX = true := by kernel_rfl
theorem t_put : okPut CX = true := by kernel_rfl
theorem t_get : okGet CX = true := by kernel_rfl
end Go.Ev.B
