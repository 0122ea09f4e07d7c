/- Facts over shapes. -/
import Derived.Test.YthblmompgocidaaGreatDoorEvVals
set_option linter.all false
/- Facts over shapes. -/
namespace Go.Ev.B
open Go.Proofs
theorem t_nearz_0 : ((reach 0).all fun k => okNear0 CT 0 k) = true := by kernel_rfl
theorem t_near0_1 : ((reach 0).all fun k => okNear CT 0 k 1) = true := by kernel_rfl
theorem t_near0_2 : ((reach 0).all fun k => okNear CT 0 k 2) = true := by kernel_rfl
theorem t_near0_3 : ((reach 0).all fun k => okNear CT 0 k 3) = true := by kernel_rfl
theorem t_near0_4 : ((reach 0).all fun k => okNear CT 0 k 4) = true := by kernel_rfl
end Go.Ev.B

/- Facts over shapes. -/
namespace Go.Ev.B
open Go.Proofs
theorem t_nearz_1 : ((reach 1).all fun k => okNear0 CT 1 k) = true := by kernel_rfl
theorem t_near1_1 : ((reach 1).all fun k => okNear CT 1 k 1) = true := by kernel_rfl
theorem t_near1_2 : ((reach 1).all fun k => okNear CT 1 k 2) = true := by kernel_rfl
theorem t_near1_3 : ((reach 1).all fun k => okNear CT 1 k 3) = true := by kernel_rfl
theorem t_near1_4 : ((reach 1).all fun k => okNear CT 1 k 4) = true := by kernel_rfl
end Go.Ev.B

/- Facts over shapes. -/
namespace Go.Ev.B
open Go.Proofs
theorem t_nearz_2 : ((reach 2).all fun k => okNear0 CT 2 k) = true := by kernel_rfl
theorem t_near2_1 : ((reach 2).all fun k => okNear CT 2 k 1) = true := by kernel_rfl
theorem t_near2_2 : ((reach 2).all fun k => okNear CT 2 k 2) = true := by kernel_rfl
theorem t_near2_3 : ((reach 2).all fun k => okNear CT 2 k 3) = true := by kernel_rfl
theorem t_near2_4 : ((reach 2).all fun k => okNear CT 2 k 4) = true := by kernel_rfl
end Go.Ev.B

/- Facts over shapes. -/
namespace Go.Ev.B
open Go.Proofs
theorem t_nearz_3 : ((reach 3).all fun k => okNear0 CT 3 k) = true := by kernel_rfl
theorem t_near3_1 : ((reach 3).all fun k => okNear CT 3 k 1) = true := by kernel_rfl
theorem t_near3_2 : ((reach 3).all fun k => okNear CT 3 k 2) = true := by kernel_rfl
theorem t_near3_3 : ((reach 3).all fun k => okNear CT 3 k 3) = true := by kernel_rfl
theorem t_near3_4 : ((reach 3).all fun k => okNear CT 3 k 4) = true := by kernel_rfl
end Go.Ev.B
