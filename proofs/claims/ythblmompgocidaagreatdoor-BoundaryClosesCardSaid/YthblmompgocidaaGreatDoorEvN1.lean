/- Facts over shapes. -/
import Derived.Test.YthblmompgocidaaGreatDoorEvVals
set_option linter.all false
/- Facts over shapes. -/
namespace Go.Ev.B
open Go.Proofs
theorem t_nearz_4 : ((reach 4).all fun k => okNear0 CT 4 k) = true := by kernel_rfl
theorem t_near4_1 : ((reach 4).all fun k => okNear CT 4 k 1) = true := by kernel_rfl
theorem t_near4_2 : ((reach 4).all fun k => okNear CT 4 k 2) = true := by kernel_rfl
theorem t_near4_3 : ((reach 4).all fun k => okNear CT 4 k 3) = true := by kernel_rfl
theorem t_near4_4 : ((reach 4).all fun k => okNear CT 4 k 4) = true := by kernel_rfl
end Go.Ev.B

/- Facts over shapes. -/
namespace Go.Ev.B
open Go.Proofs
theorem t_nearz_5 : ((reach 5).all fun k => okNear0 CT 5 k) = true := by kernel_rfl
theorem t_near5_1 : ((reach 5).all fun k => okNear CT 5 k 1) = true := by kernel_rfl
theorem t_near5_2 : ((reach 5).all fun k => okNear CT 5 k 2) = true := by kernel_rfl
theorem t_near5_3 : ((reach 5).all fun k => okNear CT 5 k 3) = true := by kernel_rfl
theorem t_near5_4 : ((reach 5).all fun k => okNear CT 5 k 4) = true := by kernel_rfl
end Go.Ev.B

/- Facts over shapes. -/
namespace Go.Ev.B
open Go.Proofs
theorem t_nearz_6 : ((reach 6).all fun k => okNear0 CT 6 k) = true := by kernel_rfl
theorem t_near6_1 : ((reach 6).all fun k => okNear CT 6 k 1) = true := by kernel_rfl
theorem t_near6_2 : ((reach 6).all fun k => okNear CT 6 k 2) = true := by kernel_rfl
theorem t_near6_3 : ((reach 6).all fun k => okNear CT 6 k 3) = true := by kernel_rfl
theorem t_near6_4 : ((reach 6).all fun k => okNear CT 6 k 4) = true := by kernel_rfl
end Go.Ev.B

/- Facts over shapes. -/
namespace Go.Ev.B
open Go.Proofs
theorem t_nearz_7 : ((reach 7).all fun k => okNear0 CT 7 k) = true := by kernel_rfl
theorem t_near7_1 : ((reach 7).all fun k => okNear CT 7 k 1) = true := by kernel_rfl
theorem t_near7_2 : ((reach 7).all fun k => okNear CT 7 k 2) = true := by kernel_rfl
theorem t_near7_3 : ((reach 7).all fun k => okNear CT 7 k 3) = true := by kernel_rfl
theorem t_near7_4 : ((reach 7).all fun k => okNear CT 7 k 4) = true := by kernel_rfl
end Go.Ev.B
