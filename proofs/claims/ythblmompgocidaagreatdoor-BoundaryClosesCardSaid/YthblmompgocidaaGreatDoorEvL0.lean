/- Facts over shapes. -/
import Derived.Test.YthblmompgocidaaGreatDoorEvVals
set_option linter.all false
/- Facts over shapes. -/
namespace Go.Ev.B
open Go.Proofs
theorem t_leaf0 : (leaves 0).all (okLeaf CL) = true := by kernel_rfl
theorem t_leafHas0 : (leaves 0).all (okLeafHas CX 0) = true := by kernel_rfl
theorem t_fn0 : (leaves 0).all (okFn CX 0) = true := by kernel_rfl
end Go.Ev.B

/- Facts over shapes. -/
namespace Go.Ev.B
open Go.Proofs
theorem t_leaf1 : (leaves 1).all (okLeaf CL) = true := by kernel_rfl
theorem t_leafHas1 : (leaves 1).all (okLeafHas CX 1) = true := by kernel_rfl
theorem t_fn1 : (leaves 1).all (okFn CX 1) = true := by kernel_rfl
end Go.Ev.B
