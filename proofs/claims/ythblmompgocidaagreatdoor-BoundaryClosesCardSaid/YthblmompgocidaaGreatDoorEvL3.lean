/- Facts over shapes. -/
import Derived.Test.YthblmompgocidaaGreatDoorEvVals
set_option linter.all false
/- Facts over shapes. -/
namespace Go.Ev.B
open Go.Proofs
theorem t_leaf6 : (leaves 6).all (okLeaf CL) = true := by kernel_rfl
theorem t_leafHas6 : (leaves 6).all (okLeafHas CX 6) = true := by kernel_rfl
theorem t_fn6 : (leaves 6).all (okFn CX 6) = true := by kernel_rfl
end Go.Ev.B

/- Facts over shapes. -/
namespace Go.Ev.B
open Go.Proofs
theorem t_leaf7 : (leaves 7).all (okLeaf CL) = true := by kernel_rfl
theorem t_leafHas7 : (leaves 7).all (okLeafHas CX 7) = true := by kernel_rfl
theorem t_fn7 : (leaves 7).all (okFn CX 7) = true := by kernel_rfl
end Go.Ev.B
