/- Facts over shapes. -/
import Derived.Test.YthblmompgocidaaGreatDoorEvVals
set_option linter.all false
/- Facts over shapes. -/
namespace Go.Ev.B
open Go.Proofs
theorem t_leaf4 : (leaves 4).all (okLeaf CL) = true := by kernel_rfl
theorem t_leafHas4 : (leaves 4).all (okLeafHas CX 4) = true := by kernel_rfl
theorem t_fn4 : (leaves 4).all (okFn CX 4) = true := by kernel_rfl
end Go.Ev.B

/- Facts over shapes. -/
namespace Go.Ev.B
open Go.Proofs
theorem t_leaf5 : (leaves 5).all (okLeaf CL) = true := by kernel_rfl
theorem t_leafHas5 : (leaves 5).all (okLeafHas CX 5) = true := by kernel_rfl
theorem t_fn5 : (leaves 5).all (okFn CX 5) = true := by kernel_rfl
end Go.Ev.B
