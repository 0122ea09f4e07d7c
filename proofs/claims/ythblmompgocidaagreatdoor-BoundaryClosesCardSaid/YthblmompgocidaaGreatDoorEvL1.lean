/- Facts over shapes. -/
import Derived.Test.YthblmompgocidaaGreatDoorEvVals
set_option linter.all false
/- Facts over shapes. -/
namespace Go.Ev.B
open Go.Proofs
theorem t_leaf2 : (leaves 2).all (okLeaf CL) = true := by kernel_rfl
theorem t_leafHas2 : (leaves 2).all (okLeafHas CX 2) = true := by kernel_rfl
theorem t_fn2 : (leaves 2).all (okFn CX 2) = true := by kernel_rfl
end Go.Ev.B

/- Facts over shapes. -/
namespace Go.Ev.B
open Go.Proofs
theorem t_leaf3 : (leaves 3).all (okLeaf CL) = true := by kernel_rfl
theorem t_leafHas3 : (leaves 3).all (okLeafHas CX 3) = true := by kernel_rfl
theorem t_fn3 : (leaves 3).all (okFn CX 3) = true := by kernel_rfl
end Go.Ev.B
