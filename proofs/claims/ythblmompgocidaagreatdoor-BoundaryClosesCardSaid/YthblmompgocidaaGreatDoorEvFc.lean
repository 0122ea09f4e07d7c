/- Facts over shapes. -/
import Derived.Test.YthblmompgocidaaGreatDoorEvVals
set_option linter.all false
/- Facts over shapes. -/
namespace Go.Ev.B
open Go.Proofs
theorem t_memOf0 : okMemOf CX 0 = true := by kernel_rfl
theorem t_mem0 : okMem CX 0 = true := by kernel_rfl
theorem t_pass0 : okPass CX 0 = true := by kernel_rfl
theorem t_wrapNo0 : okWrapNo CX 0 = true := by kernel_rfl
theorem t_memOf1 : okMemOf CX 1 = true := by kernel_rfl
theorem t_mem1 : okMem CX 1 = true := by kernel_rfl
theorem t_pass1 : okPass CX 1 = true := by kernel_rfl
theorem t_wrapNo1 : okWrapNo CX 1 = true := by kernel_rfl
theorem t_memOf2 : okMemOf CX 2 = true := by kernel_rfl
theorem t_mem2 : okMem CX 2 = true := by kernel_rfl
theorem t_pass2 : okPass CX 2 = true := by kernel_rfl
theorem t_wrapNo2 : okWrapNo CX 2 = true := by kernel_rfl
theorem t_memOf3 : okMemOf CX 3 = true := by kernel_rfl
theorem t_mem3 : okMem CX 3 = true := by kernel_rfl
theorem t_pass3 : okPass CX 3 = true := by kernel_rfl
theorem t_wrapNo3 : okWrapNo CX 3 = true := by kernel_rfl
theorem t_memOf4 : okMemOf CX 4 = true := by kernel_rfl
theorem t_mem4 : okMem CX 4 = true := by kernel_rfl
theorem t_pass4 : okPass CX 4 = true := by kernel_rfl
theorem t_wrapNo4 : okWrapNo CX 4 = true := by kernel_rfl
theorem t_memOf5 : okMemOf CX 5 = true := by kernel_rfl
theorem t_mem5 : okMem CX 5 = true := by kernel_rfl
theorem t_pass5 : okPass CX 5 = true := by kernel_rfl
theorem t_wrapNo5 : okWrapNo CX 5 = true := by kernel_rfl
theorem t_memOf6 : okMemOf CX 6 = true := by kernel_rfl
theorem t_mem6 : okMem CX 6 = true := by kernel_rfl
theorem t_pass6 : okPass CX 6 = true := by kernel_rfl
theorem t_wrapNo6 : okWrapNo CX 6 = true := by kernel_rfl
theorem t_memOf7 : okMemOf CX 7 = true := by kernel_rfl
theorem t_mem7 : okMem CX 7 = true := by kernel_rfl
theorem t_pass7 : okPass CX 7 = true := by kernel_rfl
theorem t_wrapNo7 : okWrapNo CX 7 = true := by kernel_rfl
end Go.Ev.B

/- Facts over shapes. -/
namespace Go.Ev.B
open Go.Proofs
theorem t_word : okWord CT = true := by kernel_rfl
theorem t_number : okNumber CT = true := by kernel_rfl
theorem t_name : okName CT = true := by kernel_rfl
theorem t_key : okKey CT = true := by kernel_rfl
theorem t_made_0 : okMade CT 0 = true := by kernel_rfl
theorem t_made_1 : okMade CT 1 = true := by kernel_rfl
theorem t_made_2 : okMade CT 2 = true := by kernel_rfl
theorem t_made0 : okMade0 CT = true := by kernel_rfl
theorem t_madeC_0 : okMadeC CT 0 = true := by kernel_rfl
theorem t_madeC_1 : okMadeC CT 1 = true := by kernel_rfl
end Go.Ev.B
