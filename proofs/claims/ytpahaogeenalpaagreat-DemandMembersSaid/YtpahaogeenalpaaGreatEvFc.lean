/- Facts over shapes. -/
import Derived.Test.YtpahaogeenalpaaGreatEvVals
set_option linter.all false
namespace Go.Ev.D
open Go.Proofs
theorem t_okHolds_0 : okHolds 0 = true := by kernel_rfl
theorem t_okHolds_1 : okHolds 1 = true := by kernel_rfl
theorem t_okHolds_2 : okHolds 2 = true := by kernel_rfl
theorem t_okHolds_3 : okHolds 3 = true := by kernel_rfl
theorem t_okHoldsF : okHoldsF = true := by kernel_rfl
theorem t_okMemLeaf : okMemLeaf = true := by kernel_rfl
theorem t_okMemTup_0 : okMemTup 0 = true := by kernel_rfl
theorem t_okMemTup_1 : okMemTup 1 = true := by kernel_rfl
theorem t_okMemTup_2 : okMemTup 2 = true := by kernel_rfl
theorem t_okMemTup_3 : okMemTup 3 = true := by kernel_rfl
theorem t_okMemCons : okMemCons = true := by kernel_rfl
end Go.Ev.D
