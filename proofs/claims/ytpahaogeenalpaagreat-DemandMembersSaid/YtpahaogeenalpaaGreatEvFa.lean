/- Which values are valid. -/
import Derived.Test.YtpahaogeenalpaaGreatEvVals
set_option linter.all false
namespace Go.Ev.D
theorem t_okLeaf : okLeaf = true := by kernel_rfl
theorem t_okTup : okTup = true := by kernel_rfl
theorem t_okCons : okCons = true := by kernel_rfl
theorem t_okFun0 : okFun 0 = true := by kernel_rfl
theorem t_okFun1 : okFun 1 = true := by kernel_rfl
theorem t_okFun2 : okFun 2 = true := by kernel_rfl
end Go.Ev.D
