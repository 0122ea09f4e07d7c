/- Which values are valid: maps. -/
import Derived.Test.YtpahaogeenalpaaGreatEvVals
set_option linter.all false
namespace Go.Ev.D
theorem t_okMap0 : okMap (labels[0]'(by decide)) = true := by kernel_rfl
theorem t_okMap1 : okMap (labels[1]'(by decide)) = true := by kernel_rfl
theorem t_okMap2 : okMap (labels[2]'(by decide)) = true := by kernel_rfl
theorem t_okMap3 : okMap (labels[3]'(by decide)) = true := by kernel_rfl
theorem t_okMap4 : okMap (labels[4]'(by decide)) = true := by kernel_rfl
theorem t_okMap5 : okMap (labels[5]'(by decide)) = true := by kernel_rfl
theorem t_okMap6 : okMap (labels[6]'(by decide)) = true := by kernel_rfl
end Go.Ev.D
