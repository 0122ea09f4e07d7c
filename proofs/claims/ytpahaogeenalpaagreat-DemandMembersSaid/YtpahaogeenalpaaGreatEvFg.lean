/- Facts over shapes. -/
import Derived.Test.YtpahaogeenalpaaGreatEvVals
set_option linter.all false
namespace Go.Ev.D
open Go.Proofs
theorem t_okMake : okMake = true := by kernel_rfl
theorem t_okMkMap : okMkMap = true := by kernel_rfl
theorem t_okMkMap2 : okMkMap2 = true := by kernel_rfl
theorem t_okMkFun_0 : okMkFun 0 = true := by kernel_rfl
theorem t_okMkFun_1 : okMkFun 1 = true := by kernel_rfl
theorem t_okMkFun_2 : okMkFun 2 = true := by kernel_rfl
theorem t_okSort : okSort = true := by kernel_rfl
end Go.Ev.D
