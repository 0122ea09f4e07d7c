/- Facts over shapes. -/
import Derived.Test.YtpahaogeenalpaaGreatEvVals
set_option linter.all false
namespace Go.Ev.D
open Go.Proofs
theorem t_okMemMap_0 : okMemMap 0 = true := by kernel_rfl
theorem t_okMemMap_1 : okMemMap 1 = true := by kernel_rfl
theorem t_okMemMap_2 : okMemMap 2 = true := by kernel_rfl
theorem t_okNoFun : okNoFun = true := by kernel_rfl
theorem t_okFunFun : okFunFun = true := by kernel_rfl
theorem t_okFunTot : okFunTot = true := by kernel_rfl
theorem t_okBoolT : okBoolT = true := by kernel_rfl
theorem t_okListT : okListT = true := by kernel_rfl
theorem t_okAny : okAny = true := by kernel_rfl
theorem t_okMember : okMember = true := by kernel_rfl
end Go.Ev.D
