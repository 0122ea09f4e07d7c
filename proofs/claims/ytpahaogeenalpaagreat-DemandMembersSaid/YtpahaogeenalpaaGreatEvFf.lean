/- Facts over shapes. -/
import Derived.Test.YtpahaogeenalpaaGreatEvVals
set_option linter.all false
namespace Go.Ev.D
open Go.Proofs
theorem t_okKeyLen : okKeyLen = true := by kernel_rfl
theorem t_okMapC_0 : okMapC 0 = true := by kernel_rfl
theorem t_okMapC_1 : okMapC 1 = true := by kernel_rfl
theorem t_okMapC_2 : okMapC 2 = true := by kernel_rfl
theorem t_okEntLen : okEntLen = true := by kernel_rfl
theorem t_okFunC_0_0 : okFunC 0 0 = true := by kernel_rfl
theorem t_okFunC_0_1 : okFunC 0 1 = true := by kernel_rfl
theorem t_okFunC_0_2 : okFunC 0 2 = true := by kernel_rfl
theorem t_okFunC_1_0 : okFunC 1 0 = true := by kernel_rfl
theorem t_okFunC_1_1 : okFunC 1 1 = true := by kernel_rfl
theorem t_okFunC_1_2 : okFunC 1 2 = true := by kernel_rfl
theorem t_okFunC_2_0 : okFunC 2 0 = true := by kernel_rfl
theorem t_okFunC_2_1 : okFunC 2 1 = true := by kernel_rfl
theorem t_okFunC_2_2 : okFunC 2 2 = true := by kernel_rfl
theorem t_okZero : okZero = true := by kernel_rfl
theorem t_okValLen : okValLen = true := by kernel_rfl
theorem t_okVals_0 : okVals 0 = true := by kernel_rfl
theorem t_okVals_1 : okVals 1 = true := by kernel_rfl
theorem t_okVals_2 : okVals 2 = true := by kernel_rfl
theorem t_okVals_3 : okVals 3 = true := by kernel_rfl
theorem t_okEnts : okEnts = true := by kernel_rfl
theorem t_okEnts2 : okEnts2 = true := by kernel_rfl
theorem t_okCKeys : okCKeys = true := by kernel_rfl
end Go.Ev.D
