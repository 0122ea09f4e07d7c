/- Facts over shapes. -/
import Derived.Test.YtpahaogeenalpaaGreatEvVals
set_option linter.all false
namespace Go.Ev.D
open Go.Proofs
theorem t_okKinds : okKinds = true := by kernel_rfl
theorem t_okInts_1_nums : okInts 1 nums = true := by kernel_rfl
theorem t_okInts_4_pids : okInts 4 pids = true := by kernel_rfl
theorem t_okInts_9 : okInts 9 [i 0, i 1, i 2] = true := by kernel_rfl
theorem t_okTexts_2_words : okTexts 2 words = true := by kernel_rfl
theorem t_okTexts_3_atoms : okTexts 3 atoms = true := by kernel_rfl
theorem t_okLeafC : okLeafC = true := by kernel_rfl
theorem t_okLeafC2 : okLeafC2 = true := by kernel_rfl
theorem t_okKids_6 : okKids 6 = true := by kernel_rfl
theorem t_okKids_7 : okKids 7 = true := by kernel_rfl
end Go.Ev.D
