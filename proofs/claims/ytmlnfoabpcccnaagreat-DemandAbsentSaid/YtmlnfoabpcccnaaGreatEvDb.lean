/- The text generator's trees: their leaves' runs, by the kernel. -/
import Derived.Test.YtmlnfoabpcccnaaGreatEvDa
set_option linter.all false
namespace Go.Ev.A
open Go.Proofs
def av1 : List Nat := [14, 13, 29, 32, 67]
def av2 : List Nat := [14, 13, 29, 32, 67, 31, 33, 34]
noncomputable def okBr (av : List Nat) (k : Nat) (fi : FI) (w : Wk) : Bool := allL (φT fi [.unk 4, .unk 3, envP k] 100 3 4 1 3) (avl av) k w 50 (ctxE k) [] []
theorem branchOk4 : okBr av1 4 e31 w_branch4 = true := by kernel_rfl
theorem branchOk5 : okBr av1 5 e31 w_branch5 = true := by kernel_rfl
theorem branchOk6 : okBr av1 6 e31 w_branch6 = true := by kernel_rfl
theorem processOk4 : okBr av1 4 e33 w_process4 = true := by kernel_rfl
theorem processOk5 : okBr av1 5 e33 w_process5 = true := by kernel_rfl
theorem processOk6 : okBr av1 6 e33 w_process6 = true := by kernel_rfl
theorem specialOk4 : okBr av1 4 e34 w_special4 = true := by kernel_rfl
theorem specialOk5 : okBr av1 5 e34 w_special5 = true := by kernel_rfl
theorem specialOk6 : okBr av1 6 e34 w_special6 = true := by kernel_rfl
theorem exprOk4 : okBr av2 4 e13 w_expr4 = true := by kernel_rfl
theorem exprOk5 : okBr av2 5 e13 w_expr5 = true := by kernel_rfl
theorem exprOk6 : okBr av2 6 e13 w_expr6 = true := by kernel_rfl
end Go.Ev.A
