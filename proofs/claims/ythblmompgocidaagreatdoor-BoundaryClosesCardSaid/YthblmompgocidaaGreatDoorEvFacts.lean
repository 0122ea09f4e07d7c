/- The row's closed facts. -/
import Derived.Test.YthblmompgocidaaGreatDoorRows
import Derived.WalkKit
import Derived.ProofKit
import Derived.OpenShut
import Derived.Carry
import Derived.LaidMore
import Derived.Stop.Joined
import Derived.Lib.SmallJoins
import Derived.JoinedOf
set_option linter.all false
namespace Go.Proofs.YthblmompgocidaaGreatDoor.boundaryCloses
open Go Go.ChangeShapes Go.WideShapes Go.ChangeAt Go.RowKit Go.WideElems Go.Joins
set_option maxHeartbeats 4000000 in
theorem joined : joinedFacts Tryz.pinned.checked.prog 3 Tryz.f3 Rows.boundaryClosesSpec Rows.boundaryClosesRow = true := by
  unfold joinedFacts
  repeat' (with_reducible refine Bool.and_eq_true_iff.2 ⟨?_, ?_⟩)
  all_goals (as_aux_lemma => kernel_rfl)
theorem inst3 : Tryz.f3.isInstance Tryz.pinned.checked.prog Rows.boundaryClosesRow.origin Rows.boundaryClosesRow.targs := of_decide_eq_true (by kernel_rfl)
set_option maxHeartbeats 4000000 in
theorem wrap3 : Tryz.f3.isWrapper Tryz.pinned.checked.prog Rows.boundaryClosesRow.wrapper Rows.boundaryClosesRow.mainSum := by unfold Func.isWrapper; first | (rw [if_pos (by decide +kernel)]; kernel_rfl) | (rw [if_neg (by decide +kernel)]; exact ⟨rfl, rfl⟩)
end Go.Proofs.YthblmompgocidaaGreatDoor.boundaryCloses
