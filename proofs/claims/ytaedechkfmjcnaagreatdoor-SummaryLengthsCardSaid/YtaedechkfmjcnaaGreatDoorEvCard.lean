/- The tied card. -/
import Derived.Test.YtaedechkfmjcnaaGreatDoorEvRow
import Derived.Test.YtaedechkfmjcnaaGreatDoorCards
import Derived.Test.YtaedechkfmjcnaaGreatDoorTie
import Derived.SevenTiedAt
set_option linter.all false
namespace Go.Proofs.YtaedechkfmjcnaaGreatDoor.summaryLengths
open Go Go.ChangeShapes Go.WideShapes Go.ChangeAt Go.RowKit Go.WideElems Go.Joins Go.Ev

set_option maxHeartbeats 4000000 in
theorem card : Rows.SummaryLengthsCardSaid :=
  Claim7.holds_tied_plain_at .later [] [.data, .data, .data] true (true, "a43d06fcfd468dadabda8d459e3cb75d83279b2a4ad40dfb02c2625ab172db75") false
    said (fun _ h => by cases h) (by as_aux_lemma => kernel_rfl) (fun _ h => by cases h) summaryLengths_row_tie rfl ⟨rfl, rfl⟩ (by as_aux_lemma => kernel_rfl) rfl
    (fun f fn hf hfn => by
      obtain rfl : f = 3 := Option.some.inj ((show Tryz.prog.funcNamed "semtype/semtypelaw36.SummaryLengths" = some 3 by as_aux_lemma => kernel_rfl).symm.trans hf) |>.symm
      obtain rfl : fn = Tryz.f3 := (Option.some.inj (Tryz.func3.symm.trans hfn)).symm
      exact ⟨by as_aux_lemma => kernel_rfl, fun j t ht => by
        rw [Tryz.params3] at ht
        have hm : t ∈ [2, 3] := by simpa using Array.mem_of_getElem? ht
        have hall : ([2, 3].all fun u => !Tryz.prog.wantsStandIn u) = true := by as_aux_lemma => kernel_rfl
        exact (show Tryz.prog.wantsStandIn t = false by simpa using List.all_eq_true.1 hall t hm)⟩)
    (by as_aux_lemma => kernel_rfl)
end Go.Proofs.YtaedechkfmjcnaaGreatDoor.summaryLengths
