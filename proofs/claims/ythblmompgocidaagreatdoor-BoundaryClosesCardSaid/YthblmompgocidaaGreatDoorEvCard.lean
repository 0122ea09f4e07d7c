/- The tied card: for every number and list of numbers, BoundaryCloses answers true and leaves its arguments as they read. Conditions: none. -/
import Derived.Test.YthblmompgocidaaGreatDoorEvRow
import Derived.Test.YthblmompgocidaaGreatDoorCards
import Derived.Test.YthblmompgocidaaGreatDoorTie
import Derived.SevenTiedAt
import Derived.Test.YthblmompgocidaaGreatDoorEvC1
import Derived.Test.YthblmompgocidaaGreatDoorEvC3
import Derived.Test.YthblmompgocidaaGreatDoorEvC4
import Derived.Test.YthblmompgocidaaGreatDoorEvC6
set_option linter.all false
namespace Go.Proofs.YthblmompgocidaaGreatDoor.boundaryCloses
open Go

set_option maxHeartbeats 4000000 in
theorem card : Rows.BoundaryClosesCardSaid :=
  Claim7.holds_tied_plain_at .later [] [.data, .data, .data] true (true, "6280ce0682974d60f53bbc44c082fcfd00effc2389ab624256ca5dce7bcfad1f") false
    said (fun _ h => by cases h) c1 (fun _ h => by cases h) boundaryCloses_row_tie rfl ⟨rfl, rfl⟩ c2 rfl
    (fun f fn hf hfn => by
      obtain rfl : f = 3 := Option.some.inj (c3.symm.trans hf) |>.symm
      obtain rfl : fn = Tryz.f3 := (Option.some.inj (Tryz.func3.symm.trans hfn)).symm
      exact ⟨c4, fun j t ht => by
        rw [Tryz.params3] at ht
        have hm : t ∈ [3, 22] := by simpa using Array.mem_of_getElem? ht
        exact (show Tryz.prog.wantsStandIn t = false by simpa using List.all_eq_true.1 c5 t hm)⟩)
    c6
end Go.Proofs.YthblmompgocidaaGreatDoor.boundaryCloses
