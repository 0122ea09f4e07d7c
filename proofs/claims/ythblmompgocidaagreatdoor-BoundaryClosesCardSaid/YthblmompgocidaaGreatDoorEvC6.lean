/- A part of the proof. -/
import Derived.Test.YthblmompgocidaaGreatDoorCards
import Derived.KernelRfl
set_option linter.all false
namespace Go.Proofs.YthblmompgocidaaGreatDoor.boundaryCloses
open Go
theorem goes_of {P : Program} (h : P.funcs.any Func.goes = false) (f : FuncId) : P.goes f = false := by
  have hall : ∀ g : Nat, (P.funcs[g]?).any Func.goes = false := by
    intro g
    cases hg : P.funcs[g]? with
    | none => rfl
    | some fn =>
      show fn.goes = false
      rw [Bool.eq_false_iff]
      intro hf
      rw [Bool.eq_false_iff] at h
      obtain ⟨hlt, rfl⟩ := Array.getElem?_eq_some_iff.1 hg
      exact h (Array.any_eq_true.2 ⟨g, hlt, hf⟩)
  unfold Program.goes
  rw [h, Bool.and_false, Bool.or_false]
  rw [Bool.eq_false_iff]
  intro hc
  obtain ⟨g, _, hg⟩ := List.any_eq_true.1 hc
  rw [hall g] at hg
  cases hg
theorem goesBy_of {c : OpenClaim} {P : Program} (hs : c.start = .entering) (h : P.funcs.any Func.goes = false) : false = c.goesBy P := by
  unfold OpenClaim.goesBy Program.goesAt Program.goesFrom
  rw [hs]
  cases P.funcNamed c.func with
  | none => rfl
  | some f =>
    show false = (P.goes f || false)
    rw [goes_of h]; rfl
set_option maxHeartbeats 4000000 in
theorem any_goes : Tryz.pinned.checked.prog.funcs.any Func.goes = false := by kernel_rfl
theorem c6 : false = Rows.boundaryClosesRow.goesBy Tryz.pinned.checked.prog := goesBy_of rfl any_goes
end Go.Proofs.YthblmompgocidaaGreatDoor.boundaryCloses
