/- The law's function as a call, over the model's worlds. -/
import Derived.Test.YtaedechkfmjcnaaGreatDoorEvPf
import Derived.WalkKit
import Derived.ProofKit
import Derived.Carry
import Derived.Lib.SmallJoins
import GoSem.Claim
set_option linter.all false
namespace Go.Proofs.YtaedechkfmjcnaaGreatDoor.summaryLengths
open Go Go.ChangeShapes Go.WideShapes Go.ChangeAt Go.RowKit Go.WideElems Go.Joins Go.Ev

theorem rem0 (n d : Nat) (r : Int) (h : symRem n d = some r) : ((((n / 2 - 50) % 7 : Nat) : Int) - 3).tmod d = r ∧ d ≠ 0 ∧ n % 2 = 1 := by
  unfold symRem at h
  split at h
  · cases h
  · rename_i hn
    simp only [Bool.and_eq_true] at hn
    have h1 := Nat.eq_of_beq_eq_true hn.1
    have hj : (n / 2 - 50) % 7 < 7 := Nat.mod_lt _ (by omega)
    generalize (n / 2 - 50) % 7 = j at h hj
    have : j = 0 ∨ j = 1 ∨ j = 2 ∨ j = 3 ∨ j = 4 ∨ j = 5 ∨ j = 6 := by omega
    have hd : d = 4 ∨ d = 2 := by
      unfold remOf at h
      split at h <;> first | (exact .inl rfl) | (exact .inr rfl) | (cases h)
    rcases hd with rfl | rfl <;> rcases this with rfl | rfl | rfl | rfl | rfl | rfl | rfl <;> cases h <;> exact ⟨rfl, by omega, h1⟩
theorem wf64 {x : Int} (w : (Lit.int .i64 x).wf = true) : -9223372036854775808 ≤ x ∧ x < 9223372036854775808 := by
  unfold Lit.wf at w
  simp only [Bool.and_eq_true, decide_eq_true_eq] at w
  have m1 : IntKind.i64.min = -9223372036854775808 := by decide
  have m2 : IntKind.i64.max = 9223372036854775807 := by decide
  rw [m1, m2] at w
  omega
theorem walk (W : World) (x k : Int) (hx : -9223372036854775808 ≤ x ∧ x < 9223372036854775808) : Calls Tryz.prog 3 #[.int .i64 x, .int .i64 k] W fun e W' => e = .returned (.bool true) ∧ Below W.heap.size W W' := by
  letI : Env := ⟨fun _ => ⟨#[]⟩, fun n => ((n / 2 - 50) % 7 : Nat) - 3, rem0⟩
  have hK := law3 x k hx
  refine (hK.2 W (fun b _ => b < W.heap.size) #[.int .i64 x, .int .i64 k] (fun _ _ h => h) ⟨rfl, fun i c y hc hy => ?_⟩).mono ?_
  · match i with
    | 0 => simp at hc hy; subst hc; subst hy; exact .v rfl
    | 1 => simp at hc hy; subst hc; subst hy; exact .v rfl
    | i + 2 => simp at hc
  · rintro e W' ⟨v, F', rfl, hv, _, hx⟩
    cases hv
    exact ⟨rfl, hx.os, hx.tape, hx.output, hx.size, fun b hb => hx.keep b hb fun i p h => by cases h⟩

end Go.Proofs.YtaedechkfmjcnaaGreatDoor.summaryLengths
