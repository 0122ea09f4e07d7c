/- Wrapping of what passes: skeletons. -/
import Derived.Test.YthblmompgocidaaGreatDoorEvVals
set_option linter.all false
namespace Go.Ev.B
section
variable (C : Nat → Book → List PV → PV → Bool)
/-- the kids that are wrapped -/
def pgR (a : Nat) : List Bool → List (List PV) → List (List PV) → Page
  | b :: bs, x :: l, r :: m => bif b then ([W a, .agg x, I (fk a)], .agg r) :: pgR a bs l m else pgR a bs l m
  | _, _, _ => []
def skP (a n : Nat) (v : PV) (mo : Page) (rep : List Bool) : Book := [(22, [([T a], Bo true)]), (21, pg (fun x => [.agg x]) (kd n) (aggs (kd n))), (25, pg (fun x => [.agg x]) (kd n) (aggs (kv n))), (24, [([v, T a], Bo true)]), (54, mo), (56, pgR a rep (kd n) (ru n))]
def okP (a : Nat) (s : Nat × Nat × List Nat) (mo : List (Nat × Bool)) (rep : List Bool) : Bool :=
  let v : PV := .agg (vComp s.1 (kv s.2.1) (keysOf s.2.2))
  C 6 (skP a s.2.1 v (moPg a v mo) rep) ([.agg (dComp s.1 (kd s.2.1) (keysOf s.2.2)), T a] ++ pq) (.agg (dComp s.1 (repl rep (kd s.2.1) (ru s.2.1)) (keysOf s.2.2)))
/-- a datum that is not looked into -/
def okPU (a : Nat) (mo : List (Nat × Bool)) (rep : Bool) : Bool :=
  C 6 (skP a 1 (.agg (ur 13 7)) (moPg a (.agg (ur 13 7)) mo) [rep]) ([.agg (ur 0 13), T a] ++ pq) (.agg (bif rep then ur 20 13 else ur 0 13))
def moL : List (List PV) → Page
  | [] => moPg 3 (.agg (vList [])) [(3, true)]
  | x :: l => moPg 3 (.agg (vList (x :: l))) [(3, false), (4, true)] ++ moL l
def okPL (n : Nat) : Bool :=
  C 6 (skP 3 n (.agg (vList (kv n))) (moL (kv n)) (List.replicate n true)) ([.agg (dList (kd n)), T 3] ++ pq) (.agg (dList (ru n)))
end
open Go.Proofs
theorem p0 : okPU CW 0 [] true = true := by kernel_rfl
theorem p7 : okPU CW 7 [] true = true := by kernel_rfl
theorem p5i : okPU CW 5 [(0, true)] false = true := by kernel_rfl
theorem p5f : okPU CW 5 [(0, false), (3, true)] true = true := by kernel_rfl
theorem p6f : okPU CW 6 [(1, false), (4, true)] true = true := by kernel_rfl
theorem p1 : okP CW 1 (6, 2, []) [] [true, false] = true := by kernel_rfl
theorem p2a : okP CW 2 (6, 2, []) [(4, true)] [false, true] = true := by kernel_rfl
theorem p2b : okP CW 2 (6, 2, []) [(4, false), (7, true)] [false, false] = true := by kernel_rfl
theorem p4 : okP CW 4 (8, 1, [0]) [] [true] = true := by kernel_rfl
theorem p6t : okP CW 6 (6, 1, []) [(1, true)] [false] = true := by kernel_rfl
theorem pL : ((List.range 9).all fun n => okPL CW n) = true := by kernel_rfl
end Go.Ev.B
