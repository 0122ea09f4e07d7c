/- The law's own run, and Demand's. -/
import Derived.Test.YtmlnfoabpcccnaaGreatEvDi
import Derived.Test.YtmlnfoabpcccnaaGreatEvDj
set_option linter.all false
namespace Go.Ev.A
open Go.Proofs
def anyT : PV := .agg [.sl [[I 2, I 0, I 0, S [], NL, NL, I 0, I 0]] true, I 0]
def isUn : List PV → Bool := fun c => Nat.beq c.length 10 && unSeq 2000 c
def orcD8 : Orc := fun f ds => match f, ds with
  | 19, [.v (.slice none 0 0), .agg c, .unk 5000] => match isUn c with
    | true => some NL
    | false => none
  | _, _ => none
noncomputable def okD8 : Bool := goesD ⟨tysT2, noAsk⟩ fnsJ orcD8 10000 e8 [.agg (un 2000 10), .unk 5000] anyT
theorem d8Ok : okD8 = true := by kernel_rfl
/-- the five names -/
def fiveN : List (List Nat) := [[88], [89], [90], [70], [81]]
def nameB' (s : PV) : List (List Nat) → List Bool → Option Bool
  | w :: r, b :: bs => match txtEq s (S w) with
    | true => some b
    | false => nameB' s r bs
  | _, _ => none
def anyEq (p : PV) : Bool := peq 1000 p anyT
def orcL3 (bs : List Bool) : Orc := fun f ds => match f, ds with
  | 4, [.unk 7] => some (.agg (un 2000 10))
  | 6, [.agg c] => match isUn c with
    | true => some (.unk 0)
    | false => none
  | 5, [.unk 0, s] => match nameB' s fiveN bs with
    | some b => some (Bo b)
    | none => none
  | 8, [.agg c, s] => match isUn c, nameB' s fiveN bs with
    | true, some false => some anyT
    | _, _ => none
  | 9, [] => some anyT
  | 7, [a, b] => match anyEq a && anyEq b with
    | true => some (Bo true)
    | false => none
  | 10, [] => some (Bo true)
  | _, _ => none
noncomputable def okL3 (bs : List Bool) : Bool := goesD ⟨tysT2, noAsk⟩ .lf (orcL3 bs) 10000 e3 [.unk 7] (Bo true)
def bools : Nat → List (List Bool)
  | 0 => [[]]
  | n + 1 => (bools n).map (fun l => true :: l) ++ (bools n).map (fun l => false :: l)
theorem l3Ok : (bools 5).all okL3 = true := by kernel_rfl
end Go.Ev.A
