/- What is read is a tree: the check of each production's answer. -/
import Derived.Test.YtmlnfoabpcccnaaGreatEvDe
set_option linter.all false
namespace Go.Ev.A
open Go.Proofs
def unSeq (a : Nat) : List PV → Bool
  | [] => true
  | .unk k :: r => Nat.beq k a && unSeq (a + 1) r
  | _ => false
def isHole : Option It → Bool
  | some .hole => true
  | _ => false
/-- the cells of an expression of the production's own -/
def holeOf (it : List It) (cells : List PV) : Option Nat := match cells with
  | .unk k :: r => match Nat.ble 2000 k && (Nat.beq (2000 + 20 * ((k - 2000) / 20)) k && (Nat.beq (r.length + 1) 10 && (unSeq k (.unk k :: r) && isHole it[(k - 2000) / 20]?))) with
    | true => some ((k - 2000) / 20)
    | false => none
  | _ => none
/-- cells without parts, or with parts without parts -/
def rf0 : PV → Bool
  | .v (.int .i64 _) => true
  | .v (.string _) => true
  | .v (.slice none 0 0) => true
  | .unk k => Nat.beq k 200 || (Nat.beq k 201 || (Nat.ble 3000 k && (Nat.blt k 3200 || (Nat.blt k 3400 && Nat.beq (k % 4) 3))))
  | _ => false
def listB (s n : Nat) (p : PV → Bool) : PV → Bool
  | .sl es _ => Nat.ble es.length n && es.all fun e => Nat.ble e.length s && e.all p
  | _ => false
def rf1 (c : PV) : Bool := rf0 c || listB 5 2 rf0 c
def rf2 (c : PV) : Bool := rf1 c || (listB 8 2 rf0 c || listB 5 1 rf1 c)
def txtB : PV → Bool
  | .v (.string _) => true
  | .unk k => Nat.beq k 200
  | _ => false
/-- a text in patterns -/
def patB (p : PV) : Bool := match p with
  | .sl es _ => es.any fun e => e.any fun c => match c with
    | .unk k => Nat.beq k 200
    | .sl fs _ => fs.any fun f => f.any fun d => match d with
      | .unk k => Nat.beq k 200
      | _ => false
    | _ => false
  | _ => false
/-- what the patterns' variables come to -/
def vsB (p r : PV) : Bool := match r with
  | .v (.slice none 0 0) => true
  | .sl [[.unk 200]] false => patB p
  | _ => false
def v36 (p : PV) : PV := match patB p with
  | true => .sl [[.unk 200]] false
  | false => nl
noncomputable def ok36 (p : PV) : Bool := goesD ⟨tysT, noAsk⟩ fns (fun _ _ => none) 10000 e36 [.agg (wh p)] (v36 p)
noncomputable def clB (c : List PV) : Bool := match c with
  | p :: r => Nat.beq r.length 18 && ((c.take 8 ++ c.drop 18).all rf2 && ok36 p)
  | [] => false
def partsB (n : Nat) (p : List PV → Bool) : PV → Bool
  | .v (.slice none 0 0) => true
  | .sl es _ => Nat.ble es.length n && es.all p
  | _ => false
def anyHole (it : List It) : Bool := it.any fun x => match x with
  | .hole => true
  | _ => false
def twoHole (it : List It) : Bool := isHole it[3]? && twoAt it 3
/-- j: how deep the tree lies in the production's answer -/
noncomputable def etB (it : List It) : Nat → Nat → List PV → Bool
  | 0, _, _ => false
  | f + 1, j, cells => match holeOf it cells with
    | some m => Nat.beq j 1 || (Nat.beq j 2 && twoAt it m)
    | none => (Nat.beq j 0 || (Nat.beq j 1 && anyHole it || Nat.beq j 2 && twoHole it)) && match cells with
      | [.v (.int .i64 (.ofNat _)), c1, c2, t, kp, ky, cp, ty, c8, c9] => txtB t && ([c1, c2, ky, ty, c8, c9].all rf2 && (partsB 2 (etB it f (j + 1)) kp && partsB 2 (fun c => clB c && etB it f (j + 1) (body c)) cp))
      | _ => false
noncomputable def okEt (k : Nat) : Bool := match prods[k]?, outs[k]? with
  | some it, some (.agg qc) => etB it 5 0 qc
  | _, _ => false
noncomputable def ok37 : Bool := goesD ⟨tysT, noAsk⟩ fns (fun _ _ => none) 10000 e37 [.agg (un 0 19)] (.agg (wh (.unk 0)))
theorem t37 : ok37 = true := by kernel_rfl
theorem tEt : allN 46 okEt = true := by kernel_rfl
end Go.Ev.A
