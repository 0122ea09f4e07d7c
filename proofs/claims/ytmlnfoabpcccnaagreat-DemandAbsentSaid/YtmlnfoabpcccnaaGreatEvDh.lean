/- What an expression asks of a variable that is not free in it: the runs of each production's answer. -/
import Derived.Test.YtmlnfoabpcccnaaGreatEvBh
import Derived.Test.YtmlnfoabpcccnaaGreatEvDg
set_option linter.all false
namespace Go.Ev.A
open Go.Proofs
def bitOf (k : Nat) : List (Nat × Bool) → Option Bool
  | [] => none
  | (j, b) :: r => match Nat.beq j k with
    | true => some b
    | false => bitOf k r
/-- bits: is an expression of its own a variable? vb: is the variable that is bound the one asked for? -/
def askJ (bits : List (Nat × Bool)) (vb : Bool) : AskOp → List PV → Option PV
  | .bin .eql _, [.unk k, .v (.int .i64 (.ofNat 5))] => match bitOf k bits with
    | some b => some (Bo b)
    | none => none
  | .bin .eql _, [.unk k, .unk 5000] => match Nat.beq k 200 with
    | true => some (Bo vb)
    | false => match Nat.ble 3 k, bitOf (k - 3) bits with
      | true, some true => some (Bo false)
      | _, _ => none
  | .bin .eql _, [.unk 5000, .unk 200] => some (Bo vb)
  | _, _ => none
def cellsEq : List PV → List PV → Bool
  | a, b => peqL 999 a b
def orcJ (subs : List (List PV)) : Orc := fun f ds => match f, ds with
  | 19, [.v (.slice none 0 0), .agg c, .unk 5000] => match subs.any (cellsEq c) with
    | true => some NL
    | false => none
  | _, _ => none
def slOf : PV → List (List PV)
  | .sl es _ => es
  | _ => []
def kidsOf (cells : List PV) : List (List PV) := match cells with
  | [_, _, _, _, kp, _, _, _, _, _] => slOf kp
  | _ => []
/-- the expression behind a let -/
def letOf (cells : List PV) : List (List PV) := match cells with
  | [.v (.int .i64 (.ofNat 17)), _, _, _, _, _, cp, _, _, _] => match slOf cp with
    | c :: _ => [body c]
    | [] => []
  | _ => []
/-- what a let binds: a variable, or nothing -/
def letPat (cells : List PV) : Bool := match cells with
  | [.v (.int .i64 (.ofNat 17)), _, _, _, _, _, cp, _, _, _] => match slOf cp with
    | (.sl [[.v (.int .i64 (.ofNat 2)), .v (.int .i64 _), .unk 200, .v (.slice none 0 0), .v (.slice none 0 0)]] _ :: _) :: _ => true
    | (.sl [[.v (.int .i64 (.ofNat 1)), .v (.int .i64 _), .v (.string s), .v (.slice none 0 0), .v (.slice none 0 0)]] _ :: _) :: _ => match s.data.toList with
      | [] => true
      | _ => false
    | _ => false
  | _ => true
/-- does a let bind the variable? -/
def letV (cells : List PV) : Bool := match cells with
  | [.v (.int .i64 (.ofNat 17)), _, _, _, _, _, cp, _, _, _] => match slOf cp with
    | (.sl [[.v (.int .i64 (.ofNat 2)), .v (.int .i64 _), .unk 200, .v (.slice none 0 0), .v (.slice none 0 0)]] _ :: _) :: _ => true
    | _ => false
  | _ => false
def heads (it : List It) : List (List PV) → List Nat
  | [] => []
  | k :: r => match holeOf it k with
    | some m => (2000 + 20 * m) :: heads it r
    | none => heads it r
def bitsOf : List Nat → List (List (Nat × Bool))
  | [] => [[]]
  | k :: r => (bitsOf r).map (fun l => (k, true) :: l) ++ (bitsOf r).map (fun l => (k, false) :: l)
noncomputable def okJ (cells : List PV) (bits : List (Nat × Bool)) (vb : Bool) : Bool :=
  goesD ⟨tysT2, askJ bits vb⟩ fnsJ (orcJ (kidsOf cells ++ (match vb && letV cells with | true => [] | false => letOf cells))) 10000 e19 [NL, .agg cells, .unk 5000] NL
noncomputable def dB (it : List It) : Nat → List PV → Bool
  | 0, _ => false
  | f + 1, cells => match holeOf it cells with
    | some _ => true
    | none => Nat.beq cells.length 10 && (letPat cells && (((bitsOf (heads it (kidsOf cells))).all fun b => okJ cells b true && okJ cells b false) && ((kidsOf cells).all (dB it f) && (letOf cells).all (dB it f))))
noncomputable def okD (k : Nat) : Bool := match prods[k]?, outs[k]? with
  | some it, some (.agg qc) => dB it 5 qc
  | _, _ => false
mutual
/-- only cells that a production's answer may have -/
def onlyU (a : Nat → Bool) : PV → Bool
  | .unk n => a n
  | .agg cs => onlyL a cs
  | .tup cs => onlyL a cs
  | .sl es _ => onlyE a es
  | .ep cs _ => onlyL a cs
  | .clo _ cs => onlyL a cs
  | .bnd _ cs => onlyL a cs
  | _ => true
def onlyL (a : Nat → Bool) : List PV → Bool
  | [] => true
  | c :: cs => onlyU a c && onlyL a cs
def onlyE (a : Nat → Bool) : List (List PV) → Bool
  | [] => true
  | c :: cs => onlyL a c && onlyE a cs
end
def allowU (it : List It) (k : Nat) : Bool := rf0 (.unk k) || (Nat.ble 2000 k && (Nat.blt k 3000 && (Nat.blt ((k - 2000) % 20) 10 && isHole it[(k - 2000) / 20]?)))
noncomputable def okU (k : Nat) : Bool := match prods[k]?, outs[k]? with
  | some it, some (.agg qc) => onlyL (allowU it) qc
  | _, _ => false
theorem tU : allN 46 okU = true := by kernel_rfl
theorem tD0 : allN 46 (fun k => Nat.ble 23 k || okD k) = true := by kernel_rfl
theorem tD1 : allN 46 (fun k => Nat.blt k 23 || okD k) = true := by kernel_rfl
end Go.Ev.A
