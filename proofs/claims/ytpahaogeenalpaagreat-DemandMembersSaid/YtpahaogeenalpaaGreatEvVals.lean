/- Shapes of values, with unknown cells. -/
import Derived.Test.YtpahaogeenalpaaGreatEvTabs
import Derived.Test.YtpahaogeenalpaaGreatEvSub
set_option linter.all false
/- Shapes of values, with unknown cells. -/
namespace Go.Ev
open Go.Proofs
namespace D
abbrev bo (b : Bool) : PV := .v (.bool b)
def slOf (es : List (List PV)) : PV := match es with
  | [] => nl
  | e :: r => .sl (e :: r) false
def ur (a : Nat) : Nat → List PV
  | 0 => []
  | n + 1 => .unk a :: ur (a + 1) n
/-- an unknown value: seven cells from 7 n on -/
def U (n : Nat) : List PV := ur (7 * n) 7
def Us (a : Nat) : Nat → List (List PV)
  | 0 => []
  | n + 1 => U a :: Us (a + 1) n
def zero : List PV := [i 0, i 0, sb [], nl, nl, nl, nl]
def labels : List PV := [nl, slOf [[sb [65]]], slOf [[sb [66]]], slOf [[sb [67]]], slOf [[sb [65]], [sb [66]]], slOf [[sb [65]], [sb [67]]], slOf [[sb [66]], [sb [67]]]]
def atoms : List PV := [sb [97], sb [98], sb [111,107], sb [101,114,114,111,114]]
def words : List PV := [sb [], sb [115], sb [120,32,121], sb [97]]
def nums : List PV := [i 0, i 1, j 0, i 2, i 3, j 1, i 7, j 9223372036854775807, i 9223372036854775807, i 10]
def pids : List PV := [i 0, i 1, i 2]
def vInt (n l : PV) : List PV := [i 1, n, sb [], nl, nl, nl, l]
def vStr (t l : PV) : List PV := [i 2, i 0, t, nl, nl, nl, l]
def vAtom (t l : PV) : List PV := [i 3, i 0, t, nl, nl, nl, l]
def vPid (n l : PV) : List PV := [i 4, n, sb [], nl, nl, nl, l]
def vNil (l : PV) : List PV := [i 5, i 0, sb [], nl, nl, nl, l]
def vTup (ks : List (List PV)) (l : PV) : List PV := [i 6, i 0, sb [], slOf ks, nl, nl, l]
def vCons (h t : List PV) (l : PV) : List PV := [i 7, i 0, sb [], slOf [h, t], nl, nl, l]
def vMap (keys ks : List (List PV)) (l : PV) : List PV := [i 8, i 0, sb [], slOf ks, slOf keys, nl, l]
def vFun (n : PV) (es : List (List PV)) (l : PV) : List PV := [i 9, n, sb [], nl, nl, slOf es, l]
/-- an entry: arguments, and a result or none -/
def ent (xs : List (List PV)) : Option (List PV) → List PV
  | none => slOf xs :: bo true :: zero
  | some r => slOf xs :: bo false :: r
def keys : List (List PV) := (atoms.map fun t => [i 0, t]) ++ (words.map fun t => [i 1, t])
/-- all key lists of a map -/
def keyLists : List (List (List PV)) := [] :: (keys.map fun k => [k]) ++ (List.range 8).flatMap fun a => (List.range 8).filterMap fun b => match Nat.blt a b with
  | true => match ordKeys[a]?, ordKeys[b]? with
    | some x, some y => some [x, y]
    | _, _ => none
  | false => none
where ordKeys : List (List PV) := [[i 0, sb [97]], [i 0, sb [98]], [i 0, sb [101,114,114,111,114]], [i 0, sb [111,107]], [i 1, sb []], [i 1, sb [97]], [i 1, sb [115]], [i 1, sb [120,32,121]]]
def cube {α : Type} (l : List α) : Nat → List (List α)
  | 0 => [[]]
  | n + 1 => (cube l n).flatMap fun r => l.map fun x => x :: r
abbrev num (z : Int) : PV := .v (.int .i64 z)
noncomputable def chk (fi : FI) (B : Book) (ds : List PV) (q : PV) : Bool := comesF tys fnsF B 100000 fi ds q
/-- answers of a function for unknown values -/
def pg (l : List (List PV)) (g : List PV → List PV) (qs : List PV) : Page := (l.zip qs).map fun x => (g x.1, x.2)
def allTrue (l : List (List PV)) : Page := l.map fun k => ([.agg k], bo true)
/-- entry patterns: does it fail? -/
def entN (a n : Nat) (f : Bool) : List PV := ent (Us a n) (match f with | true => none | false => some (U (a + n)))
def entKids (a n : Nat) (f : Bool) : List (List PV) := Us a n ++ (match f with | true => [] | false => [U (a + n)])
def entsN (n : Nat) : List Bool → Nat → List (List PV)
  | [], _ => []
  | f :: r, a => entN a n f :: entsN n r (a + n + 1)
def entsKids (n : Nat) : List Bool → Nat → List (List PV)
  | [], _ => []
  | f :: r, a => entKids a n f ++ entsKids n r (a + n + 1)
def ordPage : List (List PV) → Page
  | [a, b] => [([.agg a, .agg b], j 0)]
  | _ => []
def flags : List (List Bool) := cube [true, false] 0 ++ cube [true, false] 1 ++ cube [true, false] 2
/-! ### Valid -/
def vLeaf (l : PV) : List (List PV) := vInt (.unk 0) l :: vNil l :: (words.map (vStr · l)) ++ (atoms.map (vAtom · l)) ++ (pids.map (vPid · l))
noncomputable def okLeaf : Bool := labels.all fun l => (vLeaf l).all fun s => chk e40 [] [.agg s] (bo true)
noncomputable def okTup : Bool := labels.all fun l => (List.range 4).all fun n => chk e40 [(40, allTrue (Us 0 n))] [.agg (vTup (Us 0 n) l)] (bo true)
noncomputable def okCons : Bool := labels.all fun l => [5, 7].all fun t => chk e40 [(40, allTrue [U 0, i t :: ur 8 6])] [.agg (vCons (U 0) (i t :: ur 8 6) l)] (bo true)
noncomputable def okMap (l : PV) : Bool := keyLists.all fun ks => chk e40 [(40, allTrue (Us 0 ks.length))] [.agg (vMap ks (Us 0 ks.length) l)] (bo true)
noncomputable def okFun (n : Nat) : Bool := labels.all fun l => flags.all fun fs => chk e40 [(40, allTrue (entsKids n fs 0)), (103, [([.agg zero, .agg zero], i 0)]), (104, ordPage (entsN n fs 0))] [.agg (vFun (i n) (entsN n fs 0) l)] (bo true)
end D
end Go.Ev

/- Facts over shapes: which run answers what. -/
namespace Go.Ev
open Go.Proofs
namespace D
def tData : PV := (.agg [(.sl [[(i 16), (i 0), (i 0), (sb []), (.sl [[(i 1)], [(i 2)], [(i 3)], [(i 4)], [(i 5)], [(i 6)], [(i 7)], [(i 8)], [(i 9)], [(i 10)], [(i 11)], [(i 12)]] false), nl, (i 0), (i 0)], [(i 3), (j 9223372036854775807), (i 9223372036854775807), (sb []), nl, nl, (i 0), (i 0)], [(i 5), (i 0), (i 0), (sb []), nl, nl, (i 0), (i 0)], [(i 7), (i 0), (i 0), (sb []), nl, nl, (i 0), (i 0)], [(i 8), (i 0), (i 0), (sb []), nl, nl, (i 0), (i 0)], [(i 9), (i 0), (i 0), (sb []), nl, nl, (i 0), (i 0)], [(i 12), (i 0), (i 0), (sb []), (.sl [[(i 0)], [(i 0)]] true), nl, (i 0), (i 0)], [(i 13), (i 0), (i 0), (sb []), nl, nl, (i 0), (i 0)], [(i 10), (i 0), (i 0), (sb []), (.sl [] true), nl, (i 0), (i 0)], [(i 10), (i 0), (i 0), (sb []), (.sl [[(i 0)]] true), nl, (i 0), (i 0)], [(i 10), (i 0), (i 0), (sb []), (.sl [[(i 0)], [(i 0)]] true), nl, (i 0), (i 0)], [(i 10), (i 0), (i 0), (sb []), (.sl [[(i 0)], [(i 0)], [(i 0)]] true), nl, (i 0), (i 0)], [(i 10), (i 0), (i 0), (sb []), (.sl [[(i 0)], [(i 0)], [(i 0)], [(i 0)]] true), nl, (i 0), (i 0)]] false), (i 0)])
def tFun0 : PV := (.agg [(.sl [[(i 17), (i 0), (i 0), (sb []), (.sl [[(i 1)], [(i 2)], [(i 6)], [(i 11)], [(i 17)]] false), nl, (i 0), (i 0)], [(i 15), (i 0), (i 0), (sb []), nl, nl, (i 0), (i 0)], [(i 18), (i 0), (i 0), (sb []), (.sl [[(i 3)]] false), nl, (i 0), (i 0)], [(i 14), (i 0), (i 0), (sb []), (.sl [[(i 4)], [(i 5)]] false), nl, (i 0), (i 0)], [(i 1), (i 0), (i 0), (sb []), nl, nl, (i 0), (i 0)], [(i 2), (i 0), (i 0), (sb []), nl, nl, (i 0), (i 0)], [(i 18), (i 0), (i 0), (sb []), (.sl [[(i 7)]] false), nl, (i 0), (i 0)], [(i 14), (i 0), (i 0), (sb []), (.sl [[(i 8)], [(i 9)], [(i 10)]] false), nl, (i 0), (i 0)], [(i 1), (i 0), (i 0), (sb []), nl, nl, (i 0), (i 0)], [(i 1), (i 0), (i 0), (sb []), nl, nl, (i 0), (i 0)], [(i 2), (i 0), (i 0), (sb []), nl, nl, (i 0), (i 0)], [(i 18), (i 0), (i 0), (sb []), (.sl [[(i 12)]] false), nl, (i 0), (i 0)], [(i 14), (i 0), (i 0), (sb []), (.sl [[(i 13)], [(i 14)], [(i 15)], [(i 16)]] false), nl, (i 0), (i 0)], [(i 1), (i 0), (i 0), (sb []), nl, nl, (i 0), (i 0)], [(i 1), (i 0), (i 0), (sb []), nl, nl, (i 0), (i 0)], [(i 1), (i 0), (i 0), (sb []), nl, nl, (i 0), (i 0)], [(i 2), (i 0), (i 0), (sb []), nl, nl, (i 0), (i 0)], [(i 18), (i 0), (i 0), (sb []), (.sl [[(i 18)]] false), nl, (i 0), (i 0)], [(i 14), (i 0), (i 0), (sb []), (.sl [[(i 19)], [(i 20)], [(i 21)], [(i 22)], [(i 23)]] false), nl, (i 0), (i 0)], [(i 1), (i 0), (i 0), (sb []), nl, nl, (i 0), (i 0)], [(i 1), (i 0), (i 0), (sb []), nl, nl, (i 0), (i 0)], [(i 1), (i 0), (i 0), (sb []), nl, nl, (i 0), (i 0)], [(i 1), (i 0), (i 0), (sb []), nl, nl, (i 0), (i 0)], [(i 2), (i 0), (i 0), (sb []), nl, nl, (i 0), (i 0)]] false), (i 0)])
def tFun1 : PV := (.agg [(.sl [[(i 14), (i 0), (i 0), (sb []), (.sl [[(i 1)], [(i 2)]] false), nl, (i 0), (i 0)], [(i 1), (i 0), (i 0), (sb []), nl, nl, (i 0), (i 0)], [(i 2), (i 0), (i 0), (sb []), nl, nl, (i 0), (i 0)]] false), (i 0)])
def tFun2 : PV := (.agg [(.sl [[(i 14), (i 0), (i 0), (sb []), (.sl [[(i 1)], [(i 2)], [(i 3)]] false), nl, (i 0), (i 0)], [(i 1), (i 0), (i 0), (sb []), nl, nl, (i 0), (i 0)], [(i 1), (i 0), (i 0), (sb []), nl, nl, (i 0), (i 0)], [(i 2), (i 0), (i 0), (sb []), nl, nl, (i 0), (i 0)]] false), (i 0)])
def tFun3 : PV := (.agg [(.sl [[(i 14), (i 0), (i 0), (sb []), (.sl [[(i 1)], [(i 2)], [(i 3)], [(i 4)]] false), nl, (i 0), (i 0)], [(i 1), (i 0), (i 0), (sb []), nl, nl, (i 0), (i 0)], [(i 1), (i 0), (i 0), (sb []), nl, nl, (i 0), (i 0)], [(i 1), (i 0), (i 0), (sb []), nl, nl, (i 0), (i 0)], [(i 2), (i 0), (i 0), (sb []), nl, nl, (i 0), (i 0)]] false), (i 0)])
def tFun4 : PV := (.agg [(.sl [[(i 14), (i 0), (i 0), (sb []), (.sl [[(i 1)], [(i 2)], [(i 3)], [(i 4)], [(i 5)]] false), nl, (i 0), (i 0)], [(i 1), (i 0), (i 0), (sb []), nl, nl, (i 0), (i 0)], [(i 1), (i 0), (i 0), (sb []), nl, nl, (i 0), (i 0)], [(i 1), (i 0), (i 0), (sb []), nl, nl, (i 0), (i 0)], [(i 1), (i 0), (i 0), (sb []), nl, nl, (i 0), (i 0)], [(i 2), (i 0), (i 0), (sb []), nl, nl, (i 0), (i 0)]] false), (i 0)])
def tTot0 : PV := (.agg [(.sl [[(i 14), (i 0), (i 0), (sb []), (.sl [[(i 1)]] false), nl, (i 0), (i 0)], [(i 2), (i 0), (i 0), (sb []), nl, nl, (i 0), (i 0)]] false), (i 0)])
def tTot1 : PV := (.agg [(.sl [[(i 14), (i 0), (i 0), (sb []), (.sl [[(i 1)], [(i 2)]] false), nl, (i 0), (i 0)], [(i 2), (i 0), (i 0), (sb []), nl, nl, (i 0), (i 0)], [(i 2), (i 0), (i 0), (sb []), nl, nl, (i 0), (i 0)]] false), (i 0)])
def tTot2 : PV := (.agg [(.sl [[(i 14), (i 0), (i 0), (sb []), (.sl [[(i 1)], [(i 2)], [(i 3)]] false), nl, (i 0), (i 0)], [(i 2), (i 0), (i 0), (sb []), nl, nl, (i 0), (i 0)], [(i 2), (i 0), (i 0), (sb []), nl, nl, (i 0), (i 0)], [(i 2), (i 0), (i 0), (sb []), nl, nl, (i 0), (i 0)]] false), (i 0)])
def tTot3 : PV := (.agg [(.sl [[(i 14), (i 0), (i 0), (sb []), (.sl [[(i 1)], [(i 2)], [(i 3)], [(i 4)]] false), nl, (i 0), (i 0)], [(i 2), (i 0), (i 0), (sb []), nl, nl, (i 0), (i 0)], [(i 2), (i 0), (i 0), (sb []), nl, nl, (i 0), (i 0)], [(i 2), (i 0), (i 0), (sb []), nl, nl, (i 0), (i 0)], [(i 2), (i 0), (i 0), (sb []), nl, nl, (i 0), (i 0)]] false), (i 0)])
def tTot4 : PV := (.agg [(.sl [[(i 14), (i 0), (i 0), (sb []), (.sl [[(i 1)], [(i 2)], [(i 3)], [(i 4)], [(i 5)]] false), nl, (i 0), (i 0)], [(i 2), (i 0), (i 0), (sb []), nl, nl, (i 0), (i 0)], [(i 2), (i 0), (i 0), (sb []), nl, nl, (i 0), (i 0)], [(i 2), (i 0), (i 0), (sb []), nl, nl, (i 0), (i 0)], [(i 2), (i 0), (i 0), (sb []), nl, nl, (i 0), (i 0)], [(i 2), (i 0), (i 0), (sb []), nl, nl, (i 0), (i 0)]] false), (i 0)])
def tBool : PV := (.agg [(.sl [[(i 16), (i 0), (i 0), (sb []), (.sl [[(i 1)], [(i 2)]] true), nl, (i 0), (i 0)], [(i 6), (i 0), (i 0), (sb [102,97,108,115,101]), nl, nl, (i 0), (i 0)], [(i 6), (i 0), (i 0), (sb [116,114,117,101]), nl, nl, (i 0), (i 0)]] false), (i 0)])
def tList : PV := (.agg [(.sl [[(i 16), (i 0), (i 0), (sb []), (.sl [[(i 1)], [(i 2)]] true), nl, (i 0), (i 0)], [(i 9), (i 0), (i 0), (sb []), nl, nl, (i 0), (i 0)], [(i 12), (i 0), (i 0), (sb []), (.sl [[(i 3)], [(i 3)]] true), nl, (i 0), (i 0)], [(i 2), (i 0), (i 0), (sb []), nl, nl, (i 0), (i 0)]] false), (i 0)])


def tys13 : List PV := [tData, tFun0, tFun1, tFun2, tFun3, tFun4, tTot0, tTot1, tTot2, tTot3, tTot4, tBool, tList]
def tFuns : List PV := [tFun0, tFun1, tFun2, tFun3, tFun4]
def tTots : List PV := [tTot0, tTot1, tTot2, tTot3, tTot4]
def B2 : List Bool := [true, false]
/-! ### does a function occur in it? -/
def hs (k n : Nat) : List PV := [i k, .unk (7 * n), .unk (7 * n + 1), slOf (Us 0 n), .unk (7 * n + 2), .unk (7 * n + 3), .unk (7 * n + 4)]
def kidPg (n : Nat) (g : List PV → List PV) (bs : List Bool) : Page := pg (Us 0 n) g (bs.map bo)
def anyB (bs : List Bool) : Bool := bs.any _root_.id
def allB (bs : List Bool) : Bool := bs.all _root_.id
noncomputable def okHolds (n : Nat) : Bool := [1, 2, 3, 4, 5, 6, 7, 8].all fun k => (cube B2 n).all fun bs => chk e7 [(7, kidPg n (fun u => [.agg u]) bs)] [.agg (hs k n)] (bo (anyB bs))
noncomputable def okHoldsF : Bool := chk e7 [] [.agg (i 9 :: ur 0 6)] (bo true)
/-! ### members of Data -/
def mapS (kds : List Nat) : List PV :=
  let n := kds.length
  [i 8, .unk (7 * n), .unk (7 * n + 1), slOf (Us 0 n), slOf (kz (7 * n + 2) kds), .unk (7 * n + 2 + n), .unk (7 * n + 3 + n)]
where kz (a : Nat) : List Nat → List (List PV)
  | [] => []
  | k :: r => [i k, .unk a] :: kz (a + 1) r
def atData (s : List PV) (m : Nat) : List PV := [.agg s, tData, i m]
noncomputable def okMem (s : List PV) (n : Nat) (bs : List Bool) (idx : Nat) : Bool :=
  ((List.range 12).all fun m => chk e43 [(43, kidPg n (fun u => atData u 0) bs)] (atData s (m + 1)) (bo (Nat.beq (m + 1) idx && allB bs))) &&
    chk e43 [(43, (List.range 12).map fun m => (atData s (m + 1), bo (Nat.beq (m + 1) idx && allB bs)))] (atData s 0) (bo (!Nat.beq idx 0 && allB bs))
noncomputable def okMemLeaf : Bool := (nums.all fun n => okMem (vInt n (.unk 0)) 0 [] 1) && ([2, 3, 4, 5].all fun k => okMem (i k :: ur 0 6) 0 [] k) && okMem (i 9 :: ur 0 6) 0 [] 0
noncomputable def okMemTup (n : Nat) : Bool := (cube B2 n).all fun bs => okMem (hs 6 n) n bs (8 + n)
noncomputable def okMemCons : Bool := (cube B2 2).all fun bs => okMem (hs 7 2) 2 bs 6
noncomputable def okMemMap (n : Nat) : Bool := (cube [0, 1] n).all fun kds => (cube B2 n).all fun bs => okMem (mapS kds) n bs 7
/-! ### members of the other types -/
noncomputable def chkM (fi : FI) (ds : List PV) (q : PV) : Bool := comesF tys fnsM [] 100000 fi ds q
def at0 (s : List PV) (t : PV) : List PV := [.agg s, t, i 0]
def funS (n : Nat) (fs : List Bool) : List PV := let u := 7 * ((n + 1) * fs.length); [i 9, i n, .unk u, .unk (u + 1), .unk (u + 2), slOf (entsN n fs 0), .unk (u + 3)]
noncomputable def okNoFun : Bool := [1, 2, 3, 4, 5, 6, 7, 8].all fun k => (tFuns ++ tTots).all fun t => chkM e43 (at0 (i k :: ur 0 6) t) (bo false)
noncomputable def okFunFun : Bool := (List.range 3).all fun n => flags.all fun fs => (List.range 5).all fun a => match tFuns[a]? with
  | some t => chkM e43 (at0 (funS n fs) t) (bo (Nat.beq n a))
  | none => false
noncomputable def okFunTot : Bool := (List.range 3).all fun n => flags.all fun fs => (List.range 5).all fun a => match tTots[a]? with
  | some t => chkM e43 (at0 (funS n fs) t) (bo (Nat.beq n a && !anyB fs))
  | none => false
noncomputable def okBoolT : Bool := ([1, 2, 4, 5, 6, 7, 8, 9].all fun k => chkM e43 (at0 (i k :: ur 0 6) tBool) (bo false)) && atoms.all fun t => chkM e43 (at0 (i 3 :: .unk 0 :: t :: ur 1 4) tBool) (bo false)
noncomputable def okListT : Bool := ([1, 2, 3, 4, 6, 8, 9].all fun k => chkM e43 (at0 (i k :: ur 0 6) tList) (bo false)) && chkM e43 (at0 (i 5 :: ur 0 6) tList) (bo true) && chkM e43 (at0 (hs 7 2) tList) (bo true)
noncomputable def okAny : Bool := chk e43 [] [.agg (U 0), tList, i 3] (bo true)
noncomputable def okMember : Bool := tys13.all fun t => B2.all fun b => chk e5 [(40, [([.agg (U 0)], bo true)]), (41, [([t], i 0)]), (43, [(at0 (U 0) t, bo b)])] [.agg (U 0), t] (bo b)
/-! ### comparing -/
def sgn (a b : Int) : Int := if a < b then -1 else if b < a then 1 else 0
def sgnB (a b : List UInt8) : Int := if bytesLt a b then -1 else if bytesLt b a then 1 else 0
def sgnP : PV → PV → Int
  | .v (.int _ a), .v (.int _ b) => sgn a b
  | .v (.string a), .v (.string b) => sgnB a.data.toList b.data.toList
  | _, _ => 0
def fst3 : List Int → Int
  | [] => 0
  | c :: r => if c = 0 then fst3 r else c
def sgnEs : List (List PV) → List (List PV) → Int
  | [a] :: r, [b] :: s => if sgnP a b = 0 then sgnEs r s else sgnP a b
  | _, _ => 0
def labLen : PV → List (List PV)
  | .sl es _ => es
  | _ => []
def labCmp (a b : PV) : Int := let x := labLen a; let y := labLen b; if x.length = y.length then sgnEs x y else sgn x.length y.length
noncomputable def chkC (fi : FI) (B : Book) (ds : List PV) (q : PV) : Bool := comesF tys fnsC B 100000 fi ds q
def S3 : List Int := [-1, 0, 1]
def S2 : List Int := [-1, 1]
def pair (a b : List PV) : List PV := [.agg a, .agg b]
def vals0 : Nat × Page := (151, [([nl, nl], i 0)])
noncomputable def okKinds : Bool := [1, 2, 3, 4, 5, 6, 7, 8, 9].all fun a => [1, 2, 3, 4, 5, 6, 7, 8, 9].all fun b => Nat.beq a b || chkC e103 [] (pair (i a :: ur 0 6) (i b :: ur 6 6)) (num (sgn a b))
noncomputable def okInts (k : Nat) (l : List PV) : Bool := l.all fun a => l.all fun b => sgnP a b == 0 || chkC e103 [] (pair (i k :: a :: ur 0 5) (i k :: b :: ur 5 5)) (num (sgnP a b))
noncomputable def okTexts (k : Nat) (l : List PV) : Bool := l.all fun a => l.all fun b => sgnP a b == 0 || chkC e103 [] (pair (i k :: i 0 :: a :: ur 0 4) (i k :: i 0 :: b :: ur 4 4)) (num (sgnP a b))
noncomputable def okSame (f : PV → List PV) : Bool := labels.all fun a => labels.all fun b => chkC e103 [vals0] (pair (f a) (f b)) (num (labCmp a b))
noncomputable def okLeafC : Bool := (nums.all fun n => okSame (vInt n)) && okSame vNil
noncomputable def okLeafC2 : Bool := (words.all fun t => okSame (vStr t)) && (atoms.all fun t => okSame (vAtom t)) && (pids.all fun t => okSame (vPid t))
def kidsS (k : Nat) (u l : PV) : List PV := [i k, i 0, sb [], u, nl, nl, l]
noncomputable def okKids (k : Nat) : Bool := (S2.all fun c => chkC e103 [(151, [([.unk 0, .unk 1], num c)])] (pair (kidsS k (.unk 0) (.unk 2)) (kidsS k (.unk 1) (.unk 3))) (num c)) &&
  labels.all fun a => labels.all fun b => chkC e103 [(151, [([.unk 0, .unk 1], i 0)])] (pair (kidsS k (.unk 0) a) (kidsS k (.unk 1) b)) (num (labCmp a b))
/-- n unknown keys from a on -/
def kys (a : Nat) : Nat → List (List PV)
  | 0 => []
  | n + 1 => ur a 2 :: kys (a + 2) n
def mpS (ks : List (List PV)) (u l : PV) : List PV := [i 8, i 0, sb [], u, slOf ks, nl, l]
noncomputable def okKeyLen : Bool := (List.range 3).all fun n => (List.range 3).all fun m => Nat.beq n m || chkC e103 [] (pair (mpS (kys 4 n) (.unk 0) (.unk 2)) (mpS (kys (4 + 2 * n) m) (.unk 1) (.unk 3))) (num (sgn n m))
def keyPg (n : Nat) (cs : List Int) : Page := pg2 (kys 4 n) (kys (4 + 2 * n) n) cs
where pg2 : List (List PV) → List (List PV) → List Int → Page
  | a :: r, b :: s, c :: t => (pair a b, num c) :: pg2 r s t
  | _, _, _ => []
noncomputable def okMapC (n : Nat) : Bool := (cube S3 n).all fun cs => match decide (fst3 cs = 0) with
  | false => chkC e103 [(65, keyPg n cs)] (pair (mpS (kys 4 n) (.unk 0) (.unk 2)) (mpS (kys (4 + 2 * n) n) (.unk 1) (.unk 3))) (num (fst3 cs))
  | true => (S2.all fun c => chkC e103 [(65, keyPg n cs), (151, [([.unk 0, .unk 1], num c)])] (pair (mpS (kys 4 n) (.unk 0) (.unk 2)) (mpS (kys (4 + 2 * n) n) (.unk 1) (.unk 3))) (num c)) &&
    labels.all fun a => labels.all fun b => chkC e103 [(65, keyPg n cs), (151, [([.unk 0, .unk 1], i 0)])] (pair (mpS (kys 4 n) (.unk 0) a) (mpS (kys (4 + 2 * n) n) (.unk 1) b)) (num (labCmp a b))
/-- n unknown entries from a on -/
def eys (a : Nat) : Nat → List (List PV)
  | 0 => []
  | n + 1 => ur a 9 :: eys (a + 9) n
def fnS (r : Nat) (es : List (List PV)) (l : PV) : List PV := [i 9, i r, sb [], nl, nl, slOf es, l]
noncomputable def okEntLen : Bool := (List.range 3).all fun r => (List.range 3).all fun n => (List.range 3).all fun m => Nat.beq n m || chkC e103 [vals0] (pair (fnS r (eys 2 n) (.unk 0)) (fnS r (eys (2 + 9 * n) m) (.unk 1))) (num (sgn n m))
def entPg (n : Nat) (cs : List Int) : Page := keyPg.pg2 (eys 2 n) (eys (2 + 9 * n) n) cs
noncomputable def okFunC (r n : Nat) : Bool := (cube S3 n).all fun cs => match decide (fst3 cs = 0) with
  | false => chkC e103 [vals0, (104, entPg n cs)] (pair (fnS r (eys 2 n) (.unk 0)) (fnS r (eys (2 + 9 * n) n) (.unk 1))) (num (fst3 cs))
  | true => labels.all fun a => labels.all fun b => chkC e103 [vals0, (104, entPg n cs)] (pair (fnS r (eys 2 n) a) (fnS r (eys (2 + 9 * n) n) b)) (num (labCmp a b))
noncomputable def okZero : Bool := chkC e103 [vals0] (pair zero zero) (i 0)
noncomputable def okValLen : Bool := (List.range 4).all fun n => (List.range 4).all fun m => Nat.beq n m || chkC e151 [] [slOf (Us 0 n), slOf (Us n m)] (num (sgn n m))
noncomputable def okVals (n : Nat) : Bool := (cube S3 n).all fun cs => chkC e151 [(103, keyPg.pg2 (Us 0 n) (Us n n) cs)] [slOf (Us 0 n), slOf (Us n n)] (num (fst3 cs))
noncomputable def okEnts : Bool := S3.all fun c => S3.all fun d => B2.all fun f =>
  chkC e104 [(151, [([.unk 0, .unk 1], num c)]), (103, [(pair (ur 2 7) (ur 9 7), num d)])] (pair (.unk 0 :: bo f :: ur 2 7) (.unk 1 :: bo f :: ur 9 7)) (num (if c = 0 then d else c))
noncomputable def okEnts2 : Bool := S3.all fun c => B2.all fun f =>
  chkC e104 [(151, [([.unk 0, .unk 1], num c)])] (pair (.unk 0 :: bo f :: ur 2 7) (.unk 1 :: bo (!f) :: ur 9 7)) (num (if c = 0 then (match f with | true => -1 | false => 1) else c))
noncomputable def okCKeys : Bool := keys.all fun a => keys.all fun b => match a, b with
  | [a0, a1], [b0, b1] => chkC e65 [] (pair a b) (num (if sgnP a0 b0 = 0 then sgnP a1 b1 else sgnP a0 b0))
  | _, _ => false
/-! ### making -/
noncomputable def okMake : Bool := ((List.range 4).all fun n => chk e31 [] [slOf (Us 0 n)] (.agg (vTup (Us 0 n) nl))) && chk e32 [] [] (.agg (vNil nl)) && chk e33 [] (pair (U 0) (U 1)) (.agg (vCons (U 0) (U 1) nl)) &&
  chk e57 [] [.unk 0] (.agg (vInt (.unk 0) nl)) && chk e59 [] [.unk 0] (.agg (vAtom (.unk 0) nl)) && chk e61 [] [.unk 0] (.agg (vStr (.unk 0) nl)) && chk e63 [] [.unk 0] (.agg (vPid (.unk 0) nl))
def keyCmp (a b : List PV) : Int := match a, b with
  | [a0, a1], [b0, b1] => if sgnP a0 b0 = 0 then sgnP a1 b1 else sgnP a0 b0
  | _, _ => 0
/-- what Map answers -/
def mapRes (ks vs : List (List PV)) : PV := match ks, vs with
  | [a, b], [u, w] => if keyCmp a b = 0 then .tup [.agg zero, i 6] else if keyCmp a b < 0 then .tup [.agg (vMap [a, b] [u, w] nl), i 0] else .tup [.agg (vMap [b, a] [w, u] nl), i 0]
  | ks, vs => .tup [.agg (vMap ks vs nl), i 0]
noncomputable def okMkMap : Bool := chk e35 [] [nl, nl] (mapRes [] []) && (keys.all fun a => chk e35 [] [slOf [a], slOf (Us 0 1)] (mapRes [a] (Us 0 1)))
noncomputable def okMkMap2 : Bool := keys.all fun a => keys.all fun b => chk e35 [] [slOf [a, b], slOf (Us 0 2)] (mapRes [a, b] (Us 0 2))
/-- what Function answers -/
def funRes (n : PV) (es : List (List PV)) (c : Int) : PV := match es with
  | [a, b] => if c = 0 then .tup [.agg (vFun n [a] nl), i 0] else if c < 0 then .tup [.agg (vFun n [a, b] nl), i 0] else .tup [.agg (vFun n [b, a] nl), i 0]
  | es => .tup [.agg (vFun n es nl), i 0]
def cPage : List (List PV) → Int → Page
  | [a, b], c => [(pair a b, num c)]
  | _, _ => []
noncomputable def okMkFun (n : Nat) : Bool := flags.all fun fs => S3.all fun c => chk e37 [(104, cPage (entsN n fs 0) c), (103, [(pair zero zero, i 0)])] [i n, slOf (entsN n fs 0)] (funRes (i n) (entsN n fs 0) c)
def labs3 : List (List PV) := [[sb [65]], [sb [66]], [sb [67]]]
def labRes (ls : List (List PV)) : PV := match ls with
  | [[a], [b]] => if sgnP a b = 0 then slOf [[a]] else if sgnP a b < 0 then slOf ls else slOf [[b], [a]]
  | ls => slOf ls
noncomputable def okSort : Bool := chk e39 [] [nl] nl && (labs3.all fun a => chk e39 [] [slOf [a]] (labRes [a])) && labs3.all fun a => labs3.all fun b => chk e39 [] [slOf [a, b]] (labRes [a, b])
end D
end Go.Ev
