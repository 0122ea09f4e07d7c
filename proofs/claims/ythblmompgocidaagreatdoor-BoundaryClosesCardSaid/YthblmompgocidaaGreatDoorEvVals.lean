/- Types, data and what is asked of them: definitions. -/
import Derived.Test.YthblmompgocidaaGreatDoorEvFast
import Derived.Test.YthblmompgocidaaGreatDoorEvTabs
set_option linter.all false
/- Types, data and what is asked of them: definitions. -/
namespace Go.Ev.B
abbrev I (n : Nat) : PV := .v (.int .i64 (.ofNat n))
abbrev J (n : Nat) : PV := .v (.int .i64 (.negSucc n))
abbrev NL : PV := .v (.slice none 0 0)
abbrev S (l : List Nat) : PV := .v (.string ⟨⟨l.map UInt8.ofNat⟩⟩)
abbrev Bo (b : Bool) : PV := .v (.bool b)
def slO (es : List (List PV)) : PV := match es with
  | [] => NL
  | e :: r => .sl (e :: r) false
def ur (a : Nat) : Nat → List PV
  | 0 => []
  | n + 1 => .unk a :: ur (a + 1) n
/-- n lists of s unknown cells each, from b on -/
def us (s b : Nat) : Nat → List (List PV)
  | 0 => []
  | n + 1 => ur b s :: us s (b + s) n

/-! ### the eight types -/
inductive NK where
  | no
  | int
  | atom (t : List Nat)
  | nil
  | tup (ks : List Nat)
  | cons (x y : Nat)
  | map (f r0 r1 : Nat)
  | fn (ks : List Nat)
  | un (ks : List Nat)
def nds : Nat → List NK
  | 0 => [.int, .int, .fn [0, 1]]
  | 1 => [.int, .int, .fn [0, 1], .int, .tup [2, 3]]
  | 2 => [.atom [97], .int, .int, .fn [1, 2], .tup [0, 3], .atom [111, 107], .int, .tup [5, 6], .un [4, 7]]
  | 3 => [.int, .int, .fn [0, 1], .nil, .cons 2 5, .un [3, 4]]
  | 4 => [.int, .int, .fn [0, 1], .no, .no, .map 2 3 4]
  | 5 => [.int, .int, .int, .fn [1, 2], .un [0, 3]]
  | 6 => [.int, .tup [0], .int, .int, .fn [2, 3], .un [1, 4]]
  | _ => [.int, .fn [0]]
def rt : Nat → Nat
  | 0 => 2
  | 1 => 4
  | 2 => 8
  | 3 => 5
  | 4 => 5
  | 5 => 4
  | 6 => 5
  | _ => 1
/-- the function node of a type -/
def fk : Nat → Nat
  | 0 => 2
  | 1 => 2
  | 2 => 3
  | 3 => 2
  | 4 => 2
  | 5 => 3
  | 6 => 4
  | _ => 1
def far : Nat → Nat
  | 7 => 0
  | _ => 1
def ixs (l : List Nat) : PV := slO (l.map fun k => [I k])
def ndPV : NK → List PV
  | .no => [I 1, I 0, I 0, S [], NL, NL, I 0, I 0]
  | .int => [I 3, J 9223372036854775807, I 9223372036854775807, S [], NL, NL, I 0, I 0]
  | .atom t => [I 6, I 0, I 0, S t, NL, NL, I 0, I 0]
  | .nil => [I 9, I 0, I 0, S [], NL, NL, I 0, I 0]
  | .tup ks => [I 10, I 0, I 0, S [], ixs ks, NL, I 0, I 0]
  | .cons x y => [I 12, I 0, I 0, S [], ixs [x, y], NL, I 0, I 0]
  | .map f r0 r1 => [I 13, I 0, I 0, S [], NL, slO [[I 0, S [97], I f, Bo false]], I r0, I r1]
  | .fn ks => [I 14, I 0, I 0, S [], ixs ks, NL, I 0, I 0]
  | .un ks => [I 16, I 0, I 0, S [], ixs ks, NL, I 0, I 0]
def nodes (a : Nat) : PV := slO ((nds a).map ndPV)
def T (a : Nat) : PV := .agg [nodes a, I (rt a)]
def Tk (a k : Nat) : PV := .agg [nodes a, I k]
def pq : List PV := [S [112], S [113]]
/-- the wrapper of a type -/
def W (a : Nat) : PV := .agg [nodes a, I (rt a), S [112], S [113]]

/-! ### data and the values that they show -/
def dFlat (k : Nat) (m x : PV) : List PV := [I k, m, x, NL, NL, S [], I 0, I 0, Bo false, NL, I 0, S [], S []]
def dComp (k : Nat) (kids keys : List (List PV)) : List PV := [I k, I 0, S [], slO kids, slO keys, S [], I 0, I 0, Bo false, NL, I 0, S [], S []]
def vFlat (k : Nat) (m x : PV) : List PV := [I k, m, x, NL, NL, NL, NL]
def vComp (k : Nat) (kids keys : List (List PV)) : List PV := [I k, I 0, S [], slO kids, slO keys, NL, NL]
def dFun (ar : Nat) (m : List Nat) (v r : Nat) : List PV := [I 9, I ar, S [], NL, NL, S m, I v, I r, Bo false, NL, I 0, S [], S []]
/-- a wrapped function -/
def dWr (ar : Nat) (f : List PV) (cn : PV) (cr : Nat) (inn out : List Nat) : List PV := [I 9, I ar, S [], slO [f], NL, S [], I 0, I 0, Bo true, cn, I cr, S inn, S out]
inductive LF where
  | int (z : Int)
  | str (t : List Nat)
  | atom (t : List Nat)
  | pid (n : Nat)
  | nil
  | fn (ar : Nat) (m : List Nat) (v r : Nat)
  /-- wrapped by Made -/
  | wr (ar : Nat) (m : List Nat) (v r : Nat)
  /-- wrapped by near -/
  | nw (a : Nat) (inn out : List Nat)
def madeC (ar : Nat) : PV := slO [[I 14, I 0, I 0, S [], ixs (List.replicate (ar + 1) 1), NL, I 0, I 0], [I 2, I 0, I 0, S [], NL, NL, I 0, I 0]]
def ld : LF → List PV
  | .int z => dFlat 1 (.v (.int .i64 z)) (S [])
  | .str t => dFlat 2 (I 0) (S t)
  | .atom t => dFlat 3 (I 0) (S t)
  | .pid n => dFlat 4 (I n) (S [])
  | .nil => dFlat 5 (I 0) (S [])
  | .fn ar m v r => dFun ar m v r
  | .wr ar m v r => dWr ar (dFun ar m v r) (madeC ar) 0 [109] [110]
  | .nw a inn out => dWr (far a) (dFun (far a) [109] 1 0) (nodes a) (fk a) inn out
def lv : LF → List PV
  | .int z => vFlat 1 (.v (.int .i64 z)) (S [])
  | .str t => vFlat 2 (I 0) (S t)
  | .atom t => vFlat 3 (I 0) (S t)
  | .pid n => vFlat 4 (I n) (S [])
  | .nil => vFlat 5 (I 0) (S [])
  | .fn ar _ _ _ => vFlat 9 (I ar) (S [])
  | .wr ar _ _ _ => vFlat 9 (I ar) (S [])
  | .nw a _ _ => vFlat 9 (I (far a)) (S [])
def isFn : LF → Option Nat
  | .fn ar _ _ _ => some ar
  | .wr ar _ _ _ => some ar
  | .nw a _ _ => some (far a)
  | _ => none
def leqL : List Nat → List Nat → Bool
  | [], [] => true
  | a :: l, b :: m => Nat.beq a b && leqL l m
  | _, _ => false
/-- is it a member of a node? (no union) -/
def lhas (x : LF) : NK → Bool
  | .int => match x with
    | .int _ => true
    | _ => false
  | .atom t => match x with
    | .atom s => leqL s t
    | _ => false
  | .nil => match x with
    | .nil => true
    | _ => false
  | .fn ks => match isFn x with
    | some ar => Nat.beq (ar + 1) ks.length
    | none => false
  | _ => false
def isUn : NK → Bool
  | .un _ => true
  | _ => false
def ints : List Int := [0, 1, -1, 2, 3, -2, 7, -9223372036854775808, 9223372036854775807, 10]
def atomsT : List (List Nat) := [[116, 114, 117, 101], [102, 97, 108, 115, 101], [97], [111, 107]]
def wordsT : List (List Nat) := [[], [115], [120, 32, 121], [97]]
def fnLs : List (Nat × List Nat × Nat × Nat) := [0, 1, 2].flatMap fun ar => [[109], [110]].flatMap fun m => [1, 2].flatMap fun v => [0, 1].map fun r => (ar, m, v, r)
def leaves (a : Nat) : List LF := ints.map .int ++ wordsT.map .str ++ atomsT.map .atom ++ [0, 1, 2, 3].map .pid ++ [.nil] ++ fnLs.map (fun x => .fn x.1 x.2.1 x.2.2.1 x.2.2.2) ++ fnLs.map (fun x => .wr x.1 x.2.1 x.2.2.1 x.2.2.2) ++
  [[109], [110], [105]].flatMap fun inn => [[111], [110]].map fun out => .nw a inn out

def keyL : List (List PV) := [[I 0, S [97]], [I 0, S [98]], [I 0, S [101, 114, 114, 111, 114]], [I 0, S [111, 107]], [I 1, S []], [I 1, S [97]], [I 1, S [115]], [I 1, S [120, 32, 121]]]
def key (k : Nat) : List PV := (keyL[k]?).getD []
/-- the key lists of maps: by numbers -/
def keyLists : List (List Nat) := [] :: (List.range 8).map (fun k => [k]) ++ (List.range 8).flatMap fun a => (List.range 8).filterMap fun b => bif Nat.blt a b then some [a, b] else none
def keysOf (l : List Nat) : List (List PV) := l.map key
def cube {α : Type} (l : List α) : Nat → List (List α)
  | 0 => [[]]
  | n + 1 => (cube l n).flatMap fun r => l.map fun x => x :: r
def B2 : List Bool := [true, false]
def allB (bs : List Bool) : Bool := bs.all _root_.id
def anyB (bs : List Bool) : Bool := bs.any _root_.id

/-! ### which runs answer what: C: function, book, arguments, answer -/
section
variable (C : Nat → Book → List PV → PV → Bool)
def R8 (p : Nat → Bool) : Bool := (List.range 8).all p
/-- a page: of each of the kids what is asked, and the answer -/
def pg (q : List PV → List PV) : List (List PV) → List PV → Page
  | x :: l, y :: m => (q x, y) :: pg q l m
  | _, _ => []
def aggs (l : List (List PV)) : List PV := l.map .agg
def bos (l : List Bool) : List PV := l.map Bo
/-! composite shapes: n kids from 0 on; their values behind -/
def kd (n : Nat) : List (List PV) := us 13 0 n
def kv (n : Nat) : List (List PV) := us 7 (13 * n) n
/-- the tail is a list -/
def tl (k : Nat) : List PV → List PV
  | [] => []
  | _ :: r => I k :: r
/-- kinds of composites: kind, kids, keys -/
def shapes : List (Nat × Nat × List Nat) := [(6, 0, []), (6, 1, []), (6, 2, []), (6, 3, []), (7, 2, [])] ++ keyLists.map fun l => (8, l.length, l)
def okErase : Bool := shapes.all fun s => C 25 [(25, pg (fun x => [.agg x]) (kd s.2.1) (aggs (kv s.2.1)))] [.agg (dComp s.1 (kd s.2.1) (keysOf s.2.2))] (.agg (vComp s.1 (kv s.2.1) (keysOf s.2.2)))
def okClone : Bool := shapes.all fun s => C 21 [(21, pg (fun x => [.agg x]) (kd s.2.1) (aggs (kd s.2.1)))] [.agg (dComp s.1 (kd s.2.1) (keysOf s.2.2))] (.agg (dComp s.1 (kd s.2.1) (keysOf s.2.2)))
def okLoose : Bool := shapes.all fun s => (cube B2 s.2.1).all fun bs => C 8 [(8, pg (fun x => .agg x :: pq) (kd s.2.1) (bos bs))] (.agg (dComp s.1 (kd s.2.1) (keysOf s.2.2)) :: pq) (Bo (anyB bs))
def vk (n : Nat) : List (List PV) := us 7 0 n
def okValid : Bool := shapes.all fun s => Nat.beq s.1 7 || C 120 [(120, (vk s.2.1).map fun x => ([.agg x], Bo true))] [.agg (vComp s.1 (vk s.2.1) (keysOf s.2.2))] (Bo true)
def okValidC : Bool := [5, 7].all fun k => C 120 [(120, [ur 0 7, tl k (ur 7 7)].map fun x => ([.agg x], Bo true))] [.agg (vComp 7 [ur 0 7, tl k (ur 7 7)] [])] (Bo true)
/-- which node of a map a key has -/
def atKey (f r0 r1 : Nat) (k : Nat) : Nat := match k with
  | 0 => f
  | k => bif Nat.blt k 4 then r0 else r1
/-- nodes that ask the kids: which, in turn -/
def kidNodes (s : Nat × Nat × List Nat) : NK → Option (List Nat)
  | .tup ks => bif Nat.beq s.1 6 && Nat.beq s.2.1 ks.length then some ks else none
  | .cons x y => bif Nat.beq s.1 7 then some [x, y] else none
  | .map f r0 r1 => bif Nat.beq s.1 8 && (match s.2.2 with | 0 :: _ => true | _ => false) then some (s.2.2.map (atKey f r0 r1)) else none
  | _ => none
def pgK (a : Nat) : List (List PV) → List Nat → List Bool → Page
  | x :: l, k :: ks, b :: bs => ([.agg x, T a, I k], Bo b) :: pgK a l ks bs
  | _, _, _ => []
def okHasN (a k : Nat) (nk : NK) : Bool := isUn nk || shapes.all fun s => match kidNodes s nk with
  | some ks => (cube B2 ks.length).all fun bs => C 90 [(90, pgK a (vk s.2.1) ks bs)] [.agg (vComp s.1 (vk s.2.1) (keysOf s.2.2)), T a, I k] (Bo (allB bs))
  | none => C 90 [] [.agg (vComp s.1 (vk s.2.1) (keysOf s.2.2)), T a, I k] (Bo false)
def allIx {α : Type} (p : Nat → α → Bool) : Nat → List α → Bool
  | _, [] => true
  | n, x :: l => p n x && allIx p (n + 1) l
def okHas (a : Nat) : Bool := allIx (okHasN C a) 0 (nds a)
/-- unions: of any value -/
def okHasUN (a k : Nat) : NK → Bool
  | .un ks => (cube B2 ks.length).all fun bs => C 90 [(90, pgK a (ks.map fun _ => ur 0 7) ks bs)] [.agg (ur 0 7), T a, I k] (Bo (anyB bs))
  | _ => true
def okHasU (a : Nat) : Bool := allIx (okHasUN C a) 0 (nds a)
/-- any datum, any value -/
def okVal : Bool := C 89 [(120, [([.agg (ur 0 7)], Bo true)])] [.agg (ur 0 7)] (I 0)
def okMemOf (a : Nat) : Bool := (List.range (nds a).length).all fun k => B2.all fun b => C 54 [(89, [([.agg (ur 0 7)], I 0)]), (49, [([T a], I 0)]), (90, [([.agg (ur 0 7), T a, I k], Bo b)])] [.agg (ur 0 7), T a, I k] (Bo b)
def okMem (a : Nat) : Bool := B2.all fun b => C 24 [(54, [([.agg (ur 0 7), T a, I (rt a)], Bo b)])] [.agg (ur 0 7), T a] (Bo b)
def okPass (a : Nat) : Bool := B2.all fun b => C 7 [(25, [([.agg (ur 0 13)], .agg (ur 13 7))]), (24, [([.agg (ur 13 7), T a], Bo b)])] [.agg (ur 0 13), T a] (Bo b)
/-- no wrapping of what does not pass -/
def okWrapNo (a : Nat) : Bool := C 6 [(21, [([.agg (ur 0 13)], .agg (ur 0 13))]), (22, [([T a], Bo true)]), (7, [([.agg (ur 0 13), T a], Bo false)])] ([.agg (ur 0 13), T a] ++ pq) (.agg (ur 0 13))
/-! leaves -/
def okLeaf (x : LF) : Bool := C 25 [] [.agg (ld x)] (.agg (lv x)) && (C 21 [] [.agg (ld x)] (.agg (ld x)) && (C 120 [] [.agg (lv x)] (Bo true) && C 8 [] (.agg (ld x) :: pq) (Bo (isFn x).isSome)))
def okLeafHas (a : Nat) (x : LF) : Bool := allIx (fun k nk => isUn nk || C 90 [] [.agg (lv x), T a, I k] (Bo (lhas x nk))) 0 (nds a)
/-! maps -/
def ins (k : Nat) (x : List PV) : List (Nat × List PV) → List (Nat × List PV)
  | [] => [(k, x)]
  | (j, y) :: r => bif Nat.blt k j then (k, x) :: (j, y) :: r else bif Nat.beq k j then (k, x) :: r else (j, y) :: ins k x r
def mapD (l : List (Nat × List PV)) : List PV := dComp 8 (l.map (·.2)) (keysOf (l.map (·.1)))
def olds : List (List (Nat × List PV)) := [] :: (List.range 8).map fun k => [(k, ur 13 13)]
def okPut : Bool := olds.all fun l => (List.range 8).all fun k => C 18 [] [.agg (mapD l), .agg (key k), .agg (ur 0 13)] (.tup [.agg (mapD (ins k (ur 0 13) l)), Bo true])
def hasKey (k : Nat) : List (Nat × List PV) → Bool
  | [] => false
  | (j, _) :: r => Nat.beq j k || hasKey k r
def okGet : Bool := (List.range 8).all fun k => C 20 [] [.agg (mapD [(0, ur 0 13)]), .agg (key k)] (.tup [bif Nat.beq k 0 then .agg (ur 0 13) else .agg (dFlat 0 (I 0) (S [])), Bo (Nat.beq k 0)])
end
end Go.Ev.B

/- Wrapping of what passes; what draws from the source. -/
namespace Go.Ev.B
/-- the type at the function node, by itself -/
def cnodes (a : Nat) : PV := nodes a
def croot (a : Nat) : Nat := fk a
def cT (a : Nat) : PV := .agg [cnodes a, I (croot a)]
/-- a function, wrapped by a type -/
def wrd (a : Nat) (d : List PV) : List PV := dWr (far a) d (cnodes a) (croot a) [112] [113]
def nil13 : List PV := dFlat 5 (I 0) (S [])
def dList : List (List PV) → List PV
  | [] => nil13
  | x :: l => dComp 7 [x, dList l] []
def vList : List (List PV) → List PV
  | [] => vFlat 5 (I 0) (S [])
  | x :: l => vComp 7 [x, vList l] []
section
variable (C : Nat → Book → List PV → PV → Bool)
def okFn (a : Nat) (x : LF) : Bool := match isFn x with
  | some ar => !Nat.beq ar (far a) || (C 56 [(88, [([T a, I (fk a)], cT a)])] [W a, .agg (ld x), I (fk a)] (.agg (wrd a (ld x))) && C 8 [] (.agg (wrd a (ld x)) :: pq) (Bo false))
  | none => true
def moPg (a : Nat) (v : PV) (mo : List (Nat × Bool)) : Page := mo.map fun x => ([v, T a, I x.1], Bo x.2)
def ru (n : Nat) : List (List PV) := us 13 (20 * n) n
def repl : List Bool → List (List PV) → List (List PV) → List (List PV)
  | b :: bs, u :: l, r :: m => (bif b then r else u) :: repl bs l m
  | _, _, _ => []
/-- what passes, of a shape of n kids: those that are replaced -/
def skB (a n : Nat) (v : PV) (mo : Page) : Book := [(22, [([T a], Bo true)]), (21, pg (fun x => [.agg x]) (kd n) (aggs (kd n))), (25, pg (fun x => [.agg x]) (kd n) (aggs (kv n))), (24, [([v, T a], Bo true)]), (54, mo), (56, pg (fun x => [W a, .agg x, I (fk a)]) (kd n) (aggs (ru n)))]
def okSk (a : Nat) (s : Nat × Nat × List Nat) (mo : List (Nat × Bool)) (rep : List Bool) : Bool :=
  let v : PV := .agg (vComp s.1 (kv s.2.1) (keysOf s.2.2))
  C 6 (skB a s.2.1 v (moPg a v mo)) ([.agg (dComp s.1 (kd s.2.1) (keysOf s.2.2)), T a] ++ pq) (.agg (dComp s.1 (repl rep (kd s.2.1) (ru s.2.1)) (keysOf s.2.2)))
/-- a datum that is not looked into -/
def okSkU (a : Nat) (mo : List (Nat × Bool)) (rep : Bool) : Bool :=
  C 6 (skB a 1 (.agg (ur 13 7)) (moPg a (.agg (ur 13 7)) mo)) ([.agg (ur 0 13), T a] ++ pq) (.agg (bif rep then ur 20 13 else ur 0 13))
def tails : List (List PV) → List (List (List PV))
  | [] => []
  | x :: l => (x :: l) :: tails l
def okSkL (n : Nat) : Bool :=
  C 6 (skB 3 n (.agg (vList (kv n))) ((tails (kv n)).flatMap (fun l => moPg 3 (.agg (vList l)) [(3, false), (4, true)]) ++ moPg 3 (.agg (vList [])) [(3, true)])) ([.agg (dList (kd n)), T 3] ++ pq) (.agg (dList (ru n)))
def okSks : Bool := okSkU C 0 [] true && (okSkU C 7 [] true && (okSkU C 5 [(0, true)] false && (okSkU C 5 [(0, false), (3, true)] true && (okSkU C 6 [(1, false), (4, true)] true &&
  (okSk C 1 (6, 2, []) [] [true, false] && (okSk C 2 (6, 2, []) [(4, true)] [false, true] && (okSk C 2 (6, 2, []) [(4, false), (7, true)] [false, false] && (okSk C 4 (8, 1, [0]) [] [true] && okSk C 6 (6, 1, []) [(1, true)] [false]))))))))
def okSkLs : Bool := (List.range 9).all (okSkL C)
end
/-! ### scripts: calls that draw from the source, in turn, with their answers -/
abbrev Sc := List (Nat × List PV × PV)
def seqPg (f : Nat) : Nat → Sc → Page
  | _, [] => []
  | j, (g, xs, q) :: r => bif Nat.beq g f then (stKey 33 [.unk 0, .unk (j + 1)] xs, .tup [q, .tup [.unk 0, .unk (j + 2)]]) :: seqPg f (j + 1) r else seqPg f (j + 1) r
def scF : List Nat := [15, 5, 16, 19, 38, 39, 45]
def seqB (sc : Sc) : Book := scF.map fun f => (f, seqPg f 0 sc)
section
variable (CS : Nat → Book → List PV → List PV → PV → List PV → Bool)
def okRun (f : Nat) (args : List PV) (sc : Sc) (B : Book) (q : PV) : Bool := CS f (seqB sc ++ B) [.unk 0, .unk 1] args q [.unk 0, .unk (sc.length + 1)]
/-- the i-th datum that is drawn -/
def D (i : Nat) : List PV := ur (20 + 13 * i) 13
def aD (i : Nat) : PV := .agg (D i)
def nx (n x : Nat) : Nat × List PV × PV := (15, [I n], I x)
def nr (a k dep i : Nat) : Nat × List PV × PV := (5, [T a, I k, I dep], aD i)
def mk (dep i : Nat) : Nat × List PV × PV := (16, [I dep], aD i)
def inns : List (List Nat) := [[109], [110], [105]]
def outs : List (List Nat) := [[111], [110]]
def putE (l : List (Nat × List PV)) (k : Nat) (x : List PV) : List PV × PV := ([.agg (mapD l), .agg (key k), .agg x], .tup [.agg (mapD (ins k x l)), Bo true])
/-- near, behind the first draw -/
def okNode (a k dep : Nat) (x : Nat) (nk : NK) : Bool :=
  let args := [T a, I k, I dep]
  match nk with
  | .no => okRun CS 5 args [nx 8 x, mk 2 0] [] (aD 0)
  | .int => okRun CS 5 args [nx 8 x] [] (.agg (ld (.int (-9223372036854775808))))
  | .atom t => okRun CS 5 args [nx 8 x] [] (.agg (ld (.atom t)))
  | .nil => okRun CS 5 args [nx 8 x] [] (.agg (ld .nil))
  | .fn _ => [0, 1].all (fun y => okRun CS 5 args [nx 8 x, nx 3 y] [] (.agg (ld (.fn (far a) [109] 1 0)))) &&
      (List.range 3).all fun u => (List.range 2).all fun w => okRun CS 5 args [nx 8 x, nx 3 2, nx 3 u, nx 2 w]
        [(17, [([.agg (ld (.fn (far a) [109] 1 0)), Tk a k, S (inns.getD u []), S (outs.getD w [])], .agg (ld (.nw a (inns.getD u []) (outs.getD w []))))])] (.agg (ld (.nw a (inns.getD u []) (outs.getD w []))))
  | .tup ks => okRun CS 5 args (nx 8 x :: kidsSc 0 ks) [] (.agg (dComp 6 ((List.range ks.length).map D) []))
  | .cons h t => (List.range 10).all fun κ => okRun CS 5 args [nx 8 x, nr a h (dep - 1) 0, (5, [T a, I t, I (dep - 1)], .agg (tl κ (D 1)))] [] (.agg (dComp 7 [D 0, bif Nat.beq κ 5 || Nat.beq κ 7 then tl κ (D 1) else nil13] []))
  | .map f r0 r1 => okRun CS 5 args [nx 8 x, nr a f (dep - 1) 0, nx 2 0] [(18, [putE [] 0 (D 0)])] (.agg (mapD [(0, D 0)])) &&
      (okRun CS 5 args [nx 8 x, nr a f (dep - 1) 0, nx 2 1, (19, [], .agg (key 0))] [(18, [putE [] 0 (D 0)]), (20, [getE 0])] (.agg (mapD [(0, D 0)])) &&
      (List.range 7).all fun j => okRun CS 5 args [nx 8 x, nr a f (dep - 1) 0, nx 2 1, (19, [], .agg (key (j + 1))), nr a (bif Nat.blt (j + 1) 4 then r0 else r1) (dep - 1) 1]
        [(18, [putE [] 0 (D 0), putE [(0, D 0)] (j + 1) (D 1)]), (20, [getE (j + 1)])] (.agg (mapD [(0, D 0), (j + 1, D 1)])))
  | .un ks => allIx (fun y k' => okRun CS 5 args [nx 8 x, nx ks.length y, nr a k' dep 0] [] (aD 0)) 0 ks
where
  kidsSc (i : Nat) : List Nat → Sc
    | [] => []
    | k :: r => nr a k (dep - 1) i :: kidsSc (i + 1) r
  getE (j : Nat) : List PV × PV := ([.agg (mapD [(0, D 0)]), .agg (key j)], .tup [bif Nat.beq j 0 then aD 0 else .agg (dFlat 0 (I 0) (S [])), Bo (Nat.beq j 0)])
/-- the nodes that near comes to -/
def reach : Nat → List Nat
  | 0 => [2]
  | 1 => [2, 3, 4]
  | 2 => [0, 3, 4, 5, 6, 7, 8]
  | 3 => [2, 3, 4, 5]
  | 4 => [2, 3, 4, 5]
  | 5 => [0, 3, 4]
  | 6 => [0, 1, 4, 5]
  | _ => [1]
def okNear (a k dep : Nat) : Bool := match (nds a)[k]? with
  | some nk => (List.range 7).all (fun x => okNode CS a k dep x nk) && okRun CS 5 [T a, I k, I dep] [nx 8 7, mk 2 0] [] (aD 0)
  | none => false
def okNear0 (a k : Nat) : Bool := okRun CS 5 [T a, I k, I 0] [mk 2 0] [] (aD 0)
def okMade (dep : Nat) : Bool :=
  let R := fun sc B q => okRun CS 16 [I dep] sc B q
  (List.range 5).all (fun y => R [nx 12 0, nx 5 y] [] (.agg (ld (.int (Int.ofNat y - 1))))) &&
  ((List.range 4).all (fun y => R [nx 12 1, nx 4 y] [] (.agg (ld (.atom (atomsT.getD y []))))) &&
  (R [nx 12 2, (38, [], .unk 20)] [] (.agg (dFlat 2 (I 0) (.unk 20))) &&
  ((List.range 4).all (fun y => R [nx 12 3, nx 4 y] [] (.agg (ld (.pid y)))) &&
  (R [nx 12 4] [] (.agg (ld .nil)) &&
  ((List.range 3).all (fun ar => (List.range 2).all fun m => (List.range 2).all fun v => (List.range 2).all fun r => R [nx 12 5, nx 3 ar, nx 2 m, nx 2 v, nx 2 r] [] (.agg (ld (.fn ar ([[109], [110]].getD m []) (1 + v) r)))) &&
  R [nx 12 6, (39, [], .unk 20)] [] (.agg (dFlat 1 (.unk 20) (S []))))))))
/-- what is deeper than a leaf, at depth 0 -/
def okMade0 : Bool := (List.range 5).all fun x => (List.range 5).all fun y => okRun CS 16 [I 0] [nx 12 (x + 7), nx 5 y] [] (.agg (ld (.int (Int.ofNat y - 1))))
def okMadeC (dep : Nat) : Bool :=
  let R := fun sc B q => okRun CS 16 [I (dep + 1)] sc B q
  (List.range 9).all (fun κ => R [nx 12 7, (16, [I 0], .agg (tl κ (D 0)))] [] (.agg (tl κ (D 0)))) &&
  ((List.range 3).all (fun ar => let f : List PV := I 9 :: I ar :: ur 20 11; R [nx 12 7, (16, [I 0], .agg f)] [] (.agg (dWr ar f (madeC ar) 0 [109] [110]))) &&
  ([8, 9].all (fun x => (List.range 4).all fun n => R (nx 12 x :: nx 4 n :: mks 0 n) [] (.agg (dComp 6 ((List.range n).map D) []))) &&
  (R [nx 12 10, nx 2 0, mk dep 0] [] (.agg (dComp 7 [D 0, nil13] [])) &&
  (R [nx 12 10, nx 2 1, mk dep 0, mk dep 1] [] (.agg (dComp 7 [D 1, dComp 7 [D 0, nil13] []] [])) &&
  (R [nx 12 11, nx 3 0] [] (.agg (mapD [])) &&
  ((List.range 8).all (fun j => R [nx 12 11, nx 3 1, (19, [], .agg (key j)), mk dep 0] [(18, [putE [] j (D 0)])] (.agg (mapD [(j, D 0)]))) &&
  (List.range 8).all fun j => (List.range 8).all fun j2 => R [nx 12 11, nx 3 2, (19, [], .agg (key j)), mk dep 0, (19, [], .agg (key j2)), mk dep 1] [(18, [putE [] j (D 0), putE [(j, D 0)] j2 (D 1)])] (.agg (mapD (ins j2 (D 1) [(j, D 0)])))))))))
where
  mks (i : Nat) : Nat → Sc
    | 0 => []
    | n + 1 => mk dep i :: mks (i + 1) n
def okWord : Bool := (List.range 4).all fun y => okRun CS 38 [] [nx 4 y] [] (S (wordsT.getD y []))
def okNumber : Bool := (List.range 10).all fun y => okRun CS 39 [] [nx 10 y] [] (.v (.int .i64 (ints.getD y 0)))
def okName : Bool := (List.range 4).all fun y => okRun CS 45 [] [nx 4 y] [] (S ([[97], [98], [111, 107], [101, 114, 114, 111, 114]].getD y []))
def okKey : Bool := okRun CS 19 [] [nx 2 0, (45, [], .unk 20)] [] (.agg [I 0, .unk 20]) && okRun CS 19 [] [nx 2 1, (38, [], .unk 20)] [] (.agg [I 1, .unk 20])
end
end Go.Ev.B

/- The runs that facts over shapes ask for. -/
namespace Go.Ev.B
open Go.Proofs
noncomputable def fiOf : Nat → FI
  | 5 => e5
  | 6 => e6
  | 7 => e7
  | 8 => e8
  | 16 => e16
  | 18 => e18
  | 19 => e19
  | 20 => e20
  | 21 => e21
  | 24 => e24
  | 25 => e25
  | 38 => e38
  | 39 => e39
  | 45 => e45
  | 54 => e54
  | 56 => e56
  | 89 => e89
  | 90 => e90
  | _ => e120
noncomputable def CX (f : Nat) (B : Book) (ds : List PV) (q : PV) : Bool := comesF tys fnsX B 100000 (fiOf f) ds q
noncomputable def CL (f : Nat) (B : Book) (ds : List PV) (q : PV) : Bool := comesF tys fnsL B 100000 (fiOf f) ds q
noncomputable def CW (f : Nat) (B : Book) (ds : List PV) (q : PV) : Bool := comesF tys fnsW B 100000 (fiOf f) ds q
noncomputable def CT (f : Nat) (B : Book) (cs ds : List PV) (q : PV) (cs' : List PV) : Bool := comesSF tys .lf B 100000 (fiOf f) 33 cs ds q cs'
end Go.Ev.B
