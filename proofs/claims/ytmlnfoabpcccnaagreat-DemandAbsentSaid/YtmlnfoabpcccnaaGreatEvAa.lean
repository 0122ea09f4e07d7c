/- An abstract evaluator of the model's code: definitions. Blocks of the run's own are numbered; slices that came in, or that crossed a call, are values. -/
import Derived.Orders
set_option linter.all false
namespace Go.Ev

/-! ### tables -/
inductive Tr (α : Type) where
  | lf
  | nd (l : Tr α) (v : Option α) (r : Tr α)

def Tr.get {α : Type} : Tr α → Nat → Option α
  | .lf, _ => none
  | .nd l v r, n => match n with
    | 0 => v
    | m + 1 => match Nat.beq (m % 2) 0 with
      | true => l.get (m / 2)
      | false => r.get (m / 2)

/-- lists of numbered things: the first of a number counts -/
abbrev Al (α : Type) := List (Nat × α)
def Al.get {α : Type} : Al α → Nat → Option α
  | [], _ => none
  | (k, x) :: r, n => match Nat.beq k n with
    | true => some x
    | false => Al.get r n
def Al.set {α : Type} : Al α → Nat → α → Al α
  | [], _, _ => []
  | (k, x) :: r, n, y => match Nat.beq k n with
    | true => (k, y) :: r
    | false => (k, x) :: Al.set r n y
def Al.del {α : Type} : Al α → Nat → Al α
  | [], _ => []
  | (k, x) :: r, n => match Nat.beq k n with
    | true => Al.del r n
    | false => (k, x) :: Al.del r n
def Al.keep {α : Type} (t : Al α) : List Nat → Al α
  | [] => []
  | k :: r => match Al.get t k with
    | none => Al.keep t r
    | some x => (k, x) :: Al.keep t r

/-! ### values -/
inductive PV where
  | v (x : Value)
  | agg (cs : List PV)
  | tup (cs : List PV)
  | sl (es : List (List PV)) (ex : Bool)
  | row (id off len cap sz : Nat)
  | ptr (id off : Nat)
  | ep (cs : List PV) (off : Nat)
  | clo (f : Nat) (cap : List PV)
  | un
  | sym (n : Nat)
  | unk (n : Nat)
  | mp (id : Nat)
  | top
  | bnd (f : Nat) (first : List PV)

def flat : Value → Bool
  | .bool _ | .int .. | .string _ | .nilFunc | .nilIface => true
  | .pointer none => true
  | .slice none 0 0 => true
  | .map none => true
  | .iface _ x => flat x
  | _ => false

/-- may it stand in a cell? -/
def cellOk : PV → Bool
  | .agg _ => false
  | .tup _ => false
  | .un => false
  | .top => false
  | _ => true

structure Blk where
  cells : List PV
  sz : Nat
  loose : Bool
  frz : Nat
  /-- the type of its elements -/
  ty : Nat

/-- a map: its entries; an iterator over a map: the map -/
inductive MO where
  | map (es : List (PV × PV))
  | iter (id : Nat)

structure Hp where
  blks : Al Blk
  next : Nat
  maps : Al MO

abbrev Tm := Al PV

structure St where
  tmps : Tm
  hp : Hp

def Hp.get (h : Hp) (i : Nat) : Option Blk := Al.get h.blks i
def Hp.put (h : Hp) (i : Nat) (b : Blk) : Hp := ⟨Al.set h.blks i b, h.next, h.maps⟩
def Hp.kill (h : Hp) (i : Nat) : Hp := ⟨Al.del h.blks i, h.next, h.maps⟩
def Hp.new (h : Hp) (b : Blk) : Hp := ⟨(h.next, b) :: h.blks, h.next + 1, h.maps⟩
def Hp.mget (h : Hp) (i : Nat) : Option MO := Al.get h.maps i
def Hp.mput (h : Hp) (i : Nat) (m : MO) : Hp := ⟨h.blks, h.next, Al.set h.maps i m⟩
def Hp.mnew (h : Hp) (m : MO) : Hp := ⟨h.blks, h.next + 1, (h.next, m) :: h.maps⟩

/-- what is told of a type. kind: 0 other, 1 slice, 2 array, 3 struct, 4 string, 5 interface, 6 int, 7 bool, 8 pointer, 9 map (alen: the keys' type). eqok: what == asks of a struct's type -/
structure TyI where
  size : Nat
  isAgg : Bool
  zero : List Value
  elem : Nat
  alen : Nat
  kind : Nat
  fields : List (Nat × Nat)
  bytes : Nat
  eqok : Bool
  ik : IntKind

/-- what is told of types, and what is answered where an operation of two operands meets a cell that is not looked into -/
inductive AskOp where
  | bin (op : BinOp) (t : TypeId)
  | len (t : TypeId)
  | index (t : TypeId)
  | addr (t : TypeId)
  | slice (t : TypeId)
  | conv (s d : TypeId)
structure Types where
  tr : Tr TyI
  ask : AskOp → List PV → Option PV
def Types.get (T : Types) (n : Nat) : Option TyI := T.tr.get n
/-- nothing is answered -/
def noAsk : AskOp → List PV → Option PV := fun _ _ => none

def opd : Operand → Tm → Option PV
  | .tmp t => fun tm => Al.get tm t
  | .const x => match flat x with
    | true => fun _ => some (.v x)
    | false => fun _ => none
  | .func f => fun _ => some (.clo f [])
  | .global _ => fun _ => none

def consO (x : Option PV) (l : Option (List PV)) : Option (List PV) :=
  match x with
  | none => none
  | some a => match l with
    | none => none
    | some r => some (a :: r)

def opds : List Operand → Tm → Option (List PV)
  | [] => fun _ => some []
  | x :: r => fun tm => consO (opd x tm) (opds r tm)

/-- the cells of a value -/
def pvCells (x : PV) : Option (List PV) :=
  match x with
  | .agg cs => some cs
  | x => match cellOk x with
    | true => some [x]
    | false => none

/-- a number in a kind's reach stays -/
def wrapq (k : IntKind) (n : Int) : Int :=
  match k with
  | .i64 => match n with
    | .ofNat m => match Nat.ble m 9223372036854775807 with
      | true => n
      | false => k.wrap n
    | .negSucc m => match Nat.ble m 9223372036854775807 with
      | true => n
      | false => k.wrap n
  | _ => k.wrap n

def ileb (a b : Int) : Bool := match a, b with
  | .ofNat m, .ofNat n => Nat.ble m n
  | .ofNat _, .negSucc _ => false
  | .negSucc _, .ofNat _ => true
  | .negSucc m, .negSucc n => Nat.ble n m
def ieqb (a b : Int) : Bool := match a, b with
  | .ofNat m, .ofNat n => Nat.beq m n
  | .negSucc m, .negSucc n => Nat.beq m n
  | _, _ => false

/-- a number's bits -/
def bitsN (k : IntKind) (a : Int) : Nat := (a % 2 ^ k.bits).toNat
def bitGen (f : Nat → Nat → Nat) (k : IntKind) (a b : Int) : Option PV :=
  some (.v (.int k (k.wrap (Int.ofNat (f (bitsN k a) (bitsN k b))))))
/-- bits of numbers of an unsigned kind -/
def bitBin (f : Nat → Nat → Nat) (k : IntKind) (a b : Int) : Option PV :=
  match a, b with
  | .ofNat m, .ofNat n => match Nat.blt m (2 ^ k.bits) && Nat.blt n (2 ^ k.bits) && !k.signed with
    | true => some (.v (.int k (.ofNat (f m n))))
    | false => bitGen f k a b
  | _, _ => bitGen f k a b
def andNot (k : IntKind) (a b : Nat) : Nat := Nat.land a (2 ^ k.bits - 1 - b)

def intBin (op : BinOp) : IntKind → Int → Int → Option PV :=
  match op with
  | .add => fun k a b => some (.v (.int k (wrapq k (a + b))))
  | .sub => fun k a b => some (.v (.int k (wrapq k (a - b))))
  | .mul => fun k a b => some (.v (.int k (wrapq k (a * b))))
  | .quo => fun k a b => match ieqb b 0 with
    | true => none
    | false => some (.v (.int k (wrapq k (a.tdiv b))))
  | .rem => fun k a b => match ieqb b 0 with
    | true => none
    | false => some (.v (.int k (a.tmod b)))
  | .eql => fun _ a b => some (.v (.bool (ieqb a b)))
  | .neq => fun _ a b => some (.v (.bool (!(ieqb a b))))
  | .lss => fun _ a b => some (.v (.bool (!(ileb b a))))
  | .leq => fun _ a b => some (.v (.bool (ileb a b)))
  | .gtr => fun _ a b => some (.v (.bool (!(ileb a b))))
  | .geq => fun _ a b => some (.v (.bool (ileb b a)))
  | .and => bitBin Nat.land
  | .or => bitBin Nat.lor
  | .xor => bitBin Nat.xor
  | .andNot => fun k => bitGen (andNot k) k
  | _ => fun _ _ _ => none

/-- a shift of a number that is not negative, by one that is not -/
def shiftq (op : BinOp) (k : IntKind) (a b : Int) : Option PV :=
  match b with
  | .negSucc _ => none
  | .ofNat n => match op with
    | .shl => some (.v (.int k (k.wrap (a * 2 ^ (min n k.bits)))))
    | .shr => match a with
      | .negSucc m => some (.v (.int k (.negSucc (m / 2 ^ (min n k.bits)))))
      | .ofNat m => some (.v (.int k (.ofNat (m / 2 ^ (min n k.bits)))))
    | _ => none

def bytesEq : List UInt8 → List UInt8 → Bool
  | [], [] => true
  | a :: x, b :: y => match Nat.beq a.toNat b.toNat with
    | true => bytesEq x y
    | false => false
  | _, _ => false
def bytesLt : List UInt8 → List UInt8 → Bool
  | _, [] => false
  | [], _ :: _ => true
  | a :: x, b :: y => match Nat.blt a.toNat b.toNat with
    | true => true
    | false => match Nat.beq a.toNat b.toNat with
      | true => bytesLt x y
      | false => false

def strBin (op : BinOp) : ByteArray → ByteArray → Option PV :=
  match op with
  | .add => fun a b => match Nat.ble (a.data.toList.length + b.data.toList.length) 9223372036854775807 with
    | true => some (.v (.string ⟨⟨a.data.toList ++ b.data.toList⟩⟩))
    | false => none
  | .eql => fun a b => some (.v (.bool (bytesEq a.data.toList b.data.toList)))
  | .neq => fun a b => some (.v (.bool (!(bytesEq a.data.toList b.data.toList))))
  | .lss => fun a b => some (.v (.bool (bytesLt a.data.toList b.data.toList)))
  | .leq => fun a b => some (.v (.bool (bytesLt a.data.toList b.data.toList || bytesEq a.data.toList b.data.toList)))
  | .gtr => fun a b => some (.v (.bool (!(bytesLt a.data.toList b.data.toList || bytesEq a.data.toList b.data.toList))))
  | .geq => fun a b => some (.v (.bool (!(bytesLt a.data.toList b.data.toList))))
  | _ => fun _ _ => none

/-- l: all n must be there -/
def takeN {α : Type} : List α → Nat → Option (List α)
  | _, 0 => some []
  | [], _ + 1 => none
  | x :: l, n + 1 => match takeN l n with
    | none => none
    | some r => some (x :: r)
def cut {α : Type} (l : List α) (o n : Nat) : Option (List α) := takeN (l.drop o) n
/-- ys in the place of as many from n on: all must be there -/
def putAt {α : Type} : List α → Nat → List α → Option (List α)
  | l, 0, [] => some l
  | _ :: l, 0, y :: ys => match putAt l 0 ys with
    | none => none
    | some r => some (y :: r)
  | x :: l, n + 1, ys => match putAt l n ys with
    | none => none
    | some r => some (x :: r)
  | [], _, _ => none

def partOf (T : Types) (t : TypeId) (cs : List PV) (off : Nat) : Option PV :=
  match T.get t with
  | none => none
  | some i => match i.isAgg with
    | true => match cut cs off i.size with
      | none => none
      | some l => some (.agg l)
    | false => cs[off]?

def fieldOf (T : Types) (s : TypeId) (f : Nat) : Option (Nat × Nat) :=
  match T.get s with
  | none => none
  | some i => match Nat.beq i.kind 3 with
    | true => i.fields[f]?
    | false => none

def sizeT (T : Types) (t : TypeId) : Option Nat := match T.get t with
  | none => none
  | some i => some i.size

/-- equal, as the type says? -/
def eqT (T : Types) : Nat → TypeId → PV → PV → Option Bool
  | 0, _, _, _ => none
  | n + 1, t, x, y => match T.get t with
    | none => none
    | some i => match i.kind with
      | 6 => match x, y with
        | .v (.int k a), .v (.int k' b) => match decide (k = k') with
          | true => some (ieqb a b)
          | false => none
        | _, _ => none
      | 7 => match x, y with
        | .v (.bool a), .v (.bool b) => some (a == b)
        | _, _ => none
      | 4 => match x, y with
        | .v (.string a), .v (.string b) => some (bytesEq a.data.toList b.data.toList)
        | .sym a, .sym b => match Nat.beq a b && Nat.beq (a % 2) 0 with
          | true => some true
          | false => none
        | _, _ => none
      | 3 => match i.eqok with
        | false => none
        | true => match x, y with
          | .agg cs, .agg ds => eqFs T (eqT T n) i.fields cs ds
          | _, _ => none
      | 2 => match x, y with
        | .agg cs, .agg ds => match sizeT T i.elem with
          | none => none
          | some s => eqEs T (eqT T n) i.elem s i.alen 0 cs ds
        | _, _ => none
      | _ => none
  where
  eqFs (T : Types) (eq : TypeId → PV → PV → Option Bool) : List (Nat × Nat) → List PV → List PV → Option Bool
    | [], _, _ => some true
    | (o, t) :: r, cs, ds => match partOf T t cs o with
      | none => none
      | some p => match partOf T t ds o with
        | none => none
        | some q => match eq t p q with
          | none => none
          | some false => some false
          | some true => eqFs T eq r cs ds
  eqEs (T : Types) (eq : TypeId → PV → PV → Option Bool) (t s : Nat) : Nat → Nat → List PV → List PV → Option Bool
    | 0, _, _, _ => some true
    | n + 1, k, cs, ds => match partOf T t cs (k * s) with
      | none => none
      | some p => match partOf T t ds (k * s) with
        | none => none
        | some q => match eq t p q with
          | none => none
          | some false => some false
          | some true => eqEs T eq t s n (k + 1) cs ds

def isNilSlice : PV → Option Bool
  | .v (.slice none 0 0) => some true
  | .sl _ _ => some false
  | .row .. => some false
  | _ => none

/-- a slice against nil; a pointer against nil -/
def eqNil (kind : Nat) (x y : PV) : Option Bool :=
  match kind with
  | 1 => match y with
    | .v (.slice none 0 0) => isNilSlice x
    | _ => match x with
      | .v (.slice none 0 0) => isNilSlice y
      | _ => none
  | 8 => match x, y with
    | .v (.pointer none), .v (.pointer none) => some true
    | .ptr _ _, .v (.pointer none) => some false
    | .v (.pointer none), .ptr _ _ => some false
    | _, _ => none
  | _ => none

/-- a pointer and itself -/
def eqPtr (T : Types) (i : TyI) (x y : PV) : Option Bool :=
  match Nat.beq i.kind 8 with
  | false => none
  | true => match T.get i.elem with
    | none => none
    | some _ => match x, y with
      | .ptr a o, .ptr b o' => match Nat.beq a b && Nat.beq o o' with
        | true => some true
        | false => none
      | _, _ => none

def eqlOther (T : Types) (t : TypeId) (x y : PV) : Option Bool :=
  match T.get t with
  | none => none
  | some i => match Nat.beq i.kind 3 || Nat.beq i.kind 2 || Nat.beq i.kind 7 with
    | true => match i.eqok with
      | true => eqT T 100 t x y
      | false => none
    | false => match eqNil i.kind x y with
      | some r => some r
      | none => eqPtr T i x y

def intOp (op : BinOp) : IntKind → IntKind → Int → Int → Option PV :=
  match op with
  | .shl => fun k _ a b => shiftq .shl k a b
  | .shr => fun k _ a b => shiftq .shr k a b
  | op => fun k k' a b => match decide (k = k') with
    | true => intBin op k a b
    | false => none

def boolP (neg : Bool) : Option Bool → Option PV
  | none => none
  | some r => some (.v (.bool (match neg with
    | true => !r
    | false => r)))

def otherBin (T : Types) (op : BinOp) (t : TypeId) : PV → PV → Option PV :=
  match op with
  | .eql => fun x y => boolP false (eqlOther T t x y)
  | .neq => fun x y => boolP true (eqlOther T t x y)
  | _ => fun _ _ => none

/-- an unknown text and itself -/
def symBin (op : BinOp) (a b : Nat) : Option PV :=
  match Nat.beq a b && Nat.beq (a % 2) 0 with
  | false => none
  | true => match op with
    | .eql => some (.v (.bool true))
    | .neq => some (.v (.bool false))
    | .lss => some (.v (.bool false))
    | .leq => some (.v (.bool true))
    | .gtr => some (.v (.bool false))
    | .geq => some (.v (.bool true))
    | _ => none

/-- what is told of an unknown number's remainder by 4 (by its own number), and so by 2 -/
def remOf : Nat → Nat → Option Int
  | 0, 4 => some (-3)
  | 1, 4 => some (-2)
  | 2, 4 => some (-1)
  | 3, 4 => some 0
  | 4, 4 => some 1
  | 5, 4 => some 2
  | 6, 4 => some 3
  | 0, 2 => some (-1)
  | 1, 2 => some 0
  | 2, 2 => some (-1)
  | 3, 2 => some 0
  | 4, 2 => some 1
  | 5, 2 => some 0
  | 6, 2 => some 1
  | _, _ => none

def symRem (a d : Nat) : Option Int :=
  match Nat.beq (a % 2) 1 && Nat.ble 101 a with
  | false => none
  | true => remOf ((a / 2 - 50) % 7) d

def symInt (op : BinOp) (a : Nat) (k : IntKind) (m : Int) : Option PV :=
  match op with
  | .rem => match k with
    | .i64 => match m with
      | .ofNat d => match symRem a d with
        | some r => some (.v (.int .i64 r))
        | none => none
      | _ => none
    | _ => none
  | _ => none

def bin (T : Types) (op : BinOp) (t : TypeId) (x y : PV) : Option PV :=
  match x with
  | .sym a => match y with
    | .sym b => symBin op a b
    | .v (.int k m) => symInt op a k m
    | _ => none
  | .unk n => T.ask (.bin op t) [.unk n, y]
  | .v (.int k a) => match y with
    | .v (.int k' b) => intOp op k k' a b
    | .unk n => T.ask (.bin op t) [.v (.int k a), .unk n]
    | _ => none
  | .v (.string a) => match y with
    | .v (.string b) => strBin op a b
    | .unk n => T.ask (.bin op t) [.v (.string a), .unk n]
    | _ => none
  | x => otherBin T op t x y

def una (op : UnOp) (x : PV) : Option PV :=
  match op, x with
  | .not, .v (.bool b) => some (.v (.bool (!b)))
  | .neg, .v (.int k n) => some (.v (.int k (wrapq k (0 - n))))
  | .xor, .v (.int k n) => bitBin Nat.xor k (match k.signed with
    | true => -1
    | false => k.max) n
  | _, _ => none

def fillP (place : Nat → Option (Nat × Nat)) (cells : List PV) : List (Nat × PV) → Option (List PV)
  | [] => some cells
  | (i, x) :: rest => match place i with
    | none => none
    | some (off, size) => match pvCells x with
      | none => none
      | some xs => match Nat.beq xs.length size with
        | false => none
        | true => match putAt cells off xs with
          | none => none
          | some cs => fillP place cs rest

def consP (i : Nat) (x : Option PV) (l : Option (List (Nat × PV))) : Option (List (Nat × PV)) :=
  match x with
  | none => none
  | some a => match l with
    | none => none
    | some r => some ((i, a) :: r)

def partsOf : List (Nat × Operand) → Tm → Option (List (Nat × PV))
  | [] => fun _ => some []
  | (i, x) :: r => fun tm => consP i (opd x tm) (partsOf r tm)

def rep (l : List Value) : Nat → List PV
  | 0 => []
  | m + 1 => l.map .v ++ rep l m

/-- elements cut into cells of sz each -/
def group (sz : Nat) : Nat → List PV → Option (List (List PV))
  | 0, _ => some []
  | n + 1, l => match takeN l sz with
    | none => none
    | some e => match group sz n (l.drop sz) with
      | none => none
      | some r => some (e :: r)

def sized (sz : Nat) : List (List PV) → Bool
  | [] => true
  | e :: l => match Nat.beq e.length sz with
    | true => sized sz l
    | false => false

/-- the cells of the elements of a slice -/
def srcCells (hp : Hp) (sz : Nat) : PV → Option (Nat × List PV)
  | .v (.slice none 0 0) => some (0, [])
  | .sl es _ => match sized sz es with
    | true => some (es.length, es.flatten)
    | false => none
  | .row id off len _ rs => match Nat.beq rs sz with
    | false => none
    | true => match hp.get id with
      | none => none
      | some b => match cut b.cells off (len * sz) with
        | none => none
        | some l => some (len, l)
  | _ => none

def limited (need bytes : Nat) : Bool := Nat.ble ((2 * need + 1024) * bytes) 281474976710656

/-- a new row that may have room behind it -/
def newRow (hp : Hp) (t n : Nat) (cs : List PV) (sz : Nat) (frz : Nat) : Option (PV × Hp) :=
  some (.row hp.next 0 n n sz, hp.new ⟨cs, sz, true, frz, t⟩)

def appNil (hp : Hp) (t : Nat) (ei : TyI) (n : Nat) (new : List PV) : Option (PV × Hp) :=
  match Nat.beq n 0 with
  | true => some (.v (.slice none 0 0), hp)
  | false => match limited n ei.bytes with
    | false => none
    | true => newRow hp t n new ei.size 0

def appSl (hp : Hp) (t : Nat) (ei : TyI) (es : List (List PV)) (ex : Bool) (n : Nat) (new : List PV) : Option (PV × Hp) :=
  match Nat.beq n 0 with
  | true => some (.sl es ex, hp)
  | false => match ex && sized ei.size es && limited (es.length + n) ei.bytes with
    | false => none
    | true => newRow hp t (es.length + n) (es.flatten ++ new) ei.size 0

def appIn (hp : Hp) (id off len cap n : Nat) (b : Blk) (new : List PV) : Option (PV × Hp) :=
  match Nat.beq n 0 with
  | true => some (.row id off len cap b.sz, hp)
  | false => match Nat.ble b.frz (off + len * b.sz) with
    | false => none
    | true => match putAt b.cells (off + len * b.sz) new with
      | none => none
      | some cs => some (.row id off (len + n) cap b.sz, hp.put id ⟨cs, b.sz, b.loose, b.frz, b.ty⟩)

def appOut (hp : Hp) (t : Nat) (ei : TyI) (id off len cap n : Nat) (b : Blk) (new : List PV) : Option (PV × Hp) :=
  match limited (len + n) ei.bytes with
  | false => none
  | true => match cut b.cells off (len * b.sz) with
    | none => none
    | some old => match !b.loose || Nat.blt (off + cap * b.sz) b.cells.length with
      | true => newRow hp t (len + n) (old ++ new) b.sz 0
      | false => match Nat.beq len cap && Nat.ble b.frz (off + len * b.sz) && Nat.beq b.ty t with
        | false => none
        | true => newRow (hp.kill id) t (len + n) (old ++ new) b.sz (b.frz - off)

def appRow (hp : Hp) (t : Nat) (ei : TyI) (id off len cap n : Nat) (new : List PV) : Option (PV × Hp) :=
  match hp.get id with
  | none => none
  | some b => match Nat.beq b.sz ei.size with
    | false => none
    | true => match Nat.ble (len + n) cap with
      | true => appIn hp id off len cap n b new
      | false => appOut hp t ei id off len cap n b new

def appTo (hp : Hp) (t : Nat) (ei : TyI) (s : PV) (n : Nat) (new : List PV) : Option (PV × Hp) :=
  match s with
  | .v (.slice none 0 0) => appNil hp t ei n new
  | .sl es ex => appSl hp t ei es ex n new
  | .row id off len cap _ => appRow hp t ei id off len cap n new
  | _ => none

/-- append -/
def app (T : Types) (sT : TypeId) (hp : Hp) (s x : PV) : Option (PV × Hp) :=
  match T.get sT with
  | none => none
  | some si => match Nat.beq si.kind 1 with
    | false => none
    | true => match T.get si.elem with
      | none => none
      | some ei => match Nat.ble 1 ei.size && Nat.ble 1 ei.bytes && Nat.beq ei.zero.length ei.size with
        | false => none
        | true => match srcCells hp ei.size x with
          | none => none
          | some (n, new) => appTo hp si.elem ei s n new

/-- append of so many zeros, or of a text's bytes -/
def newZ (ui ei : TyI) (x : PV) : Option (Nat × List PV) :=
  match ui.kind with
  | 6 => match x with
    | .v (.int _ (.ofNat n)) => match limited n ei.bytes with
      | true => some (n, rep ei.zero n)
      | false => none
    | _ => none
  | 4 => match x with
    | .v (.string s) => match Nat.beq ei.size 1 with
      | true => some (s.data.toList.length, s.data.toList.map fun b => .v (.int .u8 b.toNat))
      | false => none
    | _ => none
  | _ => none

def appZ (T : Types) (sT u : TypeId) (hp : Hp) (s x : PV) : Option (PV × Hp) :=
  match T.get u with
  | none => none
  | some ui => match T.get sT with
    | none => none
    | some si => match Nat.beq si.kind 1 with
      | false => none
      | true => match T.get si.elem with
        | none => none
        | some ei => match Nat.ble 1 ei.size && Nat.ble 1 ei.bytes && Nat.beq ei.zero.length ei.size with
          | false => none
          | true => match newZ ui ei x with
            | none => none
            | some (n, new) => appTo hp si.elem ei s n new

/-- a bound of a slice expression: at most hi; d where none is written -/
def bound (d : Nat) (x : Option PV) (hi : Nat) : Option Nat :=
  match x with
  | none => some d
  | some p => match p with
    | .v (.int _ n) => match n with
      | .ofNat m => match Nat.ble m hi with
        | true => some m
        | false => none
      | .negSucc _ => none
    | _ => none

def someO : Option PV → Option (Option PV)
  | none => none
  | some p => some (some p)

def opdO : Option Operand → Tm → Option (Option PV)
  | none => fun _ => some none
  | some x => fun tm => someO (opd x tm)

def sliceStr (s : ByteArray) (lo hi : Option PV) : Option PV :=
  match bound s.data.toList.length hi s.data.toList.length with
  | none => none
  | some h => match bound 0 lo h with
    | none => none
    | some l => some (.v (.string ⟨⟨(s.data.toList.take h).drop l⟩⟩))

def hasHigh (hi mx : Option PV) : Bool :=
  match mx with
  | none => true
  | some _ => match hi with
    | none => false
    | some _ => true

def sliceNil (lo hi mx : Option PV) : Option PV :=
  match hasHigh hi mx with
  | false => none
  | true => match bound 0 mx 0 with
    | none => none
    | some _ => match bound 0 hi 0 with
      | none => none
      | some _ => match bound 0 lo 0 with
        | none => none
        | some _ => some (.v (.slice none 0 0))

def sliceSl (es : List (List PV)) (ex : Bool) (lo hi mx : Option PV) : Option PV :=
  match mx with
  | none => match bound es.length hi es.length with
    | none => none
    | some h => match bound 0 lo h with
      | none => none
      | some l => some (.sl ((es.take h).drop l) (ex && Nat.beq h es.length))
  | some _ => match bound 0 mx es.length with
    | none => none
    | some m => match hi with
      | none => none
      | some _ => match bound 0 hi m with
        | none => none
        | some h => match bound 0 lo h with
          | none => none
          | some l => some (.sl ((es.take h).drop l) (Nat.beq m h))

def sliceRow (sz id off len cap : Nat) (lo hi mx : Option PV) : Option PV :=
  match mx with
  | none => match bound len hi cap with
    | none => none
    | some h => match bound 0 lo h with
      | none => none
      | some l => match Nat.beq cap l with
        | true => some (.sl [] false)
        | false => some (.row id (off + l * sz) (h - l) (cap - l) sz)
  | some _ => match bound 0 mx cap with
    | none => none
    | some m => match hi with
      | none => none
      | some _ => match bound 0 hi m with
        | none => none
        | some h => match bound 0 lo h with
          | none => none
          | some l => match Nat.beq m l with
            | true => some (.sl [] true)
            | false => some (.row id (off + l * sz) (h - l) (m - l) sz)

/-- elements of this size? (they are of one size) -/
def slFits (sz : Nat) : List (List PV) → Bool
  | [] => true
  | e :: _ => Nat.beq e.length sz

def sliceOf0 (T : Types) (t : TypeId) (x : PV) (lo hi mx : Option PV) : Option PV :=
  match T.get t with
  | none => none
  | some si => match Nat.beq si.kind 1 with
    | false => match Nat.beq si.kind 4 with
      | false => none
      | true => match x, mx with
        | .v (.string s), none => sliceStr s lo hi
        | _, _ => none
    | true => match sizeT T si.elem with
      | none => none
      | some sz => match x with
        | .v (.slice none 0 0) => sliceNil lo hi mx
        | .sl es ex => match slFits sz es with
          | false => none
          | true => sliceSl es ex lo hi mx
        | .row id off len cap rs => match Nat.beq rs sz with
          | false => none
          | true => sliceRow sz id off len cap lo hi mx
        | _ => none

/-- a bound that may be left out, as a cell -/
def bndPV : Option PV → PV
  | none => .tup []
  | some p => .tup [p]
def sliceOf (T : Types) (t : TypeId) (x : PV) (lo hi mx : Option PV) : Option PV :=
  match x with
  | .unk n => match mx with
    | none => T.ask (.slice t) [.unk n, bndPV lo, bndPV hi]
    | some _ => none
  | x => sliceOf0 T t x lo hi mx

def idxArr (x : PV) (d : Nat) : Option PV :=
  match x with
  | .ptr id off => some (.ptr id (off + d))
  | .ep cs off => some (.ep cs (off + d))
  | _ => none

def idxSl (sz : Nat) (x : PV) (i : Nat) : Option PV :=
  match x with
  | .sl es _ => match es[i]? with
    | none => none
    | some e => match Nat.beq e.length sz with
      | true => some (.ep e 0)
      | false => none
  | .row id off len _ rs => match Nat.blt i len with
    | false => none
    | true => match Nat.beq rs sz with
      | true => some (.ptr id (off + i * sz))
      | false => none
  | _ => none

def idxAddr (T : Types) (t : TypeId) (x : PV) (i : Nat) : Option PV :=
  match T.get t with
  | none => none
  | some ti => match sizeT T ti.elem with
    | none => none
    | some sz => match Nat.beq ti.kind 1 with
      | true => idxSl sz x i
      | false => match Nat.beq ti.kind 2 with
        | false => none
        | true => match Nat.blt i ti.alen with
          | false => none
          | true => idxArr x (i * sz)

def loadAt (T : Types) (hp : Hp) (t : TypeId) (x : PV) : Option PV :=
  match x with
  | .ptr id off => match hp.get id with
    | none => none
    | some b => partOf T t b.cells off
  | .ep cs off => partOf T t cs off
  | _ => none

def storeIn (hp : Hp) (id off : Nat) (b : Blk) (xs : List PV) (sz : Nat) : Option Hp :=
  match Nat.beq xs.length sz && Nat.ble b.frz off with
  | false => none
  | true => match putAt b.cells off xs with
    | none => none
    | some cs => some (hp.put id ⟨cs, b.sz, b.loose, b.frz, b.ty⟩)

def storeAt (T : Types) (hp : Hp) (t : TypeId) (x v : PV) : Option Hp :=
  match x with
  | .ptr id off => match hp.get id with
    | none => none
    | some b => match sizeT T t with
      | none => none
      | some sz => match pvCells v with
        | none => none
        | some xs => storeIn hp id off b xs sz
  | _ => none

def lenOf : PV → Option Nat
  | .v (.slice none 0 0) => some 0
  | .sl es _ => some es.length
  | .row _ _ len _ _ => some len
  | _ => none

def copyIn (hp : Hp) (id off len n : Nat) (b : Blk) (cs : List PV) : Option (PV × Hp) :=
  match Nat.ble b.frz off with
  | false => none
  | true => match putAt b.cells off (cs.take (Nat.min n len * b.sz)) with
    | none => none
    | some l => some (.v (.int .i64 (Nat.min n len)), hp.put id ⟨l, b.sz, b.loose, b.frz, b.ty⟩)

def copyTo (T : Types) (dT : TypeId) (hp : Hp) (d s : PV) : Option (PV × Hp) :=
  match T.get dT with
  | none => none
  | some di => match Nat.beq di.kind 1 with
    | false => none
    | true => match sizeT T di.elem with
      | none => none
      | some sz => match Nat.ble 1 sz with
        | false => none
        | true => match srcCells hp sz s with
          | none => none
          | some (n, cs) => match d with
            | .row id off len _ _ => match hp.get id with
              | none => none
              | some b => match Nat.beq b.sz sz with
                | false => none
                | true => copyIn hp id off len n b cs
            | _ => none

def minmax (mx : Bool) : List PV → Option PV
  | [.v (.int k a), .v (.int k' b)] => match decide (k = k') with
    | true => some (.v (.int k (match mx with
      | true => match ileb b a with
        | true => a
        | false => b
      | false => match ileb a b with
        | true => a
        | false => b)))
    | false => none
  | _ => none

def ret1 (hp : Hp) : Option PV → Option (PV × Hp)
  | none => none
  | some p => some (p, hp)

def primPick (hp : Hp) (a b : Option PV) : Option PV → Option (PV × Hp)
  | some (.v (.bool true)) => ret1 hp a
  | some (.v (.bool false)) => ret1 hp b
  | _ => none

def primAlloc (T : Types) (hp : Hp) (t : TypeId) : Option (PV × Hp) :=
  match T.get t with
  | none => none
  | some i => some (.ptr hp.next 0, hp.new ⟨i.zero.map .v, i.size, false, 0, t⟩)

def boxOf (hp : Hp) (t size : Nat) : Option (List PV) → Option (PV × Hp)
  | none => none
  | some xs => match Nat.beq xs.length size with
    | false => none
    | true => some (.ptr hp.next 0, hp.new ⟨xs, size, false, 0, t⟩)

def primBox (T : Types) (hp : Hp) (t : TypeId) (x : Option PV) : Option (PV × Hp) :=
  match T.get t with
  | none => none
  | some i => match x with
    | none => none
    | some p => boxOf hp t i.size (pvCells p)

def placeS (T : Types) (i : TyI) (k : Nat) : Option (Nat × Nat) :=
  match i.fields[k]? with
  | none => none
  | some (off, ft) => match sizeT T ft with
    | none => none
    | some s => some (off, s)
def placeA (s k : Nat) : Option (Nat × Nat) := some (k * s, s)

def aggOf (hp : Hp) : Option (List PV) → Option (PV × Hp)
  | none => none
  | some cs => some (.agg cs, hp)

def buildOf (T : Types) (hp : Hp) (i : TyI) (ps : List (Nat × PV)) : Option (PV × Hp) :=
  match Nat.beq i.kind 3 with
  | true => aggOf hp (fillP (placeS T i) (i.zero.map .v) ps)
  | false => match Nat.beq i.kind 2 with
    | false => none
    | true => match sizeT T i.elem with
      | none => none
      | some s => aggOf hp (fillP (placeA s) (i.zero.map .v) ps)

def primBuild (T : Types) (hp : Hp) (t : TypeId) (ps : Option (List (Nat × PV))) : Option (PV × Hp) :=
  match T.get t with
  | none => none
  | some i => match ps with
    | none => none
    | some ps => buildOf T hp i ps

def rowOf (hp : Hp) (t n : Nat) (sz : Nat) : Option (List PV) → Option (PV × Hp)
  | none => none
  | some cs => some (.row hp.next 0 n n sz, hp.new ⟨cs, sz, false, 0, t⟩)

def buildSliceOf (T : Types) (hp : Hp) (i : TyI) (n : Nat) (ps : List (Nat × PV)) : Option (PV × Hp) :=
  match T.get i.elem with
  | none => none
  | some ei => match Nat.ble (n * ei.size) 16777216 && Nat.ble 1 ei.size && Nat.beq ei.zero.length ei.size with
    | false => none
    | true => rowOf hp i.elem n ei.size (fillP (placeA ei.size) (rep ei.zero n) ps)

def primBuildSlice (T : Types) (hp : Hp) (t : TypeId) (n : Nat) (ps : Option (List (Nat × PV))) : Option (PV × Hp) :=
  match T.get t with
  | none => none
  | some i => match Nat.beq i.kind 1 with
    | false => none
    | true => match ps with
      | none => none
      | some ps => buildSliceOf T hp i n ps

def primLoad (T : Types) (hp : Hp) (t : TypeId) : Option PV → Option (PV × Hp)
  | none => none
  | some p => ret1 hp (loadAt T hp t p)

def stored : Option Hp → Option (PV × Hp)
  | none => none
  | some h => some (.un, h)

def primStore (T : Types) (hp : Hp) (t : TypeId) (x y : Option PV) : Option (PV × Hp) :=
  match x with
  | none => none
  | some p => match y with
    | none => none
    | some q => stored (storeAt T hp t p q)

def primNil (hp : Hp) : Option PV → Option (PV × Hp)
  | some (.ptr i o) => some (.ptr i o, hp)
  | some (.ep c o) => some (.ep c o, hp)
  | some (.clo f c) => some (.clo f c, hp)
  | some (.bnd f c) => some (.bnd f c, hp)
  | _ => none

def primBin (T : Types) (hp : Hp) (op : BinOp) (t : TypeId) (x y : Option PV) : Option (PV × Hp) :=
  match x with
  | none => none
  | some p => match y with
    | none => none
    | some q => ret1 hp (bin T op t p q)

def primUn (hp : Hp) (op : UnOp) : Option PV → Option (PV × Hp)
  | none => none
  | some p => ret1 hp (una op p)

def primFunc (hp : Hp) (fn : Fn) (first : List Operand) (fs caps : Option (List PV)) : Option (PV × Hp) :=
  match fn, caps with
  | .func f, some l => match first with
    | [] => some (.clo f l, hp)
    | _ :: _ => match l with
      | [] => match fs with
        | some m => some (.bnd f m, hp)
        | none => none
      | _ :: _ => none
  | _, _ => none

def makeOf (hp : Hp) (t : Nat) (ei : TyI) (l c : Nat) : Option (PV × Hp) :=
  match Nat.ble l c && Nat.ble (c * ei.bytes) 281474976710656 && Nat.ble 1 ei.size && Nat.ble c 9223372036854775807 && Nat.beq ei.zero.length ei.size with
  | false => none
  | true => some (.row hp.next 0 l c ei.size, hp.new ⟨rep ei.zero c, ei.size, false, 0, t⟩)

def primMake (T : Types) (hp : Hp) (t : TypeId) (x y : Option PV) : Option (PV × Hp) :=
  match T.get t with
  | none => none
  | some i => match Nat.beq i.kind 1 with
    | false => none
    | true => match T.get i.elem with
      | none => none
      | some ei => match x, y with
        | some (.v (.int _ (.ofNat l))), some (.v (.int _ (.ofNat c))) => makeOf hp i.elem ei l c
        | _, _ => none

def primSlice (T : Types) (hp : Hp) (t : TypeId) (x : Option PV) (lo hi mx : Option (Option PV)) : Option (PV × Hp) :=
  match x with
  | none => none
  | some p => match lo with
    | none => none
    | some l => match hi with
      | none => none
      | some h => match mx with
        | none => none
        | some m => ret1 hp (sliceOf T t p l h m)

def addOff (hp : Hp) (d : Nat) : Option PV → Option (PV × Hp)
  | some (.ptr i o) => some (.ptr i (o + d), hp)
  | some (.ep c o) => some (.ep c (o + d), hp)
  | _ => none

def primFieldAddr (T : Types) (hp : Hp) (s : TypeId) (f : Nat) (x : Option PV) : Option (PV × Hp) :=
  match fieldOf T s f with
  | none => none
  | some (off, ft) => match sizeT T ft with
    | none => none
    | some sz => match Nat.ble 1 sz with
      | false => none
      | true => addOff hp off x

def primField (T : Types) (hp : Hp) (s : TypeId) (f : Nat) (x : Option PV) : Option (PV × Hp) :=
  match fieldOf T s f with
  | none => none
  | some (off, ft) => match x with
    | some (.agg cs) => ret1 hp (partOf T ft cs off)
    | _ => none

def primIndexAddr0 (T : Types) (hp : Hp) (t : TypeId) (x i : Option PV) : Option (PV × Hp) :=
  match x with
  | none => none
  | some p => match i with
    | some (.v (.int _ (.ofNat n))) => ret1 hp (idxAddr T t p n)
    | _ => none

/-- two operands, the first not looked into -/
def ask2 (T : Types) (hp : Hp) (o : AskOp) (n : Nat) : Option PV → Option (PV × Hp)
  | none => none
  | some q => ret1 hp (T.ask o [.unk n, q])
def primIndexAddr (T : Types) (hp : Hp) (t : TypeId) (x i : Option PV) : Option (PV × Hp) :=
  match x with
  | some (.unk n) => ask2 T hp (.addr t) n i
  | x => primIndexAddr0 T hp t x i

def byteOf (hp : Hp) : Option UInt8 → Option (PV × Hp)
  | none => none
  | some b => some (.v (.int .u8 b.toNat), hp)

def idxAgg (T : Types) (hp : Hp) (ti : TyI) (cs : List PV) (n : Nat) : Option (PV × Hp) :=
  match Nat.beq ti.kind 2 && Nat.blt n ti.alen with
  | false => none
  | true => match sizeT T ti.elem with
    | none => none
    | some sz => ret1 hp (partOf T ti.elem cs (n * sz))

def idxVal (T : Types) (hp : Hp) (ti : TyI) (n : Nat) : Option PV → Option (PV × Hp)
  | some (.v (.string s)) => match Nat.beq ti.kind 4 with
    | true => byteOf hp s.data.toList[n]?
    | false => none
  | some (.agg cs) => idxAgg T hp ti cs n
  | _ => none

def primIndex0 (T : Types) (hp : Hp) (t : TypeId) (x i : Option PV) : Option (PV × Hp) :=
  match T.get t with
  | none => none
  | some ti => match i with
    | some (.v (.int _ (.ofNat n))) => idxVal T hp ti n x
    | _ => none

def primIndex (T : Types) (hp : Hp) (t : TypeId) (x i : Option PV) : Option (PV × Hp) :=
  match x with
  | some (.unk n) => ask2 T hp (.index t) n i
  | x => primIndex0 T hp t x i

def primExtract (hp : Hp) (i : Nat) : Option PV → Option (PV × Hp)
  | some (.tup l) => ret1 hp l[i]?
  | _ => none

def primIface (T : Types) (hp : Hp) (t : TypeId) : Option PV → Option (PV × Hp)
  | some (.v y) => match T.get t with
    | none => none
    | some ti => match Nat.beq ti.kind 5 with
      | true => none
      | false => some (.v (.iface t y), hp)
  | _ => none

def isByteT (T : Types) (t : TypeId) : Bool := match T.get t with
  | none => false
  | some i => match Nat.beq i.kind 6 && Nat.beq i.size 1 with
    | false => false
    | true => match i.ik with
      | .u8 => true
      | _ => false

def bytesOf : List PV → Option (List UInt8)
  | [] => some []
  | .v (.int .u8 (.ofNat n)) :: r => match bytesOf r with
    | none => none
    | some l => some (UInt8.ofNat n :: l)
  | _ :: _ => none

def bytesStr (hp : Hp) : Option (Nat × List PV) → Option (PV × Hp)
  | some (_, cs) => match bytesOf cs with
    | none => none
    | some l => some (.v (.string ⟨⟨l⟩⟩), hp)
  | none => none

/-- a pointer as unsafe.Pointer, and back -/
def convPtr (T : Types) (hp : Hp) (si di : TyI) (p : PV) : Option (PV × Hp) :=
  match p with
  | .ptr id off => match hp.get id with
    | none => none
    | some b => match Nat.beq si.kind 8 && Nat.beq di.kind 10 with
      | true => match T.get si.elem with
        | none => none
        | some ti => match Nat.ble 1 ti.size && Nat.blt off b.cells.length with
          | true => some (.ptr id off, hp)
          | false => none
      | false => match Nat.beq si.kind 10 && Nat.beq di.kind 8 && Nat.beq off 0 && Nat.beq di.elem b.ty && !b.loose with
        | false => none
        | true => match T.get di.elem with
          | none => none
          | some ui => match Nat.ble 1 ui.size && Nat.ble ui.size b.cells.length with
            | true => some (.ptr id off, hp)
            | false => none
  | _ => none

def primConv0 (T : Types) (hp : Hp) (s d : TypeId) (x : Option PV) : Option (PV × Hp) :=
  match T.get s with
  | none => none
  | some si => match T.get d with
    | none => none
    | some di => match x with
      | some (.v (.int _ n)) => match Nat.beq si.kind 6 && Nat.beq di.kind 6 with
        | true => some (.v (.int di.ik (wrapq di.ik n)), hp)
        | false => none
      | some (.v (.string b)) => match Nat.beq di.kind 4 && Nat.beq si.kind 4 with
        | true => some (.v (.string b), hp)
        | false => none
      | some p => match Nat.beq di.kind 4 && Nat.beq si.kind 1 && isByteT T si.elem with
        | true => bytesStr hp (srcCells hp 1 p)
        | false => convPtr T hp si di p
      | none => none

def primConv (T : Types) (hp : Hp) (s d : TypeId) (x : Option PV) : Option (PV × Hp) :=
  match x with
  | some (.unk n) => ret1 hp (T.ask (.conv s d) [.unk n])
  | x => primConv0 T hp s d x

def lenRes (hp : Hp) : Option Nat → Option (PV × Hp)
  | none => none
  | some n => some (.v (.int .i64 n), hp)

def primLen0 (T : Types) (hp : Hp) (t : TypeId) (x : Option PV) : Option (PV × Hp) :=
  match T.get t with
  | none => none
  | some ti => match x with
    | none => none
    | some p => match Nat.beq ti.kind 1 with
      | true => lenRes hp (lenOf p)
      | false => match Nat.beq ti.kind 4 with
        | false => none
        | true => match p with
          | .v (.string s) => some (.v (.int .i64 s.data.toList.length), hp)
          | _ => none

def primLen (T : Types) (hp : Hp) (t : TypeId) (x : Option PV) : Option (PV × Hp) :=
  match x with
  | some (.unk n) => ret1 hp (T.ask (.len t) [.unk n])
  | x => primLen0 T hp t x

def prim2 (f : PV → PV → Option (PV × Hp)) (x y : Option PV) : Option (PV × Hp) :=
  match x with
  | none => none
  | some p => match y with
    | none => none
    | some q => f p q

def primMin (hp : Hp) (mx : Bool) : Option (List PV) → Option (PV × Hp)
  | none => none
  | some l => ret1 hp (minmax mx l)

/-- how far a slice reaches, where that is known -/
def capOf (hp : Hp) : PV → Option Nat
  | .v (.slice none 0 0) => some 0
  | .sl es true => some es.length
  | .row id _ _ cap _ => match hp.get id with
    | none => none
    | some b => match b.loose with
      | true => none
      | false => some cap
  | _ => none

def primCap (T : Types) (hp : Hp) (t : TypeId) (x : Option PV) : Option (PV × Hp) :=
  match T.get t with
  | none => none
  | some ti => match Nat.beq ti.kind 1 with
    | false => none
    | true => match x with
      | none => none
      | some p => lenRes hp (capOf hp p)

/-- zeros in the place of a row's elements -/
def clearIn (hp : Hp) (id off len : Nat) (ei : TyI) : Option (PV × Hp) :=
  match hp.get id with
  | none => none
  | some b => match Nat.beq b.sz ei.size && Nat.beq ei.zero.length ei.size && Nat.ble b.frz off with
    | false => none
    | true => match putAt b.cells off (rep ei.zero len) with
      | none => none
      | some cs => some (.tup [], hp.put id ⟨cs, b.sz, b.loose, b.frz, b.ty⟩)

def clearOf (hp : Hp) (ei : TyI) : PV → Option (PV × Hp)
  | .v (.slice none 0 0) => some (.tup [], hp)
  | .sl [] _ => some (.tup [], hp)
  | .row id off len _ _ => match Nat.beq len 0 with
    | true => some (.tup [], hp)
    | false => clearIn hp id off len ei
  | _ => none

def primClear (T : Types) (hp : Hp) (t : TypeId) (x : Option PV) : Option (PV × Hp) :=
  match T.get t with
  | none => none
  | some ti => match Nat.beq ti.kind 1 with
    | false => none
    | true => match T.get ti.elem with
      | none => none
      | some ei => match x with
        | none => none
        | some p => clearOf hp ei p

def bytesOf8 : List PV → Option (List UInt8)
  | [] => some []
  | .v (.int .u8 (.ofNat n)) :: r => match Nat.blt n 256 with
    | false => none
    | true => match bytesOf8 r with
      | none => none
      | some l => some (UInt8.ofNat n :: l)
  | _ :: _ => none

def sliceData (hp : Hp) : Option PV → Option (PV × Hp)
  | some (.row id off _ cap _) => match Nat.ble 1 cap with
    | true => some (.ptr id off, hp)
    | false => none
  | some (.v (.slice none 0 0)) => some (.v (.pointer none), hp)
  | _ => none

/-- the bytes of a row as a text; the row is given up -/
def unsStr (T : Types) (t : TypeId) (hp : Hp) (x n : Option PV) : Option (PV × Hp) :=
  match n with
  | some (.v (.int .i64 (.ofNat 0))) => match x with
    | some (.v (.pointer none)) => some (.v (.string .empty), hp)
    | some (.ptr _ _) => some (.v (.string .empty), hp)
    | _ => none
  | some (.v (.int .i64 (.ofNat (m + 1)))) => match x with
    | some (.ptr id off) => match hp.get id with
      | none => none
      | some b => match T.get t with
        | none => none
        | some ti => match T.get b.ty with
          | none => none
          | some bi => match Nat.beq ti.kind 8 && Nat.beq ti.elem b.ty && Nat.beq bi.size 1 && Nat.ble (m + 1) 9223372036854775807 with
            | false => none
            | true => match cut b.cells off (m + 1) with
              | none => none
              | some cs => match bytesOf8 cs with
                | none => none
                | some l => some (.v (.string ⟨⟨l⟩⟩), hp.kill id)
    | _ => none
  | _ => none

def primBuiltin (T : Types) (b : Builtin) (args : List Operand) (ts : List TypeId) : Hp → Tm → Option (PV × Hp) :=
  match b with
  | .len => match args, ts with
    | [x], [t] => fun hp tm => primLen T hp t (opd x tm)
    | _, _ => fun _ _ => none
  | .append => match args, ts with
    | [x, y], [t, u] => match Nat.beq t u with
      | true => fun hp tm => prim2 (app T t hp) (opd x tm) (opd y tm)
      | false => fun hp tm => prim2 (appZ T t u hp) (opd x tm) (opd y tm)
    | _, _ => fun _ _ => none
  | .copy => match args, ts with
    | [x, y], [t, u] => match Nat.beq t u with
      | true => fun hp tm => prim2 (copyTo T t hp) (opd x tm) (opd y tm)
      | false => fun _ _ => none
    | _, _ => fun _ _ => none
  | .cap => match args, ts with
    | [x], [t] => fun hp tm => primCap T hp t (opd x tm)
    | _, _ => fun _ _ => none
  | .clear => match args, ts with
    | [x], [t] => fun hp tm => primClear T hp t (opd x tm)
    | _, _ => fun _ _ => none
  | .min => fun hp tm => primMin hp false (opds args tm)
  | .max => fun hp tm => primMin hp true (opds args tm)
  | .unsafeSliceData => match args with
    | [x] => fun hp tm => sliceData hp (opd x tm)
    | _ => fun _ _ => none
  | .unsafeString => match args, ts with
    | [x, y], [t, _] => fun hp tm => unsStr T t hp (opd x tm) (opd y tm)
    | _, _ => fun _ _ => none
  | _ => fun _ _ => none

/-! ### maps -/
/-- may keys of this kind be compared as they stand? -/
def keyEq (kind : Nat) (a b : PV) : Option Bool :=
  match kind with
  | 6 => match a, b with
    | .v (.int k m), .v (.int k' n) => match decide (k = k') with
      | true => some (ieqb m n)
      | false => none
    | _, _ => none
  | 7 => match a, b with
    | .v (.bool m), .v (.bool n) => some (m == n)
    | _, _ => none
  | 4 => match a, b with
    | .v (.string m), .v (.string n) => some (bytesEq m.data.toList n.data.toList)
    | _, _ => none
  | _ => none

def mapFind (kind : Nat) (k : PV) : List (PV × PV) → Nat → Option (Option (Nat × PV))
  | [], _ => some none
  | (q, x) :: r, i => match keyEq kind k q with
    | none => none
    | some true => some (some (i, x))
    | some false => mapFind kind k r (i + 1)

/-- the entry at a place takes another key and value -/
def mapSet : List (PV × PV) → Nat → PV × PV → List (PV × PV)
  | [], _, _ => []
  | _ :: r, 0, y => y :: r
  | x :: r, i + 1, y => x :: mapSet r i y

def keyKind (T : Types) (t : TypeId) : Option Nat := match T.get t with
  | none => none
  | some i => match Nat.beq i.kind 6 || Nat.beq i.kind 7 || Nat.beq i.kind 4 with
    | true => some i.kind
    | false => none

def zeroPV (T : Types) (t : TypeId) : Option PV := match T.get t with
  | none => none
  | some i => match i.isAgg with
    | true => some (.agg (i.zero.map .v))
    | false => match i.zero with
      | [x] => some (.v x)
      | _ => none

def mapEntries (hp : Hp) (x : PV) : Option (List (PV × PV)) := match x with
  | .v (.map none) => some []
  | .mp id => match hp.mget id with
    | some (.map es) => some es
    | _ => none
  | _ => none

def lookRes (hp : Hp) (ok : Bool) (z : PV) (r : Option (Nat × PV)) : Option (PV × Hp) :=
  match r with
  | none => match ok with
    | true => some (.tup [z, .v (.bool false)], hp)
    | false => some (z, hp)
  | some (_, x) => match ok with
    | true => some (.tup [x, .v (.bool true)], hp)
    | false => some (x, hp)

def lookIn (T : Types) (hp : Hp) (ti : TyI) (x k : PV) (ok : Bool) : Option (PV × Hp) :=
  match keyKind T ti.alen with
  | none => none
  | some kk => match keyEq kk k k with
    | some true => match mapEntries hp x with
      | none => none
      | some es => match zeroPV T ti.elem with
        | none => none
        | some z => match mapFind kk k es 0 with
          | none => none
          | some r => lookRes hp ok z r
    | _ => none

def primLook (T : Types) (hp : Hp) (t : TypeId) (ok : Bool) (x k : Option PV) : Option (PV × Hp) :=
  match T.get t with
  | none => none
  | some ti => match Nat.beq ti.kind 9 with
    | false => none
    | true => match x with
      | none => none
      | some p => match k with
        | none => none
        | some q => lookIn T hp ti p q ok

def updIn (T : Types) (hp : Hp) (ti : TyI) (id : Nat) (k v : PV) : Option (PV × Hp) :=
  match keyKind T ti.alen with
  | none => none
  | some kk => match keyEq kk k k with
    | some true => match hp.mget id with
      | some (.map es) => match mapFind kk k es 0 with
        | none => none
        | some none => some (.un, hp.mput id (.map (es ++ [(k, v)])))
        | some (some (i, _)) => some (.un, hp.mput id (.map (mapSet es i (k, v))))
      | _ => none
    | _ => none

def primUpd (T : Types) (hp : Hp) (t : TypeId) (x k v : Option PV) : Option (PV × Hp) :=
  match T.get t with
  | none => none
  | some ti => match Nat.beq ti.kind 9 with
    | false => none
    | true => match x with
      | some (.mp id) => match k with
        | none => none
        | some q => match v with
          | none => none
          | some y => updIn T hp ti id q y
      | _ => none

def newMap (hp : Hp) : Option (PV × Hp) := some (.mp hp.next, hp.mnew (.map []))

def primMap (T : Types) (hp : Hp) (t : TypeId) : Option (Option PV) → Option (PV × Hp)
  | none => none
  | some none => newMap hp
  | some (some (.v (.int _ _))) => match T.get t with
    | none => none
    | some ti => match Nat.beq ti.kind 9 with
      | true => newMap hp
      | false => none
  | some (some _) => none

/-- what an operation that enters no function yields -/
def prim (T : Types) (op : Op) : Hp → Tm → Option (PV × Hp) :=
  match op with
  | .move x => fun hp tm => ret1 hp (opd x tm)
  | .assign x => fun hp tm => ret1 hp (opd x tm)
  | .pick c a b => fun hp tm => primPick hp (opd a tm) (opd b tm) (opd c tm)
  | .alloc t => fun hp _ => primAlloc T hp t
  | .box t x => fun hp tm => primBox T hp t (opd x tm)
  | .build t parts => fun hp tm => primBuild T hp t (partsOf parts.toList tm)
  | .buildSlice t n parts => fun hp tm => primBuildSlice T hp t n (partsOf parts.toList tm)
  | .load t x => fun hp tm => primLoad T hp t (opd x tm)
  | .store t x y => fun hp tm => primStore T hp t (opd x tm) (opd y tm)
  | .nilCheck x => fun hp tm => primNil hp (opd x tm)
  | .binOp op t x y _ => fun hp tm => primBin T hp op t (opd x tm) (opd y tm)
  | .unOp op _ x => fun hp tm => primUn hp op (opd x tm)
  | .makeFunc fn first caps => fun hp tm => primFunc hp fn first.toList (opds first.toList tm) (opds caps.toList tm)
  | .makeSlice t x y => fun hp tm => primMake T hp t (opd x tm) (opd y tm)
  | .slice t x lo hi mx => fun hp tm => primSlice T hp t (opd x tm) (opdO lo tm) (opdO hi tm) (opdO mx tm)
  | .fieldAddr s x f => fun hp tm => primFieldAddr T hp s f (opd x tm)
  | .field s x f => fun hp tm => primField T hp s f (opd x tm)
  | .indexAddr t x i => fun hp tm => primIndexAddr T hp t (opd x tm) (opd i tm)
  | .index t x i => fun hp tm => primIndex T hp t (opd x tm) (opd i tm)
  | .extract x i => fun hp tm => primExtract hp i (opd x tm)
  | .makeInterface t x => fun hp tm => primIface T hp t (opd x tm)
  | .convert s d x => fun hp tm => primConv T hp s d (opd x tm)
  | .makeMap t x => fun hp tm => primMap T hp t (opdO x tm)
  | .lookup t x k ok => fun hp tm => primLook T hp t ok (opd x tm) (opd k tm)
  | .mapUpdate t x k v => fun hp tm => primUpd T hp t (opd x tm) (opd k tm) (opd v tm)
  | .insert t x k v => fun hp tm => primUpd T hp t (opd x tm) (opd k tm) (opd v tm)
  | .call c => match c.callee with
    | .builtin b => primBuiltin T b c.args.toList c.argTypes.toList
    | _ => fun _ _ => none
  | _ => fun _ _ => none

/-- the callee and the arguments of a call of a function -/
def entersOf (f : Option PV) (l : Option (List PV)) : Option (Option (Nat × List PV)) :=
  match f with
  | some (.clo n caps) => match l with
    | none => none
    | some l => some (some (n, l ++ caps))
  | some (.bnd n first) => match l with
    | none => none
    | some l => some (some (n, first ++ l))
  | _ => none

/-- does an operation enter a function? which one, with which arguments -/
def enters (op : Op) : Tm → Option (Option (Nat × List PV)) :=
  match op with
  | .call c => match c.callee with
    | .value f => fun tm => entersOf (opd f tm) (opds c.args.toList tm)
    | _ => fun _ => some none
  | _ => fun _ => some none

def wantOf (want : Bool) : Option PV → Option Bool
  | some (.v (.bool b)) => some (b == want)
  | some .un => some false
  | _ => none

def dstAt (all : List Oper) (j : Nat) : Option Nat :=
  match all[j]? with
  | none => none
  | some g => g.dst

def wantedP (all : List Oper) (o : Oper) : Tm → Option Bool :=
  match o.guard with
  | none => fun _ => some true
  | some (j, want) => match dstAt all j with
    | none => fun _ => none
    | some d => fun tm => wantOf want (Al.get tm d)

def putT (tm : Tm) : Option Nat → PV → Tm
  | none, _ => tm
  | some d, p => (d, p) :: tm

/-- a slot that there is -/
def dstOk (nt : Nat) : Option Nat → Bool
  | none => true
  | some d => Nat.blt d nt

inductive Ex where
  | normal
  | exit (id : Nat)
  | ret

/-! ### freezing: what a row holds, as a value of its own -/
/-- no row, no pointer, no closure in it -/
def isData : Nat → PV → Bool
  | 0, _ => false
  | n + 1, p => match p with
    | .v _ => true
    | .un => true
    | .sym _ => true
    | .unk _ => true
    | .agg cs => cs.all (isData n)
    | .tup cs => cs.all (isData n)
    | .sl _ _ => true
    | _ => false

mutual
/-- rows as values of their own; their blocks are closed to stores below their ends -/
def freeze : Nat → Hp → PV → Option (PV × Hp)
  | 0, _, _ => none
  | n + 1, hp, p => match p with
    | .v x => some (.v x, hp)
    | .un => some (.un, hp)
    | .sym k => some (.sym k, hp)
    | .unk k => some (.unk k, hp)
    | .sl es ex => some (.sl es ex, hp)
    | .agg cs => match freezeL n hp cs with
      | none => none
      | some (l, h) => some (.agg l, h)
    | .tup cs => match freezeL n hp cs with
      | none => none
      | some (l, h) => some (.tup l, h)
    | .row id off len cap _ => match hp.get id with
      | none => none
      | some b => match cut b.cells off (len * b.sz) with
        | none => none
        | some cs => match freezeL n (hp.put id ⟨b.cells, b.sz, b.loose, Nat.max b.frz (off + len * b.sz), b.ty⟩) cs with
          | none => none
          | some (l, h) => match group b.sz len l with
            | none => none
            | some es => some (.sl es (Nat.beq len cap && (!b.loose || Nat.blt (off + cap * b.sz) b.cells.length)), h)
    | _ => none
def freezeL : Nat → Hp → List PV → Option (List PV × Hp)
  | 0, _, _ => none
  | _ + 1, hp, [] => some ([], hp)
  | n + 1, hp, x :: l => match freeze n hp x with
    | none => none
    | some (y, h) => match freezeL n h l with
      | none => none
      | some (ys, h') => some (y :: ys, h')
end

/-! ### equality of what was loaded (for regions that draw their order) -/
mutual
def peq : Nat → PV → PV → Bool
  | 0, _, _ => false
  | n + 1, x, y => match x, y with
    | .v (.int k a), .v (.int k' b) => decide (k = k') && ieqb a b
    | .v (.bool a), .v (.bool b) => a == b
    | .v (.string a), .v (.string b) => bytesEq a.data.toList b.data.toList
    | .v (.slice none 0 0), .v (.slice none 0 0) => true
    | .v (.pointer none), .v (.pointer none) => true
    | .v .nilFunc, .v .nilFunc => true
    | .v .nilIface, .v .nilIface => true
    | .sym a, .sym b => Nat.beq a b
    | .unk a, .unk b => Nat.beq a b
    | .agg cs, .agg ds => peqL n cs ds
    | .tup cs, .tup ds => peqL n cs ds
    | .sl es a, .sl fs b => (!b || a) && peqE n es fs
    | .row i o l c s, .row i' o' l' c' s' => Nat.beq i i' && Nat.beq o o' && Nat.beq l l' && Nat.beq c c' && Nat.beq s s'
    | .ptr i o, .ptr i' o' => Nat.beq i i' && Nat.beq o o'
    | .mp i, .mp i' => Nat.beq i i'
    | .top, .top => true
    | _, _ => false
def peqL : Nat → List PV → List PV → Bool
  | 0, _, _ => false
  | n + 1, x, y => match x, y with
    | [], [] => true
    | a :: l, b :: m => peq n a b && peqL n l m
    | _, _ => false
def peqE : Nat → List (List PV) → List (List PV) → Bool
  | 0, _, _ => false
  | n + 1, x, y => match x, y with
    | [], [] => true
    | a :: l, b :: m => peqL n a b && peqE n l m
    | _, _ => false
end

def samePV (x y : Option PV) : Bool :=
  match x, y with
  | some p, some q => peq 1000 p q
  | _, _ => false

/-- every block that a value names has a number below n -/
def idsLt : Nat → Nat → PV → Bool
  | 0, _, _ => false
  | f + 1, n, p => match p with
    | .v _ => true
    | .un => true
    | .sym _ => true
    | .unk _ => true
    | .sl _ _ => true
    | .ep _ _ => true
    | .agg cs => cs.all (idsLt f n)
    | .tup cs => cs.all (idsLt f n)
    | .clo _ cs => cs.all (idsLt f n)
    | .bnd _ cs => cs.all (idsLt f n)
    | .row id _ _ _ _ => Nat.blt id n
    | .ptr id _ => Nat.blt id n
    | .mp id => Nat.blt id n
    | .top => false

/-- what a region that draws its order has seen: loads (number, type, address, value), effects (number, the heap before it), allocations -/
structure Lg where
  loads : List (Nat × TypeId × PV × PV)
  effs : List (Nat × Hp)
  allocs : List Nat

/-- an effect comes behind every effect before it -/
def effsIn (m : Nat) : List (Nat × Hp) → Bool
  | [] => true
  | (e, _) :: r => m.testBit e && effsIn m r

/-- an effect comes behind every allocation before it -/
def allocsIn (m : Nat) : List Nat → Bool
  | [] => true
  | e :: r => m.testBit e && allocsIn m r

/-- what was loaded stands where it stood, wherever the effect needn't come behind the load -/
def loadsKept (T : Types) (m : Nat) (h : Hp) : List (Nat × TypeId × PV × PV) → Bool
  | [] => true
  | (j, t, p, x) :: r => (m.testBit j || samePV (loadAt T h t p) (some x)) && loadsKept T m h r

/-- what is loaded stood there already, wherever the load needn't come behind the effect -/
def isNew (h : Hp) : PV → Bool
  | .ptr id _ => Nat.ble h.next id
  | _ => false
def loadOld (T : Types) (m : Nat) (t : TypeId) (p x : PV) : List (Nat × Hp) → Bool
  | [] => true
  | (e, h) :: r => (m.testBit e || isNew h p || samePV (loadAt T h t p) (some x)) && loadOld T m t p x r

inductive OpK where
  | bad
  | conv
  | pure
  | eff
  | load
  | alloc

def opKind (op : Op) : OpK :=
  match op with
  | .store _ _ _ => .eff
  | .load _ _ => .load
  | .alloc _ => .alloc
  | .box _ _ => .alloc
  | .buildSlice _ _ _ => .alloc
  | .makeSlice _ _ _ => .alloc
  | .makeMap _ _ => .bad
  | .lookup _ _ _ _ => .eff
  | .mapUpdate _ _ _ _ => .bad
  | .insert _ _ _ _ => .bad
  | .range _ _ => .bad
  | .next _ _ => .bad
  | .convert _ _ _ => .conv
  | .call c => match c.callee with
    | .builtin b => match b with
      | .clear => .bad
      | .cap => .bad
      | .append => .eff
      | .copy => .eff
      | .unsafeString => .eff
      | _ => .pure
    | _ => .eff
  | _ => .pure

def loadArg (op : Op) : Tm → Option (TypeId × PV) :=
  match op with
  | .load t x => fun tm => match opd x tm with
    | none => none
    | some p => some (t, p)
  | _ => fun _ => none

/-! ### the evaluator -/
/-- what is known of a function: is it called with values of its own alone? which slots live behind a region? in which order is a region that draws taken (numbers, with what each comes behind)? -/
structure FI where
  fn : Func
  data : Bool
  live : Tr (List Nat)
  sched : Tr (List (Nat × Nat))
  /-- the slots whose blocks are dropped behind a region -/
  kills : Tr (List Nat)
  /-- is the result frozen? -/
  frz : Bool
  /-- is it asked where an argument begins with a cell that is not looked into? -/
  mix : Bool

abbrev Fns := Tr FI

/-- the program's answers that are known already -/
abbrev Orc := Nat → List PV → Option PV

/-- calls: function, arguments, heap, what follows -/
abbrev CallK (R : Type) := Nat → List PV → Hp → (PV → Hp → Option R) → Option R
abbrev RC (R : Type) := FI → Code → St → (Ex → St → Option R) → Option R

section
variable {R : Type} (T : Types)

def evDo (call : CallK R) (hp : Hp) (next : Bool → PV → Hp → Option R) (e : Option (Option (Nat × List PV))) (p : Option (PV × Hp)) : Option R :=
  match e with
  | none => none
  | some none => match p with
    | none => none
    | some (p, h) => next true p h
  | some (some (f, l)) => call f l hp (next true)

/-- one operation: was it wanted? what does it yield? -/
def evStep (nt : Nat) (all : List Oper) (o : Oper) : CallK R → St → (Bool → PV → Hp → Option R) → Option R :=
  match dstOk nt o.dst with
  | false => fun _ _ _ => none
  | true => fun call st next => match wantedP all o st.tmps with
    | none => none
    | some false => next false .un st.hp
    | some true => evDo call st.hp next (enters o.op st.tmps) (prim T o.op st.hp st.tmps)

def evOps (nt : Nat) (all : List Oper) : List Oper → CallK R → St → (St → Option R) → Option R
  | [] => fun _ st k => k st
  | o :: rest => fun call st k => evStep T nt all o call st fun _ p h => evOps nt all rest call ⟨putT st.tmps o.dst p, h⟩ k

/-- behind an operation of a region that draws its order: what is to be looked at, and what is noted -/
def logEff (i m : Nat) (lg : Lg) (h h' : Hp) : Option Lg :=
  match effsIn m lg.effs && allocsIn m lg.allocs && loadsKept T m h' lg.loads && Nat.ble h.next h'.next with
  | true => some ⟨lg.loads, (i, h) :: lg.effs, lg.allocs⟩
  | false => none

def logLoad (i m : Nat) (lg : Lg) (n : Nat) (x : PV) : Option (TypeId × PV) → Option Lg
  | some (t, .ptr id off) => match loadOld T m t (.ptr id off) x lg.effs && idsLt 1000 n x with
    | true => some ⟨(i, t, .ptr id off, x) :: lg.loads, lg.effs, lg.allocs⟩
    | false => none
  | some (_, .ep _ _) => some lg
  | _ => none

def logOf (op : Op) (i m : Nat) (lg : Lg) (st : St) (run : Bool) (h' : Hp) (x : PV) : Option Lg :=
  match run with
  | false => some lg
  | true => match opKind op with
    | .bad => none
    | .conv => match x with
      | .v (.int _ _) => some lg
      | _ => none
    | .pure => some lg
    | .eff => logEff T i m lg st.hp h'
    | .load => logLoad T i m lg st.hp.next x (loadArg op st.tmps)
    | .alloc => some ⟨lg.loads, lg.effs, i :: lg.allocs⟩

def logK (lg : Option Lg) (next : Lg → Option R) : Option R :=
  match lg with
  | none => none
  | some l => next l

/-- the same for a region that draws its order -/
def evOpsD (nt : Nat) (all : List Oper) : List (Nat × Nat) → Lg → CallK R → St → (St → Option R) → Option R
  | [], _ => fun _ st k => k st
  | (i, m) :: L, lg => match all[i]? with
    | none => fun _ _ _ => none
    | some o => fun call st k => evStep T nt all o call st fun run p h => logK (logOf T o.op i m lg st run h p) fun lg' =>
        evOpsD nt all L lg' call ⟨putT st.tmps o.dst p, h⟩ k

/-- blocks that nothing asks for any more -/
def killAll (tm : Tm) : List Nat → Hp → Hp
  | [], hp => hp
  | t :: r, hp => match Al.get tm t with
    | some (.ptr id _) => killAll tm r (hp.kill id)
    | some (.row id _ _ _ _) => killAll tm r (hp.kill id)
    | _ => killAll tm r hp
def swept (kl : Option (List Nat)) (tm : Tm) (hp : Hp) : Hp :=
  match kl with
  | none => hp
  | some l => killAll tm l hp

def kept (ks kl : Option (List Nat)) (k : Ex → St → Option R) (st : St) : Option R :=
  match ks with
  | none => k .normal ⟨st.tmps, swept kl st.tmps st.hp⟩
  | some ks => k .normal ⟨Al.keep st.tmps ks, swept kl st.tmps st.hp⟩

def seqK (next : St → Option R) (k : Ex → St → Option R) : Ex → St → Option R
  | .normal => next
  | e => k e

def blockK (id : Nat) (k : Ex → St → Option R) : Ex → St → Option R
  | .exit i => match Nat.beq i id with
    | true => k .normal
    | false => k (.exit i)
  | e => k e

def evC (fi : FI) : Code → CallK R → RC R → St → (Ex → St → Option R) → Option R
  | .skip => fun _ _ st k => k .normal st
  | .region id ops draw => match draw with
    | false => fun call _ st k => evOps T fi.fn.ntmps ops.toList ops.toList call st (kept (fi.live.get id) (fi.kills.get id) k)
    | true => match fi.sched.get id with
      | some L => fun call _ st k => evOpsD T fi.fn.ntmps ops.toList L ⟨[], [], []⟩ call st (kept (fi.live.get id) (fi.kills.get id) k)
      | none => fun _ _ _ _ => none
  | .seq a b => fun call rc st k => evC fi a call rc st (seqK (fun st' => evC fi b call rc st' k) k)
  | .cond c x y => fun call rc st k => match opd c st.tmps with
    | some (.v (.bool true)) => evC fi x call rc st k
    | some (.v (.bool false)) => evC fi y call rc st k
    | _ => none
  | .block id c => fun call rc st k => evC fi c call rc st (blockK id k)
  | .loop c => fun call rc st k => evC fi c call rc st (seqK (fun st' => rc fi (.loop c) st' k) k)
  | .exit id => fun _ _ st k => k (.exit id) st
  | .ret => fun _ _ st k => k .ret st
  | _ => fun _ _ _ _ => none
end

/-! ### what is asked of a region's order, once -/
/-- the numbers that an operation comes behind, with theirs -/
def maskOf (L : List (Nat × Nat)) (edges : List Edge) : Option Nat :=
  match edges with
  | [] => some 0
  | e :: r => match maskOf L r with
    | none => none
    | some s => match Region.binds .any e with
      | false => some s
      | true => match Al.get L e.on with
        | none => none
        | some m => some (Nat.lor (Nat.lor s (2 ^ e.on)) m)

/-- each comes behind what it must come behind; L: those before, the last first -/
def posOk (all : List Oper) : List (Nat × Nat) → List (Nat × Nat) → Bool
  | _, [] => true
  | L, (i, m) :: r => match all[i]? with
    | none => false
    | some o => match Al.get L i with
      | some _ => false
      | none => match maskOf L o.after.toList with
        | none => false
        | some s => Nat.beq s m && posOk all ((i, m) :: L) r

def tmpsIn : List Operand → List Nat
  | [] => []
  | .tmp t :: r => t :: tmpsIn r
  | _ :: r => tmpsIn r

/-- the slots that an operation names -/
def namesOf (all : List Oper) (o : Oper) : List Nat :=
  o.dst.toList ++ tmpsIn o.op.operands.toList ++ (match o.guard with
    | none => []
    | some (j, _) => match dstAt all j with
      | none => []
      | some d => [d])

def beqO : Option Nat → Nat → Bool
  | none, _ => false
  | some a, b => Nat.beq a b

def slotsOk (all : List Oper) (L : List (Nat × Nat)) : Bool :=
  L.all fun x => match all[x.1]? with
    | none => false
    | some o => (namesOf all o).all fun t => L.all fun y => match dstAt all y.1 with
      | none => true
      | some d => !Nat.beq d t || Nat.beq x.1 y.1 || x.2.testBit y.1 || y.2.testBit x.1

/-- every number below n stands in L -/
def covers (L : List (Nat × Nat)) : Nat → Bool
  | 0 => true
  | n + 1 => match Al.get L n with
    | none => false
    | some _ => covers L n

def schedOk (all : List Oper) (L : List (Nat × Nat)) : Bool :=
  covers L all.length && posOk all [] L && slotsOk all L

/-- every region that draws has an order that is right -/
def codeOk (fi : FI) : Code → Bool
  | .region id ops draw => match draw with
    | false => true
    | true => match fi.sched.get id with
      | none => true
      | some L => schedOk ops.toList L
  | .seq a b => codeOk fi a && codeOk fi b
  | .cond _ a b => codeOk fi a && codeOk fi b
  | .block _ c => codeOk fi c
  | .loop c => codeOk fi c
  | _ => true

def resVar (T : Types) (st : St) : ResultVar → Option PV
  | .tmp t => Al.get st.tmps t
  | .cell a t => match Al.get st.tmps a with
    | some p => loadAt T st.hp t p
    | none => none
def resVars (T : Types) (st : St) : List ResultVar → Option (List PV)
  | [] => some []
  | r :: l => match resVar T st r with
    | none => none
    | some p => match resVars T st l with
      | none => none
      | some q => some (p :: q)
def resOf (T : Types) (fn : Func) (st : St) : Option PV :=
  match resVars T st fn.results.toList with
  | some [p] => some p
  | some [] => some .un
  | some l => some (.tup l)
  | none => none

def initT : Nat → List PV → Tm
  | _, [] => []
  | i, p :: l => (i, p) :: initT (i + 1) l

def endK {R : Type} (T : Types) (fn : Func) (k : PV → Hp → Option R) : Ex → St → Option R
  | .exit _ => fun _ => none
  | _ => fun st' => match resOf T fn st' with
    | none => none
    | some p => k p st'.hp

/-- a function's body, from its arguments and a heap -/
def bodyF {R : Type} (T : Types) (fi : FI) : RC R → List PV → Hp → (PV → Hp → Option R) → Option R :=
  match fi.fn.body with
  | none => fun _ _ _ _ => none
  | some c => fun rc l hp k => match Nat.ble l.length fi.fn.ntmps with
    | true => rc fi c ⟨initT 0 l, hp⟩ (endK T fi.fn k)
    | false => none

def deepN : Nat := 1000000000000

def dataK {R : Type} (k : PV → Hp → Option R) (hp1 : Hp) (p : PV) (h : Hp) : Option R :=
  match freeze deepN h p with
  | none => none
  | some (q, _) => k q hp1

def callO {R : Type} (O : Orc) (f : Nat) (k : PV → Hp → Option R) : Option (List PV × Hp) → Option R
  | none => none
  | some (ds, hp1) => match O f ds with
    | none => none
    | some q => k q hp1

/-- a block that a call is told of by its cells: values of their own alone -/
def stCells (cs : List PV) : Bool := cs.all fun c => isData 9 c && cellOk c
def stOk (b : Blk) : Bool := Nat.beq b.sz b.cells.length && (!b.loose && (Nat.beq b.frz 0 && stCells b.cells))
/-- what is asked of such a call: the cells of the block that the first argument points at; the answer: a result, and the cells behind the call -/
def stKey (ty : Nat) (cs ds : List PV) : List PV := .top :: .mp ty :: .tup cs :: ds
def unKey : List PV → Option (Nat × List PV × List PV)
  | .top :: .mp ty :: .tup cs :: r => some (ty, cs, r)
  | _ => none
def stAns {R : Type} (hp1 : Hp) (id : Nat) (b : Blk) (k : PV → Hp → Option R) : Option PV → Option R
  | some (.tup [q, .tup cs]) => match Nat.beq cs.length b.cells.length && stCells cs with
    | true => k q (hp1.put id ⟨cs, b.sz, false, 0, b.ty⟩)
    | false => none
  | _ => none
/-- the cells behind a first cell that points at a second block -/
def wOk (b : Blk) (r : List PV) : Bool := Nat.beq b.sz b.cells.length && (!b.loose && (Nat.beq b.frz 0 && stCells r))
def wAns {R : Type} (hp1 : Hp) (id j : Nat) (b b1 : Blk) (k : PV → Hp → Option R) : Option PV → Option R
  | some (.tup [q, .tup (.tup (.mp t1 :: cs1) :: r)]) => match Nat.beq t1 b1.ty && (Nat.beq cs1.length b1.cells.length && (Nat.beq (r.length + 1) b.cells.length && (stCells cs1 && stCells r))) with
    | true => k q ((hp1.put id ⟨.ptr j 0 :: r, b.sz, false, 0, b.ty⟩).put j ⟨cs1, b1.sz, false, 0, b1.ty⟩)
    | false => none
  | _ => none
def callW {R : Type} (O : Orc) (f id j : Nat) (b : Blk) (r : List PV) (k : PV → Hp → Option R) (ds : List PV) (hp1 : Hp) : Option Blk → Option R
  | none => none
  | some b1 => match !Nat.beq j id && (wOk b r && stOk b1) with
    | false => none
    | true => wAns hp1 id j b b1 k (O f (stKey b.ty (.tup (.mp b1.ty :: b1.cells) :: r) ds))
/-- a first cell that points at a second block -/
def headPtr : List PV → Option (Nat × List PV)
  | .ptr j 0 :: r => some (j, r)
  | _ => none
def callS {R : Type} (O : Orc) (f id : Nat) (k : PV → Hp → Option R) : Option (List PV × Hp) → Option R
  | none => none
  | some (ds, hp1) => match hp1.get id with
    | none => none
    | some b => match stOk b with
      | false => match headPtr b.cells with
        | none => none
        | some (j, r) => callW O f id j b r k ds hp1 (hp1.get j)
      | true => stAns hp1 id b k (O f (stKey b.ty b.cells ds))
/-- the heap that a call is told of: one block; where a type and cells stand in the first cell's place, that cell points at a second block -/
def startS (ty : Nat) (cs : List PV) : Hp := match cs with
  | .tup (.mp ty1 :: cs1) :: r => ⟨[(1, ⟨cs1, cs1.length, false, 0, ty1⟩), (0, ⟨.ptr 1 0 :: r, r.length + 1, false, 0, ty⟩)], 2, []⟩
  | cs => ⟨[(0, ⟨cs, cs.length, false, 0, ty⟩)], 1, []⟩
/-- a call that is asked: of the cells behind a pointer, or of values alone -/
def callA {R : Type} (O : Orc) (f : Nat) (fz : Hp → List PV → Option (List PV × Hp)) (l : List PV) (hp : Hp) (k : PV → Hp → Option R) : Option R :=
  match l with
  | .ptr id off :: r => match off with
    | 0 => callS O f id k (fz hp r)
    | _ + 1 => none
  | l => callO O f k (fz hp l)

def callD {R : Type} (T : Types) (fi : FI) (rc : RC R) (k : PV → Hp → Option R) : Option (List PV × Hp) → Option R
  | none => none
  | some (ds, hp1) => bodyF T fi rc ds ⟨[], 0, []⟩ (dataK k hp1)

def frzK {R : Type} (k : PV → Hp → Option R) (p : PV) (h : Hp) : Option R :=
  match freeze deepN h p with
  | none => none
  | some (q, h') => k q h'

def ownF {R : Type} (T : Types) (fi : FI) (rc : RC R) : List PV → Hp → (PV → Hp → Option R) → Option R :=
  match fi.frz with
  | false => bodyF T fi rc
  | true => fun l hp k => bodyF T fi rc l hp (frzK k)

def headUnk : PV → Bool
  | .unk _ => true
  | .agg (.unk _ :: _) => true
  | _ => false

/-- the model's own answer: the one argument as it is (abi.NoEscape; no other is let into a table) -/
def extF {R : Type} (l : List PV) (hp : Hp) (k : PV → Hp → Option R) : Option R :=
  match l with
  | [x] => k x hp
  | _ => none

def cmpI (a b : List UInt8) : Int :=
  match bytesEq a b with
  | true => 0
  | false => match bytesLt a b with
    | true => .negSucc 0
    | false => .ofNat 1

/-- the model's own answer: two texts compared (bytealg's cmpstring) -/
def cmpTxt {R : Type} (l : List PV) (hp : Hp) (k : PV → Hp → Option R) : Option R :=
  match l with
  | [.v (.string a), .v (.string b)] => k (.v (.int .i64 (cmpI a.data.toList b.data.toList))) hp
  | _ => none

/-- functions without a body -/
def noBody {R : Type} (cmp : Bool) : List PV → Hp → (PV → Hp → Option R) → Option R :=
  match cmp with
  | false => extF
  | true => cmpTxt

def callF {R : Type} (T : Types) (FT : Fns) (O : Orc) (rc : RC R) : CallK R := fun f =>
  match FT.get f with
  | none => fun l hp k => callA O f (freezeL deepN) l hp k
  | some fi => match fi.data with
    | false => match fi.mix with
      | false => match fi.fn.body with
        | some _ => ownF T fi rc
        | none => noBody fi.frz
      | true => fun l hp k => match l.any headUnk with
        | true => callO O f k (freezeL deepN hp l)
        | false => ownF T fi rc l hp k
    | true => fun l hp k => callD T fi rc k (freezeL deepN hp l)

def run {R : Type} (T : Types) (FT : Fns) (O : Orc) : Nat → RC R
  | 0 => fun _ _ _ _ => none
  | n + 1 => fun fi c => evC T fi c (callF T FT O (run T FT O n)) (run T FT O n)

/-! ### tables off the program's own -/
def aggForm : TypeDesc → Value → Bool
  | .struct _, .agg _ => true
  | .array _ _, .agg _ => true
  | .struct _, _ => false
  | .array _ _, _ => false
  | _, .agg _ => false
  | _, _ => true
def zForm (P : Program) (t : TypeId) : Bool :=
  match P.info? t with
  | none => false
  | some i => match P.underlying t with
    | none => false
    | some u => match i.zero with
      | none => false
      | some z => aggForm u z

def mkTy (P : Program) (t : TypeId) : Option TyI :=
  match P.info? t, P.underlying t with
  | some i, some u => match i.zero with
    | none => none
    | some z =>
      let base : TyI := { size := i.size, isAgg := false, zero := z.cells.toList, elem := 0, alen := 0, kind := 0, fields := [], bytes := i.bytes, eqok := true, ik := .i64 }
      match u with
      | .slice e => some { base with kind := 1, elem := e }
      | .array n e => some { base with kind := 2, elem := e, alen := n, isAgg := true, eqok := !P.eqGuardType P.depth t }
      | .struct fs => some { base with kind := 3, isAgg := true, fields := fs.toList.map (fun f => (f.offset, f.type)), eqok := !P.eqGuardType P.depth t && !P.stoodInHeld t && fs.toList.all (fun f => f.name != "_") }
      | .string => some { base with kind := 4 }
      | .interface _ => some { base with kind := 5 }
      | .int k => some { base with kind := 6, ik := k }
      | .bool => some { base with kind := 7 }
      | .pointer e => some { base with kind := 8, elem := e }
      | .unsafePointer => some { base with kind := 10 }
      | .map k e => match zForm P e with
        | true => some { base with kind := 9, elem := e, alen := k }
        | false => none
      | _ => some base
  | _, _ => none

/-- a type's zero value: values that lie flat, and stand in cells -/
def zeroOk : List Value → Bool
  | [] => true
  | x :: l => flat x && cellOk (.v x) && zeroOk l

end Go.Ev
