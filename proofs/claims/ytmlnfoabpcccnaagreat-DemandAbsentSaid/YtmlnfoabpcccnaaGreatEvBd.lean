/- The same evaluator, laid for a machine that keeps what it has reduced: what hangs on the code alone stands in boxes, and what is looked at often is taken apart by recursors. -/
import Derived.Test.YtmlnfoabpcccnaaGreatEvBc
set_option linter.all false
namespace Go.Ev

structure Bx (α : Type) where
  f : α

/-! ### lists, by their recursors -/
noncomputable def Al.getF {α : Type} (t : Al α) (n : Nat) : Option α :=
  List.rec (motive := fun _ => Option α) none (fun kx _ ih => Bool.rec (motive := fun _ => Option α) ih (some kx.2) (Nat.beq kx.1 n)) t

noncomputable def Al.keepF {α : Type} (t : Al α) (ks : List Nat) : Al α :=
  List.rec (motive := fun _ => Al α) [] (fun k _ ih => Option.rec (motive := fun _ => Al α) ih (fun x => (k, x) :: ih) (Al.getF t k)) ks

noncomputable def getF {α : Type} (l : List α) (n : Nat) : Option α :=
  List.rec (motive := fun _ => Nat → Option α) (fun _ => none) (fun a _ ih n => Bool.rec (motive := fun _ => Option α) (ih (Nat.pred n)) (some a) (Nat.beq n 0)) l n

noncomputable def dropF {α : Type} (l : List α) (n : Nat) : List α :=
  List.rec (motive := fun _ => Nat → List α) (fun _ => []) (fun a r ih n => Bool.rec (motive := fun _ => List α) (ih (Nat.pred n)) (a :: r) (Nat.beq n 0)) l n

noncomputable def consT {α : Type} (a : α) (r : Option (List α)) : Option (List α) :=
  Option.rec (motive := fun _ => Option (List α)) none (fun l => some (a :: l)) r

noncomputable def takeF {α : Type} (l : List α) (n : Nat) : Option (List α) :=
  List.rec (motive := fun _ => Nat → Option (List α)) (fun n => Bool.rec (motive := fun _ => Option (List α)) none (some []) (Nat.beq n 0))
    (fun a _ ih n => Bool.rec (motive := fun _ => Option (List α)) (consT a (ih (Nat.pred n))) (some []) (Nat.beq n 0)) l n

noncomputable def lenF {α : Type} (l : List α) : Nat := List.rec (motive := fun _ => Nat) 0 (fun _ _ ih => Nat.succ ih) l

noncomputable def initF (l : List PV) : Tm :=
  List.rec (motive := fun _ => Nat → Tm) (fun _ => []) (fun p _ ih i => (i, p) :: ih (Nat.succ i)) l 0

noncomputable def consOF (a : Option PV) (r : Option (List PV)) : Option (List PV) :=
  Option.rec (motive := fun _ => Option (List PV)) none (fun x => Option.rec (motive := fun _ => Option (List PV)) none (fun l => some (x :: l)) r) a

noncomputable def opdB : Operand → Bx (Tm → Option PV)
  | .tmp t => ⟨fun tm => Al.getF tm t⟩
  | .const x => match flat x with
    | true => ⟨fun _ => some (.v x)⟩
    | false => ⟨fun _ => none⟩
  | .func f => ⟨fun _ => some (.clo f [])⟩
  | .global _ => ⟨fun _ => none⟩

noncomputable def opdsB : List Operand → Bx (Tm → Option (List PV))
  | [] => ⟨fun _ => some []⟩
  | x :: r => ⟨fun tm => consOF ((opdB x).f tm) ((opdsB r).f tm)⟩

noncomputable def partsB : List (Nat × Operand) → Bx (Tm → Option (List (Nat × PV)))
  | [] => ⟨fun _ => some []⟩
  | (i, x) :: r => ⟨fun tm => consP i ((opdB x).f tm) ((partsB r).f tm)⟩

noncomputable def opdOB : Option Operand → Bx (Tm → Option (Option PV))
  | none => ⟨fun _ => some none⟩
  | some x => ⟨fun tm => someO ((opdB x).f tm)⟩

/-! ### views -/
inductive Ad where
  | p (id off : Nat)
  | e (cs : List PV) (off : Nat)
  | no
inductive Sv where
  | s (es : List (List PV))
  | r (id off len rs : Nat)
  | nil
  | no
noncomputable def vInt (v : Value) : Option (IntKind × Int) :=
  Value.rec (motive_1 := fun _ => Option (IntKind × Int)) (motive_2 := fun _ => Unit) (motive_3 := fun _ => Unit) (fun _ => none) (fun k n => some (k, n)) (fun _ _ => none) (fun _ _ _ => none) (fun _ => none) (fun _ => none) (fun _ _ _ => none) (fun _ => none) (fun _ => none) (fun _ _ _ _ _ => none) none (fun _ _ _ => none) none (fun _ _ => none) (fun _ _ => none) (fun _ _ => ()) () (fun _ _ _ _ => ()) v
noncomputable def vBool (v : Value) : Option Bool :=
  Value.rec (motive_1 := fun _ => Option Bool) (motive_2 := fun _ => Unit) (motive_3 := fun _ => Unit) (fun b => some b) (fun _ _ => none) (fun _ _ => none) (fun _ _ _ => none) (fun _ => none) (fun _ => none) (fun _ _ _ => none) (fun _ => none) (fun _ => none) (fun _ _ _ _ _ => none) none (fun _ _ _ => none) none (fun _ _ => none) (fun _ _ => none) (fun _ _ => ()) () (fun _ _ _ _ => ()) v
noncomputable def vWant (v : Value) : Option (Option Bool) :=
  Value.rec (motive_1 := fun _ => Option (Option Bool)) (motive_2 := fun _ => Unit) (motive_3 := fun _ => Unit) (fun b => some (some b)) (fun _ _ => none) (fun _ _ => none) (fun _ _ _ => none) (fun _ => none) (fun _ => none) (fun _ _ _ => none) (fun _ => none) (fun _ => none) (fun _ _ _ _ _ => none) none (fun _ _ _ => none) none (fun _ _ => none) (fun _ _ => none) (fun _ _ => ()) () (fun _ _ _ _ => ()) v
noncomputable def vSv (v : Value) : Sv :=
  Value.rec (motive_1 := fun _ => Sv) (motive_2 := fun _ => Unit) (motive_3 := fun _ => Unit) (fun _ => .no) (fun _ _ => .no) (fun _ _ => .no) (fun _ _ _ => .no) (fun _ => .no) (fun _ => .no) (fun a n m => Option.rec (motive := fun _ => Sv) (Bool.rec (motive := fun _ => Sv) .no (Bool.rec (motive := fun _ => Sv) .no .nil (Nat.beq m 0)) (Nat.beq n 0)) (fun _ => .no) a) (fun _ => .no) (fun _ => .no) (fun _ _ _ _ _ => .no) .no (fun _ _ _ => .no) .no (fun _ _ => .no) (fun _ _ => .no) (fun _ _ => ()) () (fun _ _ _ _ => ()) v
noncomputable def pInt (p : PV) : Option (IntKind × Int) :=
  PV.rec (motive_1 := fun _ => Option (IntKind × Int)) (motive_2 := fun _ => Unit) (motive_3 := fun _ => Unit) vInt (fun _ _ => none) (fun _ _ => none) (fun _ _ _ => none) (fun _ _ _ _ _ => none) (fun _ _ => none) (fun _ _ _ => none) (fun _ _ _ => none) none (fun _ => none) (fun _ => none) (fun _ => none) none (fun _ _ _ => none) () (fun _ _ _ _ => ()) () (fun _ _ _ _ => ()) p
noncomputable def pBool (p : PV) : Option Bool :=
  PV.rec (motive_1 := fun _ => Option Bool) (motive_2 := fun _ => Unit) (motive_3 := fun _ => Unit) vBool (fun _ _ => none) (fun _ _ => none) (fun _ _ _ => none) (fun _ _ _ _ _ => none) (fun _ _ => none) (fun _ _ _ => none) (fun _ _ _ => none) none (fun _ => none) (fun _ => none) (fun _ => none) none (fun _ _ _ => none) () (fun _ _ _ _ => ()) () (fun _ _ _ _ => ()) p
noncomputable def pWant (p : PV) : Option (Option Bool) :=
  PV.rec (motive_1 := fun _ => Option (Option Bool)) (motive_2 := fun _ => Unit) (motive_3 := fun _ => Unit) vWant (fun _ _ => none) (fun _ _ => none) (fun _ _ _ => none) (fun _ _ _ _ _ => none) (fun _ _ => none) (fun _ _ _ => none) (fun _ _ _ => none) (some none) (fun _ => none) (fun _ => none) (fun _ => none) none (fun _ _ _ => none) () (fun _ _ _ _ => ()) () (fun _ _ _ _ => ()) p
noncomputable def pAd (p : PV) : Ad :=
  PV.rec (motive_1 := fun _ => Ad) (motive_2 := fun _ => Unit) (motive_3 := fun _ => Unit) (fun _ => .no) (fun _ _ => .no) (fun _ _ => .no) (fun _ _ _ => .no) (fun _ _ _ _ _ => .no) Ad.p (fun cs o _ => .e cs o) (fun _ _ _ => .no) .no (fun _ => .no) (fun _ => .no) (fun _ => .no) .no (fun _ _ _ => .no) () (fun _ _ _ _ => ()) () (fun _ _ _ _ => ()) p
noncomputable def pSv (p : PV) : Sv :=
  PV.rec (motive_1 := fun _ => Sv) (motive_2 := fun _ => Unit) (motive_3 := fun _ => Unit) vSv (fun _ _ => .no) (fun _ _ => .no) (fun es _ _ => .s es) (fun id off len _ rs => .r id off len rs) (fun _ _ => .no) (fun _ _ _ => .no) (fun _ _ _ => .no) .no (fun _ => .no) (fun _ => .no) (fun _ => .no) .no (fun _ _ _ => .no) () (fun _ _ _ _ => ()) () (fun _ _ _ _ => ()) p
noncomputable def pAgg (p : PV) : Option (List PV) :=
  PV.rec (motive_1 := fun _ => Option (List PV)) (motive_2 := fun _ => Unit) (motive_3 := fun _ => Unit) (fun _ => none) (fun cs _ => some cs) (fun _ _ => none) (fun _ _ _ => none) (fun _ _ _ _ _ => none) (fun _ _ => none) (fun _ _ _ => none) (fun _ _ _ => none) none (fun _ => none) (fun _ => none) (fun _ => none) none (fun _ _ _ => none) () (fun _ _ _ _ => ()) () (fun _ _ _ _ => ()) p
noncomputable def oInt (o : Option PV) : Option (IntKind × Int) := Option.rec (motive := fun _ => Option (IntKind × Int)) none pInt o
noncomputable def oBool (o : Option PV) : Option Bool := Option.rec (motive := fun _ => Option Bool) none pBool o
noncomputable def oWant (o : Option PV) : Option (Option Bool) := Option.rec (motive := fun _ => Option (Option Bool)) none pWant o
noncomputable def oAd (o : Option PV) : Ad := Option.rec (motive := fun _ => Ad) .no pAd o
noncomputable def oSv (o : Option PV) : Sv := Option.rec (motive := fun _ => Sv) .no pSv o
noncomputable def oAgg (o : Option PV) : Option (List PV) := Option.rec (motive := fun _ => Option (List PV)) none pAgg o

/-! ### numbers -/
noncomputable def ikN (k : IntKind) : Nat := IntKind.rec (motive := fun _ => Nat) 0 1 2 3 4 5 6 7 k
noncomputable def natF {α : Type} (n : Nat) (k : Nat → α) : α := Nat.rec (motive := fun _ => α) (k 0) (fun m _ => k (Nat.succ m)) n
noncomputable def intF {α : Type} (n : Int) (k : Int → α) : α := Int.rec (motive := fun _ => α) (fun m => natF m fun m => k (.ofNat m)) (fun m => natF m fun m => k (.negSucc m)) n
noncomputable def wrapF (k : IntKind) (n : Int) : Int :=
  Bool.rec (motive := fun _ => Int) (k.wrap n) (Int.rec (motive := fun _ => Int) (fun m => Bool.rec (motive := fun _ => Int) (k.wrap n) n (Nat.ble m 9223372036854775807)) (fun m => Bool.rec (motive := fun _ => Int) (k.wrap n) n (Nat.ble m 9223372036854775807)) n) (Nat.beq (ikN k) 3)
noncomputable def addF (a b : Int) : Int :=
  Int.rec (motive := fun _ => Int) (fun m => Int.rec (motive := fun _ => Int) (fun n => .ofNat (Nat.add m n)) (fun _ => a + b) b) (fun _ => a + b) a
noncomputable def lebF (a b : Int) : Bool :=
  Int.rec (motive := fun _ => Bool) (fun m => Int.rec (motive := fun _ => Bool) (fun n => Nat.ble m n) (fun _ => false) b) (fun m => Int.rec (motive := fun _ => Bool) (fun _ => true) (fun n => Nat.ble n m) b) a
noncomputable def eqbF (a b : Int) : Bool :=
  Int.rec (motive := fun _ => Bool) (fun m => Int.rec (motive := fun _ => Bool) (fun n => Nat.beq m n) (fun _ => false) b) (fun m => Int.rec (motive := fun _ => Bool) (fun _ => false) (fun n => Nat.beq m n) b) a
noncomputable def notF (b : Bool) : Bool := Bool.rec (motive := fun _ => Bool) true false b
noncomputable def cmpF (f : Int → Int → Bool) (k k' : IntKind) (a b : Int) : Option PV :=
  Bool.rec (motive := fun _ => Option PV) none (some (.v (.bool (f a b)))) (Nat.beq (ikN k) (ikN k'))
noncomputable def ariF (f : Int → Int → Int) (k k' : IntKind) (a b : Int) : Option PV :=
  Bool.rec (motive := fun _ => Option PV) none (intF (wrapF k (f a b)) fun r => some (.v (.int k r))) (Nat.beq (ikN k) (ikN k'))

noncomputable def intB : BinOp → Bx (IntKind → IntKind → Int → Int → Option PV)
  | .add => ⟨ariF addF⟩
  | .sub => ⟨ariF fun a b => a - b⟩
  | .eql => ⟨cmpF eqbF⟩
  | .neq => ⟨cmpF fun a b => notF (eqbF a b)⟩
  | .lss => ⟨cmpF fun a b => notF (lebF b a)⟩
  | .leq => ⟨cmpF lebF⟩
  | .gtr => ⟨cmpF fun a b => notF (lebF a b)⟩
  | .geq => ⟨cmpF fun a b => lebF b a⟩
  | op => ⟨intOp op⟩

/-! ### cells -/
noncomputable def aggF (o : Option (List PV)) : Option PV := Option.rec (motive := fun _ => Option PV) none (fun l => some (.agg l)) o

noncomputable def partB (T : Types) (t : TypeId) : Bx (List PV → Nat → Option PV) :=
  match T.get t with
  | none => ⟨fun _ _ => none⟩
  | some i => match i.isAgg with
    | true => ⟨fun cs off => aggF (takeF (dropF cs off) i.size)⟩
    | false => ⟨getF⟩

noncomputable def heldF (f : List PV → Nat → Option PV) (off : Nat) (o : Option Blk) : Option PV := Option.rec (motive := fun _ => Option PV) none (fun b => f b.cells off) o

/-! ### what hangs on calls -/
/-- how much stands in a value that needs no freezing; else too much -/
noncomputable def wt (p : PV) : Nat :=
  PV.rec (motive_1 := fun _ => Nat) (motive_2 := fun _ => Nat) (motive_3 := fun _ => Unit) (fun _ => 1) (fun _ n => Nat.succ n) (fun _ n => Nat.succ n) (fun _ _ _ => 1) (fun _ _ _ _ _ => 1000) (fun _ _ => 1000) (fun _ _ _ => 1000) (fun _ _ _ => 1000) 1 (fun _ => 1) (fun _ => 1) (fun _ => 1000) 1000 (fun _ _ _ => 1000)
    1 (fun _ _ a b => Nat.add (Nat.succ a) b) () (fun _ _ _ _ => ()) p
noncomputable def wtL (l : List PV) : Nat := List.rec (motive := fun _ => Nat) 1 (fun p _ n => Nat.add (Nat.succ (wt p)) n) l
noncomputable def frzL (hp : Hp) (l : List PV) : Option (List PV × Hp) :=
  Bool.rec (motive := fun _ => Option (List PV × Hp)) (freezeL deepN hp l) (some (l, hp)) (Nat.ble (wtL l) 999)
noncomputable def frz (hp : Hp) (p : PV) : Option (PV × Hp) :=
  Bool.rec (motive := fun _ => Option (PV × Hp)) (freeze deepN hp p) (some (p, hp)) (Nat.ble (wt p) 999)

/-! ### operations -/
section
variable {R : Type} (T : Types)
abbrev Nx (R : Type) := PV → Hp → Option R
abbrev DoK (R : Type) := CallK R → Tm → Hp → Nx R → Option R

noncomputable def pureF (next : Nx R) (hp : Hp) (o : Option PV) : Option R := Option.rec (motive := fun _ => Option R) none (fun p => next p hp) o
noncomputable def primF (next : Nx R) (o : Option (PV × Hp)) : Option R := Option.rec (motive := fun _ => Option R) none (fun x => next x.1 x.2) o
noncomputable def pickF (next : Nx R) (hp : Hp) (a b c : Option PV) : Option R :=
  Option.rec (motive := fun _ => Option R) none (fun x => Bool.rec (motive := fun _ => Option R) (pureF next hp b) (pureF next hp a) x) (oBool c)

noncomputable def binFF (slow : Option PV → Option PV → Option (PV × Hp)) (fi : IntKind → IntKind → Int → Int → Option PV) (next : Nx R) (hp : Hp) (x y : Option PV) : Option R :=
  Option.rec (motive := fun _ => Option R) (primF next (slow x y)) (fun a => Option.rec (motive := fun _ => Option R) (primF next (slow x y)) (fun b => pureF next hp (fi a.1 b.1 a.2 b.2)) (oInt y)) (oInt x)

noncomputable def loadFF (f : List PV → Nat → Option PV) (next : Nx R) (hp : Hp) (x : Option PV) : Option R :=
  Ad.rec (motive := fun _ => Option R) (fun id off => pureF next hp (heldF f off (Al.getF hp.blks id))) (fun cs off => pureF next hp (f cs off)) none (oAd x)

noncomputable def offF (d : Nat) (next : Nx R) (hp : Hp) (x : Option PV) : Option R :=
  Ad.rec (motive := fun _ => Option R) (fun id off => natF (Nat.add off d) fun r => next (.ptr id r) hp) (fun cs off => natF (Nat.add off d) fun r => next (.ep cs r) hp) none (oAd x)

noncomputable def fieldAddrB (s : TypeId) (f : Nat) : Bx (Nx R → Hp → Option PV → Option R) :=
  match fieldOf T s f with
  | none => ⟨fun _ _ _ => none⟩
  | some (off, ft) => match sizeT T ft with
    | none => ⟨fun _ _ _ => none⟩
    | some sz => match Nat.ble 1 sz with
      | false => ⟨fun _ _ _ => none⟩
      | true => ⟨offF off⟩

noncomputable def fieldFF (f : List PV → Nat → Option PV) (off : Nat) (next : Nx R) (hp : Hp) (x : Option PV) : Option R :=
  Option.rec (motive := fun _ => Option R) none (fun cs => pureF next hp (f cs off)) (oAgg x)

noncomputable def fieldB (s : TypeId) (f : Nat) : Bx (Nx R → Hp → Option PV → Option R) :=
  match fieldOf T s f with
  | none => ⟨fun _ _ _ => none⟩
  | some (off, ft) => ⟨fieldFF (partB T ft).f off⟩

noncomputable def epF (sz : Nat) (next : Nx R) (hp : Hp) (o : Option (List PV)) : Option R :=
  Option.rec (motive := fun _ => Option R) none (fun e => Bool.rec (motive := fun _ => Option R) none (next (.ep e 0) hp) (Nat.beq (lenF e) sz)) o

noncomputable def idxSlF (sz : Nat) (next : Nx R) (hp : Hp) (d : Option R) (s : Sv) (i : Nat) : Option R :=
  Sv.rec (motive := fun _ => Option R) (fun es => epF sz next hp (getF es i))
    (fun id off len rs => Bool.rec (motive := fun _ => Option R) none (Bool.rec (motive := fun _ => Option R) none (natF (Nat.add off (Nat.mul i sz)) fun r => next (.ptr id r) hp) (Nat.beq rs sz)) (Nat.ble (Nat.succ i) len)) d d s

noncomputable def oIx (o : Option PV) : Option Nat :=
  Option.rec (motive := fun _ => Option Nat) none (fun x => Int.rec (motive := fun _ => Option Nat) (fun n => some n) (fun _ => none) x.2) (oInt o)

noncomputable def indexAddrB (t : TypeId) : Bx (Nx R → Hp → Option PV → Option PV → Option R) :=
  match T.get t with
  | none => ⟨fun next hp x i => primF next (primIndexAddr T hp t x i)⟩
  | some ti => match sizeT T ti.elem with
    | none => ⟨fun next hp x i => primF next (primIndexAddr T hp t x i)⟩
    | some sz => match Nat.beq ti.kind 1 with
      | true => ⟨fun next hp x i => Option.rec (motive := fun _ => Option R) (primF next (primIndexAddr T hp t x i)) (fun n => idxSlF sz next hp (primF next (primIndexAddr T hp t x i)) (oSv x) n) (oIx i)⟩
      | false => ⟨fun next hp x i => primF next (primIndexAddr T hp t x i)⟩

noncomputable def lenFF (next : Nx R) (hp : Hp) (d : Option R) (s : Sv) : Option R :=
  Sv.rec (motive := fun _ => Option R) (fun es => next (.v (.int .i64 (.ofNat (lenF es)))) hp) (fun _ _ len _ => next (.v (.int .i64 (.ofNat len))) hp) (next (.v (.int .i64 (.ofNat 0))) hp) d s

noncomputable def lenB (t : TypeId) : Bx (Nx R → Hp → Option PV → Option R) :=
  match T.get t with
  | none => ⟨fun next hp x => primF next (primLen T hp t x)⟩
  | some ti => match Nat.beq ti.kind 1 with
    | true => ⟨fun next hp x => lenFF next hp (primF next (primLen T hp t x)) (oSv x)⟩
    | false => ⟨fun next hp x => primF next (primLen T hp t x)⟩

noncomputable def builtinB (b : Builtin) (args : List Operand) (ts : List TypeId) : Bx (DoK R) :=
  match b with
  | .len => match args, ts with
    | [x], [t] => ⟨fun _ tm hp next => (lenB T t).f next hp ((opdB x).f tm)⟩
    | _, _ => ⟨fun _ _ _ _ => none⟩
  | .append => match args, ts with
    | [x, y], [t, u] => match Nat.beq t u with
      | true => ⟨fun _ tm hp next => primF next (prim2 (app T t hp) ((opdB x).f tm) ((opdB y).f tm))⟩
      | false => ⟨fun _ tm hp next => primF next (prim2 (appZ T t u hp) ((opdB x).f tm) ((opdB y).f tm))⟩
    | _, _ => ⟨fun _ _ _ _ => none⟩
  | .copy => match args, ts with
    | [x, y], [t, u] => match Nat.beq t u with
      | true => ⟨fun _ tm hp next => primF next (prim2 (copyTo T t hp) ((opdB x).f tm) ((opdB y).f tm))⟩
      | false => ⟨fun _ _ _ _ => none⟩
    | _, _ => ⟨fun _ _ _ _ => none⟩
  | .cap => match args, ts with
    | [x], [t] => ⟨fun _ tm hp next => primF next (primCap T hp t ((opdB x).f tm))⟩
    | _, _ => ⟨fun _ _ _ _ => none⟩
  | .clear => match args, ts with
    | [x], [t] => ⟨fun _ tm hp next => primF next (primClear T hp t ((opdB x).f tm))⟩
    | _, _ => ⟨fun _ _ _ _ => none⟩
  | .min => ⟨fun _ tm hp next => primF next (primMin hp false ((opdsB args).f tm))⟩
  | .max => ⟨fun _ tm hp next => primF next (primMin hp true ((opdsB args).f tm))⟩
  | .unsafeSliceData => match args with
    | [x] => ⟨fun _ tm hp next => primF next (sliceData hp ((opdB x).f tm))⟩
    | _ => ⟨fun _ _ _ _ => none⟩
  | .unsafeString => match args, ts with
    | [x, y], [t, _] => ⟨fun _ tm hp next => primF next (unsStr T t hp ((opdB x).f tm) ((opdB y).f tm))⟩
    | _, _ => ⟨fun _ _ _ _ => none⟩
  | _ => ⟨fun _ _ _ _ => none⟩

def callK (call : CallK R) (hp : Hp) (next : Nx R) (f : Option PV) (l : Option (List PV)) : Option R :=
  match f with
  | some (.clo n caps) => match l with
    | none => none
    | some l => call n (l ++ caps) hp next
  | some (.bnd n first) => match l with
    | none => none
    | some l => call n (first ++ l) hp next
  | _ => none

noncomputable def callL (call : CallK R) (n : Nat) (hp : Hp) (next : Nx R) (o : Option (List PV)) : Option R :=
  Option.rec (motive := fun _ => Option R) none (fun l => call n l hp next) o

noncomputable def callB (f : Operand) (args : List Operand) : Bx (DoK R) :=
  match f with
  | .func n => ⟨fun call tm hp next => callL call n hp next ((opdsB args).f tm)⟩
  | f => ⟨fun call tm hp next => callK call hp next ((opdB f).f tm) ((opdsB args).f tm)⟩

/-- an operation that is wanted -/
noncomputable def doB (op : Op) : Bx (DoK R) :=
  match op with
  | .move x => ⟨fun _ tm hp next => pureF next hp ((opdB x).f tm)⟩
  | .assign x => ⟨fun _ tm hp next => pureF next hp ((opdB x).f tm)⟩
  | .pick c a b => ⟨fun _ tm hp next => pickF next hp ((opdB a).f tm) ((opdB b).f tm) ((opdB c).f tm)⟩
  | .alloc t => ⟨fun _ _ hp next => primF next (primAlloc T hp t)⟩
  | .box t x => ⟨fun _ tm hp next => primF next (primBox T hp t ((opdB x).f tm))⟩
  | .build t parts => ⟨fun _ tm hp next => primF next (primBuild T hp t ((partsB parts.toList).f tm))⟩
  | .buildSlice t n parts => ⟨fun _ tm hp next => primF next (primBuildSlice T hp t n ((partsB parts.toList).f tm))⟩
  | .load t x => ⟨fun _ tm hp next => loadFF (partB T t).f next hp ((opdB x).f tm)⟩
  | .store t x y => ⟨fun _ tm hp next => primF next (primStore T hp t ((opdB x).f tm) ((opdB y).f tm))⟩
  | .nilCheck x => ⟨fun _ tm hp next => primF next (primNil hp ((opdB x).f tm))⟩
  | .binOp op t x y _ => ⟨fun _ tm hp next => binFF (primBin T hp op t) (intB op).f next hp ((opdB x).f tm) ((opdB y).f tm)⟩
  | .unOp op _ x => ⟨fun _ tm hp next => primF next (primUn hp op ((opdB x).f tm))⟩
  | .makeFunc fn first caps => ⟨fun _ tm hp next => primF next (primFunc hp fn first.toList ((opdsB first.toList).f tm) ((opdsB caps.toList).f tm))⟩
  | .makeSlice t x y => ⟨fun _ tm hp next => primF next (primMake T hp t ((opdB x).f tm) ((opdB y).f tm))⟩
  | .slice t x lo hi mx => ⟨fun _ tm hp next => primF next (primSlice T hp t ((opdB x).f tm) ((opdOB lo).f tm) ((opdOB hi).f tm) ((opdOB mx).f tm))⟩
  | .fieldAddr s x f => ⟨fun _ tm hp next => (fieldAddrB T s f).f next hp ((opdB x).f tm)⟩
  | .field s x f => ⟨fun _ tm hp next => (fieldB T s f).f next hp ((opdB x).f tm)⟩
  | .indexAddr t x i => ⟨fun _ tm hp next => (indexAddrB T t).f next hp ((opdB x).f tm) ((opdB i).f tm)⟩
  | .index t x i => ⟨fun _ tm hp next => primF next (primIndex T hp t ((opdB x).f tm) ((opdB i).f tm))⟩
  | .extract x i => ⟨fun _ tm hp next => primF next (primExtract hp i ((opdB x).f tm))⟩
  | .makeInterface t x => ⟨fun _ tm hp next => primF next (primIface T hp t ((opdB x).f tm))⟩
  | .convert s d x => ⟨fun _ tm hp next => primF next (primConv T hp s d ((opdB x).f tm))⟩
  | .makeMap t x => ⟨fun _ tm hp next => primF next (primMap T hp t ((opdOB x).f tm))⟩
  | .lookup t x k ok => ⟨fun _ tm hp next => primF next (primLook T hp t ok ((opdB x).f tm) ((opdB k).f tm))⟩
  | .mapUpdate t x k v => ⟨fun _ tm hp next => primF next (primUpd T hp t ((opdB x).f tm) ((opdB k).f tm) ((opdB v).f tm))⟩
  | .insert t x k v => ⟨fun _ tm hp next => primF next (primUpd T hp t ((opdB x).f tm) ((opdB k).f tm) ((opdB v).f tm))⟩
  | .call c => match c.callee with
    | .value f => callB f c.args.toList
    | .builtin b => builtinB T b c.args.toList c.argTypes.toList
    | _ => ⟨fun _ _ _ _ => none⟩
  | _ => ⟨fun _ _ _ _ => none⟩

noncomputable def wantF (want : Bool) (skip go : Option R) (o : Option (Option Bool)) : Option R :=
  Option.rec (motive := fun _ => Option R) none (fun x => Option.rec (motive := fun _ => Option R) skip (fun b => Bool.rec (motive := fun _ => Option R) (Bool.rec (motive := fun _ => Option R) go skip want) (Bool.rec (motive := fun _ => Option R) skip go want) b) x) o

/-- an operation: what follows is told whether it was wanted -/
abbrev DoR (R : Type) := CallK R → Tm → Hp → (Bool → PV → Hp → Option R) → Option R

noncomputable def stepR (nt : Nat) (all : List Oper) (o : Oper) : Bx (DoR R) :=
  match dstOk nt o.dst with
  | false => ⟨fun _ _ _ _ => none⟩
  | true => match o.guard with
    | none => ⟨fun call tm hp next => (doB T o.op).f call tm hp (next true)⟩
    | some (j, want) => match dstAt all j with
      | none => ⟨fun _ _ _ _ => none⟩
      | some d => ⟨fun call tm hp next => wantF want (next false .un hp) ((doB T o.op).f call tm hp (next true)) (oWant (Al.getF tm d))⟩

noncomputable def stepB (nt : Nat) (all : List Oper) (o : Oper) : Bx (DoK R) :=
  match dstOk nt o.dst with
  | false => ⟨fun _ _ _ _ => none⟩
  | true => match o.guard with
    | none => doB T o.op
    | some (j, want) => match dstAt all j with
      | none => ⟨fun _ _ _ _ => none⟩
      | some d => ⟨fun call tm hp next => wantF want (next .un hp) ((doB T o.op).f call tm hp next) (oWant (Al.getF tm d))⟩

noncomputable def opsB (nt : Nat) (all : List Oper) : List Oper → Bx (CallK R → Tm → Hp → (Tm → Hp → Option R) → Option R)
  | [] => ⟨fun _ tm hp k => k tm hp⟩
  | o :: rest => match o.dst with
    | none => ⟨fun call tm hp k => (stepB T nt all o).f call tm hp fun _ h => (opsB nt all rest).f call tm h k⟩
    | some d => ⟨fun call tm hp k => (stepB T nt all o).f call tm hp fun p h => (opsB nt all rest).f call ((d, p) :: tm) h k⟩

def ldArg (t : TypeId) : Option PV → Option (TypeId × PV)
  | none => none
  | some p => some (t, p)

def convLogF (lg : Lg) : PV → Option Lg
  | .v (.int _ _) => some lg
  | _ => none

noncomputable def logB (i m : Nat) (op : Op) : Bx (Lg → Tm → Hp → Hp → PV → Option Lg) :=
  match op with
  | .store _ _ _ => ⟨fun lg _ hp h' _ => logEff T i m lg hp h'⟩
  | .load t x => ⟨fun lg tm hp _ x' => logLoad T i m lg hp.next x' (ldArg t ((opdB x).f tm))⟩
  | .alloc _ => ⟨fun lg _ _ _ _ => some ⟨lg.loads, lg.effs, i :: lg.allocs⟩⟩
  | .box _ _ => ⟨fun lg _ _ _ _ => some ⟨lg.loads, lg.effs, i :: lg.allocs⟩⟩
  | .buildSlice _ _ _ => ⟨fun lg _ _ _ _ => some ⟨lg.loads, lg.effs, i :: lg.allocs⟩⟩
  | .makeSlice _ _ _ => ⟨fun lg _ _ _ _ => some ⟨lg.loads, lg.effs, i :: lg.allocs⟩⟩
  | .makeMap _ _ => ⟨fun _ _ _ _ _ => none⟩
  | .lookup _ _ _ _ => ⟨fun lg _ hp h' _ => logEff T i m lg hp h'⟩
  | .mapUpdate _ _ _ _ => ⟨fun _ _ _ _ _ => none⟩
  | .insert _ _ _ _ => ⟨fun _ _ _ _ _ => none⟩
  | .range _ _ => ⟨fun _ _ _ _ _ => none⟩
  | .next _ _ => ⟨fun _ _ _ _ _ => none⟩
  | .convert _ _ _ => ⟨fun lg _ _ _ x => convLogF lg x⟩
  | .call c => match c.callee with
    | .builtin b => match b with
      | .clear => ⟨fun _ _ _ _ _ => none⟩
      | .cap => ⟨fun _ _ _ _ _ => none⟩
      | .append => ⟨fun lg _ hp h' _ => logEff T i m lg hp h'⟩
      | .copy => ⟨fun lg _ hp h' _ => logEff T i m lg hp h'⟩
      | .unsafeString => ⟨fun lg _ hp h' _ => logEff T i m lg hp h'⟩
      | _ => ⟨fun lg _ _ _ _ => some lg⟩
    | _ => ⟨fun lg _ hp h' _ => logEff T i m lg hp h'⟩
  | _ => ⟨fun lg _ _ _ _ => some lg⟩

noncomputable def ranF (f : Option Lg) (lg : Lg) (run : Bool) : Option Lg := Bool.rec (motive := fun _ => Option Lg) (some lg) f run
noncomputable def logF (lg : Option Lg) (next : Lg → Option R) : Option R := Option.rec (motive := fun _ => Option R) none next lg
def putF (tm : Tm) : Option Nat → Bx (PV → Tm)
  | none => ⟨fun _ => tm⟩
  | some d => ⟨fun p => (d, p) :: tm⟩

noncomputable def opsDB (nt : Nat) (all : List Oper) : List (Nat × Nat) → Bx (Lg → CallK R → Tm → Hp → (Tm → Hp → Option R) → Option R)
  | [] => ⟨fun _ _ tm hp k => k tm hp⟩
  | (i, m) :: L => match all[i]? with
    | none => ⟨fun _ _ _ _ _ => none⟩
    | some o => match o.dst with
      | none => ⟨fun lg call tm hp k => (stepR T nt all o).f call tm hp fun run p h => logF (ranF ((logB T i m o.op).f lg tm hp h p) lg run) fun lg' =>
        (opsDB nt all L).f lg' call tm h k⟩
      | some d => ⟨fun lg call tm hp k => (stepR T nt all o).f call tm hp fun run p h => logF (ranF ((logB T i m o.op).f lg tm hp h p) lg run) fun lg' =>
        (opsDB nt all L).f lg' call ((d, p) :: tm) h k⟩

abbrev KF (R : Type) := Ex → Tm → Hp → Option R
abbrev RF (R : Type) := FI → Code → Tm → Hp → KF R → Option R

noncomputable def sweptB : Option (List Nat) → Bx (Tm → Hp → Hp)
  | none => ⟨fun _ hp => hp⟩
  | some l => ⟨fun tm hp => killAll tm l hp⟩
noncomputable def keptB (ks kl : Option (List Nat)) : Bx (KF R → Tm → Hp → Option R) :=
  match ks with
  | none => ⟨fun k tm hp => k .normal tm ((sweptB kl).f tm hp)⟩
  | some ks => ⟨fun k tm hp => k .normal (Al.keepF tm ks) ((sweptB kl).f tm hp)⟩

noncomputable def condF (a b : Option R) (o : Option PV) : Option R :=
  Option.rec (motive := fun _ => Option R) none (fun x => Bool.rec (motive := fun _ => Option R) b a x) (oBool o)

noncomputable def seqF (next : Tm → Hp → Option R) (k : KF R) (ex : Ex) : Tm → Hp → Option R :=
  Ex.rec (motive := fun _ => Tm → Hp → Option R) next (fun i => k (.exit i)) (k .ret) ex
noncomputable def blockF (id : Nat) (k : KF R) (ex : Ex) : Tm → Hp → Option R :=
  Ex.rec (motive := fun _ => Tm → Hp → Option R) (k .normal) (fun i => Bool.rec (motive := fun _ => Tm → Hp → Option R) (k (.exit i)) (k .normal) (Nat.beq i id)) (k .ret) ex

noncomputable def codeB (fi : FI) : Code → Bx (CallK R → RF R → Tm → Hp → KF R → Option R)
  | .skip => ⟨fun _ _ tm hp k => k .normal tm hp⟩
  | .region id ops draw => match draw with
    | false => ⟨fun call _ tm hp k => (opsB T fi.fn.ntmps ops.toList ops.toList).f call tm hp ((keptB (fi.live.get id) (fi.kills.get id)).f k)⟩
    | true => match fi.sched.get id with
      | some L => ⟨fun call _ tm hp k => (opsDB T fi.fn.ntmps ops.toList L).f ⟨[], [], []⟩ call tm hp ((keptB (fi.live.get id) (fi.kills.get id)).f k)⟩
      | none => ⟨fun _ _ _ _ _ => none⟩
  | .seq a b => ⟨fun call rc tm hp k => (codeB fi a).f call rc tm hp (seqF (fun tm' hp' => (codeB fi b).f call rc tm' hp' k) k)⟩
  | .cond c x y => ⟨fun call rc tm hp k => condF ((codeB fi x).f call rc tm hp k) ((codeB fi y).f call rc tm hp k) ((opdB c).f tm)⟩
  | .block id c => ⟨fun call rc tm hp k => (codeB fi c).f call rc tm hp (blockF id k)⟩
  | .loop c => ⟨fun call rc tm hp k => (codeB fi c).f call rc tm hp (seqF (fun tm' hp' => rc fi (.loop c) tm' hp' k) k)⟩
  | .exit id => ⟨fun _ _ tm hp k => k (.exit id) tm hp⟩
  | .ret => ⟨fun _ _ tm hp k => k .ret tm hp⟩
  | _ => ⟨fun _ _ _ _ _ => none⟩

noncomputable def resB (fn : Func) : Bx (Tm → Hp → Option PV) :=
  match fn.results.toList with
  | [.tmp t] => ⟨fun tm _ => Al.getF tm t⟩
  | _ => ⟨fun tm hp => resOf T fn ⟨tm, hp⟩⟩

noncomputable def endF (res : Tm → Hp → Option PV) (k : Nx R) (ex : Ex) : Tm → Hp → Option R :=
  Ex.rec (motive := fun _ => Tm → Hp → Option R) (fun tm hp => pureF k hp (res tm hp)) (fun _ _ _ => none) (fun tm hp => pureF k hp (res tm hp)) ex

noncomputable def bodyB (fi : FI) : Bx (RF R → List PV → Hp → Nx R → Option R) :=
  match fi.fn.body with
  | none => ⟨fun _ _ _ _ => none⟩
  | some c => ⟨fun rc l hp k => Bool.rec (motive := fun _ => Option R) none (rc fi c (initF l) hp (endF (resB T fi.fn).f k)) (Nat.ble (lenF l) fi.fn.ntmps)⟩

noncomputable def dataKF (k : Nx R) (hp1 : Hp) (p : PV) (h : Hp) : Option R := Option.rec (motive := fun _ => Option R) none (fun x => k x.1 hp1) (frz h p)
noncomputable def dataF (body : List PV → Hp → Nx R → Option R) (k : Nx R) (o : Option (List PV × Hp)) : Option R :=
  Option.rec (motive := fun _ => Option R) none (fun x => body x.1 ⟨[], 0, []⟩ (dataKF k x.2)) o

noncomputable def frzKF (k : Nx R) (p : PV) (h : Hp) : Option R := Option.rec (motive := fun _ => Option R) none (fun x => k x.1 x.2) (frz h p)
noncomputable def ownB (fi : FI) : Bx (RF R → List PV → Hp → Nx R → Option R) :=
  match fi.frz with
  | false => bodyB T fi
  | true => ⟨fun rc l hp k => (bodyB T fi).f rc l hp (frzKF k)⟩
noncomputable def calleeB (FT : Fns) (O : Orc) (f : Nat) : Bx (RF R → List PV → Hp → Nx R → Option R) :=
  match FT.get f with
  | none => ⟨fun _ l hp k => callA O f frzL l hp k⟩
  | some fi => match fi.data with
    | false => match fi.mix with
      | false => match fi.fn.body with
        | some _ => ownB T fi
        | none => ⟨fun _ l hp k => noBody fi.frz l hp k⟩
      | true => ⟨fun rc l hp k => Bool.rec (motive := fun _ => Option R) ((ownB T fi).f rc l hp k) (callO O f k (frzL hp l)) (l.any headUnk)⟩
    | true => ⟨fun rc l hp k => dataF ((bodyB T fi).f rc) k (frzL hp l)⟩

noncomputable def runF (FT : Fns) (O : Orc) : Nat → RF R
  | 0 => fun _ _ _ _ _ => none
  | n + 1 => fun fi c => (codeB T fi c).f (fun f => (calleeB T FT O f).f (runF FT O n)) (runF FT O n)
end

noncomputable def comesF (T : Types) (FT : Fns) (B : Book) (n : Nat) (fi : FI) (ds : List PV) (q : PV) : Bool :=
  match dataF ((bodyB (R := PV) T fi).f (runF T FT (ask B) n)) (fun p _ => some p) (some (ds, ⟨[], 0, []⟩)) with
  | some p => peq 1000 p q
  | none => false

noncomputable def comesSF (T : Types) (FT : Fns) (B : Book) (n : Nat) (fi : FI) (ty : Nat) (cs ds : List PV) (q : PV) (cs' : List PV) : Bool :=
  match (bodyB (R := PV) T fi).f (runF T FT (ask B) n) (.ptr 0 0 :: ds) (startS ty cs) (resS ty (twoS cs)) with
  | some x => peq 1000 x (.tup [q, .tup cs'])
  | none => false
end Go.Ev
